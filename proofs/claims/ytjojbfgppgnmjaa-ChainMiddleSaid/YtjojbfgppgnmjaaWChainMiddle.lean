/- ChainMiddle holds: a version that is cut out of the middle and put back stands newest; the order of the others stays. No condition. -/
import Derived.Test.YtjojbfgppgnmjaaZ0
namespace Go.Proofs.Ytjojbfgppgnmjaa
open Go.RowKit Go.ChangeShapes

set_option maxRecDepth 100000 in
set_option maxHeartbeats 6400000 in
theorem chainMiddle_walk {a0 a1 : Int} {w : World} (_w0 : (Lit.int .i64 a0).wf = true) (_w1 : (Lit.int .i64 a1).wf = true) :
    Calls Try.prog 8 #[.int .i64 a0, .int .i64 a1] w fun e w' => e = .returned (.bool true) ∧ Below w.heap.size w w' := by
  have m0 := i64_and255 a0
  have m1 := i64_and255 a1
  obtain ⟨x, hx, hx2⟩ : ∃ x : Nat, a0 % 256 = x ∧ x < 256 := ⟨(a0 % 256).toNat, by omega, by omega⟩
  obtain ⟨st, hst, hst2⟩ : ∃ st : Nat, a1 % 256 = st ∧ st < 256 := ⟨(a1 % 256).toNat, by omega, by omega⟩
  rw [hx] at m0
  rw [hst] at m1
  clear hx hst _w0 _w1
  have HM := Lib.hid (cw_made (Sep.nil w) 40 (by decide) (by decide) (fun _ => ver0))
  go_enter Try.func8, Try.ntmps8
  go_wp2_with fail
  obtain ⟨n, hn, n1, n2⟩ : ∃ n : Nat, ((n : Int) = (x : Int) % 30 + 1) ∧ 1 ≤ n ∧ n ≤ 30 := ⟨x % 30 + 1, by omega, by omega, by omega⟩
  rw [← hn]
  refine HM.out.mono ?_
  rintro e w1 ⟨cb, sb, ab, rfl, hW⟩
  have H1 := Lib.hid (hW.row_nil .u64 28)
  clear hW HM hn m0 hx2
  go_wp2_with fail
  go_loopw [7, 8] (fun lv i wr => ∃ (k : Nat) (L : List Int) (V : Int → Ver), k ≤ n ∧ i = .int .i64 k ∧ L.length = k ∧ CW w cb sb ab 40 0 L L.reverse [] V [obRow .u64 28 lv L] wr) (fun _ i _ => n - (intOf i).toNat)
  case atStart => exact ⟨0, [], _, Nat.zero_le _, rfl, rfl, H1.out⟩
  case round =>
    obtain ⟨k, L, V, hk, rfl, hL, hW⟩ := hrel
    have HW := Lib.hid hW
    have HL := Lib.hid hL
    clear hW hL H1
    by_cases hlt : k < n
    · have HC := Lib.hid (cw_make HW.out (key := k) (v := k) (x := 1) (y := 2) (by rw [List.length_reverse, HL.out]; omega) (by omega) (by omega) (by omega) (by omega))
      go_wp2_with fail
      refine HC.out.mono ?_
      rintro e w2 ⟨z, rfl, hz, _, z0, z1, hW⟩
      have HZ := Lib.hid hz
      have H2 := Lib.hid hW
      clear hW hz HW HC
      go_wp2_with fail
      refine (cw_push H2.out (z := z) (by simp) (by simpa using HZ.out)).mono ?_
      rintro e w3 ⟨rfl, hW⟩
      have H3 := Lib.hid hW
      clear hW H2
      obtain ⟨la, lc, hlv⟩ : ∃ a cap, u7 = .slice a L.length cap := by
        obtain ⟨a, cap, h, _⟩ := Owned.form (H3.out.first : Owned .u64 _ _ u7 L)
        exact ⟨a, cap, h⟩
      subst hlv
      have hLb : 1 + L.length ≤ 1099511627776 := by have := HL.out; omega
      have HSR := Lib.hid (fun o => src_owned (Owned.mod (H3.out.first : Owned .u64 _ _ _ L) ((Mod.refl (fun _ => False) _).alloc o) (fun _ _ h => h)))
      go_wp2_with (at_builtin; refine walk_append (zero := .int .u64 0) (base := 0) (n := 1) (m := L.length) (xs := [.int .u64 z]) (ys := L.map (Value.int .u64)) rfl _ _ rfl Try.underlying22 info_u64 rfl Nat.zero_lt_one (Nat.le_of_ble_eq_true rfl) rfl (box_own (blk_at rfl)) rfl (HSR.out _) (ints_one .u64 _) hLb (Nat.zero_le _) ?_)
      intro v' w5 hA
      have H5 := Lib.hid (H3.out.prepend hA)
      clear hA H3 HSR
      have HRV := Lib.hid (show L.reverse ++ [z] = (z :: L).reverse by simp)
      rw [HRV.out] at H5
      go_wp2_with fail
      go_roundw
      case rel => exact ⟨k + 1, z :: L, _, by omega, by go_num, by rw [List.length_cons, HL.out], H5.out⟩
      case measure => simp [intOf]; omega
    · obtain rfl : k = n := by omega
      obtain ⟨q, hq, hql⟩ : ∃ q : Nat, (st : Int) % k = q ∧ q < k := ⟨st % k, by simp, Nat.mod_lt _ (by omega)⟩
      obtain ⟨g, rc, hu7, hrc⟩ : ∃ g cap, u7 = .slice (some ⟨g, 0, none⟩) k cap ∧ k ≤ cap := by
        obtain ⟨a, cap, h, hle, h2, h3⟩ := Owned.form (HW.out.first : Owned .u64 _ _ u7 L)
        rw [HL.out] at h h2 hle
        cases a with
        | none => have := (h2 rfl).1; omega
        | some g => exact ⟨g.block, cap, by rw [h, ← (h3 g rfl).1], hle⟩
      subst hu7
      have hq0 : (0 : Int) < k := by omega
      have hqL : q < L.length := by rw [HL.out]; exact hql
      have cq := Owned.at_ (HW.out.first : Owned .u64 _ _ (.slice (some ⟨g, 0, none⟩) k rc) L) hqL
      obtain ⟨_, _, _, hnd, hsub, hrng⟩ := HW.out.len
      have hmem : L.getD q 0 ∈ L := getD_mem hqL
      have her : L.erase (L.getD q 0) = L.take q ++ L.drop (q + 1) := by rw [← erase_at hnd hqL rfl, List.eraseIdx_eq_take_drop_succ]
      have hnot : ¬ L.getD q 0 ∈ L.erase (L.getD q 0) := hnd.not_mem_erase
      have hr := hrng _ (hsub _ hmem)
      have HLV := Lib.hid (hsub _ hmem)
      have HME := Lib.hid hmem
      have HNO := Lib.hid hnot
      obtain ⟨R, hR⟩ : ∃ R, R = L.take q ++ L.drop (q + 1) := ⟨_, rfl⟩
      rw [← hR] at her
      have HER := Lib.hid her
      obtain ⟨r, hrk⟩ : ∃ r, k = r + 1 := ⟨k - 1, by omega⟩
      have HLN := Lib.hid (show R.length = r by rw [hR]; have := HL.out; simp; omega)
      have HR := Lib.hid hR
      have HRK := Lib.hid hrk
      clear hR hrk
      clear hnd hsub hrng hmem her hnot
      generalize L.getD q 0 = z at *
      go_wp2_with fail
      refine (cw_cut HW.out HME.out).mono ?_
      rintro e w2 ⟨rfl, hW⟩
      have H2 := Lib.hid hW
      clear hW HW cq
      go_wp2_with fail
      refine (cw_push H2.out HLV.out HNO.out).mono ?_
      rintro e w3 ⟨rfl, hW⟩
      rw [HER.out] at hW
      have H3 := Lib.hid hW
      clear hW H2
      go_wp2_with fail
      refine (cw_push_no H3.out (z := z) (by omega) (by omega) (.inl (by simp))).mono ?_
      rintro e w4 ⟨rfl, hW⟩
      have H4 := Lib.hid hW
      clear hW H3
      have hgl : g < w4.heap.size := (H4.out.first : Owned .u64 _ _ _ L).lt g rfl
      have hkeep := Lib.hid (fun W (hW : Below w4.heap.size w4 W) => Owned.mod (H4.out.first : Owned .u64 _ _ (.slice (some ⟨g, 0, none⟩) k rc) L) (Mod.of_below (F := fun _ => False) hW) (fun _ _ h => h))
      have q0 : (0 : Int) ≤ (q : Int) := by omega
      have q1 : (q : Int) + 1 ≤ k := by omega
      have q2 : (q : Int) ≤ rc := by omega
      have q3 : (q : Int) + 1 ≤ rc := by omega
      have x3 : IntKind.i64.wrap ((q : Int) + 1) = (q : Int) + 1 := IntWalk.i64_in _ (by omega)
      have x4 : ((q : Int) + 1).toNat = q + 1 := by omega
      have x5 : (0 : Int) ≤ (q : Int) + 1 := by omega
      go_wp2_with fail
      go_region_law (first | (refine step_append (zero := .int .u64 0) (base := 0) (n := 0) (xs := []) (m := q) (ys := (L.take q).map (Value.int .u64)) rfl (.tmp 73) (.tmp 76) rfl Try.underlying22 info_u64 rfl Nat.zero_lt_one (Nat.le_of_ble_eq_true rfl) rfl ?_ rfl ?_ (ints_one _ _) ?_ (Nat.zero_le _) ?_; exact owns_made (by first | exact blk_at (by simp) | exact blk_drew (blk_at (by simp)) | exact blk_alloc (blk_at (by simp)) | exact blk_alloc (blk_drew (blk_at (by simp))) | exact blk_drew (blk_alloc (blk_at (by simp)))); exact cut_front (hkeep.out _ (by repeat (first | exact Below.refl _ _ | refine Below.drew ?_ | refine bl_al ?_ _))) (by rw [HL.out]; omega); omega; intro v5 w5 h5; obtain ⟨B5, f5⟩ := app_new (w := w4) (by repeat (first | exact Below.refl _ _ | refine Below.drew ?_ | refine bl_al ?_ _)) (fun j hj => by have hj2 : _ = j := Option.some.inj hj; (try simp at hj2); omega) h5) | (refine step_append (zero := .int .u64 0) (base := 0) (n := 0 + q) (xs := [] ++ (L.take q).map (Value.int .u64)) (m := k - (q + 1)) (ys := (L.drop (q + 1)).map (Value.int .u64)) rfl (.tmp 77) (.tmp 81) rfl Try.underlying22 info_u64 rfl Nat.zero_lt_one (Nat.le_of_ble_eq_true rfl) rfl ?_ rfl ?_ (ints_one _ _) ?_ (Nat.zero_le _) ?_; (first | exact h5.own | exact World.ownsRow.alloc h5.own _); exact cut_back (hkeep.out _ (by repeat (first | exact B5 | refine Below.drew ?_ | refine bl_al ?_ _))) (by rw [HL.out]; omega) HL.out.symm; omega; intro v6 w6 h6; obtain ⟨B6, f6⟩ := app_new (w := w4) (by repeat (first | exact B5 | refine Below.drew ?_ | refine bl_al ?_ _)) f5 h6; have O6 : Owned .u64 28 w6 v6 R := HR.out ▸ owned_two (l1 := L.take q) (l2 := L.drop (q + 1)) h6.own (by rw [← HR.out, HLN.out]; have := HRK.out; omega); obtain ⟨a6, c6, hv6, _⟩ := O6.form; rw [HLN.out] at hv6; subst hv6; have S6 := src_owned O6; have S7 := fun o => src_owned (Owned.mod O6 ((Mod.refl (fun _ => False) _).alloc o) (fun _ _ h => h)); rw [HLN.out] at S6 S7) | (refine step_append (zero := .int .u64 0) (base := 0) (n := 1) (xs := [.int .u64 z]) (m := r) (ys := R.map (Value.int .u64)) rfl (.tmp 72) (.tmp 82) rfl Try.underlying22 info_u64 rfl Nat.zero_lt_one (Nat.le_of_ble_eq_true rfl) rfl ?_ rfl ?_ (ints_one _ _) ?_ (Nat.zero_le _) ?_; (first | exact box_own (blk_at (by simp)) | exact box_own (box_between h5 h6 (blk_at (by simp)) (Nat.le_refl _)) | exact box_own (box_ahead h5 h6 rfl (by first | exact blk_at (by simp) | exact blk_drew (blk_at (by simp)) | exact blk_alloc (blk_at (by simp)) | exact blk_alloc (blk_drew (blk_at (by simp))) | exact blk_drew (blk_alloc (blk_at (by simp)))) (by simp))); (first | exact S6 | exact S7 _); (have := HRK.out; omega); intro v7 w7 h7; obtain ⟨B7, f7⟩ := app_new (w := w4) (by repeat (first | exact B6 | refine Below.drew ?_ | refine bl_al ?_ _)) (fun j hj => by have hj2 : _ = j := Option.some.inj hj; have e5 := B5.size; have e6 := B6.size; (try simp at hj2); omega) h7; have O7 : Owned .u64 28 w7 v7 (z :: R) := owned_cons (by rw [HLN.out]; exact h7.own)))
      all_goals
        have H7 := Lib.hid (H4.out.add (A := obRow .u64 28 v7 (z :: R)) (fun K hS => hS.new B7 O7 f7))
        obtain ⟨a7, c7, hv7⟩ := h7.val
        subst hv7
        have hLN : (z :: R).length = k := by rw [List.length_cons, HLN.out]; exact HRK.out.symm
        have HLK := Lib.hid hLN
        clear B5 f5 B6 f6 O6 S6 S7 B7 f7 O7 h5 h6 h7 x3 x4 x5 hkeep H4 hLN
        go_wp2_with fail
        all_goals
          refine (cw_links H7.out).mono ?_
          rintro e w8 ⟨a8, c8, rfl, hW⟩
          have HSM := Lib.hid (rows_same _ _ _ w8 hW.first hW.swap.first (by rw [HLK.out]; omega))
          have H8 := Lib.hid hW
          clear hW H7
          go_wp2_with fail
          refine HSM.out.mono ?_
          rintro e w9 ⟨rfl, b9⟩
          have H9 := Lib.hid (H8.out.later b9)
          clear b9 H8 HSM
          go_wp2_with fail
          refine (cw_head H9.out).mono ?_
          rintro e w10 ⟨rfl, hW⟩
          have H10 := Lib.hid hW
          clear hW H9
          simp only [List.getD_cons_zero]
          go_wp2_with fail
          refine (cw_len H10.out).mono ?_
          rintro e w11 ⟨rfl, hW⟩
          have H11 := Lib.hid hW.bel
          clear hW H10
          rw [HLK.out]
          go_wp2_with fail
          refine (awake9_any _).mono ?_
          rintro e w12 ⟨rfl, b12⟩
          go_wp2_with fail
          go_ret
          exact ⟨rfl, bl_next H11.out b12⟩

end Go.Proofs.Ytjojbfgppgnmjaa
