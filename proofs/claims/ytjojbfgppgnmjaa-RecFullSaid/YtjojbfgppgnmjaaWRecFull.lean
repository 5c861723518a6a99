/- RecFull holds: as many versions are made as there are slots; behind a Free one more, whose link is another one; the elder link turns nothing of it. No condition. -/
import Derived.Test.YtjojbfgppgnmjaaV1
namespace Go.Proofs.Ytjojbfgppgnmjaa
open Go.RowKit Go.ChangeShapes

set_option maxRecDepth 100000 in
set_option maxHeartbeats 6400000 in
theorem recFull_walk {a0 a1 : Int} {w : World} (_w0 : (Lit.int .i64 a0).wf = true) (_w1 : (Lit.int .i64 a1).wf = true) :
    Calls Try.prog 6 #[.int .i64 a0, .int .i64 a1] w fun e w' => e = .returned (.bool true) ∧ Below w.heap.size w w' := by
  have m0 := i64_and255 a0
  have m1 := i64_and255 a1
  obtain ⟨x, hx, hx2⟩ : ∃ x : Nat, a0 % 256 = x ∧ x < 256 := ⟨(a0 % 256).toNat, by omega, by omega⟩
  obtain ⟨y, hy⟩ : ∃ x : Nat, a1 % 256 = x := ⟨(a1 % 256).toNat, by omega⟩
  rw [hx] at m0
  rw [hy] at m1
  clear hx hy _w0 _w1
  have HN := Lib.hid (fun n w h0 h => store_new n w h0 h)
  go_enter Try.func6, Try.ntmps6
  go_wp2_with fail
  obtain ⟨n, hn, n1, n2⟩ : ∃ n : Nat, ((n : Int) = (x : Int) % 40 + 1) ∧ 1 ≤ n ∧ n ≤ 40 := ⟨x % 40 + 1, by omega, by omega, by omega⟩
  rw [← hn]
  refine (HN.out n w n1 (by omega)).mono ?_
  rintro e w1 ⟨b, F1, rfl, p1, B1, f1⟩
  have S1 : Hid (Sep w w1 [obRow .u64 28 (.slice none 0 0) [], obStore b F1 (RS.new n)]) := Lib.hid (((Sep.nil w).new (A := obStore b F1 (RS.new n)) B1 p1 f1).row_nil _ _)
  have I1 := Lib.hid (RI.new n1 (show n ≤ 4096 by omega) (fun _ => ver0))
  clear p1 B1 f1 HN hn m0 hx2
  go_wp2_with fail
  go_loopw [7, 8] (fun ov i wr => ∃ (k : Nat) (F : Nat → Prop) (s : RS) (L : List Int) (V : Int → Ver), k ≤ n ∧ i = .int .i64 k ∧ RI n 0 s L [] V ∧ L.length = k ∧ Sep w wr [obRow .u64 28 ov L, obStore b F s]) (fun _ i _ => n - (intOf i).toNat)
  case atStart => exact ⟨0, F1, _, [], _, Nat.zero_le _, rfl, I1.out, rfl, S1.out⟩
  case round =>
    obtain ⟨k, F, s, L, V, hk, rfl, hI, hL, hS⟩ := hrel
    have HS := Lib.hid hS
    have HI := Lib.hid hI
    have HL := Lib.hid hL
    clear hS hI hL S1 I1
    by_cases hlt : k < n
    · rcases HI.out.room with ⟨h1, _⟩ | ⟨_, l, i, hf⟩
      · have := HL.out; omega
      have HM := Lib.hid (HI.out.make hf 1 k 1 2)
      have HC := Lib.hid (make_ok b F s l i 1 k 1 2 wr HS.out.second (by decide) (by decide) (by omega) (by omega) hf)
      clear hf
      generalize s.p.listed.link i = z at *
      go_wp2_with fail
      refine HC.out.mono ?_
      rintro e w2 ⟨rfl, hl⟩
      obtain ⟨F2, hS2⟩ := HS.out.swap.store hl
      have S2 := Lib.hid hS2.swap
      clear hl hS2 HS HC
      have hLb : L.length ≤ 40 := by have := HL.out; omega
      go_wp2_with (at_builtin; refine walk_append (zero := .int .u64 0) (base := 0) (n := L.length) (m := 1) (xs := L.map (Value.int .u64)) (ys := [.int .u64 z]) rfl _ _ rfl Try.underlying22 info_u64 rfl Nat.zero_lt_one (Nat.le_of_ble_eq_true rfl) rfl (World.ownsRow.alloc S2.out.head _) rfl (SrcAt.one (blk_at (by simp))) (ints_one .u64 [_]) (by omega) (Nat.zero_le _) ?_)
      intro v' w4 hA
      have S4 := Lib.hid (S2.out.append (ys := [z]) ((Mod.refl _ _).alloc _) hA rfl rfl)
      clear hA S2
      go_wp2_with fail
      go_roundw
      case rel => exact ⟨k + 1, F2, _, _, _, by omega, by go_num, HM.out.2.2, by rw [List.length_append, HL.out]; rfl, S4.out⟩
      case measure => simp [intOf]; omega
    · obtain rfl : k = n := by omega
      obtain ⟨q, hq, hqk⟩ : ∃ q : Nat, (y : Int) % (k : Int) = q ∧ q < k := ⟨y % k, by omega, Nat.mod_lt _ (by omega)⟩
      obtain ⟨g, cap, hu7⟩ : ∃ g cap, u7 = .slice (some ⟨g, 0, none⟩) k cap := by
        obtain ⟨a, cap, h, _, h2, h3⟩ := Owned.form (HS.out.head : Owned .u64 _ _ u7 L)
        rw [HL.out] at h h2
        cases a with
        | none => have := (h2 rfl).1; omega
        | some g => exact ⟨g.block, cap, by rw [h, ← (h3 g rfl).1]⟩
      subst hu7
      have HCQ := Lib.hid (fun W F s (hW : Sep w W [obRow .u64 28 (.slice (some ⟨g, 0, none⟩) k cap) L, obStore b F s]) => Owned.at_ (hW.head : Owned .u64 _ _ _ L) (i := q) (by rw [HL.out]; exact hqk))
      have ham : L.getD q 0 ∈ L := by simp [List.getD_eq_getElem?_getD, HL.out, hqk]
      have har := HI.out.range ham
      have hfr : s.p.listed.free = [] := by
        rcases HI.out.room with ⟨_, h⟩ | ⟨h, _⟩
        · exact h
        · have := HL.out; omega
      have HF := Lib.hid (make_full b F s 1 1 1 2 wr HS.out.second (by decide) (by decide) (by decide) (by decide) hfr)
      have hI2 := HI.out.listed
      have hlv := hI2.lives ham
      have hI3 := hI2.free (by decide) (q := q) (by rw [HL.out]; exact hqk)
      have hlen3 : (L.take q ++ L.drop (q + 1)).length + 1 = k := by
        have := HL.out
        simp [this]
        omega
      have hroom : ∃ l i, (s.listed.free (L.getD q 0)).p.listed.free = l ++ [((i : Nat) : Int)] := by
        rcases hI3.room with ⟨h, _⟩ | ⟨_, h⟩
        · omega
        · exact h
      obtain ⟨l, i, hf⟩ := hroom
      have hmk := hI3.make hf 2 77 5 6
      have HI3 := Lib.hid hI3
      have HLV := Lib.hid hlv
      have HMK := Lib.hid hmk
      have HF2 := Lib.hid hf
      have HLEN := Lib.hid hlen3
      clear hI2 hlv hI3 hmk hf ham hfr hlen3
      generalize L.getD q 0 = a at *
      go_wp2_with fail
      refine HF.out.mono ?_
      rintro e w2 ⟨rfl, hl⟩
      obtain ⟨F2, hS2⟩ := HS.out.swap.store hl
      have S2 := Lib.hid hS2.swap
      clear hl hS2 HS HF
      have c2 := HCQ.out _ _ _ S2.out
      go_wp2_with fail
      refine (rec_free a w2 S2.out.second (by omega) (by omega)).mono ?_
      rintro e w3 (⟨h, _⟩ | ⟨_, rfl, hl⟩)
      · rw [HLV.out] at h
        cases h
      obtain ⟨F3, hS3⟩ := S2.out.swap.store hl
      have S3 := Lib.hid hS3.swap
      clear hl hS3 S2 c2
      have c3 := HCQ.out _ _ _ S3.out
      have HC := Lib.hid (make_ok b F3 _ l i 2 77 5 6 w3 S3.out.second (by decide) (by decide) (by decide) (by decide) HF2.out)
      clear HF2
      generalize (s.listed.free a).p.listed.link i = z at *
      have hza : (z == a) = false := by
        have := HMK.out.2.1
        simp at this
        simpa using this
      have hzr := HMK.out.2.2.range (a := z) (by simp)
      have HST := Lib.hid (HMK.out.2.2.stale (by omega) (a := a) (by simp))
      have HZL := Lib.hid (HMK.out.2.2.lives (a := z) (by simp))
      have HZV := Lib.hid (HMK.out.2.2.ver z (by simp))
      rw [if_pos rfl] at HZV
      have HZC := Lib.hid (HMK.out.2.2.cnt)
      rw [List.length_append, show ([z] : List Int).length = 1 from rfl, HLEN.out] at HZC
      clear HMK HI3 HLV HLEN
      go_wp2_with fail
      refine HC.out.mono ?_
      rintro e w4 ⟨rfl, hl⟩
      obtain ⟨F4, hS4⟩ := S3.out.swap.store hl
      have S4 := Lib.hid hS4.swap
      clear hl hS4 S3 c3 HC
      generalize (s.listed.free a).make l i 2 77 5 6 = t at *
      have c4 := HCQ.out _ _ _ S4.out
      go_wp2_with fail
      refine (rec_begin b F4 t a 5 9 w4 S4.out.second (by omega) (by omega)).mono ?_
      rintro e w5 (⟨h, _⟩ | ⟨_, rfl, hl⟩)
      · rw [HST.out] at h
        cases h
      obtain ⟨F5, hS5⟩ := S4.out.swap.store hl
      have S5 := Lib.hid hS5.swap
      clear hl hS5 S4 c4
      have c5 := HCQ.out _ _ _ S5.out
      go_wp2_with fail
      refine (rec_end b F5 t a 6 9 w5 S5.out.second (by omega) (by omega)).mono ?_
      rintro e w6 (⟨h, _⟩ | ⟨_, rfl, hl⟩)
      · rw [HST.out] at h
        cases h
      obtain ⟨F6, hS6⟩ := S5.out.swap.store hl
      have S6 := Lib.hid hS6.swap
      clear hl hS6 S5 c5
      have c6 := HCQ.out _ _ _ S6.out
      go_wp2_with fail
      refine (set_stale b F6 t a 3 w6 S6.out.second (by omega) (by omega) HST.out).mono ?_
      rintro e w7 ⟨rfl, b7⟩
      have S7 := Lib.hid (S6.out.below b7)
      clear b7 S6 c6
      have c7 := HCQ.out _ _ _ S7.out
      go_wp2_with fail
      refine (next_stale b F6 t a 1 w7 S7.out.second (by omega) (by omega) HST.out).mono ?_
      rintro e w8 ⟨rfl, b8⟩
      have S8 := Lib.hid (S7.out.below b8)
      clear b8 S7 c7
      go_wp2_with fail
      refine (get_live b F6 t z w8 S8.out.second (by omega) (by omega) HZL.out).mono ?_
      rw [HZV.out]
      simp only [Ver.value]
      rintro e w9 ⟨rfl, hl⟩
      obtain ⟨F9, hS9⟩ := S8.out.swap.store hl
      have S9 := Lib.hid (hS9.below ((Below.refl w9.heap.size w9).alloc (Nat.le_refl _) (.cells #[.int .i64 2, .int .i64 77, .int .u64 5, .int .u64 6, .int .u64 0] 34)))
      clear hl hS9 S8
      go_wp2_with fail
      refine (rec_used (b := b) (F := F9) (s := t) _ S9.out.head).mono ?_
      rw [HZC.out]
      rintro e w10 ⟨rfl, hl⟩
      obtain ⟨F10, hS10⟩ := S9.out.store hl
      have B10 := hS10.bel
      clear hl hS10 S9
      go_wp2_with fail
      refine (awake6_any _).mono ?_
      rintro e w11 ⟨rfl, b11⟩
      go_wp2_with fail
      go_ret
      exact ⟨rfl, bl_next B10 b11⟩

end Go.Proofs.Ytjojbfgppgnmjaa
