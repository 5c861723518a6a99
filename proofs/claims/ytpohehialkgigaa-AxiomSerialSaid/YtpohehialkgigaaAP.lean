/- State, SamePairs. -/
import Derived.Test.YtpohehialkgigaaAL
namespace Go.Proofs.Ytpohehialkgigaa
open Go.RowKit
set_option maxRecDepth 100000 in
set_option maxHeartbeats 1600000 in
theorem same_pairs {w : World} {va vb : Value} {l m : St} (ha : PairsAt w va l) (hb : PairsAt w vb m) (hl : l.length ≤ 1000000) (hm : m.length ≤ 1000000) :
    Calls Try.prog 23 #[va, vb] w fun e w' => e = .returned (.bool (decide (l = m))) ∧ ∃ q, w' = w.drewN q := by
  obtain ⟨a, ca, rfl, hca⟩ := ha.form
  obtain ⟨b, cb, rfl, hcb⟩ := hb.form
  by_cases hlen : l.length = m.length
  · have n0 : ((l.length : Int) != (m.length : Int)) = false := by rw [hlen]; simp
    have n1 : (l.length != m.length) = false := by rw [hlen]; simp
    have HA := Lib.hid ha
    have HB := Lib.hid hb
    have HL := Lib.hid hlen
    clear ha hb hlen
    go_enter Try.func23, Try.ntmps23
    go_wp2_with fail
    go_loopg [5] l.length (fun kx kv wr => ∃ k q : Nat, kv = .int .i64 k ∧ k ≤ l.length ∧ l.length - k ≤ kx ∧ Hid (∀ j, j < k → l.getD j (0, 0) = m.getD j (0, 0)) ∧ wr = w.drewN q)
    case atStart => exact ⟨0, 0, rfl, Nat.zero_le _, by omega, Lib.hid (fun j hj => absurd hj (Nat.not_lt_zero j)), rfl⟩
    case round =>
      obtain ⟨k, q, rfl, hk, hkx, HE, rfl⟩ := hrel
      have q0 : (0 : Int) ≤ (k : Int) := by omega
      by_cases hlt : k < l.length
      · have q1 : (k : Int) < (l.length : Int) := by omega
        have q2 : (k : Int) < (m.length : Int) := by have := HL.out; omega
        rcases HA.out with ⟨rfl, _⟩ | ⟨ga, oa, ca', hv, -, -, hga⟩
        · simp at hlt
        rcases HB.out with ⟨rfl, _⟩ | ⟨gb, ob, cb', hv2, -, -, hgb⟩
        · simp at q2
          omega
        simp only [Value.slice.injEq, true_and] at hv hv2
        obtain ⟨rfl, rfl⟩ := hv
        obtain ⟨rfl, rfl⟩ := hv2
        obtain ⟨x0, x1⟩ := hga k hlt
        obtain ⟨y0, y1⟩ := hgb k (by have := HL.out; omega)
        clear hga hgb
        obtain ⟨x, hx⟩ : ∃ x, l.getD k (0, 0) = x := ⟨_, rfl⟩
        obtain ⟨y, hy⟩ : ∃ y, m.getD k (0, 0) = y := ⟨_, rfl⟩
        rw [hx] at x0 x1
        rw [hy] at y0 y1
        by_cases hxy : x = y
        · have HN := Lib.hid (show l.getD k (0, 0) = m.getD k (0, 0) by rw [hx, hy, hxy])
          subst hxy
          clear hx hy
          obtain ⟨xa, xb⟩ := x
          dsimp only at x0 x1 y0 y1
          go_wp2_with fail
          go_quiet (fail)
          go_wp2_with fail
          go_roundg (l.length - (k + 1))
          case rel => exact ⟨k + 1, _, by go_num, by omega, by omega, Lib.hid (fun j hj => if e : j = k then e ▸ HN.out else HE.out j (by omega)), rfl⟩
          case measure => omega
        · have HN := Lib.hid (show l ≠ m from fun e => hxy (by rw [← hx, ← hy, e]))
          clear hx hy
          obtain ⟨xa, xb⟩ := x
          obtain ⟨ya, yb⟩ := y
          dsimp only at x0 x1 y0 y1
          by_cases h0 : xa = ya
          · have h1 : ¬ xb = yb := fun e => hxy (by rw [h0, e])
            have e0 := bq_t h0
            have e1 := bq_f h1
            clear h0 h1 hxy
            go_wp2_with fail
            go_quiet (fail)
            go_wp2_with fail
            go_ret
            exact ⟨by rw [dec_f HN.out]; rfl, _, World.drewN_drewN _ _ _⟩
          · have e0 := bq_f h0
            clear h0 hxy
            go_wp2_with fail
            go_quiet (fail)
            go_wp2_with fail
            go_ret
            exact ⟨by rw [dec_f HN.out]; rfl, _, World.drewN_drewN _ _ _⟩
      · obtain rfl : k = l.length := by omega
        have hd : decide (l.length < l.length) = false := by simp
        have HN := Lib.hid (show l = m from by
          apply List.ext_getElem HL.out
          intro j h1 h2
          have := HE.out j h1
          simpa [List.getD_eq_getElem?_getD, h1, h2] using this)
        clear hlt
        go_wp2_with fail
        go_ret
        exact ⟨by rw [dec_t HN.out]; rfl, q, rfl⟩
  · have n0 : ((l.length : Int) != (m.length : Int)) = true := by simp; omega
    have n1 : (l.length != m.length) = true := by simpa using hlen
    have HN := Lib.hid (show l ≠ m from fun e => hlen (by rw [e]))
    clear ha hb hlen
    go_enter Try.func23, Try.ntmps23
    go_wp2_with fail
    go_ret
    exact ⟨by rw [dec_f HN.out]; rfl, 0, rfl⟩
set_option maxRecDepth 100000 in
set_option maxHeartbeats 1600000 in
theorem state_any {w : World} {v : Value} {l : List Dl} {when : Int} (h : DealsAt w v l) (g : Good l) :
    Calls Try.prog 21 #[v, .int .u64 when] w fun e w' => ∃ u, e = .returned u ∧ PairsAt w' u (atD l when (-1)) ∧ Below w.heap.size w w' := by
  have HAT := Lib.hid (g.at_ h when (-1))
  have hln := g.atLen when (-1)
  obtain ⟨a0, cap0, rfl, -⟩ := h.form
  generalize atD l when (-1) = s at *
  clear h g
  go_enter Try.func21, Try.ntmps21
  go_wp2_with fail
  refine HAT.out.mono ?_
  rintro e w0 ⟨b, rfl, -, hs, hb0⟩
  have HK := Lib.hid (keys_call b w0)
  have HSO := Lib.hid (sorted_call hs (by omega))
  have HM := Lib.hid hs
  have HW := Lib.hid hs.keys_wf
  have HB00 := Lib.hid hb0
  clear hs hb0 HAT
  go_wp2_with fail
  refine HK.out.mono ?_
  rintro e w1 ⟨rfl, rfl⟩
  clear HK
  go_wp2_with fail
  refine HSO.out.mono ?_
  rintro e w2 ⟨v, rfl, ho, _, hb⟩
  obtain ⟨a, cap, hv, -⟩ := ho.form
  rw [List.length_map] at hv
  subst hv
  have HO := Lib.hid ho
  have HB0 := Lib.hid hb
  clear HSO ho hb
  go_wp2_with fail
  go_loopg [6, 16] s.length (fun kx ov kv wr => ∃ k : Nat, kv = .int .i64 k ∧ k ≤ s.length ∧ s.length - k ≤ kx ∧ Hid (NewPairs w2.heap.size wr ov (s.take k)) ∧ Hid (Below w2.heap.size w2 wr))
  case atStart => exact ⟨0, rfl, Nat.zero_le _, by omega, Lib.hid (NewPairs.nil _ _), Lib.hid (Below.refl _ _)⟩
  case round =>
    obtain ⟨k, rfl, hk, hkx, HP, HB⟩ := hrel
    have q0 : (0 : Int) ≤ (k : Int) := by omega
    by_cases hlt : k < s.length
    · have q1 : (k : Int) < (s.length : Int) := by omega
      obtain ⟨g, rfl⟩ := some_at HO.out (by simp; omega)
      have cr := ((HO.out.mod (F := fun _ => False) (Mod.of_below HB.out) (fun _ _ h => h))).at_ (i := k) (by simpa using hlt)
      have hst : s.take (k + 1) = s.take k ++ [s.getD k (0, 0)] := by
        rw [List.take_succ_eq_append_getElem hlt]
        simp [List.getD_eq_getElem?_getD, hlt]
      have hfd := HM.out.rising.find hlt
      have hmm := ((HM.out.later HB0.out).later HB.out)
      have hwk := HW.out (s.getD k (0, 0)) (by rw [List.getD_eq_getElem?_getD]; simp [hlt])
      have hkey : (s.map (·.1)).getD k 0 = (s.getD k (0, 0)).1 := by simp [List.getD_eq_getElem?_getD, hlt]
      rw [hkey] at cr
      clear hkey
      generalize s.getD k (0, 0) = p at *
      obtain ⟨x, y⟩ := p
      dsimp only at cr hfd hwk
      have hlen : (s.take k).length + 1 ≤ 1099511627776 := by simp; omega
      have HMM := Lib.hid hmm
      have WK := Lib.hid hwk
      have HFD := Lib.hid hfd
      have HST := Lib.hid hst
      clear hmm hwk hfd hst
      go_upto_region 6 with fail
      iterate 13 (go_step)
      refine smap_look rfl _ _ rfl Try.underlying66 rfl HMM.out rfl WK.out ?_
      rw [HFD.out]
      simp only [Act.put, List.setIfInBounds_toArray, List.set_cons_zero, List.set_cons_succ, Option.getD_some]
      iterate 3 (go_step)
      refine wpList_buildPair rfl (.tmp 25) rfl x y rfl ?_
      simp only [Act.put, List.setIfInBounds_toArray, List.set_cons_zero, List.set_cons_succ]
      go_wp2_with (at_builtin; refine walk_append (zero := .agg #[.int .i64 0, .int .i64 0]) (size := 2) (base := w2.heap.size) (n := (s.take k).length) (m := 1) (xs := pairCells (s.take k)) (ys := [.int .i64 x, .int .i64 y]) rfl (.tmp 20) (.tmp 26) rfl Try.underlying31 info_pair rfl (by decide) (Nat.le_of_ble_eq_true rfl) rfl (World.ownsRow.alloc HP.out _) rfl (SrcAt.pair (blk_at (by simp))) (pair_one _ _) hlen (Nat.le_trans HB.out.size (by simp <;> omega)) ?_)
      intro v' w5 hA5
      have ho5 := NewPairs.app (l := s.take k) (x := x) (y := y) hA5 (by simp <;> omega) rfl
      have hb5 := NewPairs.below (w1 := w2) (l := s.take k) (World.ownsRow.alloc HP.out _) hA5 (HB.out.alloc HB.out.size _) (Nat.le_trans HB.out.size (by simp <;> omega))
      have HO5 := Lib.hid ho5
      have HB5 := Lib.hid hb5
      clear hA5 ho5 hb5
      go_wp2_with fail
      go_roundg (s.length - (k + 1))
      case rel => exact ⟨k + 1, by go_num, by omega, by omega, Lib.hid (by rw [HST.out]; exact HO5.out), HB5⟩
      case measure => omega
    · obtain rfl : k = s.length := by omega
      have hd : decide (s.length < s.length) = false := by simp
      have hcl := HP.out.clip
      rw [List.take_length] at hcl
      have HCL := Lib.hid hcl
      clear hcl hlt
      go_wp2_with fail
      refine HCL.out.mono ?_
      rintro e w3 ⟨u, rfl, hu, rfl⟩
      have HU := Lib.hid hu
      clear hu
      go_wp2_with fail
      go_ret
      exact ⟨_, rfl, HU.out, bl_next HB00.out (bl_next HB0.out HB.out)⟩
end Go.Proofs.Ytpohehialkgigaa
