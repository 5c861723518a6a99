/- OutcomeOnce holds: of all that tell an outcome the first who tells one that may be is who told it; all are counted. No condition. -/
import Derived.Test.YtfjoghbkfkbbdaaS4
import Derived.Deep.RegionWith
namespace Go.Proofs.Ytfjoghbkfkbbdaa
open Go.RowKit Go.ChangeShapes

/-- What an outcome holds: nothing, or what was told. -/
def OnceSt (t : Bool) (d s r : Int) : Prop := (t = false ∧ d = 0 ∧ s = 0 ∧ r = 0) ∨ (t = true ∧ d = 1 ∧ (s = 3 ∨ s = 4))

set_option maxRecDepth 100000 in
set_option maxHeartbeats 6400000 in
theorem outcomeOnce_walk {a0 a1 : Option Addr} {len0 cap0 len1 cap1 : Nat} {l0 l1 : List Int} {w : World}
    (n0 : l0.length = len0) (r0 : RowAt .i64 w (.slice a0 len0 cap0) l0) (_w0 : ∀ x ∈ l0, (Lit.int .i64 x).wf = true) (n1 : l1.length = len1) (r1 : RowAt .i64 w (.slice a1 len1 cap1) l1) (_w1 : ∀ x ∈ l1, (Lit.int .i64 x).wf = true) :
    Calls Try.prog 4 #[.slice a0 len0 cap0, .slice a1 len1 cap1] w fun e w' => e = .returned (.bool true) ∧ Below w.heap.size w w' := by
  have H0 := Lib.hid r0
  have H1 := Lib.hid r1
  have N0 := Lib.hid n0
  have N1 := Lib.hid n1
  clear r0 r1 n0 n1 _w0 _w1
  go_enter Try.func4, Try.ntmps4
  go_wp2_with fail
  refine (out_new w).mono ?_
  rintro e w1 ⟨rfl, h1, B1, z1⟩
  have O1 := Lib.hid h1
  clear h1
  go_wp2_with fail
  go_loopw [6, 7, 8, 9] (fun sv rv tv i wr => ∃ (k : Nat) (t : Bool) (d s r : Int), k ≤ len0 ∧ k ≤ len1 ∧ k ≤ 50 ∧ i = .int .i64 k ∧ sv = .int .i64 s ∧ rv = .int .i64 r ∧ tv = .bool t ∧ OnceSt t d s r ∧ OutAt wr w.heap.size d k s r ∧ Below w.heap.size w wr) (fun _ _ _ i _ => 50 - (intOf i).toNat)
  case atStart => exact ⟨0, false, 0, 0, 0, Nat.zero_le _, Nat.zero_le _, Nat.zero_le _, rfl, rfl, rfl, rfl, .inl ⟨rfl, rfl, rfl, rfl⟩, O1.out, B1⟩
  case round =>
    obtain ⟨k, t, d, s, r, hk0, hk1, hk5, rfl, rfl, rfl, rfl, hst, ok, bk⟩ := hrel
    have OK := Lib.hid ok
    clear ok O1 B1
    by_cases hlt : k < len0 ∧ k < len1 ∧ k < 50
    · obtain ⟨hlt0, hlt1, hlt5⟩ := hlt
      rcases H0.out with ⟨h0, _⟩ | ⟨b, off, cap, hv, _, _, hbl, hc⟩
      · have := N0.out; rw [h0] at this; simp at this; omega
      rcases H1.out with ⟨h0, _⟩ | ⟨b', off', cap', hv', _, _, hbl', hc'⟩
      · have := N1.out; rw [h0] at this; simp at this; omega
      have C1 := Lib.hid (fun (W : World) (hW : Below w.heap.size w W) => (hW.cell (p := ⟨b, off + k, none⟩) hbl).trans (hc k (N0.out.symm ▸ hlt0)))
      have C2 := Lib.hid (fun (W : World) (hW : Below w.heap.size w W) => (hW.cell (p := ⟨b', off' + k, none⟩) hbl').trans (hc' k (N1.out.symm ▸ hlt1)))
      simp only [Value.slice.injEq] at hv hv'
      obtain ⟨rfl, hnl, rfl⟩ := hv
      obtain ⟨rfl, hnl', rfl⟩ := hv'
      clear hnl hnl' hc hc' H0 H1 N0 N1
      generalize l0.getD k 0 = x at *
      generalize l1.getD k 0 = y at *
      have c1 := C1.out wr bk
      have c2 := C2.out wr bk
      have hx : x = 3 ∨ x = 4 ∨ (¬ x = 3 ∧ ¬ x = 4 ∧ (x != 3) = true ∧ (x != 4) = true ∧ (x == 3) = false ∧ (x == 4) = false) := by simp; omega
      rcases hst with ⟨rfl, rfl, rfl, rfl⟩ | ⟨rfl, rfl, hs⟩
      · rcases hx with rfl | rfl | ⟨q1, q2, q3, q4, q5, q6⟩
        · go_wp2_with fail
          go_region_with (refine (tell_first w.heap.size k 0 0 3 y wr.drew OK.out (by omega) (by omega) (by decide)).mono ?_; rintro e w4 ⟨rfl, o4, n4⟩)
          all_goals
            rw [show (k : Int) + 1 = ((k + 1 : Nat) : Int) by omega] at o4
            have O4 := Lib.hid o4
            have F4 := bk.trans ((Only.drew (Only.refl _ wr)).trans n4 |>.below (Nat.le_refl _) bk.size)
            have e1 := C1.out w4 F4
            have e2 := C2.out w4 F4
            clear o4 n4
            go_wp2_with fail
            go_quiet (fail)
            go_wp2_with fail
            refine (out_get w.heap.size 1 ((k + 1 : Nat) : Int) 3 y true (by decide) _ ?_).mono ?_
            exact O4.out
            rintro e w5 ⟨rfl, b5⟩
            have O5 := Lib.hid (below_keep b5 O4.out)
            have F5 : Below w.heap.size w w5 := bl_next (below_drewN F4 _) b5
            clear O4 b5 F4 e1 e2
            go_wp2_with fail
            refine (out_count w.heap.size _ _ _ _ w5 O5.out).mono ?_
            rintro e w6 ⟨rfl, rfl⟩
            go_wp2_with fail
            go_roundw
            case rel => exact ⟨k + 1, true, 1, 3, y, by omega, by omega, by omega, by go_num, rfl, rfl, rfl, .inr ⟨rfl, rfl, .inl rfl⟩, O5.out, F5⟩
            case measure => simp [intOf]; omega
        · go_wp2_with fail
          go_region_with (refine (tell_first w.heap.size k 0 0 4 y wr.drew OK.out (by omega) (by omega) (by decide)).mono ?_; rintro e w4 ⟨rfl, o4, n4⟩)
          all_goals
            rw [show (k : Int) + 1 = ((k + 1 : Nat) : Int) by omega] at o4
            have O4 := Lib.hid o4
            have F4 := bk.trans ((Only.drew (Only.refl _ wr)).trans n4 |>.below (Nat.le_refl _) bk.size)
            have e1 := C1.out w4 F4
            have e2 := C2.out w4 F4
            clear o4 n4
            go_wp2_with fail
            go_quiet (fail)
            go_wp2_with fail
            refine (out_get w.heap.size 1 ((k + 1 : Nat) : Int) 4 y true (by decide) _ ?_).mono ?_
            exact O4.out
            rintro e w5 ⟨rfl, b5⟩
            have O5 := Lib.hid (below_keep b5 O4.out)
            have F5 : Below w.heap.size w w5 := bl_next (below_drewN F4 _) b5
            clear O4 b5 F4 e1 e2
            go_wp2_with fail
            refine (out_count w.heap.size _ _ _ _ w5 O5.out).mono ?_
            rintro e w6 ⟨rfl, rfl⟩
            go_wp2_with fail
            go_roundw
            case rel => exact ⟨k + 1, true, 1, 4, y, by omega, by omega, by omega, by go_num, rfl, rfl, rfl, .inr ⟨rfl, rfl, .inr rfl⟩, O5.out, F5⟩
            case measure => simp [intOf]; omega
        · go_wp2_with fail
          go_region_with (refine (tell_bad w.heap.size 0 k 0 0 x y wr.drew OK.out (by omega) (by omega) q3 q4).mono ?_; rintro e w4 ⟨rfl, o4, n4⟩)
          all_goals
            rw [show (k : Int) + 1 = ((k + 1 : Nat) : Int) by omega] at o4
            have O4 := Lib.hid o4
            have F4 := bk.trans ((Only.drew (Only.refl _ wr)).trans n4 |>.below (Nat.le_refl _) bk.size)
            have e1 := C1.out w4 F4
            have e2 := C2.out w4 F4
            clear o4 n4
            go_wp2_with fail
            refine (out_get w.heap.size 0 ((k + 1 : Nat) : Int) 0 0 false (by decide) _ ?_).mono ?_
            exact O4.out
            rintro e w5 ⟨rfl, b5⟩
            have O5 := Lib.hid (below_keep b5 O4.out)
            have F5 : Below w.heap.size w w5 := bl_next (F4) b5
            clear O4 b5 F4 e1 e2
            go_wp2_with fail
            refine (out_count w.heap.size _ _ _ _ w5 O5.out).mono ?_
            rintro e w6 ⟨rfl, rfl⟩
            go_wp2_with fail
            go_roundw
            case rel => exact ⟨k + 1, false, 0, 0, 0, by omega, by omega, by omega, by go_num, rfl, rfl, rfl, .inl ⟨rfl, rfl, rfl, rfl⟩, O5.out, F5⟩
            case measure => simp [intOf]; omega
      · have hs0 : (s != 0) = true := by simp; omega
        rcases hx with rfl | rfl | ⟨q1, q2, q3, q4, q5, q6⟩
        · go_wp2_with fail
          go_region_with (refine (tell_late w.heap.size k s r 3 y wr.drew OK.out (by omega) (by omega) (by decide)).mono ?_; rintro e w4 ⟨rfl, o4, n4⟩)
          all_goals
            rw [show (k : Int) + 1 = ((k + 1 : Nat) : Int) by omega] at o4
            have O4 := Lib.hid o4
            have F4 := bk.trans ((Only.drew (Only.refl _ wr)).trans n4 |>.below (Nat.le_refl _) bk.size)
            have e1 := C1.out w4 F4
            have e2 := C2.out w4 F4
            clear o4 n4
            go_wp2_with fail
            refine (out_get w.heap.size 1 ((k + 1 : Nat) : Int) s r true hs0 _ ?_).mono ?_
            exact O4.out
            rintro e w5 ⟨rfl, b5⟩
            have O5 := Lib.hid (below_keep b5 O4.out)
            have F5 : Below w.heap.size w w5 := bl_next (F4) b5
            clear O4 b5 F4 e1 e2
            go_wp2_with fail
            refine (out_count w.heap.size _ _ _ _ w5 O5.out).mono ?_
            rintro e w6 ⟨rfl, rfl⟩
            go_wp2_with fail
            go_roundw
            case rel => exact ⟨k + 1, true, 1, s, r, by omega, by omega, by omega, by go_num, rfl, rfl, rfl, .inr ⟨rfl, rfl, hs⟩, O5.out, F5⟩
            case measure => simp [intOf]; omega
        · go_wp2_with fail
          go_region_with (refine (tell_late w.heap.size k s r 4 y wr.drew OK.out (by omega) (by omega) (by decide)).mono ?_; rintro e w4 ⟨rfl, o4, n4⟩)
          all_goals
            rw [show (k : Int) + 1 = ((k + 1 : Nat) : Int) by omega] at o4
            have O4 := Lib.hid o4
            have F4 := bk.trans ((Only.drew (Only.refl _ wr)).trans n4 |>.below (Nat.le_refl _) bk.size)
            have e1 := C1.out w4 F4
            have e2 := C2.out w4 F4
            clear o4 n4
            go_wp2_with fail
            refine (out_get w.heap.size 1 ((k + 1 : Nat) : Int) s r true hs0 _ ?_).mono ?_
            exact O4.out
            rintro e w5 ⟨rfl, b5⟩
            have O5 := Lib.hid (below_keep b5 O4.out)
            have F5 : Below w.heap.size w w5 := bl_next (F4) b5
            clear O4 b5 F4 e1 e2
            go_wp2_with fail
            refine (out_count w.heap.size _ _ _ _ w5 O5.out).mono ?_
            rintro e w6 ⟨rfl, rfl⟩
            go_wp2_with fail
            go_roundw
            case rel => exact ⟨k + 1, true, 1, s, r, by omega, by omega, by omega, by go_num, rfl, rfl, rfl, .inr ⟨rfl, rfl, hs⟩, O5.out, F5⟩
            case measure => simp [intOf]; omega
        · go_wp2_with fail
          go_region_with (refine (tell_bad w.heap.size 1 k s r x y wr.drew OK.out (by omega) (by omega) q3 q4).mono ?_; rintro e w4 ⟨rfl, o4, n4⟩)
          all_goals
            rw [show (k : Int) + 1 = ((k + 1 : Nat) : Int) by omega] at o4
            have O4 := Lib.hid o4
            have F4 := bk.trans ((Only.drew (Only.refl _ wr)).trans n4 |>.below (Nat.le_refl _) bk.size)
            have e1 := C1.out w4 F4
            have e2 := C2.out w4 F4
            clear o4 n4
            go_wp2_with fail
            refine (out_get w.heap.size 1 ((k + 1 : Nat) : Int) s r true hs0 _ ?_).mono ?_
            exact O4.out
            rintro e w5 ⟨rfl, b5⟩
            have O5 := Lib.hid (below_keep b5 O4.out)
            have F5 : Below w.heap.size w w5 := bl_next (F4) b5
            clear O4 b5 F4 e1 e2
            go_wp2_with fail
            refine (out_count w.heap.size _ _ _ _ w5 O5.out).mono ?_
            rintro e w6 ⟨rfl, rfl⟩
            go_wp2_with fail
            go_roundw
            case rel => exact ⟨k + 1, true, 1, s, r, by omega, by omega, by omega, by go_num, rfl, rfl, rfl, .inr ⟨rfl, rfl, hs⟩, O5.out, F5⟩
            case measure => simp [intOf]; omega
    · have hd : decide (k < len0) = false ∨ (decide (k < len0) = true ∧ decide (k < len1) = false) ∨ (decide (k < len0) = true ∧ decide (k < len1) = true ∧ decide ((k : Int) < 50) = false) := by simp; omega
      clear H0 H1 N0 N1 hst hlt
      rcases hd with q1 | ⟨q1, q2⟩ | ⟨q1, q2, q3⟩
      all_goals
        go_wp2_with fail
        refine (awake18_any wr).mono ?_
        rintro e w5 ⟨rfl, b5⟩
        go_wp2_with fail
        go_ret
        exact ⟨rfl, bl_next bk b5⟩

end Go.Proofs.Ytfjoghbkfkbbdaa
