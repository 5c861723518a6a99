/- OutcomeFirst holds: whichever of two is first to tell is who told, whatever the other one says, however often. No condition. -/
import Derived.Test.YtfjoghbkfkbbdaaS4
namespace Go.Proofs.Ytfjoghbkfkbbdaa
open Go.RowKit Go.ChangeShapes

set_option maxRecDepth 100000 in
set_option maxHeartbeats 3200000 in
theorem outcomeFirst_walk {g : Bool} {a1 a2 a3 : Int} {w : World} (_w1 : (Lit.int .i64 a1).wf = true) (_w2 : (Lit.int .i64 a2).wf = true) (_w3 : (Lit.int .i64 a3).wf = true) :
    Calls Try.prog 3 #[.bool g, .int .i64 a1, .int .i64 a2, .int .i64 a3] w fun e w' => e = .returned (.bool true) ∧ Below w.heap.size w w' := by
  have m3 := i64_and15 a3
  obtain ⟨n, hn, hn2⟩ : ∃ n : Nat, a3 % 16 = n ∧ n ≤ 15 := ⟨(a3 % 16).toNat, by omega, by omega⟩
  rw [hn] at m3
  clear hn _w1 _w2 _w3
  rcases g with _ | _
  · go_enter Try.func3, Try.ntmps3
    go_wp2_with fail
    refine (out_new w).mono ?_
    rintro e w1 ⟨rfl, h1, B1, z1⟩
    have O1 := Lib.hid h1
    clear h1
    go_wp2_with fail
    refine (tell_bad w.heap.size 0 0 0 0 2 3 w1 O1.out (by decide) (by decide) (by decide) (by decide)).mono ?_
    rintro e w2 ⟨rfl, o2, n2⟩
    have O2 := Lib.hid o2
    have F2 := B1.trans (n2.below (Nat.le_refl _) B1.size)
    clear o2 n2 O1 B1
    go_wp2_with fail
    refine (tell_first w.heap.size 1 0 0 4 a1 w2 O2.out (by decide) (by decide) (by decide)).mono ?_
    rintro e w3 ⟨rfl, o3, n3⟩
    have F3 := F2.trans (n3.below (Nat.le_refl _) F2.size)
    have O3 := Lib.hid o3
    clear o3 n3 O2 F2
    go_wp2_with fail
    go_loopw [12] (fun i wr => ∃ k : Nat, k ≤ n ∧ i = .int .i64 k ∧ OutAt wr w.heap.size 1 (2 + 2 * (k : Int)) 4 a1 ∧ Below w.heap.size w wr) (fun i _ => n - (intOf i).toNat)
    case atStart => exact ⟨0, Nat.zero_le _, rfl, O3.out, F3⟩
    case round =>
      obtain ⟨k, hk, rfl, ok, bk⟩ := hrel
      have OK := Lib.hid ok
      clear ok O3 F3
      by_cases hlt : k < n
      · go_wp2_with fail
        refine (tell_late w.heap.size (2 + 2 * (k : Int)) 4 a1 3 a2 wr OK.out (by omega) (by omega) (by decide)).mono ?_
        rintro e w4 ⟨rfl, o4, n4⟩
        have O4 := Lib.hid o4
        have F4 := bk.trans (n4.below (Nat.le_refl _) bk.size)
        clear o4 n4 OK bk
        go_wp2_with fail
        refine (tell_late w.heap.size (2 + 2 * (k : Int) + 1) 4 a1 4 a2 w4 O4.out (by omega) (by omega) (by decide)).mono ?_
        rintro e w5 ⟨rfl, o5, n5⟩
        rw [show 2 + 2 * (k : Int) + 1 + 1 = 2 + 2 * ((k + 1 : Nat) : Int) by omega] at o5
        have O5 := Lib.hid o5
        have F5 := F4.trans (n5.below (Nat.le_refl _) F4.size)
        clear o5 n5 O4 F4
        go_wp2_with fail
        go_roundw
        case rel => exact ⟨k + 1, by omega, by go_num, O5.out, F5⟩
        case measure => simp [intOf]; omega
      · obtain rfl : k = n := by omega
        have x1 : IntKind.i64.wrap (2 * (k : Int)) = 2 * (k : Int) := IntWalk.i64_in _ (by omega)
        have x2 : IntKind.i64.wrap (2 + 2 * (k : Int)) = 2 + 2 * (k : Int) := IntWalk.i64_in _ (by omega)
        go_wp2_with fail
        refine (out_get w.heap.size 1 _ 4 a1 true (by decide) wr OK.out).mono ?_
        rintro e w4 ⟨rfl, b4⟩
        have O4 := Lib.hid (below_keep b4 OK.out)
        have F4 := bl_next bk b4
        clear OK b4 bk
        go_wp2_with fail
        refine (out_count w.heap.size 1 _ 4 a1 w4 O4.out).mono ?_
        rintro e w5 ⟨rfl, rfl⟩
        go_wp2_with fail
        refine (awake18_any w4).mono ?_
        rintro e w5 ⟨rfl, b5⟩
        go_wp2_with fail
        go_ret
        exact ⟨rfl, bl_next F4 b5⟩
  · go_enter Try.func3, Try.ntmps3
    go_wp2_with fail
    refine (out_new w).mono ?_
    rintro e w1 ⟨rfl, h1, B1, z1⟩
    have O1 := Lib.hid h1
    clear h1
    go_wp2_with fail
    refine (tell_bad w.heap.size 0 0 0 0 2 3 w1 O1.out (by decide) (by decide) (by decide) (by decide)).mono ?_
    rintro e w2 ⟨rfl, o2, n2⟩
    have O2 := Lib.hid o2
    have F2 := B1.trans (n2.below (Nat.le_refl _) B1.size)
    clear o2 n2 O1 B1
    go_wp2_with fail
    refine (tell_first w.heap.size 1 0 0 3 a1 w2 O2.out (by decide) (by decide) (by decide)).mono ?_
    rintro e w3 ⟨rfl, o3, n3⟩
    have F3 := F2.trans (n3.below (Nat.le_refl _) F2.size)
    have O3 := Lib.hid o3
    clear o3 n3 O2 F2
    go_wp2_with fail
    go_loopw [12] (fun i wr => ∃ k : Nat, k ≤ n ∧ i = .int .i64 k ∧ OutAt wr w.heap.size 1 (2 + 2 * (k : Int)) 3 a1 ∧ Below w.heap.size w wr) (fun i _ => n - (intOf i).toNat)
    case atStart => exact ⟨0, Nat.zero_le _, rfl, O3.out, F3⟩
    case round =>
      obtain ⟨k, hk, rfl, ok, bk⟩ := hrel
      have OK := Lib.hid ok
      clear ok O3 F3
      by_cases hlt : k < n
      · go_wp2_with fail
        refine (tell_late w.heap.size (2 + 2 * (k : Int)) 3 a1 4 a2 wr OK.out (by omega) (by omega) (by decide)).mono ?_
        rintro e w4 ⟨rfl, o4, n4⟩
        have O4 := Lib.hid o4
        have F4 := bk.trans (n4.below (Nat.le_refl _) bk.size)
        clear o4 n4 OK bk
        go_wp2_with fail
        refine (tell_late w.heap.size (2 + 2 * (k : Int) + 1) 3 a1 3 a2 w4 O4.out (by omega) (by omega) (by decide)).mono ?_
        rintro e w5 ⟨rfl, o5, n5⟩
        rw [show 2 + 2 * (k : Int) + 1 + 1 = 2 + 2 * ((k + 1 : Nat) : Int) by omega] at o5
        have O5 := Lib.hid o5
        have F5 := F4.trans (n5.below (Nat.le_refl _) F4.size)
        clear o5 n5 O4 F4
        go_wp2_with fail
        go_roundw
        case rel => exact ⟨k + 1, by omega, by go_num, O5.out, F5⟩
        case measure => simp [intOf]; omega
      · obtain rfl : k = n := by omega
        have x1 : IntKind.i64.wrap (2 * (k : Int)) = 2 * (k : Int) := IntWalk.i64_in _ (by omega)
        have x2 : IntKind.i64.wrap (2 + 2 * (k : Int)) = 2 + 2 * (k : Int) := IntWalk.i64_in _ (by omega)
        go_wp2_with fail
        refine (out_get w.heap.size 1 _ 3 a1 true (by decide) wr OK.out).mono ?_
        rintro e w4 ⟨rfl, b4⟩
        have O4 := Lib.hid (below_keep b4 OK.out)
        have F4 := bl_next bk b4
        clear OK b4 bk
        go_wp2_with fail
        refine (out_count w.heap.size 1 _ 3 a1 w4 O4.out).mono ?_
        rintro e w5 ⟨rfl, rfl⟩
        go_wp2_with fail
        refine (awake18_any w4).mono ?_
        rintro e w5 ⟨rfl, b5⟩
        go_wp2_with fail
        go_ret
        exact ⟨rfl, bl_next F4 b5⟩

end Go.Proofs.Ytfjoghbkfkbbdaa
