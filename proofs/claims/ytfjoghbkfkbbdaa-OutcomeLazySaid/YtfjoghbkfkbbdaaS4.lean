/- outcome: Gate; a Lazy without a function. -/
import Derived.Test.YtfjoghbkfkbbdaaS3
import Derived.Test.YtfjoghbkfkbbdaaF1
import Derived.Test.YtfjoghbkfkbbdaaM0
namespace Go.Proofs.Ytfjoghbkfkbbdaa
open Go.RowKit

def GateAt (w : World) (b : Nat) (n : Int) : Prop := w.heap[b]? = some (.cells #[.int .i64 n] 110 (0, 0))

set_option maxRecDepth 100000 in
set_option maxHeartbeats 800000 in
theorem i64_store (b off : Nat) (x y : Int) (w : World) (hc : w.cell? ⟨b, off, none⟩ = some (.int .i64 x)) (hz : w.frozen? ⟨b, off, none⟩ = false) :
    Calls Try.prog 70 #[.pointer (some ⟨b, off, none⟩), .int .i64 y] w fun e w' => e = .returned (.tuple #[]) ∧ w.setCell ⟨b, off, none⟩ (.int .i64 y) = w' := by
  have hst := run_call_store (P := Try.prog) Try.func85 (by kernel_rfl) (by kernel_rfl) (by kernel_rfl) (by kernel_rfl) (k := .i64) (y := y) hc hz
  go_enter Try.func70, Try.ntmps70
  go_wp2
  go_end0
  exact ⟨rfl, rfl⟩

set_option maxRecDepth 100000 in
set_option maxHeartbeats 800000 in
theorem i64_cas (b off : Nat) (x y : Int) (w : World) (hc : w.cell? ⟨b, off, none⟩ = some (.int .i64 x)) (hz : w.frozen? ⟨b, off, none⟩ = false) :
    Calls Try.prog 71 #[.pointer (some ⟨b, off, none⟩), .int .i64 x, .int .i64 y] w fun e w' => e = .returned (.bool true) ∧ w.setCell ⟨b, off, none⟩ (.int .i64 y) = w' := by
  have hcas := run_call_cas_hit (P := Try.prog) Try.func86 (by kernel_rfl) (by kernel_rfl) (by kernel_rfl) .i64 (by kernel_rfl) (y := y) hc hz
  go_enter Try.func71, Try.ntmps71
  go_wp2
  go_ret
  exact ⟨rfl, rfl⟩

set_option maxRecDepth 100000 in
set_option maxHeartbeats 800000 in
theorem gate_new (n m : Int) (hm : (n < 0 ∧ m = 0) ∨ (0 ≤ n ∧ m = n)) (w : World) :
    Calls Try.prog 31 #[.int .i64 n] w fun e w' => e = .returned (.pointer (some ⟨w.heap.size, 0, none⟩)) ∧ GateAt w' w.heap.size m ∧ Below w.heap.size w w' ∧ w.heap.size < w'.heap.size := by
  have hk := blk_new w (.cells #[.int .i64 0] 110 (0, 0))
  have hS := Lib.hid (i64_store w.heap.size 0 0 m _ ((blk_cell hk 0).trans rfl) (blk_free hk 0))
  have hK := Lib.hid hk
  clear hk
  rcases hm with ⟨hm, rfl⟩ | ⟨hm, rfl⟩
  all_goals
    go_enter Try.func31, Try.ntmps31
    go_wp2_with fail
    refine hS.out.mono ?_
    rintro e w1 ⟨rfl, rfl⟩
    go_wp2_with fail
    go_ret
    exact ⟨rfl, blk_new _ _, (Below.refl _ _).alloc (Nat.le_refl _) _, by simp⟩

set_option maxRecDepth 100000 in
set_option maxHeartbeats 800000 in
theorem gate_left (b : Nat) (n : Int) (w : World) (h : GateAt w b n) :
    Calls Try.prog 32 #[.pointer (some ⟨b, 0, none⟩)] w fun e w' => e = .returned (.int .i64 n) ∧ w = w' := by
  have H := Lib.hid (i64_load b 0 n w ((blk_cell h 0).trans rfl))
  clear h
  go_enter Try.func32, Try.ntmps32
  go_wp2_with fail
  refine H.out.mono ?_
  rintro e w1 ⟨rfl, rfl⟩
  go_wp2_with fail
  go_ret
  exact ⟨rfl, rfl⟩

set_option maxRecDepth 100000 in
set_option maxHeartbeats 800000 in
theorem gate_shut (b : Nat) (w : World) (h : GateAt w b 0) :
    Calls Try.prog 33 #[.pointer (some ⟨b, 0, none⟩)] w fun e w' => e = .returned (.bool false) ∧ w = w' := by
  have H := Lib.hid (i64_load b 0 0 w ((blk_cell h 0).trans rfl))
  clear h
  go_enter Try.func33, Try.ntmps33
  go_wp2_with fail
  refine wp_loop_once ?_
  go_wp2_with fail
  refine H.out.mono ?_
  rintro e w1 ⟨rfl, rfl⟩
  go_wp2_with fail
  go_ret
  exact ⟨rfl, rfl⟩

set_option maxRecDepth 100000 in
set_option maxHeartbeats 800000 in
theorem gate_pass (b : Nat) (n : Int) (hn : 0 < n) (hn2 : n ≤ 4611686018427387904) (w : World) (h : GateAt w b n) :
    Calls Try.prog 33 #[.pointer (some ⟨b, 0, none⟩)] w fun e w' => e = .returned (.bool true) ∧ GateAt w' b (n - 1) ∧ Only b w w' := by
  have H := Lib.hid (i64_load b 0 n w ((blk_cell h 0).trans rfl))
  have HC := Lib.hid (i64_cas b 0 n (n - 1) w ((blk_cell h 0).trans rfl) (blk_free h 0))
  have hb := Lib.hid h
  have hz : decide (n = 0) = false := by simp; omega
  have hw : IntKind.i64.wrap (n - 1) = n - 1 := IntWalk.i64_in _ (by omega)
  clear h
  go_enter Try.func33, Try.ntmps33
  go_wp2_with fail
  refine wp_loop_once ?_
  go_wp2_with fail
  refine H.out.mono ?_
  rintro e w1 ⟨rfl, rfl⟩
  go_wp2_with fail
  refine HC.out.mono ?_
  rintro e w1 ⟨rfl, rfl⟩
  go_wp2_with fail
  go_ret
  exact ⟨rfl, blk_set (i := 0) hb.out, (Only.refl b w).setCell (p := ⟨b, 0, none⟩) (.inl rfl) _⟩

/-- Of what was told in a block nothing turns where other blocks turn. -/
theorem only_keep {w w1 : World} {b c : Nat} {o : Obj} (h : Only c w w1) (hne : b ≠ c) (hb : w.heap[b]? = some o) : w1.heap[b]? = some o := h.keep hb hne
theorem below_keep {w w1 : World} {b : Nat} {o : Obj} (h : Below w.heap.size w w1) (hb : w.heap[b]? = some o) : w1.heap[b]? = some o := by
  rw [h.block b (blk_lt hb)]
  exact hb

theorem awakeClo_enters (args : Array Value) (w : World) : (callFunc 64 args).run Try.prog w = .ok (.enter 64 args) w :=
  enters_body Try.func64 (by kernel_rfl) rfl args w

set_option maxHeartbeats 400000 in
theorem awakeClo_any (w : World) : Calls Try.prog 64 #[] w fun e w' => e = .returned (.int .i64 7) ∧ w' = id w := by
  go_enter Try.func64, Try.ntmps64
  go_wp2_with fail
  go_ret
  exact ⟨rfl, rfl⟩

set_option maxRecDepth 100000 in
set_option maxHeartbeats 1600000 in
theorem awake18_any (w : World) : Calls Try.prog 19 #[] w fun e w' => e = .returned (.bool true) ∧ Below w.heap.size w w' := by
  go_enter Try.func19, Try.ntmps19
  go_wp2_with fail
  refine (out_new w).mono ?_
  rintro e w1 ⟨rfl, h1, B1, z1⟩
  have O1 := Lib.hid h1
  clear h1
  go_wp2_with fail
  refine (make_int _ (.inr ⟨_, _, rfl⟩) w1).mono ?_
  rintro e w2 ⟨rfl, l2, B2, z2⟩
  have O2 := Lib.hid (below_keep B2 O1.out)
  have L2 := Lib.hid l2
  clear l2 O1
  go_wp2_with fail
  refine (gate_new 1 1 (by decide) w2).mono ?_
  rintro e w3 ⟨rfl, g3, B3, z3⟩
  have O3 := Lib.hid (below_keep B3 O2.out)
  have L3 := Lib.hid (below_keep B3 L2.out)
  have G3 := Lib.hid g3
  have F3 := (B1.trans (B2.mono B1.size)).trans (B3.mono (B1.trans (B2.mono B1.size)).size)
  clear g3 O2 L2 B1 B2 B3
  go_wp2_with fail
  refine (tell_first w.heap.size 0 0 0 4 2 w3 O3.out (by decide) (by decide) (by decide)).mono ?_
  rintro e w4 ⟨rfl, o4, n4⟩
  have O4 := Lib.hid o4
  have L4 := Lib.hid (only_keep n4 (by omega) L3.out)
  have G4 := Lib.hid (only_keep n4 (by omega) G3.out)
  have F4 := F3.trans (n4.below (Nat.le_refl _) F3.size)
  clear o4 n4 O3 L3 G3 F3
  go_wp2_with fail
  refine (tell_late w.heap.size 1 4 2 3 0 w4 O4.out (by decide) (by decide) (by decide)).mono ?_
  rintro e w5 ⟨rfl, o5, n5⟩
  have O5 := Lib.hid o5
  have L5 := Lib.hid (only_keep n5 (by omega) L4.out)
  have G5 := Lib.hid (only_keep n5 (by omega) G4.out)
  have F5 := F4.trans (n5.below (Nat.le_refl _) F4.size)
  clear o5 n5 O4 L4 G4 F4
  go_wp2_with fail
  refine (out_get w.heap.size 1 2 4 2 true (by decide) w5 O5.out).mono ?_
  rintro e w6 ⟨rfl, b6⟩
  have O6 := Lib.hid (below_keep b6 O5.out)
  have L6 := Lib.hid (below_keep b6 L5.out)
  have G6 := Lib.hid (below_keep b6 G5.out)
  have F6 := F5.trans (b6.mono F5.size)
  clear b6 O5 L5 G5 F5
  go_wp2_with fail
  refine (out_count w.heap.size 1 2 4 2 w6 O6.out).mono ?_
  rintro e w7 ⟨rfl, rfl⟩
  go_wp2_with fail
  refine (done_int w1.heap.size _ _ 0 0 0 false (by decide) w6 L6.out).mono ?_
  rintro e w7 ⟨rfl, rfl⟩
  go_wp2_with fail
  refine (get_first_int w1.heap.size _ _ _ 7 id w6 awakeClo_enters L6.out (fun W _ => awakeClo_any W) (fun _ _ _ _ h => h)).mono ?_
  rintro e w7 ⟨rfl, l7, W, n7, k7⟩
  have n7 := n7.trans k7
  have L7 := Lib.hid l7
  have G7 := Lib.hid (only_keep n7 (by omega) G6.out)
  have F7 := F6.trans (n7.below (by omega) F6.size)
  clear n7 k7 l7 L6 G6 F6 O6
  go_wp2_with fail
  refine (done_int w1.heap.size _ _ 1 0 1 true (by decide) w7 L7.out).mono ?_
  rintro e w8 ⟨rfl, rfl⟩
  go_wp2_with fail
  refine (gate_pass w2.heap.size 1 (by decide) (by decide) w7 G7.out).mono ?_
  rintro e w8 ⟨rfl, g8, n8⟩
  have G8 := Lib.hid g8
  have F8 := F7.trans (n8.below (by omega) F7.size)
  clear n8 g8 G7 F7 L7
  go_wp2_with fail
  refine (gate_shut w2.heap.size w8 G8.out).mono ?_
  rintro e w9 ⟨rfl, rfl⟩
  go_wp2_with fail
  go_ret
  exact ⟨rfl, F8⟩
end Go.Proofs.Ytfjoghbkfkbbdaa
