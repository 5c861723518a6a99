/- sync.Once's Do; the atomics' methods; 'Only': one old block may have turned. -/
import Derived.Test.YtoidmakaijkglaaGreatS0
namespace Go.Proofs.YtoidmakaijkglaaGreat
open Go.RowKit

/-- Of what was there one block alone may have turned. -/
structure Only (b : Nat) (w w' : World) : Prop where
  os : w'.os = w.os
  tape : w'.tape = w.tape
  output : w'.output = w.output
  size : w.heap.size ≤ w'.heap.size
  block : ∀ k, k < w.heap.size → k ≠ b → w'.heap[k]? = w.heap[k]?
theorem Only.refl (b : Nat) (w : World) : Only b w w := ⟨rfl, rfl, rfl, Nat.le_refl _, fun _ _ _ => rfl⟩
theorem Only.trans {b : Nat} {w w1 w2 : World} (h : Only b w w1) (k : Only b w1 w2) : Only b w w2 :=
  ⟨k.os.trans h.os, k.tape.trans h.tape, k.output.trans h.output, Nat.le_trans h.size k.size, fun i hi hb => (k.block i (Nat.lt_of_lt_of_le hi h.size) hb).trans (h.block i hi hb)⟩
theorem Only.of_below {b : Nat} {w w1 : World} (h : Below w.heap.size w w1) : Only b w w1 := ⟨h.os, h.tape, h.output, h.size, fun k hk _ => h.block k hk⟩
theorem Only.drew {b : Nat} {w w1 : World} (h : Only b w w1) : Only b w w1.drew := h.trans ⟨rfl, rfl, rfl, Nat.le_refl _, fun _ _ _ => rfl⟩
theorem Only.drewN {b : Nat} {w w1 : World} (h : Only b w w1) (n : Nat) : Only b w (w1.drewN n) := h.trans ⟨rfl, rfl, rfl, Nat.le_refl _, fun _ _ _ => rfl⟩
theorem Only.alloc {b : Nat} {w w1 : World} (h : Only b w w1) (o : Obj) : Only b w (w1.alloc o) :=
  h.trans ⟨rfl, rfl, rfl, by simp, fun k hk _ => Below.heap_alloc _ _ _ hk⟩
theorem Only.setCell {b : Nat} {w w1 : World} (h : Only b w w1) {p : Addr} (hp : p.block = b ∨ w.heap.size ≤ p.block) (u : Value) : Only b w (w1.setCell p u) :=
  ⟨h.os, h.tape, h.output, by have := h.size; simpa [World.setCell] using this, fun k hk hb => by
    rw [Below.heap_setCell _ _ _ _ (by rcases hp with rfl | hp; exact hb; omega)]
    exact h.block k hk hb⟩
theorem Only.below {b B : Nat} {w w1 : World} (h : Only b w w1) (hb : B ≤ b) (hB : B ≤ w.heap.size) : Below B w w1 := ⟨h.os, h.tape, h.output, h.size, fun k hk => h.block k (by omega) (by omega)⟩
theorem Only.keep {b : Nat} {w w1 : World} (h : Only b w w1) {c : Nat} {o : Obj} (hc : w.heap[c]? = some o) (hne : c ≠ b) : w1.heap[c]? = some o := by
  rw [h.block c (Array.getElem?_eq_some_iff.1 hc).1 hne]
  exact hc

theorem blk_lt {w : World} {c : Nat} {o : Obj} (hc : w.heap[c]? = some o) : c < w.heap.size := (Array.getElem?_eq_some_iff.1 hc).1
theorem blk_cell {w : World} {g : Nat} {cs : Array Value} {E : TypeId} (h : w.heap[g]? = some (.cells cs E (0, 0))) (i : Nat) : w.cell? ⟨g, i, none⟩ = cs[i]? := cell_of_row w g i cs E (0, 0) h
theorem blk_free {w : World} {g : Nat} {cs : Array Value} {E : TypeId} (h : w.heap[g]? = some (.cells cs E (0, 0))) (i : Nat) : w.frozen? ⟨g, i, none⟩ = false := frozen_of_row w g i cs E h
theorem blk_set {w : World} {g i : Nat} {cs : Array Value} {E : TypeId} {u : Value} (h : w.heap[g]? = some (.cells cs E (0, 0))) : (w.setCell ⟨g, i, none⟩ u).heap[g]? = some (.cells (cs.setIfInBounds i u) E (0, 0)) := heap_setCell_same w g i cs E u h
theorem blk_other {w : World} {g : Nat} {p : Addr} {o : Obj} {u : Value} (h : w.heap[g]? = some o) (hne : g ≠ p.block) : (w.setCell p u).heap[g]? = some o := by
  rw [Below.heap_setCell _ _ _ _ hne]
  exact h
theorem blk_alloc {w : World} {g : Nat} {o p : Obj} (h : w.heap[g]? = some o) : (w.alloc p).heap[g]? = some o := by
  rw [Below.heap_alloc _ _ _ (blk_lt h)]
  exact h
theorem blk_new (w : World) (o : Obj) : (w.alloc o).heap[w.heap.size]? = some o := by
  show (w.heap.push o)[w.heap.size]? = _
  simp

set_option maxRecDepth 100000 in
set_option maxHeartbeats 800000 in
theorem once_first (b off : Nat) (f : FuncId) (caps : Array Value) (R : World → Prop) (w : World) (hcf : ∀ args w, (callFunc f args).run Tryz.prog w = .ok (.enter f args) w)
    (h0 : w.cell? ⟨b, off, none⟩ = some (.int .u32 0)) (h1 : w.cell? ⟨b, off + 1, none⟩ = some (.int .i32 0)) (f1 : w.frozen? ⟨b, off + 1, none⟩ = false)
    (hf : Calls Tryz.prog f caps (w.setCell ⟨b, off + 1, none⟩ (.int .i32 1)) fun e w2 => e = .returned (.tuple #[]) ∧ R w2)
    (hR : ∀ w2, R w2 → w2.cell? ⟨b, off, none⟩ = some (.int .u32 0) ∧ w2.cell? ⟨b, off + 1, none⟩ = some (.int .i32 1) ∧ w2.frozen? ⟨b, off, none⟩ = false ∧ w2.frozen? ⟨b, off + 1, none⟩ = false) :
    Calls Tryz.prog 43 #[.pointer (some ⟨b, off, none⟩), .func (.func f) #[] caps] w (OnceLeaves b off R) := by
  have HS := Lib.hid (slow_any b off f caps R w hcf h0 h1 f1 hf hR)
  have hl := run_call_load (P := Tryz.prog) Tryz.func80 (by kernel_rfl) (by kernel_rfl) (by kernel_rfl) .u32 (by kernel_rfl) h0
  have hnot : ∀ (x : Bool) (w : World), (Op.unary .not (.bool x)).run Tryz.prog w = .ok (.bool (!x)) w := fun _ _ => rfl
  clear hf hR
  go_enter Tryz.func43, Tryz.ntmps43
  go_wp2_with (first | (go_at_call 61; refine HS.out.mono ?_; rintro e w' ⟨rfl, w2, hr, rfl⟩) | (go_at_call 60; go_in))
  go_end0
  exact ⟨rfl, w2, hr, rfl⟩

set_option maxRecDepth 100000 in
set_option maxHeartbeats 800000 in
theorem once_done (b off : Nat) (d : Int) (hd : ¬ d = 0) (fv : Value) (w : World) (h0 : w.cell? ⟨b, off, none⟩ = some (.int .u32 d)) :
    Calls Tryz.prog 43 #[.pointer (some ⟨b, off, none⟩), fv] w fun e w' => e = .returned (.tuple #[]) ∧ w = w' := by
  have hl := run_call_load (P := Tryz.prog) Tryz.func80 (by kernel_rfl) (by kernel_rfl) (by kernel_rfl) .u32 (by kernel_rfl) h0
  have hnot : ∀ (x : Bool) (w : World), (Op.unary .not (.bool x)).run Tryz.prog w = .ok (.bool (!x)) w := fun _ _ => rfl
  have hd' : (d != 0) = true := by simp [hd]
  go_enter Tryz.func43, Tryz.ntmps43
  go_wp2
  go_end0
  exact ⟨rfl, rfl⟩

theorem wrap_small {x : Int} (h0 : -4611686018427387904 ≤ x) (h1 : x ≤ 4611686018427387904) : IntKind.i64.wrap x = x := IntWalk.i64_in x (by omega)

set_option maxRecDepth 100000 in
set_option maxHeartbeats 800000 in
theorem i64_add (b off : Nat) (n d : Int) (w : World) (hc : w.cell? ⟨b, off, none⟩ = some (.int .i64 n)) (hz : w.frozen? ⟨b, off, none⟩ = false) (h0 : -4611686018427387904 ≤ n + d) (h1 : n + d ≤ 4611686018427387904) :
    Calls Tryz.prog 65 #[.pointer (some ⟨b, off, none⟩), .int .i64 d] w fun e w' => e = .returned (.int .i64 (n + d)) ∧ w.setCell ⟨b, off, none⟩ (.int .i64 (n + d)) = w' := by
  have hadd := run_call_add (P := Tryz.prog) Tryz.func85 (by kernel_rfl) (by kernel_rfl) (by kernel_rfl) .i64 (by kernel_rfl) (y := d) (s := n + d) hc hz (by simp [go_sem]; exact wrap_small h0 h1)
  go_enter Tryz.func65, Tryz.ntmps65
  go_wp2
  go_ret
  exact ⟨rfl, rfl⟩

end Go.Proofs.YtoidmakaijkglaaGreat
