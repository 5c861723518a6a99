/- Arrays of bools, in Sep. -/
import Derived.Test.YtoidmakaijkglaaGreatHQ
namespace Go.Proofs.YtoidmakaijkglaaGreat
open Go.RowKit
def boolCells (B : List Bool) : Array Value := (B.map Value.bool).toArray
theorem bc_at {B : List Bool} {i : Nat} (h : i < B.length) : (boolCells B)[i]? = some (.bool (B.getD i false)) := by
  simp [boolCells, List.getD_eq_getElem?_getD, h]
theorem bc_set (B : List Bool) (i : Nat) (v : Bool) : (boolCells B).setIfInBounds i (.bool v) = boolCells (B.set i v) := by
  simp [boolCells, List.map_set]
/-- An array of bools. -/
def obBools (g : Nat) (B : List Bool) (T : TypeId) : Ob := ⟨fun k => k = g, fun w => w.heap[g]? = some (.cells (boolCells B) T (0, 0)), fun w h k hk => by rw [hk]; exact blk_lt h, fun w w' G h hm ha => hm.keep h (ha g rfl)⟩
theorem bools_new (n : Nat) : (List.replicate n (Value.bool false)).toArray = boolCells (List.replicate n false) := by simp [boolCells]
theorem getD_set {B : List Bool} {i j : Nat} (h : i < B.length) (v : Bool) : (B.set i v).getD j false = if j = i then v else B.getD j false := by
  by_cases e : j = i
  · subst e
    simp [List.getD_eq_getElem?_getD, h]
  · rw [if_neg e]
    simp [List.getD_eq_getElem?_getD, List.getElem?_set_ne (fun h => e h.symm)]
section
variable {w0 w : World} {g : Nat} {B : List Bool} {T : TypeId} {L : List Ob}
theorem Sep.bools (h : Sep w0 w L) (n : Nat) (T : TypeId) : Sep w0 (w.alloc (.cells (boolCells (List.replicate n false)) T)) (obBools w.heap.size (List.replicate n false) T :: L) :=
  h.new (A := obBools w.heap.size (List.replicate n false) T) ((Below.refl _ _).alloc (Nat.le_refl _) _) (blk_new _ _) (fun _ hk => Nat.le_of_eq hk.symm)
theorem Sep.bools_set (h : Sep w0 w (obBools g B T :: L)) (i : Nat) (v : Bool) : Sep w0 (w.setCell ⟨g, i, none⟩ (.bool v)) (obBools g (B.set i v) T :: L) := by
  refine h.step (A' := obBools g (B.set i v) T) ?_ (Mod.setCell (F := fun k => k = g) (Mod.refl _ w) (p := ⟨g, i, none⟩) (.inl rfl) _) (Grows.refl _ _)
  show (w.setCell ⟨g, i, none⟩ (.bool v)).heap[g]? = _
  rw [blk_set h.head, bc_set]
theorem Sep.bools_at (h : Sep w0 w (obBools g B T :: L)) {i : Nat} (hi : i < B.length) : w.cell? ⟨g, i, none⟩ = some (.bool (B.getD i false)) := by
  rw [blk_cell h.head, bc_at hi]
end
theorem alloc_there (w : World) : (Instr.alloc 46 true (.tuple #[])).run Tryz.prog w = .ok (.pointer (some ⟨w.heap.size, 0, none⟩)) (w.alloc (.cells (boolCells (List.replicate 64 false)) 46)) := by
  have : ∀ w, (Instr.alloc 46 true (.tuple #[])).run Tryz.prog w = .ok (.pointer (some ⟨w.heap.size, 0, none⟩)) (w.alloc (.cells (List.replicate 64 (Value.bool false)).toArray 46)) := fun w => by kernel_rfl
  rw [this]
  simp [boolCells]
end Go.Proofs.YtoidmakaijkglaaGreat
