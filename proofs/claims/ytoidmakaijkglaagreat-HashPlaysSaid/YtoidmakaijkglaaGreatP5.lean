/- The pool's functions: All; what stands in vinculumlaw3 beside the laws. -/
import Derived.Test.YtoidmakaijkglaaGreatP4
import Derived.Outline
namespace Go.Proofs.YtoidmakaijkglaaGreat
open Go.RowKit

def PS.allTo (s : PS) : Nat → List Int
  | 0 => []
  | k + 1 => s.allTo k ++ (if (s.sl.getD k slot0).taken then [s.link k] else [])
def PS.all' (s : PS) : List Int := s.allTo s.sl.length
theorem allTo_yes {s : PS} {k : Nat} (h : (s.sl.getD k slot0).taken = true) : s.allTo (k + 1) = s.allTo k ++ [s.link k] := by rw [PS.allTo, if_pos h]
theorem allTo_no {s : PS} {k : Nat} (h : (s.sl.getD k slot0).taken = false) : s.allTo (k + 1) = s.allTo k := by rw [PS.allTo, h]; simp
theorem allTo_len (s : PS) (k : Nat) : (s.allTo k).length ≤ k := by
  induction k with
  | zero => simp [PS.allTo]
  | succ k ih =>
    rw [PS.allTo]
    split <;> simp <;> omega
theorem getD_take {l : List Slot} {i k : Nat} (h : i < k) : (l.take k).getD i slot0 = l.getD i slot0 := by
  simp [List.getD_eq_getElem?_getD, List.getElem?_take_of_lt h]
theorem allTo_cnt (s : PS) (k : Nat) (h : k ≤ s.sl.length) : (s.allTo k).length = cnt (s.sl.take k) := by
  induction k with
  | zero => simp [PS.allTo, cnt]
  | succ k ih =>
    have e : s.sl.take (k + 1) = s.sl.take k ++ [s.sl.getD k slot0] := by
      rw [List.take_add_one]
      simp [List.getD_eq_getElem?_getD, show k < s.sl.length by omega]
    rw [PS.allTo, e]
    unfold cnt at ih ⊢
    rw [List.countP_append, List.length_append, ih (by omega)]
    generalize s.sl.getD k slot0 = o
    obtain ⟨tg, tk⟩ := o
    cases tk <;> simp
theorem all_cnt (s : PS) : s.all'.length = cnt s.sl := by
  rw [PS.all', allTo_cnt _ _ (Nat.le_refl _), List.take_length]

/-- A new row of integers comes back. -/
def RetRow (k : IntKind) (E : TypeId) (l : List Int) (w : World) (e : Ending) (w' : World) : Prop := ∃ sv, e = .returned sv ∧ Owned k E w' sv l ∧ Below w.heap.size w w' ∧ ∀ g, sv.ownBlock = some g → w.heap.size ≤ g

theorem Left.at_ {w w' : World} {b : Nat} {F : Nat → Prop} {s : PS} (h : Left w b F s w') : ∃ F', PoolAt w' b F' s ∧ Mod F w w' ∧ Grows w F F' := h
theorem listed_listed (s : PS) : s.listed.listed = s.listed := listed_yes (listed_init s)
theorem link_take {s : PS} {l : List Int} {i j : Nat} (hi : i < s.sl.length) : (s.take l i).link j = s.link j := by
  unfold PS.link PS.take
  by_cases h : i = j
  · subst h
    simp [List.getD_eq_getElem?_getD, hi]
  · simp [List.getD_eq_getElem?_getD, List.getElem?_set_ne h]

/-- The pool of three, and what is done with it. -/
def pa : PS := ⟨9, [slot0, slot0, slot0], [], false, 0⟩
def pb : PS := ⟨9, [⟨0, true⟩, slot0, slot0], [2, 1], true, 0⟩
def pc : PS := ⟨9, [⟨1, false⟩, slot0, slot0], [2, 1, 0], true, 0⟩
def pd : PS := ⟨9, [⟨1, true⟩, slot0, slot0], [2, 1], true, 0⟩

end Go.Proofs.YtoidmakaijkglaaGreat
