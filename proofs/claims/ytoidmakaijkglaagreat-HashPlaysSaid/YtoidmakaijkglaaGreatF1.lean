/- Frames for laws without tellers: slices of integers opened; rows in memory. -/
import Derived.Test.YtoidmakaijkglaaGreatRows
import Derived.WalkKit
import Derived.WalkSpells
import Derived.WalkLawsBesides
import Derived.LoopTactic
import Derived.Lib.Hide
import Derived.Deep.QuietTactic
import Derived.BigQuiet
import Derived.ProofKit
import Derived.OpenShut
import Derived.ChangeOld
import Derived.Deep.Slices
import Derived.Deep.Strs
import Derived.Lib.SmallJoins
namespace Go.Proofs.YtoidmakaijkglaaGreat
open Go.ChangeShapes Go.WideShapes Go.ChangeAt Go.RowKit Go.Deep

theorem bl_alloc {a w : World} (h : Below a.heap.size a w) (o : Obj) : Below a.heap.size a (w.alloc o) := h.alloc h.size o
theorem bl_next {a w w1 : World} (h : Below a.heap.size a w) (k : Below w.heap.size w w1) : Below a.heap.size a w1 := h.trans (k.mono h.size)
theorem ret_bool {a b : Bool} (h : a = b) : Ending.returned (.bool a) = .returned (.bool b) := by rw [h]
theorem ret_int {k : IntKind} {a b : Int} (h : a = b) : Ending.returned (.int k a) = .returned (.int k b) := by rw [h]

/-- A slice of integers of one kind that reads as a list. -/
def RowAt (k : IntKind) (w : World) (v : Value) (l : List Int) : Prop := (l = [] ∧ ∃ a cap, v = .slice a 0 cap ∧ (a = none → cap = 0)) ∨ ∃ b off cap, v = .slice (some ⟨b, off, none⟩) l.length cap ∧ l.length ≤ cap ∧ l.length ≤ maxLen ∧ b < w.heap.size ∧ ∀ i, i < l.length → w.cell? ⟨b, off + i, none⟩ = some (.int k (l.getD i 0))
theorem RowAt.later {k : IntKind} {w w1 : World} {v : Value} {l : List Int} (h : RowAt k w v l) (hb : Below w.heap.size w w1) : RowAt k w1 v l := by
  rcases h with h | ⟨b, off, cap, hv, hlc, hm, hl, hc⟩
  · exact .inl h
  · exact .inr ⟨b, off, cap, hv, hlc, hm, Nat.lt_of_lt_of_le hl hb.size, fun i hi => (hb.cell (p := ⟨b, off + i, none⟩) hl).trans (hc i hi)⟩
theorem RowAt.nil (k : IntKind) (w : World) : RowAt k w (.slice none 0 0) [] := .inl ⟨rfl, _, _, rfl, fun _ => rfl⟩
theorem RowAt.one (k : IntKind) (w : World) (x : Int) (T : TypeId) : RowAt k (w.alloc (.cells #[.int k x] T)) (.slice (some ⟨w.heap.size, 0, none⟩) 1 1) [x] := by
  refine .inr ⟨w.heap.size, 0, 1, rfl, by simp, by simp [maxLen], by simp, fun i hi => ?_⟩
  have : i = 0 := by simp at hi; omega
  subst this
  simp

theorem knobOwn : ownKnob Tryz.prog.godebug = none := by kernel_rfl
theorem progLaid : laidOutB Tryz.prog = true := by kernel_rfl

theorem cell_lt {w : World} {a : Addr} {v : Value} (h : w.cell? a = some v) : a.block < w.heap.size := by
  refine Decidable.byContradiction fun hn => ?_
  have : w.heap[a.block]? = none := Array.getElem?_eq_none (by omega)
  simp [World.cell?, this] at h

section
variable {H : Type} {enc : TypeId × Value → H} {W : World} {base : Nat} {spare : Nat → Bool} {held : Bool}

theorem open_row {k : IntKind} {t e : TypeId} {a : Option Addr} {len cap : Nat} {d : DataW H} {p : List MemPlace} (ht : Tryz.prog.underlying t = some (.slice e)) (he : Tryz.prog.underlying e = some (.int k)) (hc : Tryz.prog.cellsOf e = 1)
    (h : DataW.Trod enc Tryz.prog W base spare held t (.slice a len cap) d p) : ∃ l : List Int, l.length = len ∧ RowAt k W (.slice a len cap) l ∧ ∀ x ∈ l, (Lit.int k x).wf = true := by
  obtain ⟨fuel, hf⟩ := h
  rcases open_ints ht he hc hf with ⟨hcs, _⟩ | ⟨x, l, c, zs, hcs, _, hl, hm, hz, _, hcell, hwz⟩
  · simp [Value.cells] at hcs
    obtain ⟨rfl, rfl, rfl⟩ := hcs
    exact ⟨[], rfl, RowAt.nil _ _, fun x hx => by simp at hx⟩
  · simp [Value.cells] at hcs
    obtain ⟨rfl, rfl, rfl⟩ := hcs
    have hlen : (zs.take len).length = len := by rw [List.length_take]; split at hz <;> omega
    refine ⟨zs.take len, hlen, ?_, fun y hy => hwz y (List.mem_of_mem_take hy)⟩
    by_cases h0 : len = 0
    · subst h0
      exact .inl ⟨by simp, _, _, rfl, fun h => by cases h⟩
    · obtain ⟨b, off, rfl, hc2⟩ := ints_at hcell (by split at hz <;> omega)
      refine .inr ⟨b, off, cap, by rw [hlen], by omega, by omega, ?_, fun i hi => ?_⟩
      · have := hc2 0 (by split at hz <;> omega)
        exact cell_lt this
      · rw [hlen] at hi
        rw [hc2 i (by split at hz <;> omega)]
        simp [List.getD_eq_getElem?_getD, hi]

end

theorem keep {W w1 : World} (hb : Below W.heap.size W w1) {b o : Nat} {v : Value} (hc : W.cell? ⟨b, o, none⟩ = some v) : w1.cell? ⟨b, o, none⟩ = some v := (hb.cell (p := ⟨b, o, none⟩) (cell_lt (a := ⟨b, o, none⟩) hc)).trans hc
end Go.Proofs.YtoidmakaijkglaaGreat
