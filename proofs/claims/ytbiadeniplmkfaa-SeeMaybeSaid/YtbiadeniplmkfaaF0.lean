/- What came in, opened: slices of integers, slices of told transactions. -/
import Derived.Test.YtbiadeniplmkfaaA2
import Derived.ProofKit
import Derived.OpenShut
import Derived.ChangeOld
import Derived.Deep.Slices
import Derived.Deep.Strs
import Derived.Lib.SmallJoins
namespace Go.Proofs.Ytbiadeniplmkfaa
open Go.ChangeShapes Go.WideShapes Go.ChangeAt Go.RowKit Go.Deep

theorem knobOwn : ownKnob Try.prog.godebug = none := by kernel_rfl
theorem progLaid : laidOutB Try.prog = true := by kernel_rfl

theorem cell_lt {w : World} {a : Addr} {v : Value} (h : w.cell? a = some v) : a.block < w.heap.size := by
  refine Decidable.byContradiction fun hn => ?_
  have : w.heap[a.block]? = none := Array.getElem?_eq_none (by omega)
  simp [World.cell?, this] at h

section
variable {H : Type} {enc : TypeId × Value → H} {W : World} {base : Nat} {spare : Nat → Bool} {held : Bool}

theorem open_row {k : IntKind} {t e : TypeId} {a : Option Addr} {len cap : Nat} {d : DataW H} {p : List MemPlace} (ht : Try.prog.underlying t = some (.slice e)) (he : Try.prog.underlying e = some (.int k)) (hc : Try.prog.cellsOf e = 1)
    (h : DataW.Trod enc Try.prog W base spare held t (.slice a len cap) d p) : ∃ l : List Int, l.length = len ∧ RowAt k W (.slice a len cap) l ∧ ∀ x ∈ l, (Lit.int k x).wf = true := by
  obtain ⟨fuel, hf⟩ := h
  rcases open_ints ht he hc hf with ⟨hcs, _⟩ | ⟨x, l, c, zs, hcs, _, hl, hm, hz, _, hcell, hwz⟩
  · simp [Value.cells] at hcs
    obtain ⟨rfl, rfl, rfl⟩ := hcs
    exact ⟨[], rfl, RowAt.nil _ _, fun x hx => by simp at hx⟩
  · simp [Value.cells] at hcs
    obtain ⟨rfl, rfl, rfl⟩ := hcs
    have hlen : (zs.take len).length = len := by rw [List.length_take]; split at hz <;> omega
    refine ⟨zs.take len, hlen, ?_, fun y hy => hwz y (List.mem_of_mem_take hy)⟩
    by_cases h0 : len = 0
    · subst h0
      exact .inl ⟨by simp, _, _, rfl, fun h => by cases h⟩
    · obtain ⟨b, off, rfl, hc2⟩ := ints_at hcell (by split at hz <;> omega)
      refine .inr ⟨b, off, cap, by rw [hlen], by omega, by omega, ?_, fun i hi => ?_⟩
      · have := hc2 0 (by split at hz <;> omega)
        exact cell_lt this
      · rw [hlen] at hi
        rw [hc2 i (by split at hz <;> omega)]
        simp [List.getD_eq_getElem?_getD, hi]

theorem five {cs : List Value} (h : cs.length = 5) : ∃ c0 c1 c2 c3 c4, cs = [c0, c1, c2, c3, c4] := by
  match cs, h with
  | [c0, c1, c2, c3, c4], _ => exact ⟨c0, c1, c2, c3, c4, rfl⟩

def Tx.wf (t : Tx) : Prop := (Lit.int .i64 t.lv).wf = true ∧ (Lit.int .i64 t.st).wf = true ∧ (Lit.int .u64 t.bg).wf = true ∧ (Lit.int .u64 t.en).wf = true

theorem oth_cells {n : Nat} {cs : List Value} {x : DataW H × List MemPlace} (h : DataW.trod enc Try.prog W base spare held n 56 cs = some x) :
    ∃ o : Oth, cs = [.bool o.there, .int .i64 o.tx.lv, .int .i64 o.tx.st, .int .u64 o.tx.bg, .int .u64 o.tx.en] ∧ o.tx.wf := by
  obtain ⟨y0, y1, m, _, hl, h0, h1⟩ := trod_struct2 (Try.underlying56) h
  rw [show Try.prog.cellsOf 56 = 5 by kernel_rfl] at hl
  obtain ⟨c0, c1, c2, c3, c4, rfl⟩ := five hl
  simp only [show Try.prog.cellsOf 4 = 1 by kernel_rfl, show Try.prog.cellsOf 24 = 4 by kernel_rfl] at h0 h1
  obtain ⟨b, e0, _⟩ := DataW.trod_bool Try.underlying4 h0
  obtain ⟨z0, z1, z2, z3, m2, _, _, g0, g1, g2, g3⟩ := Go.Joins.trod_struct4 (Try.underlying24) h1
  simp only [show Try.prog.cellsOf 3 = 1 by kernel_rfl, show Try.prog.cellsOf 22 = 1 by kernel_rfl] at g0 g1 g2 g3
  obtain ⟨a0, f0, _, w0⟩ := DataW.trod_int Try.underlying3 g0
  obtain ⟨a1, f1, _, w1⟩ := DataW.trod_int Try.underlying3 g1
  obtain ⟨a2, f2, _, w2⟩ := DataW.trod_int Try.underlying22 g2
  obtain ⟨a3, f3, _, w3⟩ := DataW.trod_int Try.underlying22 g3
  simp at e0 f0 f1 f2 f3
  subst e0 f0 f1 f2 f3
  exact ⟨⟨b, a0, a1, a2, a3⟩, rfl, w0, w1, w2, w3⟩

instance : Inhabited Oth := ⟨zeroOth⟩

theorem zero_wf : Tx.zero.wf := ⟨by decide, by decide, by decide, by decide⟩

theorem open_oth {a : Option Addr} {len cap : Nat} {d : DataW H} {p : List MemPlace}
    (h : DataW.Trod enc Try.prog W base spare held 33 (.slice a len cap) d p) : ∃ l : List Oth, l.length = len ∧ OthAt W (.slice a len cap) l ∧ ∀ i, (l.getD i zeroOth).tx.wf := by
  obtain ⟨fuel, hf⟩ := h
  rcases open_slice Try.underlying33 hf with ⟨hcs, _⟩ | ⟨x, l, c, m, n, D, Pl, hcs, _, hl, hm, hmm, _, hel⟩
  · simp [Value.cells] at hcs
    obtain ⟨rfl, rfl, rfl⟩ := hcs
    exact ⟨[], rfl, .inl ⟨rfl, _, _, rfl, fun _ => rfl⟩, fun i => by rw [List.getD_nil]; exact zero_wf⟩
  · simp [Value.cells] at hcs
    obtain ⟨rfl, rfl, rfl⟩ := hcs
    by_cases h0 : len = 0
    · subst h0
      exact ⟨[], rfl, .inl ⟨rfl, _, _, rfl, fun h => by cases h⟩, fun i => by rw [List.getD_nil]; exact zero_wf⟩
    · have hlm : len ≤ m := by rw [hmm]; split <;> omega
      have hel2 : ∀ i, i < len → ∃ o : Oth, o.tx.wf ∧ W.cells? base (x.add (i * 5)) 5 = some [.bool o.there, .int .i64 o.tx.lv, .int .i64 o.tx.st, .int .u64 o.tx.bg, .int .u64 o.tx.en] := by
        intro i hi
        obtain ⟨cs', h1, h2⟩ := hel i (by omega)
        rw [show Try.prog.cellsOf 56 = 5 by kernel_rfl] at h1
        obtain ⟨o, rfl, hw⟩ := oth_cells h2
        exact ⟨o, hw, h1⟩
      obtain ⟨f, hfn⟩ := choose_lt hel2
      obtain ⟨b, off, spot⟩ := x
      have hspot : spot = none := by
        have h1 := (World.cells?_some (hfn 0 (by omega)).2).2.2 0 (by omega)
        simp [Addr.add] at h1
        simpa [Addr.add] using World.cell?_spot h1
      subst hspot
      refine ⟨(List.range len).map f, by simp, .inr ⟨b, off, cap, by simp, by simp; omega, by simp; omega, ?_, fun i hi => ?_⟩, fun i => ?_⟩
      · have h1 := (World.cells?_some (hfn 0 (by omega)).2).2.2 0 (by omega)
        exact cell_lt h1
      · simp at hi
        have hg : ((List.range len).map f).getD i zeroOth = f i := by simp [List.getD_eq_getElem?_getD, hi]
        rw [hg]
        have h1 := (World.cells?_some (hfn i hi).2).2.2
        have e : ∀ j, ((⟨b, off, none⟩ : Addr).add (i * 5)).add j = ⟨b, off + i * 5 + j, none⟩ := fun j => by rw [add_add, add_plain, Nat.add_assoc]
        simp only [e] at h1
        exact ⟨h1 0 (by omega), h1 1 (by omega), h1 2 (by omega), h1 3 (by omega), h1 4 (by omega)⟩
      · by_cases hi : i < len
        · have hg : ((List.range len).map f).getD i zeroOth = f i := by simp [List.getD_eq_getElem?_getD, hi]
          rw [hg]
          exact (hfn i hi).1
        · have hg : ((List.range len).map f).getD i zeroOth = zeroOth := by simp [List.getD_eq_getElem?_getD, hi]
          rw [hg]
          exact zero_wf
end
end Go.Proofs.Ytbiadeniplmkfaa
