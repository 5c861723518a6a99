/- A slice of slices of structs of four one-cell values, opened: [][]api.Op. -/
import Derived.Test.YtpohehialkgigaaLA
namespace Go.Proofs.Ytpohehialkgigaa
open Go.ChangeShapes Go.WideShapes Go.ChangeAt Go.RowKit Go.Deep
instance : Inhabited OpR := ⟨opr0⟩
def OpR.wf (o : OpR) : Prop := (Lit.int .i64 o.kind).wf = true ∧ (Lit.int .i64 o.val).wf = true
theorem four {α : Type} {cs : List α} (h : cs.length = 4) : ∃ c0 c1 c2 c3, cs = [c0, c1, c2, c3] := by
  match cs, h with
  | [c0, c1, c2, c3], _ => exact ⟨c0, c1, c2, c3, rfl⟩
section
variable {H : Type} {enc : TypeId × Value → H} {W : World} {base : Nat} {spare : Nat → Bool} {held : Bool}
theorem open_oprow {n : Nat} {rv : Value} {x : DataW H × List MemPlace} (hf : DataW.trod enc Try.prog W base spare held n 79 [rv] = some x) : ∃ l : List OpR, RowOps W rv l ∧ ∀ o ∈ l, o.wf := by
  rcases open_slice Try.underlying79 hf with ⟨hcs, _⟩ | ⟨x, len, cap, m, n, D, Pl, hcs, _, hl, hm, hmm, _, hel⟩
  · simp at hcs
    subst hcs
    exact ⟨[], .inl ⟨rfl, _, _, rfl, fun _ => rfl⟩, by simp⟩
  · simp at hcs
    subst hcs
    by_cases h0 : len = 0
    · subst h0
      exact ⟨[], .inl ⟨rfl, _, _, rfl, fun h => by cases h⟩, by simp⟩
    · have hlm : len ≤ m := by rw [hmm]; split <;> omega
      have hel2 : ∀ i, i < len → ∃ o : OpR, o.wf ∧ W.cells? base (x.add (i * 4)) 4 = some o.cells := by
        intro i hi
        obtain ⟨cs', h1, h2⟩ := hel i (by omega)
        rw [show Try.prog.cellsOf 29 = 4 by kernel_rfl] at h1
        obtain ⟨xs, m2, _, _, hl3, hlen, hg⟩ := DataW.trod_struct (Try.underlying29) h2
        rw [show Try.prog.cellsOf 29 = 4 by kernel_rfl] at hl3
        obtain ⟨c0, c1, c2, c3, rfl⟩ := four hl3
        obtain ⟨y0, y1, y2, y3, rfl⟩ := four (by simpa using hlen)
        have g0 := hg 0 ⟨_, _, _, _, _, _, _⟩ rfl
        have g1 := hg 1 ⟨_, _, _, _, _, _, _⟩ rfl
        have g2 := hg 2 ⟨_, _, _, _, _, _, _⟩ rfl
        have g3 := hg 3 ⟨_, _, _, _, _, _, _⟩ rfl
        dsimp only at g0 g1 g2 g3
        rw [show Try.prog.cellsOf 3 = 1 by kernel_rfl] at g0 g1 g2 g3
        obtain ⟨a0, f0, _, w0⟩ := DataW.trod_int Try.underlying3 g0
        obtain ⟨a1, f1, _, w1⟩ := DataW.trod_int Try.underlying3 g1
        obtain ⟨a2, f2, _, w2⟩ := DataW.trod_int Try.underlying3 g2
        obtain ⟨a3, f3, _, w3⟩ := DataW.trod_int Try.underlying3 g3
        simp at f0 f1 f2 f3
        subst f0 f1 f2 f3
        exact ⟨⟨a0, a1, a2, a3⟩, ⟨w0, w3⟩, h1⟩
      obtain ⟨f, hfn⟩ := choose_lt hel2
      obtain ⟨b, off, spot⟩ := x
      have hspot : spot = none := by
        have h1 := (World.cells?_some (hfn 0 (by omega)).2).2.2 0 (by omega)
        simp [Addr.add, OpR.cells] at h1
        simpa [Addr.add] using World.cell?_spot h1
      subst hspot
      refine ⟨(List.range len).map f, .inr ⟨b, off, cap, by simp, by simp; omega, ?_, fun i hi q hq => ?_⟩, fun o ho => ?_⟩
      · have h1 := (World.cells?_some (hfn 0 (by omega)).2).2.2 0 (by omega)
        exact cell_lt h1
      · simp at hi
        have hg : ((List.range len).map f).getD i opr0 = f i := by simp [List.getD_eq_getElem?_getD, hi]
        rw [hg]
        have h1 := (World.cells?_some (hfn i hi).2).2.2
        have e : ∀ j, ((⟨b, off, none⟩ : Addr).add (i * 4)).add j = ⟨b, off + i * 4 + j, none⟩ := fun j => by rw [add_add, add_plain, Nat.add_assoc]
        simp only [e] at h1
        exact h1 q (by omega)
      · obtain ⟨i, hi, rfl⟩ := List.mem_map.1 ho
        exact (hfn i (by simpa using hi)).1
theorem open_ops {a : Option Addr} {len cap : Nat} {d : DataW H} {p : List MemPlace}
    (h : DataW.Trod enc Try.prog W base spare held 50 (.slice a len cap) d p) : ∃ L : List (List OpR), L.length = len ∧ OpsAt W (.slice a len cap) L ∧ ∀ l ∈ L, ∀ o ∈ l, (Lit.int .i64 o.kind).wf = true ∧ (Lit.int .i64 o.val).wf = true := by
  obtain ⟨fuel, hf⟩ := h
  rcases open_slice1 Try.underlying50 (by kernel_rfl) hf with ⟨hcs, _⟩ | ⟨x, l, c, m, n, V, D, Pl, hcs, _, hl, hm, hmm, _, hel⟩
  · simp [Value.cells] at hcs
    obtain ⟨rfl, rfl, rfl⟩ := hcs
    exact ⟨[], rfl, .inl ⟨rfl, _, _, rfl, fun _ => rfl⟩, by simp⟩
  · simp [Value.cells] at hcs
    obtain ⟨rfl, rfl, rfl⟩ := hcs
    by_cases h0 : len = 0
    · subst h0
      exact ⟨[], rfl, .inl ⟨rfl, _, _, rfl, fun h => by cases h⟩, by simp⟩
    · have hlm : len ≤ m := by rw [hmm]; split <;> omega
      have hel2 : ∀ i, i < len → ∃ r : List OpR, (∀ o ∈ r, o.wf) ∧ ∃ rv, W.cell? (x.add i) = some rv ∧ RowOps W rv r := by
        intro i hi
        obtain ⟨h1, h2⟩ := hel i (by omega)
        obtain ⟨r, h3, h4⟩ := open_oprow h2
        exact ⟨r, h4, _, h1, h3⟩
      obtain ⟨f, hfn⟩ := choose_lt hel2
      obtain ⟨b, off, spot⟩ := x
      have hspot : spot = none := by
        obtain ⟨rv, h1, _⟩ := (hfn 0 (by omega)).2
        simpa [Addr.add] using World.cell?_spot h1
      subst hspot
      refine ⟨(List.range len).map f, by simp, .inr ⟨b, off, cap, by simp, by simp; omega, ?_, fun i hi => ?_⟩, fun r hr => ?_⟩
      · obtain ⟨rv, h1, _⟩ := (hfn 0 (by omega)).2
        exact cell_lt h1
      · simp at hi
        have hg : ((List.range len).map f).getD i [] = f i := by simp [List.getD_eq_getElem?_getD, hi]
        rw [hg]
        obtain ⟨rv, h1, h2⟩ := (hfn i hi).2
        exact ⟨rv, by rw [← add_plain]; exact h1, h2⟩
      · obtain ⟨i, hi, rfl⟩ := List.mem_map.1 hr
        exact (hfn i (by simpa using hi)).1
end
end Go.Proofs.Ytpohehialkgigaa
