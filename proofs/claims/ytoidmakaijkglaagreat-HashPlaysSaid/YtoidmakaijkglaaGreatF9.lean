/- A slice of structs of two one-cell numbers, opened: []vinculumlaw10.Op. -/
import Derived.Test.YtoidmakaijkglaaGreatF1
import Derived.ChangeOld
import Derived.Deep.Slices
import Derived.Lib.SmallJoins
namespace Go.Proofs.YtoidmakaijkglaaGreat
open Go.ChangeShapes Go.WideShapes Go.ChangeAt Go.RowKit Go.Deep

structure Op2 where
  kind : Int
  at_ : Int
def op0 : Op2 := ⟨0, 0⟩
instance : Inhabited Op2 := ⟨op0⟩
def Op2.wf (o : Op2) : Prop := (Lit.int .i64 o.kind).wf = true ∧ (Lit.int .i64 o.at_).wf = true
/-- A slice of such structs, as it came in. -/
def OpAt (w : World) (v : Value) (l : List Op2) : Prop := (l.length = 0 ∧ ∃ a cap, v = .slice a 0 cap ∧ (a = none → cap = 0)) ∨
  ∃ b off cap, v = .slice (some ⟨b, off, none⟩) l.length cap ∧ l.length ≤ cap ∧ b < w.heap.size ∧ ∀ i, i < l.length → w.cell? ⟨b, off + i * 2, none⟩ = some (.int .i64 (l.getD i op0).kind) ∧ w.cell? ⟨b, off + i * 2 + 1, none⟩ = some (.int .i64 (l.getD i op0).at_)
theorem two_cs {cs : List Value} (h : cs.length = 2) : ∃ c0 c1, cs = [c0, c1] := by
  match cs, h with
  | [c0, c1], _ => exact ⟨c0, c1, rfl⟩
section
variable {H : Type} {enc : TypeId × Value → H} {W : World} {base : Nat} {spare : Nat → Bool} {held : Bool}

theorem open_ops {a : Option Addr} {len cap : Nat} {d : DataW H} {p : List MemPlace}
    (h : DataW.Trod enc Tryz.prog W base spare held 45 (.slice a len cap) d p) : ∃ l : List Op2, l.length = len ∧ OpAt W (.slice a len cap) l ∧ ∀ i, (l.getD i op0).wf := by
  obtain ⟨fuel, hf⟩ := h
  rcases open_slice Tryz.underlying45 hf with ⟨hcs, _⟩ | ⟨x, l, c, m, n, D, Pl, hcs, _, hl, hm, hmm, _, hel⟩
  · simp [Value.cells] at hcs
    obtain ⟨rfl, rfl, rfl⟩ := hcs
    exact ⟨[], rfl, .inl ⟨rfl, _, _, rfl, fun _ => rfl⟩, fun i => by rw [List.getD_nil]; exact ⟨by decide, by decide⟩⟩
  · simp [Value.cells] at hcs
    obtain ⟨rfl, rfl, rfl⟩ := hcs
    by_cases h0 : len = 0
    · subst h0
      exact ⟨[], rfl, .inl ⟨rfl, _, _, rfl, fun h => by cases h⟩, fun i => by rw [List.getD_nil]; exact ⟨by decide, by decide⟩⟩
    · have hlm : len ≤ m := by rw [hmm]; split <;> omega
      have hel2 : ∀ i, i < len → ∃ o : Op2, o.wf ∧ W.cells? base (x.add (i * 2)) 2 = some [.int .i64 o.kind, .int .i64 o.at_] := by
        intro i hi
        obtain ⟨cs', h1, h2⟩ := hel i (by omega)
        rw [show Tryz.prog.cellsOf 49 = 2 by kernel_rfl] at h1
        obtain ⟨z0, z1, m2, _, hl3, g0, g1⟩ := trod_struct2 (Tryz.underlying49) h2
        rw [show Tryz.prog.cellsOf 49 = 2 by kernel_rfl] at hl3
        obtain ⟨c0, c1, rfl⟩ := two_cs hl3
        simp only [show Tryz.prog.cellsOf 3 = 1 by kernel_rfl] at g0 g1
        obtain ⟨a0, f0, _, w0⟩ := DataW.trod_int Tryz.underlying3 g0
        obtain ⟨a1, f1, _, w1⟩ := DataW.trod_int Tryz.underlying3 g1
        simp at f0 f1
        subst f0 f1
        exact ⟨⟨a0, a1⟩, ⟨w0, w1⟩, h1⟩
      obtain ⟨f, hfn⟩ := choose_lt hel2
      obtain ⟨b, off, spot⟩ := x
      have hspot : spot = none := by
        have h1 := (World.cells?_some (hfn 0 (by omega)).2).2.2 0 (by omega)
        simp [Addr.add] at h1
        simpa [Addr.add] using World.cell?_spot h1
      subst hspot
      refine ⟨(List.range len).map f, by simp, .inr ⟨b, off, cap, by simp, by simp; omega, ?_, fun i hi => ?_⟩, fun i => ?_⟩
      · have h1 := (World.cells?_some (hfn 0 (by omega)).2).2.2 0 (by omega)
        exact cell_lt h1
      · simp at hi
        have hg : ((List.range len).map f).getD i op0 = f i := by simp [List.getD_eq_getElem?_getD, hi]
        rw [hg]
        have h1 := (World.cells?_some (hfn i hi).2).2.2
        have e : ∀ j, ((⟨b, off, none⟩ : Addr).add (i * 2)).add j = ⟨b, off + i * 2 + j, none⟩ := fun j => by rw [add_add, add_plain, Nat.add_assoc]
        simp only [e] at h1
        exact ⟨h1 0 (by omega), h1 1 (by omega)⟩
      · by_cases hi : i < len
        · have hg : ((List.range len).map f).getD i op0 = f i := by simp [List.getD_eq_getElem?_getD, hi]
          rw [hg]
          exact (hfn i hi).1
        · have hg : ((List.range len).map f).getD i op0 = op0 := by simp [List.getD_eq_getElem?_getD, hi]
          rw [hg]
          exact ⟨by decide, by decide⟩
end
end Go.Proofs.YtoidmakaijkglaaGreat
