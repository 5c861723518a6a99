/- A slice of structs of eight one-cell values, opened: []vinculumlaw6.Op. -/
import Derived.Test.YtjojbfgppgnmjaaF1
import Derived.ChangeOld
import Derived.Deep.Slices
import Derived.Lib.SmallJoins
namespace Go.Proofs.Ytjojbfgppgnmjaa
open Go.ChangeShapes Go.WideShapes Go.ChangeAt Go.RowKit Go.Deep

structure Op8 where
  kind : Int
  n : Int
  key : Int
  val : Int
  raw : Bool
  link : Int
  old : Int
  nw : Int
def op8 : Op8 := ⟨0, 0, 0, 0, false, 0, 0, 0⟩
instance : Inhabited Op8 := ⟨op8⟩
def Op8.wf (o : Op8) : Prop := (Lit.int .i64 o.kind).wf = true ∧ (Lit.int .i64 o.n).wf = true ∧ (Lit.int .i64 o.key).wf = true ∧ (Lit.int .i64 o.val).wf = true ∧ (Lit.int .u64 o.link).wf = true ∧ (Lit.int .u64 o.old).wf = true ∧ (Lit.int .u64 o.nw).wf = true
def Op8.cells (o : Op8) : List Value := [.int .i64 o.kind, .int .i64 o.n, .int .i64 o.key, .int .i64 o.val, .bool o.raw, .int .u64 o.link, .int .u64 o.old, .int .u64 o.nw]
theorem op8_wf : op8.wf := ⟨by decide, by decide, by decide, by decide, by decide, by decide, by decide⟩
/-- A slice of such structs, as it came in. -/
def OpAt8 (w : World) (v : Value) (l : List Op8) : Prop := (l.length = 0 ∧ ∃ a cap, v = .slice a 0 cap ∧ (a = none → cap = 0)) ∨
  ∃ b off cap, v = .slice (some ⟨b, off, none⟩) l.length cap ∧ l.length ≤ cap ∧ b < w.heap.size ∧ ∀ i, i < l.length → ∀ q, q < 8 → w.cell? ⟨b, off + i * 8 + q, none⟩ = (l.getD i op8).cells[q]?
theorem eight {α : Type} {cs : List α} (h : cs.length = 8) : ∃ c0 c1 c2 c3 c4 c5 c6 c7, cs = [c0, c1, c2, c3, c4, c5, c6, c7] := by
  match cs, h with
  | [c0, c1, c2, c3, c4, c5, c6, c7], _ => exact ⟨c0, c1, c2, c3, c4, c5, c6, c7, rfl⟩
section
variable {H : Type} {enc : TypeId × Value → H} {W : World} {base : Nat} {spare : Nat → Bool} {held : Bool}

theorem open_ops8 {a : Option Addr} {len cap : Nat} {d : DataW H} {p : List MemPlace}
    (h : DataW.Trod enc Try.prog W base spare held 46 (.slice a len cap) d p) : ∃ l : List Op8, l.length = len ∧ OpAt8 W (.slice a len cap) l ∧ ∀ i, (l.getD i op8).wf := by
  obtain ⟨fuel, hf⟩ := h
  rcases open_slice Try.underlying46 hf with ⟨hcs, _⟩ | ⟨x, l, c, m, n, D, Pl, hcs, _, hl, hm, hmm, _, hel⟩
  · simp [Value.cells] at hcs
    obtain ⟨rfl, rfl, rfl⟩ := hcs
    exact ⟨[], rfl, .inl ⟨rfl, _, _, rfl, fun _ => rfl⟩, fun i => by rw [List.getD_nil]; exact op8_wf⟩
  · simp [Value.cells] at hcs
    obtain ⟨rfl, rfl, rfl⟩ := hcs
    by_cases h0 : len = 0
    · subst h0
      exact ⟨[], rfl, .inl ⟨rfl, _, _, rfl, fun h => by cases h⟩, fun i => by rw [List.getD_nil]; exact op8_wf⟩
    · have hlm : len ≤ m := by rw [hmm]; split <;> omega
      have hel2 : ∀ i, i < len → ∃ o : Op8, o.wf ∧ W.cells? base (x.add (i * 8)) 8 = some o.cells := by
        intro i hi
        obtain ⟨cs', h1, h2⟩ := hel i (by omega)
        rw [show Try.prog.cellsOf 51 = 8 by kernel_rfl] at h1
        obtain ⟨xs, m2, _, _, hl3, hlen, hg⟩ := DataW.trod_struct (Try.underlying51) h2
        rw [show Try.prog.cellsOf 51 = 8 by kernel_rfl] at hl3
        obtain ⟨c0, c1, c2, c3, c4, c5, c6, c7, rfl⟩ := eight hl3
        obtain ⟨y0, y1, y2, y3, y4, y5, y6, y7, rfl⟩ := eight (by simpa using hlen)
        have g0 := hg 0 ⟨_, _, _, _, _, _, _⟩ rfl
        have g1 := hg 1 ⟨_, _, _, _, _, _, _⟩ rfl
        have g2 := hg 2 ⟨_, _, _, _, _, _, _⟩ rfl
        have g3 := hg 3 ⟨_, _, _, _, _, _, _⟩ rfl
        have g4 := hg 4 ⟨_, _, _, _, _, _, _⟩ rfl
        have g5 := hg 5 ⟨_, _, _, _, _, _, _⟩ rfl
        have g6 := hg 6 ⟨_, _, _, _, _, _, _⟩ rfl
        have g7 := hg 7 ⟨_, _, _, _, _, _, _⟩ rfl
        dsimp only at g0 g1 g2 g3 g4 g5 g6 g7
        rw [show Try.prog.cellsOf 3 = 1 by kernel_rfl] at g0 g1 g2 g3
        rw [show Try.prog.cellsOf 4 = 1 by kernel_rfl] at g4
        rw [show Try.prog.cellsOf 28 = 1 by kernel_rfl] at g5 g6 g7
        obtain ⟨a0, f0, _, w0⟩ := DataW.trod_int Try.underlying3 g0
        obtain ⟨a1, f1, _, w1⟩ := DataW.trod_int Try.underlying3 g1
        obtain ⟨a2, f2, _, w2⟩ := DataW.trod_int Try.underlying3 g2
        obtain ⟨a3, f3, _, w3⟩ := DataW.trod_int Try.underlying3 g3
        obtain ⟨a4, f4, _⟩ := DataW.trod_bool Try.underlying4 g4
        obtain ⟨a5, f5, _, w5⟩ := DataW.trod_int Try.underlying28 g5
        obtain ⟨a6, f6, _, w6⟩ := DataW.trod_int Try.underlying28 g6
        obtain ⟨a7, f7, _, w7⟩ := DataW.trod_int Try.underlying28 g7
        simp at f0 f1 f2 f3 f4 f5 f6 f7
        subst f0 f1 f2 f3 f4 f5 f6 f7
        exact ⟨⟨a0, a1, a2, a3, a4, a5, a6, a7⟩, ⟨w0, w1, w2, w3, w5, w6, w7⟩, h1⟩
      obtain ⟨f, hfn⟩ := choose_lt hel2
      obtain ⟨b, off, spot⟩ := x
      have hspot : spot = none := by
        have h1 := (World.cells?_some (hfn 0 (by omega)).2).2.2 0 (by omega)
        simp [Addr.add, Op8.cells] at h1
        simpa [Addr.add] using World.cell?_spot h1
      subst hspot
      refine ⟨(List.range len).map f, by simp, .inr ⟨b, off, cap, by simp, by simp; omega, ?_, fun i hi q hq => ?_⟩, fun i => ?_⟩
      · have h1 := (World.cells?_some (hfn 0 (by omega)).2).2.2 0 (by omega)
        exact cell_lt h1
      · simp at hi
        have hg : ((List.range len).map f).getD i op8 = f i := by simp [List.getD_eq_getElem?_getD, hi]
        rw [hg]
        have h1 := (World.cells?_some (hfn i hi).2).2.2
        have e : ∀ j, ((⟨b, off, none⟩ : Addr).add (i * 8)).add j = ⟨b, off + i * 8 + j, none⟩ := fun j => by rw [add_add, add_plain, Nat.add_assoc]
        simp only [e] at h1
        exact h1 q (by omega)
      · by_cases hi : i < len
        · have hg : ((List.range len).map f).getD i op8 = f i := by simp [List.getD_eq_getElem?_getD, hi]
          rw [hg]
          exact (hfn i hi).1
        · have hg : ((List.range len).map f).getD i op8 = op8 := by simp [List.getD_eq_getElem?_getD, hi]
          rw [hg]
          exact op8_wf
end
end Go.Proofs.Ytjojbfgppgnmjaa
