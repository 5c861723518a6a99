/- RecPlays: a slice of one version is built. -/
import Derived.Test.YtjojbfgppgnmjaaRA
import Derived.Great.BuildSlice
namespace Go.Proofs.Ytjojbfgppgnmjaa
open Go.RowKit
theorem wpList_buildVer {ops : Array Oper} {rest : List Oper} {o : Oper} {a : Act} {w : World} {Q : Exit → Act → World → Prop} (hg : o.guard = none) (x : Operand) (ho : o.op = .buildSlice 49 1 #[(0, x)]) (v : Ver) (hx : a.eval x = v.value)
    (h : wpList Try.prog ops Q rest (a.put o.dst (.slice (some ⟨w.heap.size, 0, none⟩) 1 1)) (w.alloc (.cells v.cells.toArray 34 (0, 0)))) : wpList Try.prog ops Q (o :: rest) a w := by
  have hi := info_ver
  obtain ⟨k, vl, b, e, n⟩ := v
  cases hie : Try.prog.info? 34 with
  | none => rw [hie] at hi; cases hi
  | some ie =>
    rw [hie] at hi
    simp only [Option.map_some, Option.some.injEq, Prod.mk.injEq] at hi
    obtain ⟨hz, hs, _⟩ := hi
    refine wpList_buildSlice hg 49 34 1 _ ho _ ie _ Try.underlying49 hie hz (by rw [hs]; decide) (by rw [hs]; decide) ?_ h
    rw [hs]
    simp only [List.map_toArray, List.map_cons, List.map_nil, hx]
    first | kernel_rfl | (simp [Instr.fill, Ver.value, Ver.cells, Value.cells, Array.range, go_sem]; trace_state; done)
theorem same_rows {w0 w1 : World} {va vb : Value} {l : List Int} (ha : Owned .u64 28 w0 va l) (hb : Owned .u64 28 w1 vb l) (hB : Below w0.heap.size w0 w1) (hl : l.length ≤ 1000000) :
    Calls Try.prog 32 #[va, vb] w1 fun e w' => e = .returned (.bool true) ∧ Below w1.heap.size w1 w' :=
  Ref.same_yes va vb l w1 (ha.mod (Mod.of_below (F := fun _ => False) hB) (fun _ _ h => h)) hb hl
end Go.Proofs.Ytjojbfgppgnmjaa
