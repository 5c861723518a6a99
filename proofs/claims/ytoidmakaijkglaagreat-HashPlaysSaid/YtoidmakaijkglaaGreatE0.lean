/- A body is entered; blocks that are kept. -/
import Derived.Test.YtoidmakaijkglaaGreatS1
import Derived.Test.YtoidmakaijkglaaGreatF1
import Derived.Test.YtoidmakaijkglaaGreatM0
import Derived.Deep.QuietTactic
import Derived.BigQuiet
namespace Go.Proofs.YtoidmakaijkglaaGreat
open Go.RowKit

theorem enters_body {f : FuncId} {fn : Func} {c : Code} (hf : Tryz.prog.funcs[f]? = some fn) (hname : (fn.name == "runtime.NumGoroutine") = false) (hb : fn.body = some c) (args : Array Value) (w : World) :
    (callFunc f args).run Tryz.prog w = .ok (.enter f args) w := by
  have h1 : fn.name ≠ "runtime.NumGoroutine" := by simpa using hname
  simp [callFunc, hf, h1, hb]
theorem only_keep {w w1 : World} {b c : Nat} {o : Obj} (h : Only c w w1) (hne : b ≠ c) (hb : w.heap[b]? = some o) : w1.heap[b]? = some o := h.keep hb hne
theorem below_keep {w w1 : World} {b : Nat} {o : Obj} (h : Below w.heap.size w w1) (hb : w.heap[b]? = some o) : w1.heap[b]? = some o := by
  rw [h.block b (blk_lt hb)]
  exact hb
end Go.Proofs.YtoidmakaijkglaaGreat
