/-
  No cell of these rows narrows 'for every input' (looked for: loops, veiled, ifaces, maps, wideKeys, modest, calm, conditions, laid).
  DERIVED. THE GIVEN ROWS OF THIS SEAT. 12 by the template 'for every input the law returns true; each argument reads behind the call as it read before'; 0 by the template 'total and deterministic' (their statements: YtfjoghbkfkbbdaaTotals.lean).
  GIVEN WITH THE SEED: the statements are not yours to turn. If you find one false, say at which input.
  Laid BY PROGRAM, IN A SANDBOX (cutbox-rows.mjs): the forced cells as the released guide's own fill.sh prints them over the translation 99053de30b85a214… (all of the seat's roots in one cut). By AI agents, Wed Nov 11 2026. No macro, syntax, notation, axiom, sorry.
-/
import Derived.Test.YtfjoghbkfkbbdaaChecked
import GoSem.Claim
import GoSem.ClaimJoined
import GoSem.ClaimMapViews
import Derived.JoinedTies
import Derived.KernelRfl
namespace Go.Proofs.Ytfjoghbkfkbbdaa
/- THE CELL 'sum', in the pinned program and in every row, IS THE sha256 OF THE DUMP (.gsa) THAT YtfjoghbkfkbbdaaProg.lean LOADS. Nothing in Lean hashes anything: it is a label: what it is worth is what the hold of that sum in a sandbox is worth. -/
noncomputable def Try.pinned : Pinned := { name := "ytfjoghbkfkbbdaa", sum := "99053de30b85a2141d8175d83fa406ee7ad65f3166719de397805b1e69e6efd9", checked := Try.checked }
namespace Rows
def none {H : Type} : Left H := { results := [], args := [] }

/-- 'vinculumlaw18.OutcomeFirst': WHATEVER THE INPUT: true; the input reads as it did. -/
def outcomeFirstSpec : ChangeSpec := { name := "outcomeFirst", fn := fun _ => fun
  | [d1, d2, d3, d4] => { results := [.lit (.bool true)], args := [d1, d2, d3, d4] }
  | _ => none }
def outcomeFirstRow : OpenClaim := { program := "ytfjoghbkfkbbdaa", sum := "99053de30b85a2141d8175d83fa406ee7ad65f3166719de397805b1e69e6efd9", func := "vinculum/vinculumlaw18.OutcomeFirst", spec := "outcomeFirst", inPlace := ["sync/atomic.AddInt64", "sync/atomic.LoadUint32", "(*internal/sync.Mutex).Lock", "internal/race.Disable", "sync/atomic.CompareAndSwapInt32", "internal/race.Enable", "internal/race.Acquire", "(*internal/sync.Mutex).lockSlow", "internal/sync.runtime_canSpin", "internal/sync.runtime_doSpin", "internal/sync.throw", "internal/sync.runtime_nanotime", "internal/sync.runtime_SemacquireMutex", "sync/atomic.AddInt32", "(*internal/sync.Mutex).Unlock", "internal/race.ReleaseMerge", "(*internal/sync.Mutex).unlockSlow", "internal/sync.fatal", "internal/sync.runtime_Semrelease", "sync/atomic.StoreUint32", "sync/atomic.LoadInt64", "sync/atomic.StoreInt64", "sync/atomic.CompareAndSwapInt64"], unfollowed := true, recurses := true, apart := false }
def OutcomeFirstSaid : Prop := outcomeFirstRow.holds Try.pinned (OpenSpec.ofChange outcomeFirstSpec)

/-- ITS FALSE NEIGHBOUR: 'it returns false'. Refute it at one input. -/
def outcomeFirstWrong : ChangeSpec := { name := "outcomeFirst", fn := fun _ => fun
  | [d1, d2, d3, d4] => { results := [.lit (.bool false)], args := [d1, d2, d3, d4] }
  | _ => none }
def OutcomeFirstWrongFalsely : Prop := outcomeFirstRow.holds Try.pinned (OpenSpec.ofChange outcomeFirstWrong)

/-- 'vinculumlaw18.OutcomeOnce': WHATEVER THE INPUT: true; the input reads as it did. -/
def outcomeOnceSpec : ChangeSpec := { name := "outcomeOnce", fn := fun _ => fun
  | [d1, d2] => { results := [.lit (.bool true)], args := [d1, d2] }
  | _ => none }
def outcomeOnceRow : OpenClaim := { program := "ytfjoghbkfkbbdaa", sum := "99053de30b85a2141d8175d83fa406ee7ad65f3166719de397805b1e69e6efd9", func := "vinculum/vinculumlaw18.OutcomeOnce", spec := "outcomeOnce", inPlace := ["sync/atomic.AddInt64", "sync/atomic.LoadUint32", "(*internal/sync.Mutex).Lock", "internal/race.Disable", "sync/atomic.CompareAndSwapInt32", "internal/race.Enable", "internal/race.Acquire", "(*internal/sync.Mutex).lockSlow", "internal/sync.runtime_canSpin", "internal/sync.runtime_doSpin", "internal/sync.throw", "internal/sync.runtime_nanotime", "internal/sync.runtime_SemacquireMutex", "sync/atomic.AddInt32", "(*internal/sync.Mutex).Unlock", "internal/race.ReleaseMerge", "(*internal/sync.Mutex).unlockSlow", "internal/sync.fatal", "internal/sync.runtime_Semrelease", "sync/atomic.StoreUint32", "sync/atomic.LoadInt64", "sync/atomic.StoreInt64", "sync/atomic.CompareAndSwapInt64"], unfollowed := true, recurses := true, apart := false }
def OutcomeOnceSaid : Prop := outcomeOnceRow.holds Try.pinned (OpenSpec.ofChange outcomeOnceSpec)

/-- ITS FALSE NEIGHBOUR: 'it returns false'. Refute it at one input. -/
def outcomeOnceWrong : ChangeSpec := { name := "outcomeOnce", fn := fun _ => fun
  | [d1, d2] => { results := [.lit (.bool false)], args := [d1, d2] }
  | _ => none }
def OutcomeOnceWrongFalsely : Prop := outcomeOnceRow.holds Try.pinned (OpenSpec.ofChange outcomeOnceWrong)

/-- 'vinculumlaw18.OutcomeLazy': WHATEVER THE INPUT: true; the input reads as it did. -/
def outcomeLazySpec : ChangeSpec := { name := "outcomeLazy", fn := fun _ => fun
  | [d1, d2, d3] => { results := [.lit (.bool true)], args := [d1, d2, d3] }
  | _ => none }
def outcomeLazyRow : OpenClaim := { program := "ytfjoghbkfkbbdaa", sum := "99053de30b85a2141d8175d83fa406ee7ad65f3166719de397805b1e69e6efd9", func := "vinculum/vinculumlaw18.OutcomeLazy", spec := "outcomeLazy", inPlace := ["sync/atomic.LoadUint32", "sync/atomic.StoreUint32", "(*internal/sync.Mutex).Lock", "internal/race.Disable", "sync/atomic.CompareAndSwapInt32", "internal/race.Enable", "internal/race.Acquire", "(*internal/sync.Mutex).lockSlow", "internal/sync.runtime_canSpin", "internal/sync.runtime_doSpin", "internal/sync.throw", "internal/sync.runtime_nanotime", "internal/sync.runtime_SemacquireMutex", "sync/atomic.AddInt32", "(*internal/sync.Mutex).Unlock", "internal/race.ReleaseMerge", "(*internal/sync.Mutex).unlockSlow", "internal/sync.fatal", "internal/sync.runtime_Semrelease", "sync/atomic.StoreInt64", "sync/atomic.AddInt64", "sync/atomic.LoadInt64", "sync/atomic.CompareAndSwapInt64"], unfollowed := true, recurses := true, apart := false }
def OutcomeLazySaid : Prop := outcomeLazyRow.holds Try.pinned (OpenSpec.ofChange outcomeLazySpec)

/-- ITS FALSE NEIGHBOUR: 'it returns false'. Refute it at one input. -/
def outcomeLazyWrong : ChangeSpec := { name := "outcomeLazy", fn := fun _ => fun
  | [d1, d2, d3] => { results := [.lit (.bool false)], args := [d1, d2, d3] }
  | _ => none }
def OutcomeLazyWrongFalsely : Prop := outcomeLazyRow.holds Try.pinned (OpenSpec.ofChange outcomeLazyWrong)

/-- 'vinculumlaw18.OutcomeGates': WHATEVER THE INPUT: true; the input reads as it did. -/
def outcomeGatesSpec : ChangeSpec := { name := "outcomeGates", fn := fun _ => fun
  | [d1, d2] => { results := [.lit (.bool true)], args := [d1, d2] }
  | _ => none }
def outcomeGatesRow : OpenClaim := { program := "ytfjoghbkfkbbdaa", sum := "99053de30b85a2141d8175d83fa406ee7ad65f3166719de397805b1e69e6efd9", func := "vinculum/vinculumlaw18.OutcomeGates", spec := "outcomeGates", inPlace := ["sync/atomic.StoreInt64", "sync/atomic.LoadInt64", "sync/atomic.CompareAndSwapInt64", "sync/atomic.AddInt64", "sync/atomic.LoadUint32", "(*internal/sync.Mutex).Lock", "internal/race.Disable", "sync/atomic.CompareAndSwapInt32", "internal/race.Enable", "internal/race.Acquire", "(*internal/sync.Mutex).lockSlow", "internal/sync.runtime_canSpin", "internal/sync.runtime_doSpin", "internal/sync.throw", "internal/sync.runtime_nanotime", "internal/sync.runtime_SemacquireMutex", "sync/atomic.AddInt32", "(*internal/sync.Mutex).Unlock", "internal/race.ReleaseMerge", "(*internal/sync.Mutex).unlockSlow", "internal/sync.fatal", "internal/sync.runtime_Semrelease", "sync/atomic.StoreUint32"], unfollowed := true, recurses := true, apart := false }
def OutcomeGatesSaid : Prop := outcomeGatesRow.holds Try.pinned (OpenSpec.ofChange outcomeGatesSpec)

/-- ITS FALSE NEIGHBOUR: 'it returns false'. Refute it at one input. -/
def outcomeGatesWrong : ChangeSpec := { name := "outcomeGates", fn := fun _ => fun
  | [d1, d2] => { results := [.lit (.bool false)], args := [d1, d2] }
  | _ => none }
def OutcomeGatesWrongFalsely : Prop := outcomeGatesRow.holds Try.pinned (OpenSpec.ofChange outcomeGatesWrong)

/-- 'vinculumlaw3.PoolStale': WHATEVER THE INPUT: true; the input reads as it did. -/
def poolStaleSpec : ChangeSpec := { name := "poolStale", fn := fun _ => fun
  | [d1, d2] => { results := [.lit (.bool true)], args := [d1, d2] }
  | _ => none }
def poolStaleRow : OpenClaim := { program := "ytfjoghbkfkbbdaa", sum := "99053de30b85a2141d8175d83fa406ee7ad65f3166719de397805b1e69e6efd9", func := "vinculum/vinculumlaw3.PoolStale", spec := "poolStale", inPlace := ["sync/atomic.LoadUint32", "(*internal/sync.Mutex).Lock", "internal/race.Disable", "sync/atomic.CompareAndSwapInt32", "internal/race.Enable", "internal/race.Acquire", "(*internal/sync.Mutex).lockSlow", "internal/sync.runtime_canSpin", "internal/sync.runtime_doSpin", "internal/sync.throw", "internal/sync.runtime_nanotime", "internal/sync.runtime_SemacquireMutex", "sync/atomic.AddInt32", "(*internal/sync.Mutex).Unlock", "internal/race.ReleaseMerge", "(*internal/sync.Mutex).unlockSlow", "internal/sync.fatal", "internal/sync.runtime_Semrelease", "sync/atomic.StoreUint32"], unfollowed := true, recurses := true, apart := false }
def PoolStaleSaid : Prop := poolStaleRow.holds Try.pinned (OpenSpec.ofChange poolStaleSpec)

/-- ITS FALSE NEIGHBOUR: 'it returns false'. Refute it at one input. -/
def poolStaleWrong : ChangeSpec := { name := "poolStale", fn := fun _ => fun
  | [d1, d2] => { results := [.lit (.bool false)], args := [d1, d2] }
  | _ => none }
def PoolStaleWrongFalsely : Prop := poolStaleRow.holds Try.pinned (OpenSpec.ofChange poolStaleWrong)

/-- 'vinculumlaw3.PoolEnds': WHATEVER THE INPUT: true; the input reads as it did. -/
def poolEndsSpec : ChangeSpec := { name := "poolEnds", fn := fun _ => fun
  | [d1, d2, d3] => { results := [.lit (.bool true)], args := [d1, d2, d3] }
  | _ => none }
def poolEndsRow : OpenClaim := { program := "ytfjoghbkfkbbdaa", sum := "99053de30b85a2141d8175d83fa406ee7ad65f3166719de397805b1e69e6efd9", func := "vinculum/vinculumlaw3.PoolEnds", spec := "poolEnds", inPlace := ["sync/atomic.LoadUint32", "(*internal/sync.Mutex).Lock", "internal/race.Disable", "sync/atomic.CompareAndSwapInt32", "internal/race.Enable", "internal/race.Acquire", "(*internal/sync.Mutex).lockSlow", "internal/sync.runtime_canSpin", "internal/sync.runtime_doSpin", "internal/sync.throw", "internal/sync.runtime_nanotime", "internal/sync.runtime_SemacquireMutex", "sync/atomic.AddInt32", "(*internal/sync.Mutex).Unlock", "internal/race.ReleaseMerge", "(*internal/sync.Mutex).unlockSlow", "internal/sync.fatal", "internal/sync.runtime_Semrelease", "sync/atomic.StoreUint32"], unfollowed := true, recurses := true, apart := false }
def PoolEndsSaid : Prop := poolEndsRow.holds Try.pinned (OpenSpec.ofChange poolEndsSpec)

/-- ITS FALSE NEIGHBOUR: 'it returns false'. Refute it at one input. -/
def poolEndsWrong : ChangeSpec := { name := "poolEnds", fn := fun _ => fun
  | [d1, d2, d3] => { results := [.lit (.bool false)], args := [d1, d2, d3] }
  | _ => none }
def PoolEndsWrongFalsely : Prop := poolEndsRow.holds Try.pinned (OpenSpec.ofChange poolEndsWrong)

/-- 'vinculumlaw3.PoolFills': WHATEVER THE INPUT: true; the input reads as it did. -/
def poolFillsSpec : ChangeSpec := { name := "poolFills", fn := fun _ => fun
  | [d1, d2] => { results := [.lit (.bool true)], args := [d1, d2] }
  | _ => none }
def poolFillsRow : OpenClaim := { program := "ytfjoghbkfkbbdaa", sum := "99053de30b85a2141d8175d83fa406ee7ad65f3166719de397805b1e69e6efd9", func := "vinculum/vinculumlaw3.PoolFills", spec := "poolFills", inPlace := ["sync/atomic.LoadUint32", "(*internal/sync.Mutex).Lock", "internal/race.Disable", "sync/atomic.CompareAndSwapInt32", "internal/race.Enable", "internal/race.Acquire", "(*internal/sync.Mutex).lockSlow", "internal/sync.runtime_canSpin", "internal/sync.runtime_doSpin", "internal/sync.throw", "internal/sync.runtime_nanotime", "internal/sync.runtime_SemacquireMutex", "sync/atomic.AddInt32", "(*internal/sync.Mutex).Unlock", "internal/race.ReleaseMerge", "(*internal/sync.Mutex).unlockSlow", "internal/sync.fatal", "internal/sync.runtime_Semrelease", "sync/atomic.StoreUint32"], unfollowed := true, recurses := true, apart := false }
def PoolFillsSaid : Prop := poolFillsRow.holds Try.pinned (OpenSpec.ofChange poolFillsSpec)

/-- ITS FALSE NEIGHBOUR: 'it returns false'. Refute it at one input. -/
def poolFillsWrong : ChangeSpec := { name := "poolFills", fn := fun _ => fun
  | [d1, d2] => { results := [.lit (.bool false)], args := [d1, d2] }
  | _ => none }
def PoolFillsWrongFalsely : Prop := poolFillsRow.holds Try.pinned (OpenSpec.ofChange poolFillsWrong)

/-- 'vinculumlaw3.PoolWears': WHATEVER THE INPUT: true; the input reads as it did. -/
def poolWearsSpec : ChangeSpec := { name := "poolWears", fn := fun _ => fun
  | [d1, d2] => { results := [.lit (.bool true)], args := [d1, d2] }
  | _ => none }
def poolWearsRow : OpenClaim := { program := "ytfjoghbkfkbbdaa", sum := "99053de30b85a2141d8175d83fa406ee7ad65f3166719de397805b1e69e6efd9", func := "vinculum/vinculumlaw3.PoolWears", spec := "poolWears", inPlace := ["sync/atomic.LoadUint32", "(*internal/sync.Mutex).Lock", "internal/race.Disable", "sync/atomic.CompareAndSwapInt32", "internal/race.Enable", "internal/race.Acquire", "(*internal/sync.Mutex).lockSlow", "internal/sync.runtime_canSpin", "internal/sync.runtime_doSpin", "internal/sync.throw", "internal/sync.runtime_nanotime", "internal/sync.runtime_SemacquireMutex", "sync/atomic.AddInt32", "(*internal/sync.Mutex).Unlock", "internal/race.ReleaseMerge", "(*internal/sync.Mutex).unlockSlow", "internal/sync.fatal", "internal/sync.runtime_Semrelease", "sync/atomic.StoreUint32"], unfollowed := true, recurses := true, apart := false }
def PoolWearsSaid : Prop := poolWearsRow.holds Try.pinned (OpenSpec.ofChange poolWearsSpec)

/-- ITS FALSE NEIGHBOUR: 'it returns false'. Refute it at one input. -/
def poolWearsWrong : ChangeSpec := { name := "poolWears", fn := fun _ => fun
  | [d1, d2] => { results := [.lit (.bool false)], args := [d1, d2] }
  | _ => none }
def PoolWearsWrongFalsely : Prop := poolWearsRow.holds Try.pinned (OpenSpec.ofChange poolWearsWrong)

/-- 'vinculumlaw3.PoolPlays': WHATEVER THE INPUT: true; the input reads as it did. -/
def poolPlaysSpec : ChangeSpec := { name := "poolPlays", fn := fun _ => fun
  | [d1, d2, d3] => { results := [.lit (.bool true)], args := [d1, d2, d3] }
  | _ => none }
def poolPlaysRow : OpenClaim := { program := "ytfjoghbkfkbbdaa", sum := "99053de30b85a2141d8175d83fa406ee7ad65f3166719de397805b1e69e6efd9", func := "vinculum/vinculumlaw3.PoolPlays", spec := "poolPlays", inPlace := ["sync/atomic.LoadUint32", "(*internal/sync.Mutex).Lock", "internal/race.Disable", "sync/atomic.CompareAndSwapInt32", "internal/race.Enable", "internal/race.Acquire", "(*internal/sync.Mutex).lockSlow", "internal/sync.runtime_canSpin", "internal/sync.runtime_doSpin", "internal/sync.throw", "internal/sync.runtime_nanotime", "internal/sync.runtime_SemacquireMutex", "sync/atomic.AddInt32", "(*internal/sync.Mutex).Unlock", "internal/race.ReleaseMerge", "(*internal/sync.Mutex).unlockSlow", "internal/sync.fatal", "internal/sync.runtime_Semrelease", "sync/atomic.StoreUint32"], unfollowed := true, recurses := true, apart := false }
def PoolPlaysSaid : Prop := poolPlaysRow.holds Try.pinned (OpenSpec.ofChange poolPlaysSpec)

/-- ITS FALSE NEIGHBOUR: 'it returns false'. Refute it at one input. -/
def poolPlaysWrong : ChangeSpec := { name := "poolPlays", fn := fun _ => fun
  | [d1, d2, d3] => { results := [.lit (.bool false)], args := [d1, d2, d3] }
  | _ => none }
def PoolPlaysWrongFalsely : Prop := poolPlaysRow.holds Try.pinned (OpenSpec.ofChange poolPlaysWrong)

/-- 'vinculumlaw17.MarkBag': WHATEVER THE INPUT: true; the input reads as it did. -/
def markBagSpec : ChangeSpec := { name := "markBag", fn := fun _ => fun
  | [d1, d2] => { results := [.lit (.bool true)], args := [d1, d2] }
  | _ => none }
def markBagRow : OpenClaim := { program := "ytfjoghbkfkbbdaa", sum := "99053de30b85a2141d8175d83fa406ee7ad65f3166719de397805b1e69e6efd9", func := "vinculum/vinculumlaw17.MarkBag", spec := "markBag", inPlace := ["slices.overlaps[*vinculum/mark.entry]", "sync/atomic.AddInt64", "sync/atomic.LoadInt64"], unfollowed := true, recurses := true, apart := false }
def MarkBagSaid : Prop := markBagRow.holds Try.pinned (OpenSpec.ofChange markBagSpec)

/-- ITS FALSE NEIGHBOUR: 'it returns false'. Refute it at one input. -/
def markBagWrong : ChangeSpec := { name := "markBag", fn := fun _ => fun
  | [d1, d2] => { results := [.lit (.bool false)], args := [d1, d2] }
  | _ => none }
def MarkBagWrongFalsely : Prop := markBagRow.holds Try.pinned (OpenSpec.ofChange markBagWrong)

/-- 'vinculumlaw17.MarkRises': WHATEVER THE INPUT: true; the input reads as it did. -/
def markRisesSpec : ChangeSpec := { name := "markRises", fn := fun _ => fun
  | [d1, d2, d3, d4] => { results := [.lit (.bool true)], args := [d1, d2, d3, d4] }
  | _ => none }
def markRisesRow : OpenClaim := { program := "ytfjoghbkfkbbdaa", sum := "99053de30b85a2141d8175d83fa406ee7ad65f3166719de397805b1e69e6efd9", func := "vinculum/vinculumlaw17.MarkRises", spec := "markRises", inPlace := ["slices.overlaps[*vinculum/mark.entry]", "sync/atomic.AddInt64", "sync/atomic.LoadInt64"], unfollowed := true, recurses := true, apart := false }
def MarkRisesSaid : Prop := markRisesRow.holds Try.pinned (OpenSpec.ofChange markRisesSpec)

/-- ITS FALSE NEIGHBOUR: 'it returns false'. Refute it at one input. -/
def markRisesWrong : ChangeSpec := { name := "markRises", fn := fun _ => fun
  | [d1, d2, d3, d4] => { results := [.lit (.bool false)], args := [d1, d2, d3, d4] }
  | _ => none }
def MarkRisesWrongFalsely : Prop := markRisesRow.holds Try.pinned (OpenSpec.ofChange markRisesWrong)

/-- 'vinculumlaw17.MarkPlays': WHATEVER THE INPUT: true; the input reads as it did. -/
def markPlaysSpec : ChangeSpec := { name := "markPlays", fn := fun _ => fun
  | [d1, d2] => { results := [.lit (.bool true)], args := [d1, d2] }
  | _ => none }
def markPlaysRow : OpenClaim := { program := "ytfjoghbkfkbbdaa", sum := "99053de30b85a2141d8175d83fa406ee7ad65f3166719de397805b1e69e6efd9", func := "vinculum/vinculumlaw17.MarkPlays", spec := "markPlays", inPlace := ["slices.overlaps[*vinculum/mark.entry]", "sync/atomic.AddInt64", "sync/atomic.LoadInt64"], unfollowed := true, recurses := true, apart := false }
def MarkPlaysSaid : Prop := markPlaysRow.holds Try.pinned (OpenSpec.ofChange markPlaysSpec)

/-- ITS FALSE NEIGHBOUR: 'it returns false'. Refute it at one input. -/
def markPlaysWrong : ChangeSpec := { name := "markPlays", fn := fun _ => fun
  | [d1, d2] => { results := [.lit (.bool false)], args := [d1, d2] }
  | _ => none }
def MarkPlaysWrongFalsely : Prop := markPlaysRow.holds Try.pinned (OpenSpec.ofChange markPlaysWrong)

/- THE SECOND FORM. 'bulk': how many values and letters a reading holds, each counted each time it is reached (what is shared counts as often as it is met; a slice's spare places count too). A statement '..UptoSaid' is the law's where the arguments, and the package variables that the reading takes, are together of bulk at most 1048576: NARROWER than '..Said'. Prove '..Said' where nothing that the law and all that it calls make is longer than what came in: it says more and counts as full. Else prove '..UptoSaid'. A law counts once. -/
mutual
def uptoBulk {H : Type} : DataW H → Nat
  | .lit (.string bytes) => bytes.length + 1
  | .lit _ => 1
  | .nil => 1
  | .ptr d => uptoBulk d + 1
  | .slice elems spare => uptoBulkAll elems + uptoBulkAll spare + 1
  | .agg parts => uptoBulkAll parts + 1
  | .iface _ d => uptoBulk d + 1
  | .map entries => uptoBulkEntries entries + 1
  | .held _ => 1
def uptoBulkAll {H : Type} : List (DataW H) → Nat
  | [] => 0
  | d :: r => uptoBulk d + uptoBulkAll r
def uptoBulkEntries {H : Type} : List (Lit × DataW H) → Nat
  | [] => 0
  | x :: r => uptoBulkEntry x + uptoBulkEntries r
def uptoBulkEntry {H : Type} : Lit × DataW H → Nat
  | (.string bytes, d) => bytes.length + uptoBulk d + 1
  | (_, d) => uptoBulk d + 1
 end
def uptoSmall : (H : Type) → List (DataW H) → Bool := fun _ ds => decide (uptoBulkAll ds ≤ 1048576)
def OpenSpec.upto (s : _root_.Go.ChangeSpec) : _root_.Go.OpenSpec := { _root_.Go.OpenSpec.ofChange s with cond := some uptoSmall }

/-- 'vinculumlaw18.OutcomeFirst', WHERE WHAT IT READS IS OF BULK AT MOST 1048576: true; the input reads as it did. -/
def outcomeFirstUptoRow : OpenClaim := { program := "ytfjoghbkfkbbdaa", sum := "99053de30b85a2141d8175d83fa406ee7ad65f3166719de397805b1e69e6efd9", func := "vinculum/vinculumlaw18.OutcomeFirst", spec := "outcomeFirst", inPlace := ["sync/atomic.AddInt64", "sync/atomic.LoadUint32", "(*internal/sync.Mutex).Lock", "internal/race.Disable", "sync/atomic.CompareAndSwapInt32", "internal/race.Enable", "internal/race.Acquire", "(*internal/sync.Mutex).lockSlow", "internal/sync.runtime_canSpin", "internal/sync.runtime_doSpin", "internal/sync.throw", "internal/sync.runtime_nanotime", "internal/sync.runtime_SemacquireMutex", "sync/atomic.AddInt32", "(*internal/sync.Mutex).Unlock", "internal/race.ReleaseMerge", "(*internal/sync.Mutex).unlockSlow", "internal/sync.fatal", "internal/sync.runtime_Semrelease", "sync/atomic.StoreUint32", "sync/atomic.LoadInt64", "sync/atomic.StoreInt64", "sync/atomic.CompareAndSwapInt64"], unfollowed := true, recurses := true, apart := false, narrowed := true }
def OutcomeFirstUptoSaid : Prop := outcomeFirstUptoRow.holds Try.pinned (OpenSpec.upto outcomeFirstSpec)

/-- 'vinculumlaw18.OutcomeOnce', WHERE WHAT IT READS IS OF BULK AT MOST 1048576: true; the input reads as it did. -/
def outcomeOnceUptoRow : OpenClaim := { program := "ytfjoghbkfkbbdaa", sum := "99053de30b85a2141d8175d83fa406ee7ad65f3166719de397805b1e69e6efd9", func := "vinculum/vinculumlaw18.OutcomeOnce", spec := "outcomeOnce", inPlace := ["sync/atomic.AddInt64", "sync/atomic.LoadUint32", "(*internal/sync.Mutex).Lock", "internal/race.Disable", "sync/atomic.CompareAndSwapInt32", "internal/race.Enable", "internal/race.Acquire", "(*internal/sync.Mutex).lockSlow", "internal/sync.runtime_canSpin", "internal/sync.runtime_doSpin", "internal/sync.throw", "internal/sync.runtime_nanotime", "internal/sync.runtime_SemacquireMutex", "sync/atomic.AddInt32", "(*internal/sync.Mutex).Unlock", "internal/race.ReleaseMerge", "(*internal/sync.Mutex).unlockSlow", "internal/sync.fatal", "internal/sync.runtime_Semrelease", "sync/atomic.StoreUint32", "sync/atomic.LoadInt64", "sync/atomic.StoreInt64", "sync/atomic.CompareAndSwapInt64"], unfollowed := true, recurses := true, apart := false, narrowed := true }
def OutcomeOnceUptoSaid : Prop := outcomeOnceUptoRow.holds Try.pinned (OpenSpec.upto outcomeOnceSpec)

/-- 'vinculumlaw18.OutcomeLazy', WHERE WHAT IT READS IS OF BULK AT MOST 1048576: true; the input reads as it did. -/
def outcomeLazyUptoRow : OpenClaim := { program := "ytfjoghbkfkbbdaa", sum := "99053de30b85a2141d8175d83fa406ee7ad65f3166719de397805b1e69e6efd9", func := "vinculum/vinculumlaw18.OutcomeLazy", spec := "outcomeLazy", inPlace := ["sync/atomic.LoadUint32", "sync/atomic.StoreUint32", "(*internal/sync.Mutex).Lock", "internal/race.Disable", "sync/atomic.CompareAndSwapInt32", "internal/race.Enable", "internal/race.Acquire", "(*internal/sync.Mutex).lockSlow", "internal/sync.runtime_canSpin", "internal/sync.runtime_doSpin", "internal/sync.throw", "internal/sync.runtime_nanotime", "internal/sync.runtime_SemacquireMutex", "sync/atomic.AddInt32", "(*internal/sync.Mutex).Unlock", "internal/race.ReleaseMerge", "(*internal/sync.Mutex).unlockSlow", "internal/sync.fatal", "internal/sync.runtime_Semrelease", "sync/atomic.StoreInt64", "sync/atomic.AddInt64", "sync/atomic.LoadInt64", "sync/atomic.CompareAndSwapInt64"], unfollowed := true, recurses := true, apart := false, narrowed := true }
def OutcomeLazyUptoSaid : Prop := outcomeLazyUptoRow.holds Try.pinned (OpenSpec.upto outcomeLazySpec)

/-- 'vinculumlaw18.OutcomeGates', WHERE WHAT IT READS IS OF BULK AT MOST 1048576: true; the input reads as it did. -/
def outcomeGatesUptoRow : OpenClaim := { program := "ytfjoghbkfkbbdaa", sum := "99053de30b85a2141d8175d83fa406ee7ad65f3166719de397805b1e69e6efd9", func := "vinculum/vinculumlaw18.OutcomeGates", spec := "outcomeGates", inPlace := ["sync/atomic.StoreInt64", "sync/atomic.LoadInt64", "sync/atomic.CompareAndSwapInt64", "sync/atomic.AddInt64", "sync/atomic.LoadUint32", "(*internal/sync.Mutex).Lock", "internal/race.Disable", "sync/atomic.CompareAndSwapInt32", "internal/race.Enable", "internal/race.Acquire", "(*internal/sync.Mutex).lockSlow", "internal/sync.runtime_canSpin", "internal/sync.runtime_doSpin", "internal/sync.throw", "internal/sync.runtime_nanotime", "internal/sync.runtime_SemacquireMutex", "sync/atomic.AddInt32", "(*internal/sync.Mutex).Unlock", "internal/race.ReleaseMerge", "(*internal/sync.Mutex).unlockSlow", "internal/sync.fatal", "internal/sync.runtime_Semrelease", "sync/atomic.StoreUint32"], unfollowed := true, recurses := true, apart := false, narrowed := true }
def OutcomeGatesUptoSaid : Prop := outcomeGatesUptoRow.holds Try.pinned (OpenSpec.upto outcomeGatesSpec)

/-- 'vinculumlaw3.PoolStale', WHERE WHAT IT READS IS OF BULK AT MOST 1048576: true; the input reads as it did. -/
def poolStaleUptoRow : OpenClaim := { program := "ytfjoghbkfkbbdaa", sum := "99053de30b85a2141d8175d83fa406ee7ad65f3166719de397805b1e69e6efd9", func := "vinculum/vinculumlaw3.PoolStale", spec := "poolStale", inPlace := ["sync/atomic.LoadUint32", "(*internal/sync.Mutex).Lock", "internal/race.Disable", "sync/atomic.CompareAndSwapInt32", "internal/race.Enable", "internal/race.Acquire", "(*internal/sync.Mutex).lockSlow", "internal/sync.runtime_canSpin", "internal/sync.runtime_doSpin", "internal/sync.throw", "internal/sync.runtime_nanotime", "internal/sync.runtime_SemacquireMutex", "sync/atomic.AddInt32", "(*internal/sync.Mutex).Unlock", "internal/race.ReleaseMerge", "(*internal/sync.Mutex).unlockSlow", "internal/sync.fatal", "internal/sync.runtime_Semrelease", "sync/atomic.StoreUint32"], unfollowed := true, recurses := true, apart := false, narrowed := true }
def PoolStaleUptoSaid : Prop := poolStaleUptoRow.holds Try.pinned (OpenSpec.upto poolStaleSpec)

/-- 'vinculumlaw3.PoolEnds', WHERE WHAT IT READS IS OF BULK AT MOST 1048576: true; the input reads as it did. -/
def poolEndsUptoRow : OpenClaim := { program := "ytfjoghbkfkbbdaa", sum := "99053de30b85a2141d8175d83fa406ee7ad65f3166719de397805b1e69e6efd9", func := "vinculum/vinculumlaw3.PoolEnds", spec := "poolEnds", inPlace := ["sync/atomic.LoadUint32", "(*internal/sync.Mutex).Lock", "internal/race.Disable", "sync/atomic.CompareAndSwapInt32", "internal/race.Enable", "internal/race.Acquire", "(*internal/sync.Mutex).lockSlow", "internal/sync.runtime_canSpin", "internal/sync.runtime_doSpin", "internal/sync.throw", "internal/sync.runtime_nanotime", "internal/sync.runtime_SemacquireMutex", "sync/atomic.AddInt32", "(*internal/sync.Mutex).Unlock", "internal/race.ReleaseMerge", "(*internal/sync.Mutex).unlockSlow", "internal/sync.fatal", "internal/sync.runtime_Semrelease", "sync/atomic.StoreUint32"], unfollowed := true, recurses := true, apart := false, narrowed := true }
def PoolEndsUptoSaid : Prop := poolEndsUptoRow.holds Try.pinned (OpenSpec.upto poolEndsSpec)

/-- 'vinculumlaw3.PoolFills', WHERE WHAT IT READS IS OF BULK AT MOST 1048576: true; the input reads as it did. -/
def poolFillsUptoRow : OpenClaim := { program := "ytfjoghbkfkbbdaa", sum := "99053de30b85a2141d8175d83fa406ee7ad65f3166719de397805b1e69e6efd9", func := "vinculum/vinculumlaw3.PoolFills", spec := "poolFills", inPlace := ["sync/atomic.LoadUint32", "(*internal/sync.Mutex).Lock", "internal/race.Disable", "sync/atomic.CompareAndSwapInt32", "internal/race.Enable", "internal/race.Acquire", "(*internal/sync.Mutex).lockSlow", "internal/sync.runtime_canSpin", "internal/sync.runtime_doSpin", "internal/sync.throw", "internal/sync.runtime_nanotime", "internal/sync.runtime_SemacquireMutex", "sync/atomic.AddInt32", "(*internal/sync.Mutex).Unlock", "internal/race.ReleaseMerge", "(*internal/sync.Mutex).unlockSlow", "internal/sync.fatal", "internal/sync.runtime_Semrelease", "sync/atomic.StoreUint32"], unfollowed := true, recurses := true, apart := false, narrowed := true }
def PoolFillsUptoSaid : Prop := poolFillsUptoRow.holds Try.pinned (OpenSpec.upto poolFillsSpec)

/-- 'vinculumlaw3.PoolWears', WHERE WHAT IT READS IS OF BULK AT MOST 1048576: true; the input reads as it did. -/
def poolWearsUptoRow : OpenClaim := { program := "ytfjoghbkfkbbdaa", sum := "99053de30b85a2141d8175d83fa406ee7ad65f3166719de397805b1e69e6efd9", func := "vinculum/vinculumlaw3.PoolWears", spec := "poolWears", inPlace := ["sync/atomic.LoadUint32", "(*internal/sync.Mutex).Lock", "internal/race.Disable", "sync/atomic.CompareAndSwapInt32", "internal/race.Enable", "internal/race.Acquire", "(*internal/sync.Mutex).lockSlow", "internal/sync.runtime_canSpin", "internal/sync.runtime_doSpin", "internal/sync.throw", "internal/sync.runtime_nanotime", "internal/sync.runtime_SemacquireMutex", "sync/atomic.AddInt32", "(*internal/sync.Mutex).Unlock", "internal/race.ReleaseMerge", "(*internal/sync.Mutex).unlockSlow", "internal/sync.fatal", "internal/sync.runtime_Semrelease", "sync/atomic.StoreUint32"], unfollowed := true, recurses := true, apart := false, narrowed := true }
def PoolWearsUptoSaid : Prop := poolWearsUptoRow.holds Try.pinned (OpenSpec.upto poolWearsSpec)

/-- 'vinculumlaw3.PoolPlays', WHERE WHAT IT READS IS OF BULK AT MOST 1048576: true; the input reads as it did. -/
def poolPlaysUptoRow : OpenClaim := { program := "ytfjoghbkfkbbdaa", sum := "99053de30b85a2141d8175d83fa406ee7ad65f3166719de397805b1e69e6efd9", func := "vinculum/vinculumlaw3.PoolPlays", spec := "poolPlays", inPlace := ["sync/atomic.LoadUint32", "(*internal/sync.Mutex).Lock", "internal/race.Disable", "sync/atomic.CompareAndSwapInt32", "internal/race.Enable", "internal/race.Acquire", "(*internal/sync.Mutex).lockSlow", "internal/sync.runtime_canSpin", "internal/sync.runtime_doSpin", "internal/sync.throw", "internal/sync.runtime_nanotime", "internal/sync.runtime_SemacquireMutex", "sync/atomic.AddInt32", "(*internal/sync.Mutex).Unlock", "internal/race.ReleaseMerge", "(*internal/sync.Mutex).unlockSlow", "internal/sync.fatal", "internal/sync.runtime_Semrelease", "sync/atomic.StoreUint32"], unfollowed := true, recurses := true, apart := false, narrowed := true }
def PoolPlaysUptoSaid : Prop := poolPlaysUptoRow.holds Try.pinned (OpenSpec.upto poolPlaysSpec)

/-- 'vinculumlaw17.MarkBag', WHERE WHAT IT READS IS OF BULK AT MOST 1048576: true; the input reads as it did. -/
def markBagUptoRow : OpenClaim := { program := "ytfjoghbkfkbbdaa", sum := "99053de30b85a2141d8175d83fa406ee7ad65f3166719de397805b1e69e6efd9", func := "vinculum/vinculumlaw17.MarkBag", spec := "markBag", inPlace := ["slices.overlaps[*vinculum/mark.entry]", "sync/atomic.AddInt64", "sync/atomic.LoadInt64"], unfollowed := true, recurses := true, apart := false, narrowed := true }
def MarkBagUptoSaid : Prop := markBagUptoRow.holds Try.pinned (OpenSpec.upto markBagSpec)

/-- 'vinculumlaw17.MarkRises', WHERE WHAT IT READS IS OF BULK AT MOST 1048576: true; the input reads as it did. -/
def markRisesUptoRow : OpenClaim := { program := "ytfjoghbkfkbbdaa", sum := "99053de30b85a2141d8175d83fa406ee7ad65f3166719de397805b1e69e6efd9", func := "vinculum/vinculumlaw17.MarkRises", spec := "markRises", inPlace := ["slices.overlaps[*vinculum/mark.entry]", "sync/atomic.AddInt64", "sync/atomic.LoadInt64"], unfollowed := true, recurses := true, apart := false, narrowed := true }
def MarkRisesUptoSaid : Prop := markRisesUptoRow.holds Try.pinned (OpenSpec.upto markRisesSpec)

/-- 'vinculumlaw17.MarkPlays', WHERE WHAT IT READS IS OF BULK AT MOST 1048576: true; the input reads as it did. -/
def markPlaysUptoRow : OpenClaim := { program := "ytfjoghbkfkbbdaa", sum := "99053de30b85a2141d8175d83fa406ee7ad65f3166719de397805b1e69e6efd9", func := "vinculum/vinculumlaw17.MarkPlays", spec := "markPlays", inPlace := ["slices.overlaps[*vinculum/mark.entry]", "sync/atomic.AddInt64", "sync/atomic.LoadInt64"], unfollowed := true, recurses := true, apart := false, narrowed := true }
def MarkPlaysUptoSaid : Prop := markPlaysUptoRow.holds Try.pinned (OpenSpec.upto markPlaysSpec)

end Rows
end Go.Proofs.Ytfjoghbkfkbbdaa
