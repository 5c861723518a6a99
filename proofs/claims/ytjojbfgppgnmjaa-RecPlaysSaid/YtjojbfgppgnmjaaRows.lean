/-
  No cell of these rows narrows 'for every input' (looked for: loops, veiled, ifaces, maps, wideKeys, modest, calm, conditions, laid).
  DERIVED. THE GIVEN ROWS OF THIS SEAT. 12 by the template 'for every input the law returns true; each argument reads behind the call as it read before'; 0 by the template 'total and deterministic' (their statements: YtjojbfgppgnmjaaTotals.lean).
  GIVEN WITH THE SEED: the statements are not yours to turn. If you find one false, say at which input.
  Laid BY PROGRAM, IN A SANDBOX (cutbox-rows.mjs): the forced cells as the released guide's own fill.sh prints them over the translation 48fb65599177a420… (all of the seat's roots in one cut). By AI agents, Wed Nov 11 2026. No macro, syntax, notation, axiom, sorry.
-/
import Derived.Test.YtjojbfgppgnmjaaChecked
import GoSem.Claim
import GoSem.ClaimJoined
import GoSem.ClaimMapViews
import Derived.JoinedTies
import Derived.KernelRfl
namespace Go.Proofs.Ytjojbfgppgnmjaa
/- THE CELL 'sum', in the pinned program and in every row, IS THE sha256 OF THE DUMP (.gsa) THAT YtjojbfgppgnmjaaProg.lean LOADS. Nothing in Lean hashes anything: it is a label: what it is worth is what the hold of that sum in a sandbox is worth. -/
noncomputable def Try.pinned : Pinned := { name := "ytjojbfgppgnmjaa", sum := "48fb65599177a4204a5ed2b7a8e6ddd71f894ddb67789aa560cf2aba687275d0", checked := Try.checked }
namespace Rows
def none {H : Type} : Left H := { results := [], args := [] }

/-- 'vinculumlaw6.RecRaces': WHATEVER THE INPUT: true; the input reads as it did. -/
def recRacesSpec : ChangeSpec := { name := "recRaces", fn := fun _ => fun
  | [d] => { results := [.lit (.bool true)], args := [d] }
  | _ => none }
def recRacesRow : OpenClaim := { program := "ytjojbfgppgnmjaa", sum := "48fb65599177a4204a5ed2b7a8e6ddd71f894ddb67789aa560cf2aba687275d0", func := "vinculum/vinculumlaw6.RecRaces", spec := "recRaces", inPlace := ["sync/atomic.LoadUint32", "(*internal/sync.Mutex).Lock", "internal/race.Disable", "sync/atomic.CompareAndSwapInt32", "internal/race.Enable", "internal/race.Acquire", "(*internal/sync.Mutex).lockSlow", "internal/sync.runtime_canSpin", "internal/sync.runtime_doSpin", "internal/sync.throw", "internal/sync.runtime_nanotime", "internal/sync.runtime_SemacquireMutex", "sync/atomic.AddInt32", "(*internal/sync.Mutex).Unlock", "internal/race.ReleaseMerge", "(*internal/sync.Mutex).unlockSlow", "internal/sync.fatal", "internal/sync.runtime_Semrelease", "sync/atomic.StoreUint32", "sync/atomic.AddInt64", "sync/atomic.StoreUint64", "sync/atomic.LoadUint64", "sync/atomic.CompareAndSwapUint64"], unfollowed := true, recurses := true, apart := false }
def RecRacesSaid : Prop := recRacesRow.holds Try.pinned (OpenSpec.ofChange recRacesSpec)

/-- ITS FALSE NEIGHBOUR: 'it returns false'. Refute it at one input. -/
def recRacesWrong : ChangeSpec := { name := "recRaces", fn := fun _ => fun
  | [d] => { results := [.lit (.bool false)], args := [d] }
  | _ => none }
def RecRacesWrongFalsely : Prop := recRacesRow.holds Try.pinned (OpenSpec.ofChange recRacesWrong)

/-- 'vinculumlaw6.RecWords': WHATEVER THE INPUT: true; the input reads as it did. -/
def recWordsSpec : ChangeSpec := { name := "recWords", fn := fun _ => fun
  | [d1, d2, d3] => { results := [.lit (.bool true)], args := [d1, d2, d3] }
  | _ => none }
def recWordsRow : OpenClaim := { program := "ytjojbfgppgnmjaa", sum := "48fb65599177a4204a5ed2b7a8e6ddd71f894ddb67789aa560cf2aba687275d0", func := "vinculum/vinculumlaw6.RecWords", spec := "recWords", inPlace := ["sync/atomic.LoadUint32", "(*internal/sync.Mutex).Lock", "internal/race.Disable", "sync/atomic.CompareAndSwapInt32", "internal/race.Enable", "internal/race.Acquire", "(*internal/sync.Mutex).lockSlow", "internal/sync.runtime_canSpin", "internal/sync.runtime_doSpin", "internal/sync.throw", "internal/sync.runtime_nanotime", "internal/sync.runtime_SemacquireMutex", "sync/atomic.AddInt32", "(*internal/sync.Mutex).Unlock", "internal/race.ReleaseMerge", "(*internal/sync.Mutex).unlockSlow", "internal/sync.fatal", "internal/sync.runtime_Semrelease", "sync/atomic.StoreUint32", "sync/atomic.AddInt64", "sync/atomic.StoreUint64", "sync/atomic.CompareAndSwapUint64", "sync/atomic.LoadUint64"], unfollowed := true, recurses := true, apart := false }
def RecWordsSaid : Prop := recWordsRow.holds Try.pinned (OpenSpec.ofChange recWordsSpec)

/-- ITS FALSE NEIGHBOUR: 'it returns false'. Refute it at one input. -/
def recWordsWrong : ChangeSpec := { name := "recWords", fn := fun _ => fun
  | [d1, d2, d3] => { results := [.lit (.bool false)], args := [d1, d2, d3] }
  | _ => none }
def RecWordsWrongFalsely : Prop := recWordsRow.holds Try.pinned (OpenSpec.ofChange recWordsWrong)

/-- 'vinculumlaw6.RecRows': WHATEVER THE INPUT: true; the input reads as it did. -/
def recRowsSpec : ChangeSpec := { name := "recRows", fn := fun _ => fun
  | [d1, d2] => { results := [.lit (.bool true)], args := [d1, d2] }
  | _ => none }
def recRowsRow : OpenClaim := { program := "ytjojbfgppgnmjaa", sum := "48fb65599177a4204a5ed2b7a8e6ddd71f894ddb67789aa560cf2aba687275d0", func := "vinculum/vinculumlaw6.RecRows", spec := "recRows", inPlace := ["sync/atomic.LoadUint32", "(*internal/sync.Mutex).Lock", "internal/race.Disable", "sync/atomic.CompareAndSwapInt32", "internal/race.Enable", "internal/race.Acquire", "(*internal/sync.Mutex).lockSlow", "internal/sync.runtime_canSpin", "internal/sync.runtime_doSpin", "internal/sync.throw", "internal/sync.runtime_nanotime", "internal/sync.runtime_SemacquireMutex", "sync/atomic.AddInt32", "(*internal/sync.Mutex).Unlock", "internal/race.ReleaseMerge", "(*internal/sync.Mutex).unlockSlow", "internal/sync.fatal", "internal/sync.runtime_Semrelease", "sync/atomic.StoreUint32", "sync/atomic.AddInt64", "sync/atomic.StoreUint64", "sync/atomic.LoadUint64"], unfollowed := true, recurses := true, apart := false }
def RecRowsSaid : Prop := recRowsRow.holds Try.pinned (OpenSpec.ofChange recRowsSpec)

/-- ITS FALSE NEIGHBOUR: 'it returns false'. Refute it at one input. -/
def recRowsWrong : ChangeSpec := { name := "recRows", fn := fun _ => fun
  | [d1, d2] => { results := [.lit (.bool false)], args := [d1, d2] }
  | _ => none }
def RecRowsWrongFalsely : Prop := recRowsRow.holds Try.pinned (OpenSpec.ofChange recRowsWrong)

/-- 'vinculumlaw6.RecFull': WHATEVER THE INPUT: true; the input reads as it did. -/
def recFullSpec : ChangeSpec := { name := "recFull", fn := fun _ => fun
  | [d1, d2] => { results := [.lit (.bool true)], args := [d1, d2] }
  | _ => none }
def recFullRow : OpenClaim := { program := "ytjojbfgppgnmjaa", sum := "48fb65599177a4204a5ed2b7a8e6ddd71f894ddb67789aa560cf2aba687275d0", func := "vinculum/vinculumlaw6.RecFull", spec := "recFull", inPlace := ["sync/atomic.LoadUint32", "(*internal/sync.Mutex).Lock", "internal/race.Disable", "sync/atomic.CompareAndSwapInt32", "internal/race.Enable", "internal/race.Acquire", "(*internal/sync.Mutex).lockSlow", "internal/sync.runtime_canSpin", "internal/sync.runtime_doSpin", "internal/sync.throw", "internal/sync.runtime_nanotime", "internal/sync.runtime_SemacquireMutex", "sync/atomic.AddInt32", "(*internal/sync.Mutex).Unlock", "internal/race.ReleaseMerge", "(*internal/sync.Mutex).unlockSlow", "internal/sync.fatal", "internal/sync.runtime_Semrelease", "sync/atomic.StoreUint32", "sync/atomic.AddInt64", "sync/atomic.StoreUint64", "sync/atomic.CompareAndSwapUint64", "sync/atomic.LoadUint64"], unfollowed := true, recurses := true, apart := false }
def RecFullSaid : Prop := recFullRow.holds Try.pinned (OpenSpec.ofChange recFullSpec)

/-- ITS FALSE NEIGHBOUR: 'it returns false'. Refute it at one input. -/
def recFullWrong : ChangeSpec := { name := "recFull", fn := fun _ => fun
  | [d1, d2] => { results := [.lit (.bool false)], args := [d1, d2] }
  | _ => none }
def RecFullWrongFalsely : Prop := recFullRow.holds Try.pinned (OpenSpec.ofChange recFullWrong)

/-- 'vinculumlaw6.RecPlays': WHATEVER THE INPUT: true; the input reads as it did. -/
def recPlaysSpec : ChangeSpec := { name := "recPlays", fn := fun _ => fun
  | [d1, d2] => { results := [.lit (.bool true)], args := [d1, d2] }
  | _ => none }
def recPlaysRow : OpenClaim := { program := "ytjojbfgppgnmjaa", sum := "48fb65599177a4204a5ed2b7a8e6ddd71f894ddb67789aa560cf2aba687275d0", func := "vinculum/vinculumlaw6.RecPlays", spec := "recPlays", inPlace := ["sync/atomic.LoadUint32", "(*internal/sync.Mutex).Lock", "internal/race.Disable", "sync/atomic.CompareAndSwapInt32", "internal/race.Enable", "internal/race.Acquire", "(*internal/sync.Mutex).lockSlow", "internal/sync.runtime_canSpin", "internal/sync.runtime_doSpin", "internal/sync.throw", "internal/sync.runtime_nanotime", "internal/sync.runtime_SemacquireMutex", "sync/atomic.AddInt32", "(*internal/sync.Mutex).Unlock", "internal/race.ReleaseMerge", "(*internal/sync.Mutex).unlockSlow", "internal/sync.fatal", "internal/sync.runtime_Semrelease", "sync/atomic.StoreUint32", "sync/atomic.AddInt64", "sync/atomic.StoreUint64", "sync/atomic.LoadUint64", "sync/atomic.CompareAndSwapUint64"], unfollowed := true, recurses := true, apart := false }
def RecPlaysSaid : Prop := recPlaysRow.holds Try.pinned (OpenSpec.ofChange recPlaysSpec)

/-- ITS FALSE NEIGHBOUR: 'it returns false'. Refute it at one input. -/
def recPlaysWrong : ChangeSpec := { name := "recPlays", fn := fun _ => fun
  | [d1, d2] => { results := [.lit (.bool false)], args := [d1, d2] }
  | _ => none }
def RecPlaysWrongFalsely : Prop := recPlaysRow.holds Try.pinned (OpenSpec.ofChange recPlaysWrong)

/-- 'vinculumlaw9.ChainMiddle': WHATEVER THE INPUT: true; the input reads as it did. -/
def chainMiddleSpec : ChangeSpec := { name := "chainMiddle", fn := fun _ => fun
  | [d1, d2] => { results := [.lit (.bool true)], args := [d1, d2] }
  | _ => none }
def chainMiddleRow : OpenClaim := { program := "ytjojbfgppgnmjaa", sum := "48fb65599177a4204a5ed2b7a8e6ddd71f894ddb67789aa560cf2aba687275d0", func := "vinculum/vinculumlaw9.ChainMiddle", spec := "chainMiddle", inPlace := ["sync/atomic.LoadUint32", "(*internal/sync.Mutex).Lock", "internal/race.Disable", "sync/atomic.CompareAndSwapInt32", "internal/race.Enable", "internal/race.Acquire", "(*internal/sync.Mutex).lockSlow", "internal/sync.runtime_canSpin", "internal/sync.runtime_doSpin", "internal/sync.throw", "internal/sync.runtime_nanotime", "internal/sync.runtime_SemacquireMutex", "sync/atomic.AddInt32", "(*internal/sync.Mutex).Unlock", "internal/race.ReleaseMerge", "(*internal/sync.Mutex).unlockSlow", "internal/sync.fatal", "internal/sync.runtime_Semrelease", "sync/atomic.StoreUint32", "sync/atomic.AddInt64", "sync/atomic.StoreUint64", "sync/atomic.LoadUint64", "sync/atomic.CompareAndSwapUint64"], unfollowed := true, recurses := true, apart := false }
def ChainMiddleSaid : Prop := chainMiddleRow.holds Try.pinned (OpenSpec.ofChange chainMiddleSpec)

/-- ITS FALSE NEIGHBOUR: 'it returns false'. Refute it at one input. -/
def chainMiddleWrong : ChangeSpec := { name := "chainMiddle", fn := fun _ => fun
  | [d1, d2] => { results := [.lit (.bool false)], args := [d1, d2] }
  | _ => none }
def ChainMiddleWrongFalsely : Prop := chainMiddleRow.holds Try.pinned (OpenSpec.ofChange chainMiddleWrong)

/-- 'vinculumlaw9.ChainOrders': WHATEVER THE INPUT: true; the input reads as it did. -/
def chainOrdersSpec : ChangeSpec := { name := "chainOrders", fn := fun _ => fun
  | [d1, d2] => { results := [.lit (.bool true)], args := [d1, d2] }
  | _ => none }
def chainOrdersRow : OpenClaim := { program := "ytjojbfgppgnmjaa", sum := "48fb65599177a4204a5ed2b7a8e6ddd71f894ddb67789aa560cf2aba687275d0", func := "vinculum/vinculumlaw9.ChainOrders", spec := "chainOrders", inPlace := ["sync/atomic.LoadUint32", "(*internal/sync.Mutex).Lock", "internal/race.Disable", "sync/atomic.CompareAndSwapInt32", "internal/race.Enable", "internal/race.Acquire", "(*internal/sync.Mutex).lockSlow", "internal/sync.runtime_canSpin", "internal/sync.runtime_doSpin", "internal/sync.throw", "internal/sync.runtime_nanotime", "internal/sync.runtime_SemacquireMutex", "sync/atomic.AddInt32", "(*internal/sync.Mutex).Unlock", "internal/race.ReleaseMerge", "(*internal/sync.Mutex).unlockSlow", "internal/sync.fatal", "internal/sync.runtime_Semrelease", "sync/atomic.StoreUint32", "sync/atomic.AddInt64", "sync/atomic.StoreUint64", "sync/atomic.LoadUint64", "sync/atomic.CompareAndSwapUint64"], unfollowed := true, recurses := true, apart := false }
def ChainOrdersSaid : Prop := chainOrdersRow.holds Try.pinned (OpenSpec.ofChange chainOrdersSpec)

/-- ITS FALSE NEIGHBOUR: 'it returns false'. Refute it at one input. -/
def chainOrdersWrong : ChangeSpec := { name := "chainOrders", fn := fun _ => fun
  | [d1, d2] => { results := [.lit (.bool false)], args := [d1, d2] }
  | _ => none }
def ChainOrdersWrongFalsely : Prop := chainOrdersRow.holds Try.pinned (OpenSpec.ofChange chainOrdersWrong)

/-- 'vinculumlaw9.ChainPlays': WHATEVER THE INPUT: true; the input reads as it did. -/
def chainPlaysSpec : ChangeSpec := { name := "chainPlays", fn := fun _ => fun
  | [d] => { results := [.lit (.bool true)], args := [d] }
  | _ => none }
def chainPlaysRow : OpenClaim := { program := "ytjojbfgppgnmjaa", sum := "48fb65599177a4204a5ed2b7a8e6ddd71f894ddb67789aa560cf2aba687275d0", func := "vinculum/vinculumlaw9.ChainPlays", spec := "chainPlays", inPlace := ["sync/atomic.LoadUint32", "(*internal/sync.Mutex).Lock", "internal/race.Disable", "sync/atomic.CompareAndSwapInt32", "internal/race.Enable", "internal/race.Acquire", "(*internal/sync.Mutex).lockSlow", "internal/sync.runtime_canSpin", "internal/sync.runtime_doSpin", "internal/sync.throw", "internal/sync.runtime_nanotime", "internal/sync.runtime_SemacquireMutex", "sync/atomic.AddInt32", "(*internal/sync.Mutex).Unlock", "internal/race.ReleaseMerge", "(*internal/sync.Mutex).unlockSlow", "internal/sync.fatal", "internal/sync.runtime_Semrelease", "sync/atomic.StoreUint32", "sync/atomic.AddInt64", "sync/atomic.StoreUint64", "sync/atomic.LoadUint64", "sync/atomic.CompareAndSwapUint64"], unfollowed := true, recurses := true, apart := false }
def ChainPlaysSaid : Prop := chainPlaysRow.holds Try.pinned (OpenSpec.ofChange chainPlaysSpec)

/-- ITS FALSE NEIGHBOUR: 'it returns false'. Refute it at one input. -/
def chainPlaysWrong : ChangeSpec := { name := "chainPlays", fn := fun _ => fun
  | [d] => { results := [.lit (.bool false)], args := [d] }
  | _ => none }
def ChainPlaysWrongFalsely : Prop := chainPlaysRow.holds Try.pinned (OpenSpec.ofChange chainPlaysWrong)

/-- 'vinculumlaw22.SweepAgain': WHATEVER THE INPUT: true; the input reads as it did. -/
def sweepAgainSpec : ChangeSpec := { name := "sweepAgain", fn := fun _ => fun
  | [d1, d2, d3] => { results := [.lit (.bool true)], args := [d1, d2, d3] }
  | _ => none }
def sweepAgainRow : OpenClaim := { program := "ytjojbfgppgnmjaa", sum := "48fb65599177a4204a5ed2b7a8e6ddd71f894ddb67789aa560cf2aba687275d0", func := "vinculum/vinculumlaw22.SweepAgain", spec := "sweepAgain", inPlace := ["sync/atomic.LoadUint32", "(*internal/sync.Mutex).Lock", "internal/race.Disable", "sync/atomic.CompareAndSwapInt32", "internal/race.Enable", "internal/race.Acquire", "(*internal/sync.Mutex).lockSlow", "internal/sync.runtime_canSpin", "internal/sync.runtime_doSpin", "internal/sync.throw", "internal/sync.runtime_nanotime", "internal/sync.runtime_SemacquireMutex", "sync/atomic.AddInt32", "(*internal/sync.Mutex).Unlock", "internal/race.ReleaseMerge", "(*internal/sync.Mutex).unlockSlow", "internal/sync.fatal", "internal/sync.runtime_Semrelease", "sync/atomic.StoreUint32", "sync/atomic.AddInt64", "sync/atomic.StoreUint64", "sync/atomic.LoadUint64", "sync/atomic.CompareAndSwapUint64"], unfollowed := true, recurses := true, apart := false }
def SweepAgainSaid : Prop := sweepAgainRow.holds Try.pinned (OpenSpec.ofChange sweepAgainSpec)

/-- ITS FALSE NEIGHBOUR: 'it returns false'. Refute it at one input. -/
def sweepAgainWrong : ChangeSpec := { name := "sweepAgain", fn := fun _ => fun
  | [d1, d2, d3] => { results := [.lit (.bool false)], args := [d1, d2, d3] }
  | _ => none }
def SweepAgainWrongFalsely : Prop := sweepAgainRow.holds Try.pinned (OpenSpec.ofChange sweepAgainWrong)

/-- 'vinculumlaw22.SweepTells': WHATEVER THE INPUT: true; the input reads as it did. -/
def sweepTellsSpec : ChangeSpec := { name := "sweepTells", fn := fun _ => fun
  | [d1, d2, d3, d4] => { results := [.lit (.bool true)], args := [d1, d2, d3, d4] }
  | _ => none }
def sweepTellsRow : OpenClaim := { program := "ytjojbfgppgnmjaa", sum := "48fb65599177a4204a5ed2b7a8e6ddd71f894ddb67789aa560cf2aba687275d0", func := "vinculum/vinculumlaw22.SweepTells", spec := "sweepTells", inPlace := ["sync/atomic.LoadUint32", "(*internal/sync.Mutex).Lock", "internal/race.Disable", "sync/atomic.CompareAndSwapInt32", "internal/race.Enable", "internal/race.Acquire", "(*internal/sync.Mutex).lockSlow", "internal/sync.runtime_canSpin", "internal/sync.runtime_doSpin", "internal/sync.throw", "internal/sync.runtime_nanotime", "internal/sync.runtime_SemacquireMutex", "sync/atomic.AddInt32", "(*internal/sync.Mutex).Unlock", "internal/race.ReleaseMerge", "(*internal/sync.Mutex).unlockSlow", "internal/sync.fatal", "internal/sync.runtime_Semrelease", "sync/atomic.StoreUint32", "sync/atomic.AddInt64", "sync/atomic.StoreUint64", "sync/atomic.LoadUint64", "sync/atomic.CompareAndSwapUint64"], unfollowed := true, recurses := true, apart := false }
def SweepTellsSaid : Prop := sweepTellsRow.holds Try.pinned (OpenSpec.ofChange sweepTellsSpec)

/-- ITS FALSE NEIGHBOUR: 'it returns false'. Refute it at one input. -/
def sweepTellsWrong : ChangeSpec := { name := "sweepTells", fn := fun _ => fun
  | [d1, d2, d3, d4] => { results := [.lit (.bool false)], args := [d1, d2, d3, d4] }
  | _ => none }
def SweepTellsWrongFalsely : Prop := sweepTellsRow.holds Try.pinned (OpenSpec.ofChange sweepTellsWrong)

/-- 'vinculumlaw22.SweepKeeps': WHATEVER THE INPUT: true; the input reads as it did. -/
def sweepKeepsSpec : ChangeSpec := { name := "sweepKeeps", fn := fun _ => fun
  | [d1, d2] => { results := [.lit (.bool true)], args := [d1, d2] }
  | _ => none }
def sweepKeepsRow : OpenClaim := { program := "ytjojbfgppgnmjaa", sum := "48fb65599177a4204a5ed2b7a8e6ddd71f894ddb67789aa560cf2aba687275d0", func := "vinculum/vinculumlaw22.SweepKeeps", spec := "sweepKeeps", inPlace := ["sync/atomic.LoadUint32", "(*internal/sync.Mutex).Lock", "internal/race.Disable", "sync/atomic.CompareAndSwapInt32", "internal/race.Enable", "internal/race.Acquire", "(*internal/sync.Mutex).lockSlow", "internal/sync.runtime_canSpin", "internal/sync.runtime_doSpin", "internal/sync.throw", "internal/sync.runtime_nanotime", "internal/sync.runtime_SemacquireMutex", "sync/atomic.AddInt32", "(*internal/sync.Mutex).Unlock", "internal/race.ReleaseMerge", "(*internal/sync.Mutex).unlockSlow", "internal/sync.fatal", "internal/sync.runtime_Semrelease", "sync/atomic.StoreUint32", "sync/atomic.AddInt64", "sync/atomic.StoreUint64", "sync/atomic.LoadUint64", "sync/atomic.CompareAndSwapUint64"], unfollowed := true, recurses := true, apart := false }
def SweepKeepsSaid : Prop := sweepKeepsRow.holds Try.pinned (OpenSpec.ofChange sweepKeepsSpec)

/-- ITS FALSE NEIGHBOUR: 'it returns false'. Refute it at one input. -/
def sweepKeepsWrong : ChangeSpec := { name := "sweepKeeps", fn := fun _ => fun
  | [d1, d2] => { results := [.lit (.bool false)], args := [d1, d2] }
  | _ => none }
def SweepKeepsWrongFalsely : Prop := sweepKeepsRow.holds Try.pinned (OpenSpec.ofChange sweepKeepsWrong)

/-- 'vinculumlaw22.SweepUnseen': WHATEVER THE INPUT: true; the input reads as it did. -/
def sweepUnseenSpec : ChangeSpec := { name := "sweepUnseen", fn := fun _ => fun
  | [d1, d2, d3, d4, d5, d6] => { results := [.lit (.bool true)], args := [d1, d2, d3, d4, d5, d6] }
  | _ => none }
def sweepUnseenRow : OpenClaim := { program := "ytjojbfgppgnmjaa", sum := "48fb65599177a4204a5ed2b7a8e6ddd71f894ddb67789aa560cf2aba687275d0", func := "vinculum/vinculumlaw22.SweepUnseen", spec := "sweepUnseen", inPlace := ["sync/atomic.LoadUint32", "(*internal/sync.Mutex).Lock", "internal/race.Disable", "sync/atomic.CompareAndSwapInt32", "internal/race.Enable", "internal/race.Acquire", "(*internal/sync.Mutex).lockSlow", "internal/sync.runtime_canSpin", "internal/sync.runtime_doSpin", "internal/sync.throw", "internal/sync.runtime_nanotime", "internal/sync.runtime_SemacquireMutex", "sync/atomic.AddInt32", "(*internal/sync.Mutex).Unlock", "internal/race.ReleaseMerge", "(*internal/sync.Mutex).unlockSlow", "internal/sync.fatal", "internal/sync.runtime_Semrelease", "sync/atomic.StoreUint32", "sync/atomic.AddInt64", "sync/atomic.StoreUint64", "sync/atomic.LoadUint64", "sync/atomic.CompareAndSwapUint64"], unfollowed := true, recurses := true, apart := false }
def SweepUnseenSaid : Prop := sweepUnseenRow.holds Try.pinned (OpenSpec.ofChange sweepUnseenSpec)

/-- ITS FALSE NEIGHBOUR: 'it returns false'. Refute it at one input. -/
def sweepUnseenWrong : ChangeSpec := { name := "sweepUnseen", fn := fun _ => fun
  | [d1, d2, d3, d4, d5, d6] => { results := [.lit (.bool false)], args := [d1, d2, d3, d4, d5, d6] }
  | _ => none }
def SweepUnseenWrongFalsely : Prop := sweepUnseenRow.holds Try.pinned (OpenSpec.ofChange sweepUnseenWrong)

/- THE SECOND FORM. 'bulk': how many values and letters a reading holds, each counted each time it is reached (what is shared counts as often as it is met; a slice's spare places count too). A statement '..UptoSaid' is the law's where the arguments, and the package variables that the reading takes, are together of bulk at most 1048576: NARROWER than '..Said'. Prove '..Said' where nothing that the law and all that it calls make is longer than what came in: it says more and counts as full. Else prove '..UptoSaid'. A law counts once. -/
mutual
def uptoBulk {H : Type} : DataW H → Nat
  | .lit (.string bytes) => bytes.length + 1
  | .lit _ => 1
  | .nil => 1
  | .ptr d => uptoBulk d + 1
  | .slice elems spare => uptoBulkAll elems + uptoBulkAll spare + 1
  | .agg parts => uptoBulkAll parts + 1
  | .iface _ d => uptoBulk d + 1
  | .map entries => uptoBulkEntries entries + 1
  | .held _ => 1
def uptoBulkAll {H : Type} : List (DataW H) → Nat
  | [] => 0
  | d :: r => uptoBulk d + uptoBulkAll r
def uptoBulkEntries {H : Type} : List (Lit × DataW H) → Nat
  | [] => 0
  | x :: r => uptoBulkEntry x + uptoBulkEntries r
def uptoBulkEntry {H : Type} : Lit × DataW H → Nat
  | (.string bytes, d) => bytes.length + uptoBulk d + 1
  | (_, d) => uptoBulk d + 1
 end
def uptoSmall : (H : Type) → List (DataW H) → Bool := fun _ ds => decide (uptoBulkAll ds ≤ 1048576)
def OpenSpec.upto (s : _root_.Go.ChangeSpec) : _root_.Go.OpenSpec := { _root_.Go.OpenSpec.ofChange s with cond := some uptoSmall }

/-- 'vinculumlaw6.RecRaces', WHERE WHAT IT READS IS OF BULK AT MOST 1048576: true; the input reads as it did. -/
def recRacesUptoRow : OpenClaim := { program := "ytjojbfgppgnmjaa", sum := "48fb65599177a4204a5ed2b7a8e6ddd71f894ddb67789aa560cf2aba687275d0", func := "vinculum/vinculumlaw6.RecRaces", spec := "recRaces", inPlace := ["sync/atomic.LoadUint32", "(*internal/sync.Mutex).Lock", "internal/race.Disable", "sync/atomic.CompareAndSwapInt32", "internal/race.Enable", "internal/race.Acquire", "(*internal/sync.Mutex).lockSlow", "internal/sync.runtime_canSpin", "internal/sync.runtime_doSpin", "internal/sync.throw", "internal/sync.runtime_nanotime", "internal/sync.runtime_SemacquireMutex", "sync/atomic.AddInt32", "(*internal/sync.Mutex).Unlock", "internal/race.ReleaseMerge", "(*internal/sync.Mutex).unlockSlow", "internal/sync.fatal", "internal/sync.runtime_Semrelease", "sync/atomic.StoreUint32", "sync/atomic.AddInt64", "sync/atomic.StoreUint64", "sync/atomic.LoadUint64", "sync/atomic.CompareAndSwapUint64"], unfollowed := true, recurses := true, apart := false, narrowed := true }
def RecRacesUptoSaid : Prop := recRacesUptoRow.holds Try.pinned (OpenSpec.upto recRacesSpec)

/-- 'vinculumlaw6.RecWords', WHERE WHAT IT READS IS OF BULK AT MOST 1048576: true; the input reads as it did. -/
def recWordsUptoRow : OpenClaim := { program := "ytjojbfgppgnmjaa", sum := "48fb65599177a4204a5ed2b7a8e6ddd71f894ddb67789aa560cf2aba687275d0", func := "vinculum/vinculumlaw6.RecWords", spec := "recWords", inPlace := ["sync/atomic.LoadUint32", "(*internal/sync.Mutex).Lock", "internal/race.Disable", "sync/atomic.CompareAndSwapInt32", "internal/race.Enable", "internal/race.Acquire", "(*internal/sync.Mutex).lockSlow", "internal/sync.runtime_canSpin", "internal/sync.runtime_doSpin", "internal/sync.throw", "internal/sync.runtime_nanotime", "internal/sync.runtime_SemacquireMutex", "sync/atomic.AddInt32", "(*internal/sync.Mutex).Unlock", "internal/race.ReleaseMerge", "(*internal/sync.Mutex).unlockSlow", "internal/sync.fatal", "internal/sync.runtime_Semrelease", "sync/atomic.StoreUint32", "sync/atomic.AddInt64", "sync/atomic.StoreUint64", "sync/atomic.CompareAndSwapUint64", "sync/atomic.LoadUint64"], unfollowed := true, recurses := true, apart := false, narrowed := true }
def RecWordsUptoSaid : Prop := recWordsUptoRow.holds Try.pinned (OpenSpec.upto recWordsSpec)

/-- 'vinculumlaw6.RecRows', WHERE WHAT IT READS IS OF BULK AT MOST 1048576: true; the input reads as it did. -/
def recRowsUptoRow : OpenClaim := { program := "ytjojbfgppgnmjaa", sum := "48fb65599177a4204a5ed2b7a8e6ddd71f894ddb67789aa560cf2aba687275d0", func := "vinculum/vinculumlaw6.RecRows", spec := "recRows", inPlace := ["sync/atomic.LoadUint32", "(*internal/sync.Mutex).Lock", "internal/race.Disable", "sync/atomic.CompareAndSwapInt32", "internal/race.Enable", "internal/race.Acquire", "(*internal/sync.Mutex).lockSlow", "internal/sync.runtime_canSpin", "internal/sync.runtime_doSpin", "internal/sync.throw", "internal/sync.runtime_nanotime", "internal/sync.runtime_SemacquireMutex", "sync/atomic.AddInt32", "(*internal/sync.Mutex).Unlock", "internal/race.ReleaseMerge", "(*internal/sync.Mutex).unlockSlow", "internal/sync.fatal", "internal/sync.runtime_Semrelease", "sync/atomic.StoreUint32", "sync/atomic.AddInt64", "sync/atomic.StoreUint64", "sync/atomic.LoadUint64"], unfollowed := true, recurses := true, apart := false, narrowed := true }
def RecRowsUptoSaid : Prop := recRowsUptoRow.holds Try.pinned (OpenSpec.upto recRowsSpec)

/-- 'vinculumlaw6.RecFull', WHERE WHAT IT READS IS OF BULK AT MOST 1048576: true; the input reads as it did. -/
def recFullUptoRow : OpenClaim := { program := "ytjojbfgppgnmjaa", sum := "48fb65599177a4204a5ed2b7a8e6ddd71f894ddb67789aa560cf2aba687275d0", func := "vinculum/vinculumlaw6.RecFull", spec := "recFull", inPlace := ["sync/atomic.LoadUint32", "(*internal/sync.Mutex).Lock", "internal/race.Disable", "sync/atomic.CompareAndSwapInt32", "internal/race.Enable", "internal/race.Acquire", "(*internal/sync.Mutex).lockSlow", "internal/sync.runtime_canSpin", "internal/sync.runtime_doSpin", "internal/sync.throw", "internal/sync.runtime_nanotime", "internal/sync.runtime_SemacquireMutex", "sync/atomic.AddInt32", "(*internal/sync.Mutex).Unlock", "internal/race.ReleaseMerge", "(*internal/sync.Mutex).unlockSlow", "internal/sync.fatal", "internal/sync.runtime_Semrelease", "sync/atomic.StoreUint32", "sync/atomic.AddInt64", "sync/atomic.StoreUint64", "sync/atomic.CompareAndSwapUint64", "sync/atomic.LoadUint64"], unfollowed := true, recurses := true, apart := false, narrowed := true }
def RecFullUptoSaid : Prop := recFullUptoRow.holds Try.pinned (OpenSpec.upto recFullSpec)

/-- 'vinculumlaw6.RecPlays', WHERE WHAT IT READS IS OF BULK AT MOST 1048576: true; the input reads as it did. -/
def recPlaysUptoRow : OpenClaim := { program := "ytjojbfgppgnmjaa", sum := "48fb65599177a4204a5ed2b7a8e6ddd71f894ddb67789aa560cf2aba687275d0", func := "vinculum/vinculumlaw6.RecPlays", spec := "recPlays", inPlace := ["sync/atomic.LoadUint32", "(*internal/sync.Mutex).Lock", "internal/race.Disable", "sync/atomic.CompareAndSwapInt32", "internal/race.Enable", "internal/race.Acquire", "(*internal/sync.Mutex).lockSlow", "internal/sync.runtime_canSpin", "internal/sync.runtime_doSpin", "internal/sync.throw", "internal/sync.runtime_nanotime", "internal/sync.runtime_SemacquireMutex", "sync/atomic.AddInt32", "(*internal/sync.Mutex).Unlock", "internal/race.ReleaseMerge", "(*internal/sync.Mutex).unlockSlow", "internal/sync.fatal", "internal/sync.runtime_Semrelease", "sync/atomic.StoreUint32", "sync/atomic.AddInt64", "sync/atomic.StoreUint64", "sync/atomic.LoadUint64", "sync/atomic.CompareAndSwapUint64"], unfollowed := true, recurses := true, apart := false, narrowed := true }
def RecPlaysUptoSaid : Prop := recPlaysUptoRow.holds Try.pinned (OpenSpec.upto recPlaysSpec)

/-- 'vinculumlaw9.ChainMiddle', WHERE WHAT IT READS IS OF BULK AT MOST 1048576: true; the input reads as it did. -/
def chainMiddleUptoRow : OpenClaim := { program := "ytjojbfgppgnmjaa", sum := "48fb65599177a4204a5ed2b7a8e6ddd71f894ddb67789aa560cf2aba687275d0", func := "vinculum/vinculumlaw9.ChainMiddle", spec := "chainMiddle", inPlace := ["sync/atomic.LoadUint32", "(*internal/sync.Mutex).Lock", "internal/race.Disable", "sync/atomic.CompareAndSwapInt32", "internal/race.Enable", "internal/race.Acquire", "(*internal/sync.Mutex).lockSlow", "internal/sync.runtime_canSpin", "internal/sync.runtime_doSpin", "internal/sync.throw", "internal/sync.runtime_nanotime", "internal/sync.runtime_SemacquireMutex", "sync/atomic.AddInt32", "(*internal/sync.Mutex).Unlock", "internal/race.ReleaseMerge", "(*internal/sync.Mutex).unlockSlow", "internal/sync.fatal", "internal/sync.runtime_Semrelease", "sync/atomic.StoreUint32", "sync/atomic.AddInt64", "sync/atomic.StoreUint64", "sync/atomic.LoadUint64", "sync/atomic.CompareAndSwapUint64"], unfollowed := true, recurses := true, apart := false, narrowed := true }
def ChainMiddleUptoSaid : Prop := chainMiddleUptoRow.holds Try.pinned (OpenSpec.upto chainMiddleSpec)

/-- 'vinculumlaw9.ChainOrders', WHERE WHAT IT READS IS OF BULK AT MOST 1048576: true; the input reads as it did. -/
def chainOrdersUptoRow : OpenClaim := { program := "ytjojbfgppgnmjaa", sum := "48fb65599177a4204a5ed2b7a8e6ddd71f894ddb67789aa560cf2aba687275d0", func := "vinculum/vinculumlaw9.ChainOrders", spec := "chainOrders", inPlace := ["sync/atomic.LoadUint32", "(*internal/sync.Mutex).Lock", "internal/race.Disable", "sync/atomic.CompareAndSwapInt32", "internal/race.Enable", "internal/race.Acquire", "(*internal/sync.Mutex).lockSlow", "internal/sync.runtime_canSpin", "internal/sync.runtime_doSpin", "internal/sync.throw", "internal/sync.runtime_nanotime", "internal/sync.runtime_SemacquireMutex", "sync/atomic.AddInt32", "(*internal/sync.Mutex).Unlock", "internal/race.ReleaseMerge", "(*internal/sync.Mutex).unlockSlow", "internal/sync.fatal", "internal/sync.runtime_Semrelease", "sync/atomic.StoreUint32", "sync/atomic.AddInt64", "sync/atomic.StoreUint64", "sync/atomic.LoadUint64", "sync/atomic.CompareAndSwapUint64"], unfollowed := true, recurses := true, apart := false, narrowed := true }
def ChainOrdersUptoSaid : Prop := chainOrdersUptoRow.holds Try.pinned (OpenSpec.upto chainOrdersSpec)

/-- 'vinculumlaw9.ChainPlays', WHERE WHAT IT READS IS OF BULK AT MOST 1048576: true; the input reads as it did. -/
def chainPlaysUptoRow : OpenClaim := { program := "ytjojbfgppgnmjaa", sum := "48fb65599177a4204a5ed2b7a8e6ddd71f894ddb67789aa560cf2aba687275d0", func := "vinculum/vinculumlaw9.ChainPlays", spec := "chainPlays", inPlace := ["sync/atomic.LoadUint32", "(*internal/sync.Mutex).Lock", "internal/race.Disable", "sync/atomic.CompareAndSwapInt32", "internal/race.Enable", "internal/race.Acquire", "(*internal/sync.Mutex).lockSlow", "internal/sync.runtime_canSpin", "internal/sync.runtime_doSpin", "internal/sync.throw", "internal/sync.runtime_nanotime", "internal/sync.runtime_SemacquireMutex", "sync/atomic.AddInt32", "(*internal/sync.Mutex).Unlock", "internal/race.ReleaseMerge", "(*internal/sync.Mutex).unlockSlow", "internal/sync.fatal", "internal/sync.runtime_Semrelease", "sync/atomic.StoreUint32", "sync/atomic.AddInt64", "sync/atomic.StoreUint64", "sync/atomic.LoadUint64", "sync/atomic.CompareAndSwapUint64"], unfollowed := true, recurses := true, apart := false, narrowed := true }
def ChainPlaysUptoSaid : Prop := chainPlaysUptoRow.holds Try.pinned (OpenSpec.upto chainPlaysSpec)

/-- 'vinculumlaw22.SweepAgain', WHERE WHAT IT READS IS OF BULK AT MOST 1048576: true; the input reads as it did. -/
def sweepAgainUptoRow : OpenClaim := { program := "ytjojbfgppgnmjaa", sum := "48fb65599177a4204a5ed2b7a8e6ddd71f894ddb67789aa560cf2aba687275d0", func := "vinculum/vinculumlaw22.SweepAgain", spec := "sweepAgain", inPlace := ["sync/atomic.LoadUint32", "(*internal/sync.Mutex).Lock", "internal/race.Disable", "sync/atomic.CompareAndSwapInt32", "internal/race.Enable", "internal/race.Acquire", "(*internal/sync.Mutex).lockSlow", "internal/sync.runtime_canSpin", "internal/sync.runtime_doSpin", "internal/sync.throw", "internal/sync.runtime_nanotime", "internal/sync.runtime_SemacquireMutex", "sync/atomic.AddInt32", "(*internal/sync.Mutex).Unlock", "internal/race.ReleaseMerge", "(*internal/sync.Mutex).unlockSlow", "internal/sync.fatal", "internal/sync.runtime_Semrelease", "sync/atomic.StoreUint32", "sync/atomic.AddInt64", "sync/atomic.StoreUint64", "sync/atomic.LoadUint64", "sync/atomic.CompareAndSwapUint64"], unfollowed := true, recurses := true, apart := false, narrowed := true }
def SweepAgainUptoSaid : Prop := sweepAgainUptoRow.holds Try.pinned (OpenSpec.upto sweepAgainSpec)

/-- 'vinculumlaw22.SweepTells', WHERE WHAT IT READS IS OF BULK AT MOST 1048576: true; the input reads as it did. -/
def sweepTellsUptoRow : OpenClaim := { program := "ytjojbfgppgnmjaa", sum := "48fb65599177a4204a5ed2b7a8e6ddd71f894ddb67789aa560cf2aba687275d0", func := "vinculum/vinculumlaw22.SweepTells", spec := "sweepTells", inPlace := ["sync/atomic.LoadUint32", "(*internal/sync.Mutex).Lock", "internal/race.Disable", "sync/atomic.CompareAndSwapInt32", "internal/race.Enable", "internal/race.Acquire", "(*internal/sync.Mutex).lockSlow", "internal/sync.runtime_canSpin", "internal/sync.runtime_doSpin", "internal/sync.throw", "internal/sync.runtime_nanotime", "internal/sync.runtime_SemacquireMutex", "sync/atomic.AddInt32", "(*internal/sync.Mutex).Unlock", "internal/race.ReleaseMerge", "(*internal/sync.Mutex).unlockSlow", "internal/sync.fatal", "internal/sync.runtime_Semrelease", "sync/atomic.StoreUint32", "sync/atomic.AddInt64", "sync/atomic.StoreUint64", "sync/atomic.LoadUint64", "sync/atomic.CompareAndSwapUint64"], unfollowed := true, recurses := true, apart := false, narrowed := true }
def SweepTellsUptoSaid : Prop := sweepTellsUptoRow.holds Try.pinned (OpenSpec.upto sweepTellsSpec)

/-- 'vinculumlaw22.SweepKeeps', WHERE WHAT IT READS IS OF BULK AT MOST 1048576: true; the input reads as it did. -/
def sweepKeepsUptoRow : OpenClaim := { program := "ytjojbfgppgnmjaa", sum := "48fb65599177a4204a5ed2b7a8e6ddd71f894ddb67789aa560cf2aba687275d0", func := "vinculum/vinculumlaw22.SweepKeeps", spec := "sweepKeeps", inPlace := ["sync/atomic.LoadUint32", "(*internal/sync.Mutex).Lock", "internal/race.Disable", "sync/atomic.CompareAndSwapInt32", "internal/race.Enable", "internal/race.Acquire", "(*internal/sync.Mutex).lockSlow", "internal/sync.runtime_canSpin", "internal/sync.runtime_doSpin", "internal/sync.throw", "internal/sync.runtime_nanotime", "internal/sync.runtime_SemacquireMutex", "sync/atomic.AddInt32", "(*internal/sync.Mutex).Unlock", "internal/race.ReleaseMerge", "(*internal/sync.Mutex).unlockSlow", "internal/sync.fatal", "internal/sync.runtime_Semrelease", "sync/atomic.StoreUint32", "sync/atomic.AddInt64", "sync/atomic.StoreUint64", "sync/atomic.LoadUint64", "sync/atomic.CompareAndSwapUint64"], unfollowed := true, recurses := true, apart := false, narrowed := true }
def SweepKeepsUptoSaid : Prop := sweepKeepsUptoRow.holds Try.pinned (OpenSpec.upto sweepKeepsSpec)

/-- 'vinculumlaw22.SweepUnseen', WHERE WHAT IT READS IS OF BULK AT MOST 1048576: true; the input reads as it did. -/
def sweepUnseenUptoRow : OpenClaim := { program := "ytjojbfgppgnmjaa", sum := "48fb65599177a4204a5ed2b7a8e6ddd71f894ddb67789aa560cf2aba687275d0", func := "vinculum/vinculumlaw22.SweepUnseen", spec := "sweepUnseen", inPlace := ["sync/atomic.LoadUint32", "(*internal/sync.Mutex).Lock", "internal/race.Disable", "sync/atomic.CompareAndSwapInt32", "internal/race.Enable", "internal/race.Acquire", "(*internal/sync.Mutex).lockSlow", "internal/sync.runtime_canSpin", "internal/sync.runtime_doSpin", "internal/sync.throw", "internal/sync.runtime_nanotime", "internal/sync.runtime_SemacquireMutex", "sync/atomic.AddInt32", "(*internal/sync.Mutex).Unlock", "internal/race.ReleaseMerge", "(*internal/sync.Mutex).unlockSlow", "internal/sync.fatal", "internal/sync.runtime_Semrelease", "sync/atomic.StoreUint32", "sync/atomic.AddInt64", "sync/atomic.StoreUint64", "sync/atomic.LoadUint64", "sync/atomic.CompareAndSwapUint64"], unfollowed := true, recurses := true, apart := false, narrowed := true }
def SweepUnseenUptoSaid : Prop := sweepUnseenUptoRow.holds Try.pinned (OpenSpec.upto sweepUnseenSpec)

end Rows
end Go.Proofs.Ytjojbfgppgnmjaa
