/-
  No cell of these rows narrows 'for every input' (looked for: loops, veiled, ifaces, maps, wideKeys, modest, calm, conditions, laid).
  DERIVED. THE GIVEN ROWS OF THIS SEAT. 12 by the template 'for every input the law returns true; each argument reads behind the call as it read before'; 0 by the template 'total and deterministic' (their statements: YtbiadeniplmkfaaTotals.lean).
  GIVEN WITH THE SEED: the statements are not yours to turn. If you find one false, say at which input.
  Laid BY PROGRAM, IN A SANDBOX (cutbox-rows.mjs): the forced cells as the released guide's own fill.sh prints them over the translation b75bf60843a1110c… (all of the seat's roots in one cut). By AI agents, Wed Nov 11 2026. No macro, syntax, notation, axiom, sorry.
-/
import Derived.Test.YtbiadeniplmkfaaChecked
import GoSem.Claim
import GoSem.ClaimJoined
import GoSem.ClaimMapViews
import Derived.JoinedTies
import Derived.KernelRfl
namespace Go.Proofs.Ytbiadeniplmkfaa
/- THE CELL 'sum', in the pinned program and in every row, IS THE sha256 OF THE DUMP (.gsa) THAT YtbiadeniplmkfaaProg.lean LOADS. Nothing in Lean hashes anything: it is a label: what it is worth is what the hold of that sum in a sandbox is worth. -/
noncomputable def Try.pinned : Pinned := { name := "ytbiadeniplmkfaa", sum := "b75bf60843a1110cd2e6bdc8d2ac6cd84eded4297c6d0904e4e90cce30278800", checked := Try.checked }
namespace Rows
def none {H : Type} : Left H := { results := [], args := [] }

/-- 'vinculumlaw8.MayStates': WHATEVER THE INPUT: true; the input reads as it did. -/
def mayStatesSpec : ChangeSpec := { name := "mayStates", fn := fun _ => fun
  | [d1, d2, d3] => { results := [.lit (.bool true)], args := [d1, d2, d3] }
  | _ => none }
def mayStatesRow : OpenClaim := { program := "ytbiadeniplmkfaa", sum := "b75bf60843a1110cd2e6bdc8d2ac6cd84eded4297c6d0904e4e90cce30278800", func := "vinculum/vinculumlaw8.MayStates", spec := "mayStates", unfollowed := true, recurses := true, apart := false }
def MayStatesSaid : Prop := mayStatesRow.holds Try.pinned (OpenSpec.ofChange mayStatesSpec)

/-- ITS FALSE NEIGHBOUR: 'it returns false'. Refute it at one input. -/
def mayStatesWrong : ChangeSpec := { name := "mayStates", fn := fun _ => fun
  | [d1, d2, d3] => { results := [.lit (.bool false)], args := [d1, d2, d3] }
  | _ => none }
def MayStatesWrongFalsely : Prop := mayStatesRow.holds Try.pinned (OpenSpec.ofChange mayStatesWrong)

/-- 'vinculumlaw8.MayTells': WHATEVER THE INPUT: true; the input reads as it did. -/
def mayTellsSpec : ChangeSpec := { name := "mayTells", fn := fun _ => fun
  | [d1, d2, d3, d4, d5, d6, d7] => { results := [.lit (.bool true)], args := [d1, d2, d3, d4, d5, d6, d7] }
  | _ => none }
def mayTellsRow : OpenClaim := { program := "ytbiadeniplmkfaa", sum := "b75bf60843a1110cd2e6bdc8d2ac6cd84eded4297c6d0904e4e90cce30278800", func := "vinculum/vinculumlaw8.MayTells", spec := "mayTells", unfollowed := true, recurses := true, apart := false }
def MayTellsSaid : Prop := mayTellsRow.holds Try.pinned (OpenSpec.ofChange mayTellsSpec)

/-- ITS FALSE NEIGHBOUR: 'it returns false'. Refute it at one input. -/
def mayTellsWrong : ChangeSpec := { name := "mayTells", fn := fun _ => fun
  | [d1, d2, d3, d4, d5, d6, d7] => { results := [.lit (.bool false)], args := [d1, d2, d3, d4, d5, d6, d7] }
  | _ => none }
def MayTellsWrongFalsely : Prop := mayTellsRow.holds Try.pinned (OpenSpec.ofChange mayTellsWrong)

/-- 'vinculumlaw8.MayOne': WHATEVER THE INPUT: true; the input reads as it did. -/
def mayOneSpec : ChangeSpec := { name := "mayOne", fn := fun _ => fun
  | [d1, d2, d3, d4] => { results := [.lit (.bool true)], args := [d1, d2, d3, d4] }
  | _ => none }
def mayOneRow : OpenClaim := { program := "ytbiadeniplmkfaa", sum := "b75bf60843a1110cd2e6bdc8d2ac6cd84eded4297c6d0904e4e90cce30278800", func := "vinculum/vinculumlaw8.MayOne", spec := "mayOne", unfollowed := true, recurses := true, apart := false }
def MayOneSaid : Prop := mayOneRow.holds Try.pinned (OpenSpec.ofChange mayOneSpec)

/-- ITS FALSE NEIGHBOUR: 'it returns false'. Refute it at one input. -/
def mayOneWrong : ChangeSpec := { name := "mayOne", fn := fun _ => fun
  | [d1, d2, d3, d4] => { results := [.lit (.bool false)], args := [d1, d2, d3, d4] }
  | _ => none }
def MayOneWrongFalsely : Prop := mayOneRow.holds Try.pinned (OpenSpec.ofChange mayOneWrong)

/-- 'vinculumlaw8.MayFirst': WHATEVER THE INPUT: true; the input reads as it did. -/
def mayFirstSpec : ChangeSpec := { name := "mayFirst", fn := fun _ => fun
  | [d1, d2, d3, d4] => { results := [.lit (.bool true)], args := [d1, d2, d3, d4] }
  | _ => none }
def mayFirstRow : OpenClaim := { program := "ytbiadeniplmkfaa", sum := "b75bf60843a1110cd2e6bdc8d2ac6cd84eded4297c6d0904e4e90cce30278800", func := "vinculum/vinculumlaw8.MayFirst", spec := "mayFirst", unfollowed := true, recurses := true, apart := false }
def MayFirstSaid : Prop := mayFirstRow.holds Try.pinned (OpenSpec.ofChange mayFirstSpec)

/-- ITS FALSE NEIGHBOUR: 'it returns false'. Refute it at one input. -/
def mayFirstWrong : ChangeSpec := { name := "mayFirst", fn := fun _ => fun
  | [d1, d2, d3, d4] => { results := [.lit (.bool false)], args := [d1, d2, d3, d4] }
  | _ => none }
def MayFirstWrongFalsely : Prop := mayFirstRow.holds Try.pinned (OpenSpec.ofChange mayFirstWrong)

/-- 'vinculumlaw7.SeeStates': WHATEVER THE INPUT: true; the input reads as it did. -/
def seeStatesSpec : ChangeSpec := { name := "seeStates", fn := fun _ => fun
  | [d1, d2, d3] => { results := [.lit (.bool true)], args := [d1, d2, d3] }
  | _ => none }
def seeStatesRow : OpenClaim := { program := "ytbiadeniplmkfaa", sum := "b75bf60843a1110cd2e6bdc8d2ac6cd84eded4297c6d0904e4e90cce30278800", func := "vinculum/vinculumlaw7.SeeStates", spec := "seeStates", unfollowed := true, recurses := true, apart := false }
def SeeStatesSaid : Prop := seeStatesRow.holds Try.pinned (OpenSpec.ofChange seeStatesSpec)

/-- ITS FALSE NEIGHBOUR: 'it returns false'. Refute it at one input. -/
def seeStatesWrong : ChangeSpec := { name := "seeStates", fn := fun _ => fun
  | [d1, d2, d3] => { results := [.lit (.bool false)], args := [d1, d2, d3] }
  | _ => none }
def SeeStatesWrongFalsely : Prop := seeStatesRow.holds Try.pinned (OpenSpec.ofChange seeStatesWrong)

/-- 'vinculumlaw7.SeeTurned': WHATEVER THE INPUT: true; the input reads as it did. -/
def seeTurnedSpec : ChangeSpec := { name := "seeTurned", fn := fun _ => fun
  | [d1, d2, d3, d4, d5, d6, d7] => { results := [.lit (.bool true)], args := [d1, d2, d3, d4, d5, d6, d7] }
  | _ => none }
def seeTurnedRow : OpenClaim := { program := "ytbiadeniplmkfaa", sum := "b75bf60843a1110cd2e6bdc8d2ac6cd84eded4297c6d0904e4e90cce30278800", func := "vinculum/vinculumlaw7.SeeTurned", spec := "seeTurned", unfollowed := true, recurses := true, apart := false }
def SeeTurnedSaid : Prop := seeTurnedRow.holds Try.pinned (OpenSpec.ofChange seeTurnedSpec)

/-- ITS FALSE NEIGHBOUR: 'it returns false'. Refute it at one input. -/
def seeTurnedWrong : ChangeSpec := { name := "seeTurned", fn := fun _ => fun
  | [d1, d2, d3, d4, d5, d6, d7] => { results := [.lit (.bool false)], args := [d1, d2, d3, d4, d5, d6, d7] }
  | _ => none }
def SeeTurnedWrongFalsely : Prop := seeTurnedRow.holds Try.pinned (OpenSpec.ofChange seeTurnedWrong)

/-- 'vinculumlaw7.SeeGrows': WHATEVER THE INPUT: true; the input reads as it did. -/
def seeGrowsSpec : ChangeSpec := { name := "seeGrows", fn := fun _ => fun
  | [d1, d2, d3, d4] => { results := [.lit (.bool true)], args := [d1, d2, d3, d4] }
  | _ => none }
def seeGrowsRow : OpenClaim := { program := "ytbiadeniplmkfaa", sum := "b75bf60843a1110cd2e6bdc8d2ac6cd84eded4297c6d0904e4e90cce30278800", func := "vinculum/vinculumlaw7.SeeGrows", spec := "seeGrows", unfollowed := true, recurses := true, apart := false }
def SeeGrowsSaid : Prop := seeGrowsRow.holds Try.pinned (OpenSpec.ofChange seeGrowsSpec)

/-- ITS FALSE NEIGHBOUR: 'it returns false'. Refute it at one input. -/
def seeGrowsWrong : ChangeSpec := { name := "seeGrows", fn := fun _ => fun
  | [d1, d2, d3, d4] => { results := [.lit (.bool false)], args := [d1, d2, d3, d4] }
  | _ => none }
def SeeGrowsWrongFalsely : Prop := seeGrowsRow.holds Try.pinned (OpenSpec.ofChange seeGrowsWrong)

/-- 'vinculumlaw7.SeeTells': WHATEVER THE INPUT: true; the input reads as it did. -/
def seeTellsSpec : ChangeSpec := { name := "seeTells", fn := fun _ => fun
  | [d1, d2, d3, d4, d5, d6, d7] => { results := [.lit (.bool true)], args := [d1, d2, d3, d4, d5, d6, d7] }
  | _ => none }
def seeTellsRow : OpenClaim := { program := "ytbiadeniplmkfaa", sum := "b75bf60843a1110cd2e6bdc8d2ac6cd84eded4297c6d0904e4e90cce30278800", func := "vinculum/vinculumlaw7.SeeTells", spec := "seeTells", unfollowed := true, recurses := true, apart := false }
def SeeTellsSaid : Prop := seeTellsRow.holds Try.pinned (OpenSpec.ofChange seeTellsSpec)

/-- ITS FALSE NEIGHBOUR: 'it returns false'. Refute it at one input. -/
def seeTellsWrong : ChangeSpec := { name := "seeTells", fn := fun _ => fun
  | [d1, d2, d3, d4, d5, d6, d7] => { results := [.lit (.bool false)], args := [d1, d2, d3, d4, d5, d6, d7] }
  | _ => none }
def SeeTellsWrongFalsely : Prop := seeTellsRow.holds Try.pinned (OpenSpec.ofChange seeTellsWrong)

/-- 'vinculumlaw7.SeeNone': WHATEVER THE INPUT: true; the input reads as it did. -/
def seeNoneSpec : ChangeSpec := { name := "seeNone", fn := fun _ => fun
  | [d1, d2, d3, d4] => { results := [.lit (.bool true)], args := [d1, d2, d3, d4] }
  | _ => none }
def seeNoneRow : OpenClaim := { program := "ytbiadeniplmkfaa", sum := "b75bf60843a1110cd2e6bdc8d2ac6cd84eded4297c6d0904e4e90cce30278800", func := "vinculum/vinculumlaw7.SeeNone", spec := "seeNone", unfollowed := true, recurses := true, apart := false }
def SeeNoneSaid : Prop := seeNoneRow.holds Try.pinned (OpenSpec.ofChange seeNoneSpec)

/-- ITS FALSE NEIGHBOUR: 'it returns false'. Refute it at one input. -/
def seeNoneWrong : ChangeSpec := { name := "seeNone", fn := fun _ => fun
  | [d1, d2, d3, d4] => { results := [.lit (.bool false)], args := [d1, d2, d3, d4] }
  | _ => none }
def SeeNoneWrongFalsely : Prop := seeNoneRow.holds Try.pinned (OpenSpec.ofChange seeNoneWrong)

/-- 'vinculumlaw7.SeeMaybe': WHATEVER THE INPUT: true; the input reads as it did. -/
def seeMaybeSpec : ChangeSpec := { name := "seeMaybe", fn := fun _ => fun
  | [d1, d2, d3, d4, d5, d6, d7] => { results := [.lit (.bool true)], args := [d1, d2, d3, d4, d5, d6, d7] }
  | _ => none }
def seeMaybeRow : OpenClaim := { program := "ytbiadeniplmkfaa", sum := "b75bf60843a1110cd2e6bdc8d2ac6cd84eded4297c6d0904e4e90cce30278800", func := "vinculum/vinculumlaw7.SeeMaybe", spec := "seeMaybe", unfollowed := true, recurses := true, apart := false }
def SeeMaybeSaid : Prop := seeMaybeRow.holds Try.pinned (OpenSpec.ofChange seeMaybeSpec)

/-- ITS FALSE NEIGHBOUR: 'it returns false'. Refute it at one input. -/
def seeMaybeWrong : ChangeSpec := { name := "seeMaybe", fn := fun _ => fun
  | [d1, d2, d3, d4, d5, d6, d7] => { results := [.lit (.bool false)], args := [d1, d2, d3, d4, d5, d6, d7] }
  | _ => none }
def SeeMaybeWrongFalsely : Prop := seeMaybeRow.holds Try.pinned (OpenSpec.ofChange seeMaybeWrong)

/-- 'vinculumlaw7.SeeOnce': WHATEVER THE INPUT: true; the input reads as it did. -/
def seeOnceSpec : ChangeSpec := { name := "seeOnce", fn := fun _ => fun
  | [d1, d2, d3] => { results := [.lit (.bool true)], args := [d1, d2, d3] }
  | _ => none }
def seeOnceRow : OpenClaim := { program := "ytbiadeniplmkfaa", sum := "b75bf60843a1110cd2e6bdc8d2ac6cd84eded4297c6d0904e4e90cce30278800", func := "vinculum/vinculumlaw7.SeeOnce", spec := "seeOnce", unfollowed := true, recurses := true, apart := false }
def SeeOnceSaid : Prop := seeOnceRow.holds Try.pinned (OpenSpec.ofChange seeOnceSpec)

/-- ITS FALSE NEIGHBOUR: 'it returns false'. Refute it at one input. -/
def seeOnceWrong : ChangeSpec := { name := "seeOnce", fn := fun _ => fun
  | [d1, d2, d3] => { results := [.lit (.bool false)], args := [d1, d2, d3] }
  | _ => none }
def SeeOnceWrongFalsely : Prop := seeOnceRow.holds Try.pinned (OpenSpec.ofChange seeOnceWrong)

/-- 'vinculumlaw8.MaySeen': WHATEVER THE INPUT: true; the input reads as it did. -/
def maySeenSpec : ChangeSpec := { name := "maySeen", fn := fun _ => fun
  | [d1, d2, d3, d4] => { results := [.lit (.bool true)], args := [d1, d2, d3, d4] }
  | _ => none }
def maySeenRow : OpenClaim := { program := "ytbiadeniplmkfaa", sum := "b75bf60843a1110cd2e6bdc8d2ac6cd84eded4297c6d0904e4e90cce30278800", func := "vinculum/vinculumlaw8.MaySeen", spec := "maySeen", unfollowed := true, recurses := true, apart := false }
def MaySeenSaid : Prop := maySeenRow.holds Try.pinned (OpenSpec.ofChange maySeenSpec)

/-- ITS FALSE NEIGHBOUR: 'it returns false'. Refute it at one input. -/
def maySeenWrong : ChangeSpec := { name := "maySeen", fn := fun _ => fun
  | [d1, d2, d3, d4] => { results := [.lit (.bool false)], args := [d1, d2, d3, d4] }
  | _ => none }
def MaySeenWrongFalsely : Prop := maySeenRow.holds Try.pinned (OpenSpec.ofChange maySeenWrong)

/- THE SECOND FORM. 'bulk': how many values and letters a reading holds, each counted each time it is reached (what is shared counts as often as it is met; a slice's spare places count too). A statement '..UptoSaid' is the law's where the arguments, and the package variables that the reading takes, are together of bulk at most 1048576: NARROWER than '..Said'. Prove '..Said' where nothing that the law and all that it calls make is longer than what came in: it says more and counts as full. Else prove '..UptoSaid'. A law counts once. -/
mutual
def uptoBulk {H : Type} : DataW H → Nat
  | .lit (.string bytes) => bytes.length + 1
  | .lit _ => 1
  | .nil => 1
  | .ptr d => uptoBulk d + 1
  | .slice elems spare => uptoBulkAll elems + uptoBulkAll spare + 1
  | .agg parts => uptoBulkAll parts + 1
  | .iface _ d => uptoBulk d + 1
  | .map entries => uptoBulkEntries entries + 1
  | .held _ => 1
def uptoBulkAll {H : Type} : List (DataW H) → Nat
  | [] => 0
  | d :: r => uptoBulk d + uptoBulkAll r
def uptoBulkEntries {H : Type} : List (Lit × DataW H) → Nat
  | [] => 0
  | x :: r => uptoBulkEntry x + uptoBulkEntries r
def uptoBulkEntry {H : Type} : Lit × DataW H → Nat
  | (.string bytes, d) => bytes.length + uptoBulk d + 1
  | (_, d) => uptoBulk d + 1
 end
def uptoSmall : (H : Type) → List (DataW H) → Bool := fun _ ds => decide (uptoBulkAll ds ≤ 1048576)
def OpenSpec.upto (s : _root_.Go.ChangeSpec) : _root_.Go.OpenSpec := { _root_.Go.OpenSpec.ofChange s with cond := some uptoSmall }

/-- 'vinculumlaw8.MayStates', WHERE WHAT IT READS IS OF BULK AT MOST 1048576: true; the input reads as it did. -/
def mayStatesUptoRow : OpenClaim := { program := "ytbiadeniplmkfaa", sum := "b75bf60843a1110cd2e6bdc8d2ac6cd84eded4297c6d0904e4e90cce30278800", func := "vinculum/vinculumlaw8.MayStates", spec := "mayStates", unfollowed := true, recurses := true, apart := false, narrowed := true }
def MayStatesUptoSaid : Prop := mayStatesUptoRow.holds Try.pinned (OpenSpec.upto mayStatesSpec)

/-- 'vinculumlaw8.MayTells', WHERE WHAT IT READS IS OF BULK AT MOST 1048576: true; the input reads as it did. -/
def mayTellsUptoRow : OpenClaim := { program := "ytbiadeniplmkfaa", sum := "b75bf60843a1110cd2e6bdc8d2ac6cd84eded4297c6d0904e4e90cce30278800", func := "vinculum/vinculumlaw8.MayTells", spec := "mayTells", unfollowed := true, recurses := true, apart := false, narrowed := true }
def MayTellsUptoSaid : Prop := mayTellsUptoRow.holds Try.pinned (OpenSpec.upto mayTellsSpec)

/-- 'vinculumlaw8.MayOne', WHERE WHAT IT READS IS OF BULK AT MOST 1048576: true; the input reads as it did. -/
def mayOneUptoRow : OpenClaim := { program := "ytbiadeniplmkfaa", sum := "b75bf60843a1110cd2e6bdc8d2ac6cd84eded4297c6d0904e4e90cce30278800", func := "vinculum/vinculumlaw8.MayOne", spec := "mayOne", unfollowed := true, recurses := true, apart := false, narrowed := true }
def MayOneUptoSaid : Prop := mayOneUptoRow.holds Try.pinned (OpenSpec.upto mayOneSpec)

/-- 'vinculumlaw8.MayFirst', WHERE WHAT IT READS IS OF BULK AT MOST 1048576: true; the input reads as it did. -/
def mayFirstUptoRow : OpenClaim := { program := "ytbiadeniplmkfaa", sum := "b75bf60843a1110cd2e6bdc8d2ac6cd84eded4297c6d0904e4e90cce30278800", func := "vinculum/vinculumlaw8.MayFirst", spec := "mayFirst", unfollowed := true, recurses := true, apart := false, narrowed := true }
def MayFirstUptoSaid : Prop := mayFirstUptoRow.holds Try.pinned (OpenSpec.upto mayFirstSpec)

/-- 'vinculumlaw7.SeeStates', WHERE WHAT IT READS IS OF BULK AT MOST 1048576: true; the input reads as it did. -/
def seeStatesUptoRow : OpenClaim := { program := "ytbiadeniplmkfaa", sum := "b75bf60843a1110cd2e6bdc8d2ac6cd84eded4297c6d0904e4e90cce30278800", func := "vinculum/vinculumlaw7.SeeStates", spec := "seeStates", unfollowed := true, recurses := true, apart := false, narrowed := true }
def SeeStatesUptoSaid : Prop := seeStatesUptoRow.holds Try.pinned (OpenSpec.upto seeStatesSpec)

/-- 'vinculumlaw7.SeeTurned', WHERE WHAT IT READS IS OF BULK AT MOST 1048576: true; the input reads as it did. -/
def seeTurnedUptoRow : OpenClaim := { program := "ytbiadeniplmkfaa", sum := "b75bf60843a1110cd2e6bdc8d2ac6cd84eded4297c6d0904e4e90cce30278800", func := "vinculum/vinculumlaw7.SeeTurned", spec := "seeTurned", unfollowed := true, recurses := true, apart := false, narrowed := true }
def SeeTurnedUptoSaid : Prop := seeTurnedUptoRow.holds Try.pinned (OpenSpec.upto seeTurnedSpec)

/-- 'vinculumlaw7.SeeGrows', WHERE WHAT IT READS IS OF BULK AT MOST 1048576: true; the input reads as it did. -/
def seeGrowsUptoRow : OpenClaim := { program := "ytbiadeniplmkfaa", sum := "b75bf60843a1110cd2e6bdc8d2ac6cd84eded4297c6d0904e4e90cce30278800", func := "vinculum/vinculumlaw7.SeeGrows", spec := "seeGrows", unfollowed := true, recurses := true, apart := false, narrowed := true }
def SeeGrowsUptoSaid : Prop := seeGrowsUptoRow.holds Try.pinned (OpenSpec.upto seeGrowsSpec)

/-- 'vinculumlaw7.SeeTells', WHERE WHAT IT READS IS OF BULK AT MOST 1048576: true; the input reads as it did. -/
def seeTellsUptoRow : OpenClaim := { program := "ytbiadeniplmkfaa", sum := "b75bf60843a1110cd2e6bdc8d2ac6cd84eded4297c6d0904e4e90cce30278800", func := "vinculum/vinculumlaw7.SeeTells", spec := "seeTells", unfollowed := true, recurses := true, apart := false, narrowed := true }
def SeeTellsUptoSaid : Prop := seeTellsUptoRow.holds Try.pinned (OpenSpec.upto seeTellsSpec)

/-- 'vinculumlaw7.SeeNone', WHERE WHAT IT READS IS OF BULK AT MOST 1048576: true; the input reads as it did. -/
def seeNoneUptoRow : OpenClaim := { program := "ytbiadeniplmkfaa", sum := "b75bf60843a1110cd2e6bdc8d2ac6cd84eded4297c6d0904e4e90cce30278800", func := "vinculum/vinculumlaw7.SeeNone", spec := "seeNone", unfollowed := true, recurses := true, apart := false, narrowed := true }
def SeeNoneUptoSaid : Prop := seeNoneUptoRow.holds Try.pinned (OpenSpec.upto seeNoneSpec)

/-- 'vinculumlaw7.SeeMaybe', WHERE WHAT IT READS IS OF BULK AT MOST 1048576: true; the input reads as it did. -/
def seeMaybeUptoRow : OpenClaim := { program := "ytbiadeniplmkfaa", sum := "b75bf60843a1110cd2e6bdc8d2ac6cd84eded4297c6d0904e4e90cce30278800", func := "vinculum/vinculumlaw7.SeeMaybe", spec := "seeMaybe", unfollowed := true, recurses := true, apart := false, narrowed := true }
def SeeMaybeUptoSaid : Prop := seeMaybeUptoRow.holds Try.pinned (OpenSpec.upto seeMaybeSpec)

/-- 'vinculumlaw7.SeeOnce', WHERE WHAT IT READS IS OF BULK AT MOST 1048576: true; the input reads as it did. -/
def seeOnceUptoRow : OpenClaim := { program := "ytbiadeniplmkfaa", sum := "b75bf60843a1110cd2e6bdc8d2ac6cd84eded4297c6d0904e4e90cce30278800", func := "vinculum/vinculumlaw7.SeeOnce", spec := "seeOnce", unfollowed := true, recurses := true, apart := false, narrowed := true }
def SeeOnceUptoSaid : Prop := seeOnceUptoRow.holds Try.pinned (OpenSpec.upto seeOnceSpec)

/-- 'vinculumlaw8.MaySeen', WHERE WHAT IT READS IS OF BULK AT MOST 1048576: true; the input reads as it did. -/
def maySeenUptoRow : OpenClaim := { program := "ytbiadeniplmkfaa", sum := "b75bf60843a1110cd2e6bdc8d2ac6cd84eded4297c6d0904e4e90cce30278800", func := "vinculum/vinculumlaw8.MaySeen", spec := "maySeen", unfollowed := true, recurses := true, apart := false, narrowed := true }
def MaySeenUptoSaid : Prop := maySeenUptoRow.holds Try.pinned (OpenSpec.upto maySeenSpec)

end Rows
end Go.Proofs.Ytbiadeniplmkfaa
