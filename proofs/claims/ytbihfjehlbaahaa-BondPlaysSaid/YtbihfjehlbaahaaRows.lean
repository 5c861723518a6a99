/-
  No cell of these rows narrows 'for every input' (looked for: loops, veiled, ifaces, maps, wideKeys, modest, calm, conditions, laid).
  DERIVED. THE GIVEN ROWS OF THIS SEAT. 9 by the template 'for every input the law returns true; each argument reads behind the call as it read before'; 0 by the template 'total and deterministic' (their statements: YtbihfjehlbaahaaTotals.lean).
  GIVEN WITH THE SEED: the statements are not yours to turn. If you find one false, say at which input.
  Laid BY PROGRAM, IN A SANDBOX (cutbox-rows.mjs): the forced cells as the released guide's own fill.sh prints them over the translation 2dcd1952704ec3bd… (all of the seat's roots in one cut). By AI agents, Wed Nov 11 2026. No macro, syntax, notation, axiom, sorry.
-/
import Derived.Test.YtbihfjehlbaahaaChecked
import GoSem.Claim
import GoSem.ClaimJoined
import GoSem.ClaimMapViews
import Derived.JoinedTies
import Derived.KernelRfl
namespace Go.Proofs.Ytbihfjehlbaahaa
/- THE CELL 'sum', in the pinned program and in every row, IS THE sha256 OF THE DUMP (.gsa) THAT YtbihfjehlbaahaaProg.lean LOADS. Nothing in Lean hashes anything: it is a label: what it is worth is what the hold of that sum in a sandbox is worth. -/
noncomputable def Try.pinned : Pinned := { name := "ytbihfjehlbaahaa", sum := "2dcd1952704ec3bd9b75f37ead6251bc453ae4daffa2b2cf61c04d13e626d274", checked := Try.checked }
namespace Rows
def none {H : Type} : Left H := { results := [], args := [] }

/-- 'vinculumlaw17.MarkGarbage': WHATEVER THE INPUT: true; the input reads as it did. -/
def markGarbageSpec : ChangeSpec := { name := "markGarbage", fn := fun _ => fun
  | [d1, d2, d3, d4, d5] => { results := [.lit (.bool true)], args := [d1, d2, d3, d4, d5] }
  | _ => none }
def markGarbageRow : OpenClaim := { program := "ytbihfjehlbaahaa", sum := "2dcd1952704ec3bd9b75f37ead6251bc453ae4daffa2b2cf61c04d13e626d274", func := "vinculum/vinculumlaw17.MarkGarbage", spec := "markGarbage", inPlace := ["slices.overlaps[*vinculum/mark.entry]", "sync/atomic.AddInt64", "sync/atomic.LoadInt64"], unfollowed := true, recurses := true, apart := false }
def MarkGarbageSaid : Prop := markGarbageRow.holds Try.pinned (OpenSpec.ofChange markGarbageSpec)

/-- ITS FALSE NEIGHBOUR: 'it returns false'. Refute it at one input. -/
def markGarbageWrong : ChangeSpec := { name := "markGarbage", fn := fun _ => fun
  | [d1, d2, d3, d4, d5] => { results := [.lit (.bool false)], args := [d1, d2, d3, d4, d5] }
  | _ => none }
def MarkGarbageWrongFalsely : Prop := markGarbageRow.holds Try.pinned (OpenSpec.ofChange markGarbageWrong)

/-- 'vinculumlaw16.BondRising': WHATEVER THE INPUT: true; the input reads as it did. -/
def bondRisingSpec : ChangeSpec := { name := "bondRising", fn := fun _ => fun
  | [d1, d2, d3] => { results := [.lit (.bool true)], args := [d1, d2, d3] }
  | _ => none }
def bondRisingRow : OpenClaim := { program := "ytbihfjehlbaahaa", sum := "2dcd1952704ec3bd9b75f37ead6251bc453ae4daffa2b2cf61c04d13e626d274", func := "vinculum/vinculumlaw16.BondRising", spec := "bondRising", recurses := true, apart := false }
def BondRisingSaid : Prop := bondRisingRow.holds Try.pinned (OpenSpec.ofChange bondRisingSpec)

/-- ITS FALSE NEIGHBOUR: 'it returns false'. Refute it at one input. -/
def bondRisingWrong : ChangeSpec := { name := "bondRising", fn := fun _ => fun
  | [d1, d2, d3] => { results := [.lit (.bool false)], args := [d1, d2, d3] }
  | _ => none }
def BondRisingWrongFalsely : Prop := bondRisingRow.holds Try.pinned (OpenSpec.ofChange bondRisingWrong)

/-- 'vinculumlaw16.BondLoops': WHATEVER THE INPUT: true; the input reads as it did. -/
def bondLoopsSpec : ChangeSpec := { name := "bondLoops", fn := fun _ => fun
  | [d1, d2, d3] => { results := [.lit (.bool true)], args := [d1, d2, d3] }
  | _ => none }
def bondLoopsRow : OpenClaim := { program := "ytbihfjehlbaahaa", sum := "2dcd1952704ec3bd9b75f37ead6251bc453ae4daffa2b2cf61c04d13e626d274", func := "vinculum/vinculumlaw16.BondLoops", spec := "bondLoops", recurses := true, apart := false }
def BondLoopsSaid : Prop := bondLoopsRow.holds Try.pinned (OpenSpec.ofChange bondLoopsSpec)

/-- ITS FALSE NEIGHBOUR: 'it returns false'. Refute it at one input. -/
def bondLoopsWrong : ChangeSpec := { name := "bondLoops", fn := fun _ => fun
  | [d1, d2, d3] => { results := [.lit (.bool false)], args := [d1, d2, d3] }
  | _ => none }
def BondLoopsWrongFalsely : Prop := bondLoopsRow.holds Try.pinned (OpenSpec.ofChange bondLoopsWrong)

/-- 'vinculumlaw16.BondDooms': WHATEVER THE INPUT: true; the input reads as it did. -/
def bondDoomsSpec : ChangeSpec := { name := "bondDooms", fn := fun _ => fun
  | [d1, d2, d3, d4] => { results := [.lit (.bool true)], args := [d1, d2, d3, d4] }
  | _ => none }
def bondDoomsRow : OpenClaim := { program := "ytbihfjehlbaahaa", sum := "2dcd1952704ec3bd9b75f37ead6251bc453ae4daffa2b2cf61c04d13e626d274", func := "vinculum/vinculumlaw16.BondDooms", spec := "bondDooms", unfollowed := true, recurses := true, apart := false }
def BondDoomsSaid : Prop := bondDoomsRow.holds Try.pinned (OpenSpec.ofChange bondDoomsSpec)

/-- ITS FALSE NEIGHBOUR: 'it returns false'. Refute it at one input. -/
def bondDoomsWrong : ChangeSpec := { name := "bondDooms", fn := fun _ => fun
  | [d1, d2, d3, d4] => { results := [.lit (.bool false)], args := [d1, d2, d3, d4] }
  | _ => none }
def BondDoomsWrongFalsely : Prop := bondDoomsRow.holds Try.pinned (OpenSpec.ofChange bondDoomsWrong)

/-- 'vinculumlaw16.BondEnds': WHATEVER THE INPUT: true; the input reads as it did. -/
def bondEndsSpec : ChangeSpec := { name := "bondEnds", fn := fun _ => fun
  | [d1, d2] => { results := [.lit (.bool true)], args := [d1, d2] }
  | _ => none }
def bondEndsRow : OpenClaim := { program := "ytbihfjehlbaahaa", sum := "2dcd1952704ec3bd9b75f37ead6251bc453ae4daffa2b2cf61c04d13e626d274", func := "vinculum/vinculumlaw16.BondEnds", spec := "bondEnds", unfollowed := true, recurses := true, apart := false }
def BondEndsSaid : Prop := bondEndsRow.holds Try.pinned (OpenSpec.ofChange bondEndsSpec)

/-- ITS FALSE NEIGHBOUR: 'it returns false'. Refute it at one input. -/
def bondEndsWrong : ChangeSpec := { name := "bondEnds", fn := fun _ => fun
  | [d1, d2] => { results := [.lit (.bool false)], args := [d1, d2] }
  | _ => none }
def BondEndsWrongFalsely : Prop := bondEndsRow.holds Try.pinned (OpenSpec.ofChange bondEndsWrong)

/-- 'vinculumlaw16.BondPlays': WHATEVER THE INPUT: true; the input reads as it did. -/
def bondPlaysSpec : ChangeSpec := { name := "bondPlays", fn := fun _ => fun
  | [d] => { results := [.lit (.bool true)], args := [d] }
  | _ => none }
def bondPlaysRow : OpenClaim := { program := "ytbihfjehlbaahaa", sum := "2dcd1952704ec3bd9b75f37ead6251bc453ae4daffa2b2cf61c04d13e626d274", func := "vinculum/vinculumlaw16.BondPlays", spec := "bondPlays", unfollowed := true, recurses := true, apart := false }
def BondPlaysSaid : Prop := bondPlaysRow.holds Try.pinned (OpenSpec.ofChange bondPlaysSpec)

/-- ITS FALSE NEIGHBOUR: 'it returns false'. Refute it at one input. -/
def bondPlaysWrong : ChangeSpec := { name := "bondPlays", fn := fun _ => fun
  | [d] => { results := [.lit (.bool false)], args := [d] }
  | _ => none }
def BondPlaysWrongFalsely : Prop := bondPlaysRow.holds Try.pinned (OpenSpec.ofChange bondPlaysWrong)

/-- 'vinculumlaw16.BondChains': WHATEVER THE INPUT: true; the input reads as it did. -/
def bondChainsSpec : ChangeSpec := { name := "bondChains", fn := fun _ => fun
  | [d1, d2] => { results := [.lit (.bool true)], args := [d1, d2] }
  | _ => none }
def bondChainsRow : OpenClaim := { program := "ytbihfjehlbaahaa", sum := "2dcd1952704ec3bd9b75f37ead6251bc453ae4daffa2b2cf61c04d13e626d274", func := "vinculum/vinculumlaw16.BondChains", spec := "bondChains", unfollowed := true, recurses := true, apart := false }
def BondChainsSaid : Prop := bondChainsRow.holds Try.pinned (OpenSpec.ofChange bondChainsSpec)

/-- ITS FALSE NEIGHBOUR: 'it returns false'. Refute it at one input. -/
def bondChainsWrong : ChangeSpec := { name := "bondChains", fn := fun _ => fun
  | [d1, d2] => { results := [.lit (.bool false)], args := [d1, d2] }
  | _ => none }
def BondChainsWrongFalsely : Prop := bondChainsRow.holds Try.pinned (OpenSpec.ofChange bondChainsWrong)

/-- 'vinculumlaw16.BondFans': WHATEVER THE INPUT: true; the input reads as it did. -/
def bondFansSpec : ChangeSpec := { name := "bondFans", fn := fun _ => fun
  | [d1, d2, d3] => { results := [.lit (.bool true)], args := [d1, d2, d3] }
  | _ => none }
def bondFansRow : OpenClaim := { program := "ytbihfjehlbaahaa", sum := "2dcd1952704ec3bd9b75f37ead6251bc453ae4daffa2b2cf61c04d13e626d274", func := "vinculum/vinculumlaw16.BondFans", spec := "bondFans", unfollowed := true, recurses := true, apart := false }
def BondFansSaid : Prop := bondFansRow.holds Try.pinned (OpenSpec.ofChange bondFansSpec)

/-- ITS FALSE NEIGHBOUR: 'it returns false'. Refute it at one input. -/
def bondFansWrong : ChangeSpec := { name := "bondFans", fn := fun _ => fun
  | [d1, d2, d3] => { results := [.lit (.bool false)], args := [d1, d2, d3] }
  | _ => none }
def BondFansWrongFalsely : Prop := bondFansRow.holds Try.pinned (OpenSpec.ofChange bondFansWrong)

/-- 'vinculumlaw10.HashParts': WHATEVER THE INPUT: true; the input reads as it did. -/
def hashPartsSpec : ChangeSpec := { name := "hashParts", fn := fun _ => fun
  | [d1, d2] => { results := [.lit (.bool true)], args := [d1, d2] }
  | _ => none }
def hashPartsRow : OpenClaim := { program := "ytbihfjehlbaahaa", sum := "2dcd1952704ec3bd9b75f37ead6251bc453ae4daffa2b2cf61c04d13e626d274", func := "vinculum/vinculumlaw10.HashParts", spec := "hashParts", inPlace := ["sync/atomic.LoadUint32", "(*internal/sync.Mutex).Lock", "internal/race.Disable", "sync/atomic.CompareAndSwapInt32", "internal/race.Enable", "internal/race.Acquire", "(*internal/sync.Mutex).lockSlow", "internal/sync.runtime_canSpin", "internal/sync.runtime_doSpin", "internal/sync.throw", "internal/sync.runtime_nanotime", "internal/sync.runtime_SemacquireMutex", "sync/atomic.AddInt32", "(*internal/sync.Mutex).Unlock", "internal/race.ReleaseMerge", "(*internal/sync.Mutex).unlockSlow", "internal/sync.fatal", "internal/sync.runtime_Semrelease", "sync/atomic.StoreUint32", "slices.overlaps[vinculum/hash.entry]"], unfollowed := true, recurses := true, apart := false }
def HashPartsSaid : Prop := hashPartsRow.holds Try.pinned (OpenSpec.ofChange hashPartsSpec)

/-- ITS FALSE NEIGHBOUR: 'it returns false'. Refute it at one input. -/
def hashPartsWrong : ChangeSpec := { name := "hashParts", fn := fun _ => fun
  | [d1, d2] => { results := [.lit (.bool false)], args := [d1, d2] }
  | _ => none }
def HashPartsWrongFalsely : Prop := hashPartsRow.holds Try.pinned (OpenSpec.ofChange hashPartsWrong)

/- THE SECOND FORM. 'bulk': how many values and letters a reading holds, each counted each time it is reached (what is shared counts as often as it is met; a slice's spare places count too). A statement '..UptoSaid' is the law's where the arguments, and the package variables that the reading takes, are together of bulk at most 1048576: NARROWER than '..Said'. Prove '..Said' where nothing that the law and all that it calls make is longer than what came in: it says more and counts as full. Else prove '..UptoSaid'. A law counts once. -/
mutual
def uptoBulk {H : Type} : DataW H → Nat
  | .lit (.string bytes) => bytes.length + 1
  | .lit _ => 1
  | .nil => 1
  | .ptr d => uptoBulk d + 1
  | .slice elems spare => uptoBulkAll elems + uptoBulkAll spare + 1
  | .agg parts => uptoBulkAll parts + 1
  | .iface _ d => uptoBulk d + 1
  | .map entries => uptoBulkEntries entries + 1
  | .held _ => 1
def uptoBulkAll {H : Type} : List (DataW H) → Nat
  | [] => 0
  | d :: r => uptoBulk d + uptoBulkAll r
def uptoBulkEntries {H : Type} : List (Lit × DataW H) → Nat
  | [] => 0
  | x :: r => uptoBulkEntry x + uptoBulkEntries r
def uptoBulkEntry {H : Type} : Lit × DataW H → Nat
  | (.string bytes, d) => bytes.length + uptoBulk d + 1
  | (_, d) => uptoBulk d + 1
 end
def uptoSmall : (H : Type) → List (DataW H) → Bool := fun _ ds => decide (uptoBulkAll ds ≤ 1048576)
def OpenSpec.upto (s : _root_.Go.ChangeSpec) : _root_.Go.OpenSpec := { _root_.Go.OpenSpec.ofChange s with cond := some uptoSmall }

/-- 'vinculumlaw17.MarkGarbage', WHERE WHAT IT READS IS OF BULK AT MOST 1048576: true; the input reads as it did. -/
def markGarbageUptoRow : OpenClaim := { program := "ytbihfjehlbaahaa", sum := "2dcd1952704ec3bd9b75f37ead6251bc453ae4daffa2b2cf61c04d13e626d274", func := "vinculum/vinculumlaw17.MarkGarbage", spec := "markGarbage", inPlace := ["slices.overlaps[*vinculum/mark.entry]", "sync/atomic.AddInt64", "sync/atomic.LoadInt64"], unfollowed := true, recurses := true, apart := false, narrowed := true }
def MarkGarbageUptoSaid : Prop := markGarbageUptoRow.holds Try.pinned (OpenSpec.upto markGarbageSpec)

/-- 'vinculumlaw16.BondRising', WHERE WHAT IT READS IS OF BULK AT MOST 1048576: true; the input reads as it did. -/
def bondRisingUptoRow : OpenClaim := { program := "ytbihfjehlbaahaa", sum := "2dcd1952704ec3bd9b75f37ead6251bc453ae4daffa2b2cf61c04d13e626d274", func := "vinculum/vinculumlaw16.BondRising", spec := "bondRising", recurses := true, apart := false, narrowed := true }
def BondRisingUptoSaid : Prop := bondRisingUptoRow.holds Try.pinned (OpenSpec.upto bondRisingSpec)

/-- 'vinculumlaw16.BondLoops', WHERE WHAT IT READS IS OF BULK AT MOST 1048576: true; the input reads as it did. -/
def bondLoopsUptoRow : OpenClaim := { program := "ytbihfjehlbaahaa", sum := "2dcd1952704ec3bd9b75f37ead6251bc453ae4daffa2b2cf61c04d13e626d274", func := "vinculum/vinculumlaw16.BondLoops", spec := "bondLoops", recurses := true, apart := false, narrowed := true }
def BondLoopsUptoSaid : Prop := bondLoopsUptoRow.holds Try.pinned (OpenSpec.upto bondLoopsSpec)

/-- 'vinculumlaw16.BondDooms', WHERE WHAT IT READS IS OF BULK AT MOST 1048576: true; the input reads as it did. -/
def bondDoomsUptoRow : OpenClaim := { program := "ytbihfjehlbaahaa", sum := "2dcd1952704ec3bd9b75f37ead6251bc453ae4daffa2b2cf61c04d13e626d274", func := "vinculum/vinculumlaw16.BondDooms", spec := "bondDooms", unfollowed := true, recurses := true, apart := false, narrowed := true }
def BondDoomsUptoSaid : Prop := bondDoomsUptoRow.holds Try.pinned (OpenSpec.upto bondDoomsSpec)

/-- 'vinculumlaw16.BondEnds', WHERE WHAT IT READS IS OF BULK AT MOST 1048576: true; the input reads as it did. -/
def bondEndsUptoRow : OpenClaim := { program := "ytbihfjehlbaahaa", sum := "2dcd1952704ec3bd9b75f37ead6251bc453ae4daffa2b2cf61c04d13e626d274", func := "vinculum/vinculumlaw16.BondEnds", spec := "bondEnds", unfollowed := true, recurses := true, apart := false, narrowed := true }
def BondEndsUptoSaid : Prop := bondEndsUptoRow.holds Try.pinned (OpenSpec.upto bondEndsSpec)

/-- 'vinculumlaw16.BondPlays', WHERE WHAT IT READS IS OF BULK AT MOST 1048576: true; the input reads as it did. -/
def bondPlaysUptoRow : OpenClaim := { program := "ytbihfjehlbaahaa", sum := "2dcd1952704ec3bd9b75f37ead6251bc453ae4daffa2b2cf61c04d13e626d274", func := "vinculum/vinculumlaw16.BondPlays", spec := "bondPlays", unfollowed := true, recurses := true, apart := false, narrowed := true }
def BondPlaysUptoSaid : Prop := bondPlaysUptoRow.holds Try.pinned (OpenSpec.upto bondPlaysSpec)

/-- 'vinculumlaw16.BondChains', WHERE WHAT IT READS IS OF BULK AT MOST 1048576: true; the input reads as it did. -/
def bondChainsUptoRow : OpenClaim := { program := "ytbihfjehlbaahaa", sum := "2dcd1952704ec3bd9b75f37ead6251bc453ae4daffa2b2cf61c04d13e626d274", func := "vinculum/vinculumlaw16.BondChains", spec := "bondChains", unfollowed := true, recurses := true, apart := false, narrowed := true }
def BondChainsUptoSaid : Prop := bondChainsUptoRow.holds Try.pinned (OpenSpec.upto bondChainsSpec)

/-- 'vinculumlaw16.BondFans', WHERE WHAT IT READS IS OF BULK AT MOST 1048576: true; the input reads as it did. -/
def bondFansUptoRow : OpenClaim := { program := "ytbihfjehlbaahaa", sum := "2dcd1952704ec3bd9b75f37ead6251bc453ae4daffa2b2cf61c04d13e626d274", func := "vinculum/vinculumlaw16.BondFans", spec := "bondFans", unfollowed := true, recurses := true, apart := false, narrowed := true }
def BondFansUptoSaid : Prop := bondFansUptoRow.holds Try.pinned (OpenSpec.upto bondFansSpec)

/-- 'vinculumlaw10.HashParts', WHERE WHAT IT READS IS OF BULK AT MOST 1048576: true; the input reads as it did. -/
def hashPartsUptoRow : OpenClaim := { program := "ytbihfjehlbaahaa", sum := "2dcd1952704ec3bd9b75f37ead6251bc453ae4daffa2b2cf61c04d13e626d274", func := "vinculum/vinculumlaw10.HashParts", spec := "hashParts", inPlace := ["sync/atomic.LoadUint32", "(*internal/sync.Mutex).Lock", "internal/race.Disable", "sync/atomic.CompareAndSwapInt32", "internal/race.Enable", "internal/race.Acquire", "(*internal/sync.Mutex).lockSlow", "internal/sync.runtime_canSpin", "internal/sync.runtime_doSpin", "internal/sync.throw", "internal/sync.runtime_nanotime", "internal/sync.runtime_SemacquireMutex", "sync/atomic.AddInt32", "(*internal/sync.Mutex).Unlock", "internal/race.ReleaseMerge", "(*internal/sync.Mutex).unlockSlow", "internal/sync.fatal", "internal/sync.runtime_Semrelease", "sync/atomic.StoreUint32", "slices.overlaps[vinculum/hash.entry]"], unfollowed := true, recurses := true, apart := false, narrowed := true }
def HashPartsUptoSaid : Prop := hashPartsUptoRow.holds Try.pinned (OpenSpec.upto hashPartsSpec)

end Rows
end Go.Proofs.Ytbihfjehlbaahaa
