/-
  No cell of these rows narrows 'for every input' (looked for: loops, veiled, ifaces, maps, wideKeys, modest, calm, conditions, laid).
  DERIVED. THE GIVEN ROWS OF THIS SEAT. 8 by the template 'for every input the law returns true; each argument reads behind the call as it read before'; 0 by the template 'total and deterministic' (their statements: YtpohehialkgigaaTotals.lean).
  GIVEN WITH THE SEED: the statements are not yours to turn. If you find one false, say at which input.
  Laid BY PROGRAM, IN A SANDBOX (cutbox-rows.mjs): the forced cells as the released guide's own fill.sh prints them over the translation da3e21a169bf8fb8… (all of the seat's roots in one cut). By AI agents, Wed Nov 11 2026. No macro, syntax, notation, axiom, sorry.
-/
import Derived.Test.YtpohehialkgigaaChecked
import GoSem.Claim
import GoSem.ClaimJoined
import GoSem.ClaimMapViews
import Derived.JoinedTies
import Derived.KernelRfl
namespace Go.Proofs.Ytpohehialkgigaa
/- THE CELL 'sum', in the pinned program and in every row, IS THE sha256 OF THE DUMP (.gsa) THAT YtpohehialkgigaaProg.lean LOADS. Nothing in Lean hashes anything: it is a label: what it is worth is what the hold of that sum in a sandbox is worth. -/
noncomputable def Try.pinned : Pinned := { name := "ytpohehialkgigaa", sum := "da3e21a169bf8fb8404547b72fdb0a4c812d4b6c71816ea3f61bc9eac8a9f499", checked := Try.checked }
namespace Rows
def none {H : Type} : Left H := { results := [], args := [] }

/-- 'vinculumlaw21.AxiomLost': WHATEVER THE INPUT: true; the input reads as it did. -/
def axiomLostSpec : ChangeSpec := { name := "axiomLost", fn := fun _ => fun
  | [d1, d2, d3, d4] => { results := [.lit (.bool true)], args := [d1, d2, d3, d4] }
  | _ => none }
def axiomLostRow : OpenClaim := { program := "ytpohehialkgigaa", sum := "da3e21a169bf8fb8404547b72fdb0a4c812d4b6c71816ea3f61bc9eac8a9f499", func := "vinculum/vinculumlaw21.AxiomLost", spec := "axiomLost", unfollowed := true, recurses := true, apart := false }
def AxiomLostSaid : Prop := axiomLostRow.holds Try.pinned (OpenSpec.ofChange axiomLostSpec)

/-- ITS FALSE NEIGHBOUR: 'it returns false'. Refute it at one input. -/
def axiomLostWrong : ChangeSpec := { name := "axiomLost", fn := fun _ => fun
  | [d1, d2, d3, d4] => { results := [.lit (.bool false)], args := [d1, d2, d3, d4] }
  | _ => none }
def AxiomLostWrongFalsely : Prop := axiomLostRow.holds Try.pinned (OpenSpec.ofChange axiomLostWrong)

/-- 'vinculumlaw21.AxiomPhantom': WHATEVER THE INPUT: true; the input reads as it did. -/
def axiomPhantomSpec : ChangeSpec := { name := "axiomPhantom", fn := fun _ => fun
  | [d1, d2] => { results := [.lit (.bool true)], args := [d1, d2] }
  | _ => none }
def axiomPhantomRow : OpenClaim := { program := "ytpohehialkgigaa", sum := "da3e21a169bf8fb8404547b72fdb0a4c812d4b6c71816ea3f61bc9eac8a9f499", func := "vinculum/vinculumlaw21.AxiomPhantom", spec := "axiomPhantom", unfollowed := true, recurses := true, apart := false }
def AxiomPhantomSaid : Prop := axiomPhantomRow.holds Try.pinned (OpenSpec.ofChange axiomPhantomSpec)

/-- ITS FALSE NEIGHBOUR: 'it returns false'. Refute it at one input. -/
def axiomPhantomWrong : ChangeSpec := { name := "axiomPhantom", fn := fun _ => fun
  | [d1, d2] => { results := [.lit (.bool false)], args := [d1, d2] }
  | _ => none }
def AxiomPhantomWrongFalsely : Prop := axiomPhantomRow.holds Try.pinned (OpenSpec.ofChange axiomPhantomWrong)

/-- 'vinculumlaw21.AxiomDirty': WHATEVER THE INPUT: true; the input reads as it did. -/
def axiomDirtySpec : ChangeSpec := { name := "axiomDirty", fn := fun _ => fun
  | [d1, d2] => { results := [.lit (.bool true)], args := [d1, d2] }
  | _ => none }
def axiomDirtyRow : OpenClaim := { program := "ytpohehialkgigaa", sum := "da3e21a169bf8fb8404547b72fdb0a4c812d4b6c71816ea3f61bc9eac8a9f499", func := "vinculum/vinculumlaw21.AxiomDirty", spec := "axiomDirty", unfollowed := true, recurses := true, apart := false }
def AxiomDirtySaid : Prop := axiomDirtyRow.holds Try.pinned (OpenSpec.ofChange axiomDirtySpec)

/-- ITS FALSE NEIGHBOUR: 'it returns false'. Refute it at one input. -/
def axiomDirtyWrong : ChangeSpec := { name := "axiomDirty", fn := fun _ => fun
  | [d1, d2] => { results := [.lit (.bool false)], args := [d1, d2] }
  | _ => none }
def AxiomDirtyWrongFalsely : Prop := axiomDirtyRow.holds Try.pinned (OpenSpec.ofChange axiomDirtyWrong)

/-- 'vinculumlaw21.AxiomOwn': WHATEVER THE INPUT: true; the input reads as it did. -/
def axiomOwnSpec : ChangeSpec := { name := "axiomOwn", fn := fun _ => fun
  | [d1, d2] => { results := [.lit (.bool true)], args := [d1, d2] }
  | _ => none }
def axiomOwnRow : OpenClaim := { program := "ytpohehialkgigaa", sum := "da3e21a169bf8fb8404547b72fdb0a4c812d4b6c71816ea3f61bc9eac8a9f499", func := "vinculum/vinculumlaw21.AxiomOwn", spec := "axiomOwn", unfollowed := true, recurses := true, apart := false }
def AxiomOwnSaid : Prop := axiomOwnRow.holds Try.pinned (OpenSpec.ofChange axiomOwnSpec)

/-- ITS FALSE NEIGHBOUR: 'it returns false'. Refute it at one input. -/
def axiomOwnWrong : ChangeSpec := { name := "axiomOwn", fn := fun _ => fun
  | [d1, d2] => { results := [.lit (.bool false)], args := [d1, d2] }
  | _ => none }
def AxiomOwnWrongFalsely : Prop := axiomOwnRow.holds Try.pinned (OpenSpec.ofChange axiomOwnWrong)

/-- 'vinculumlaw21.AxiomReaders': WHATEVER THE INPUT: true; the input reads as it did. -/
def axiomReadersSpec : ChangeSpec := { name := "axiomReaders", fn := fun _ => fun
  | [d1, d2, d3] => { results := [.lit (.bool true)], args := [d1, d2, d3] }
  | _ => none }
def axiomReadersRow : OpenClaim := { program := "ytpohehialkgigaa", sum := "da3e21a169bf8fb8404547b72fdb0a4c812d4b6c71816ea3f61bc9eac8a9f499", func := "vinculum/vinculumlaw21.AxiomReaders", spec := "axiomReaders", unfollowed := true, recurses := true, apart := false }
def AxiomReadersSaid : Prop := axiomReadersRow.holds Try.pinned (OpenSpec.ofChange axiomReadersSpec)

/-- ITS FALSE NEIGHBOUR: 'it returns false'. Refute it at one input. -/
def axiomReadersWrong : ChangeSpec := { name := "axiomReaders", fn := fun _ => fun
  | [d1, d2, d3] => { results := [.lit (.bool false)], args := [d1, d2, d3] }
  | _ => none }
def AxiomReadersWrongFalsely : Prop := axiomReadersRow.holds Try.pinned (OpenSpec.ofChange axiomReadersWrong)

/-- 'vinculumlaw21.AxiomPrefix': WHATEVER THE INPUT: true; the input reads as it did. -/
def axiomPrefixSpec : ChangeSpec := { name := "axiomPrefix", fn := fun _ => fun
  | [d1, d2, d3, d4] => { results := [.lit (.bool true)], args := [d1, d2, d3, d4] }
  | _ => none }
def axiomPrefixRow : OpenClaim := { program := "ytpohehialkgigaa", sum := "da3e21a169bf8fb8404547b72fdb0a4c812d4b6c71816ea3f61bc9eac8a9f499", func := "vinculum/vinculumlaw21.AxiomPrefix", spec := "axiomPrefix", unfollowed := true, recurses := true, apart := false }
def AxiomPrefixSaid : Prop := axiomPrefixRow.holds Try.pinned (OpenSpec.ofChange axiomPrefixSpec)

/-- ITS FALSE NEIGHBOUR: 'it returns false'. Refute it at one input. -/
def axiomPrefixWrong : ChangeSpec := { name := "axiomPrefix", fn := fun _ => fun
  | [d1, d2, d3, d4] => { results := [.lit (.bool false)], args := [d1, d2, d3, d4] }
  | _ => none }
def AxiomPrefixWrongFalsely : Prop := axiomPrefixRow.holds Try.pinned (OpenSpec.ofChange axiomPrefixWrong)

/-- 'vinculumlaw21.AxiomSkew': WHATEVER THE INPUT: true; the input reads as it did. -/
def axiomSkewSpec : ChangeSpec := { name := "axiomSkew", fn := fun _ => fun
  | [d] => { results := [.lit (.bool true)], args := [d] }
  | _ => none }
def axiomSkewRow : OpenClaim := { program := "ytpohehialkgigaa", sum := "da3e21a169bf8fb8404547b72fdb0a4c812d4b6c71816ea3f61bc9eac8a9f499", func := "vinculum/vinculumlaw21.AxiomSkew", spec := "axiomSkew", unfollowed := true, recurses := true, apart := false }
def AxiomSkewSaid : Prop := axiomSkewRow.holds Try.pinned (OpenSpec.ofChange axiomSkewSpec)

/-- ITS FALSE NEIGHBOUR: 'it returns false'. Refute it at one input. -/
def axiomSkewWrong : ChangeSpec := { name := "axiomSkew", fn := fun _ => fun
  | [d] => { results := [.lit (.bool false)], args := [d] }
  | _ => none }
def AxiomSkewWrongFalsely : Prop := axiomSkewRow.holds Try.pinned (OpenSpec.ofChange axiomSkewWrong)

/-- 'vinculumlaw21.AxiomSerial': WHATEVER THE INPUT: true; the input reads as it did. -/
def axiomSerialSpec : ChangeSpec := { name := "axiomSerial", fn := fun _ => fun
  | [d1, d2, d3, d4] => { results := [.lit (.bool true)], args := [d1, d2, d3, d4] }
  | _ => none }
def axiomSerialRow : OpenClaim := { program := "ytpohehialkgigaa", sum := "da3e21a169bf8fb8404547b72fdb0a4c812d4b6c71816ea3f61bc9eac8a9f499", func := "vinculum/vinculumlaw21.AxiomSerial", spec := "axiomSerial", unfollowed := true, recurses := true, apart := false }
def AxiomSerialSaid : Prop := axiomSerialRow.holds Try.pinned (OpenSpec.ofChange axiomSerialSpec)

/-- ITS FALSE NEIGHBOUR: 'it returns false'. Refute it at one input. -/
def axiomSerialWrong : ChangeSpec := { name := "axiomSerial", fn := fun _ => fun
  | [d1, d2, d3, d4] => { results := [.lit (.bool false)], args := [d1, d2, d3, d4] }
  | _ => none }
def AxiomSerialWrongFalsely : Prop := axiomSerialRow.holds Try.pinned (OpenSpec.ofChange axiomSerialWrong)

/- THE SECOND FORM. 'bulk': how many values and letters a reading holds, each counted each time it is reached (what is shared counts as often as it is met; a slice's spare places count too). A statement '..UptoSaid' is the law's where the arguments, and the package variables that the reading takes, are together of bulk at most 1048576: NARROWER than '..Said'. Prove '..Said' where nothing that the law and all that it calls make is longer than what came in: it says more and counts as full. Else prove '..UptoSaid'. A law counts once. -/
mutual
def uptoBulk {H : Type} : DataW H → Nat
  | .lit (.string bytes) => bytes.length + 1
  | .lit _ => 1
  | .nil => 1
  | .ptr d => uptoBulk d + 1
  | .slice elems spare => uptoBulkAll elems + uptoBulkAll spare + 1
  | .agg parts => uptoBulkAll parts + 1
  | .iface _ d => uptoBulk d + 1
  | .map entries => uptoBulkEntries entries + 1
  | .held _ => 1
def uptoBulkAll {H : Type} : List (DataW H) → Nat
  | [] => 0
  | d :: r => uptoBulk d + uptoBulkAll r
def uptoBulkEntries {H : Type} : List (Lit × DataW H) → Nat
  | [] => 0
  | x :: r => uptoBulkEntry x + uptoBulkEntries r
def uptoBulkEntry {H : Type} : Lit × DataW H → Nat
  | (.string bytes, d) => bytes.length + uptoBulk d + 1
  | (_, d) => uptoBulk d + 1
 end
def uptoSmall : (H : Type) → List (DataW H) → Bool := fun _ ds => decide (uptoBulkAll ds ≤ 1048576)
def OpenSpec.upto (s : _root_.Go.ChangeSpec) : _root_.Go.OpenSpec := { _root_.Go.OpenSpec.ofChange s with cond := some uptoSmall }

/-- 'vinculumlaw21.AxiomLost', WHERE WHAT IT READS IS OF BULK AT MOST 1048576: true; the input reads as it did. -/
def axiomLostUptoRow : OpenClaim := { program := "ytpohehialkgigaa", sum := "da3e21a169bf8fb8404547b72fdb0a4c812d4b6c71816ea3f61bc9eac8a9f499", func := "vinculum/vinculumlaw21.AxiomLost", spec := "axiomLost", unfollowed := true, recurses := true, apart := false, narrowed := true }
def AxiomLostUptoSaid : Prop := axiomLostUptoRow.holds Try.pinned (OpenSpec.upto axiomLostSpec)

/-- 'vinculumlaw21.AxiomPhantom', WHERE WHAT IT READS IS OF BULK AT MOST 1048576: true; the input reads as it did. -/
def axiomPhantomUptoRow : OpenClaim := { program := "ytpohehialkgigaa", sum := "da3e21a169bf8fb8404547b72fdb0a4c812d4b6c71816ea3f61bc9eac8a9f499", func := "vinculum/vinculumlaw21.AxiomPhantom", spec := "axiomPhantom", unfollowed := true, recurses := true, apart := false, narrowed := true }
def AxiomPhantomUptoSaid : Prop := axiomPhantomUptoRow.holds Try.pinned (OpenSpec.upto axiomPhantomSpec)

/-- 'vinculumlaw21.AxiomDirty', WHERE WHAT IT READS IS OF BULK AT MOST 1048576: true; the input reads as it did. -/
def axiomDirtyUptoRow : OpenClaim := { program := "ytpohehialkgigaa", sum := "da3e21a169bf8fb8404547b72fdb0a4c812d4b6c71816ea3f61bc9eac8a9f499", func := "vinculum/vinculumlaw21.AxiomDirty", spec := "axiomDirty", unfollowed := true, recurses := true, apart := false, narrowed := true }
def AxiomDirtyUptoSaid : Prop := axiomDirtyUptoRow.holds Try.pinned (OpenSpec.upto axiomDirtySpec)

/-- 'vinculumlaw21.AxiomOwn', WHERE WHAT IT READS IS OF BULK AT MOST 1048576: true; the input reads as it did. -/
def axiomOwnUptoRow : OpenClaim := { program := "ytpohehialkgigaa", sum := "da3e21a169bf8fb8404547b72fdb0a4c812d4b6c71816ea3f61bc9eac8a9f499", func := "vinculum/vinculumlaw21.AxiomOwn", spec := "axiomOwn", unfollowed := true, recurses := true, apart := false, narrowed := true }
def AxiomOwnUptoSaid : Prop := axiomOwnUptoRow.holds Try.pinned (OpenSpec.upto axiomOwnSpec)

/-- 'vinculumlaw21.AxiomReaders', WHERE WHAT IT READS IS OF BULK AT MOST 1048576: true; the input reads as it did. -/
def axiomReadersUptoRow : OpenClaim := { program := "ytpohehialkgigaa", sum := "da3e21a169bf8fb8404547b72fdb0a4c812d4b6c71816ea3f61bc9eac8a9f499", func := "vinculum/vinculumlaw21.AxiomReaders", spec := "axiomReaders", unfollowed := true, recurses := true, apart := false, narrowed := true }
def AxiomReadersUptoSaid : Prop := axiomReadersUptoRow.holds Try.pinned (OpenSpec.upto axiomReadersSpec)

/-- 'vinculumlaw21.AxiomPrefix', WHERE WHAT IT READS IS OF BULK AT MOST 1048576: true; the input reads as it did. -/
def axiomPrefixUptoRow : OpenClaim := { program := "ytpohehialkgigaa", sum := "da3e21a169bf8fb8404547b72fdb0a4c812d4b6c71816ea3f61bc9eac8a9f499", func := "vinculum/vinculumlaw21.AxiomPrefix", spec := "axiomPrefix", unfollowed := true, recurses := true, apart := false, narrowed := true }
def AxiomPrefixUptoSaid : Prop := axiomPrefixUptoRow.holds Try.pinned (OpenSpec.upto axiomPrefixSpec)

/-- 'vinculumlaw21.AxiomSkew', WHERE WHAT IT READS IS OF BULK AT MOST 1048576: true; the input reads as it did. -/
def axiomSkewUptoRow : OpenClaim := { program := "ytpohehialkgigaa", sum := "da3e21a169bf8fb8404547b72fdb0a4c812d4b6c71816ea3f61bc9eac8a9f499", func := "vinculum/vinculumlaw21.AxiomSkew", spec := "axiomSkew", unfollowed := true, recurses := true, apart := false, narrowed := true }
def AxiomSkewUptoSaid : Prop := axiomSkewUptoRow.holds Try.pinned (OpenSpec.upto axiomSkewSpec)

/-- 'vinculumlaw21.AxiomSerial', WHERE WHAT IT READS IS OF BULK AT MOST 1048576: true; the input reads as it did. -/
def axiomSerialUptoRow : OpenClaim := { program := "ytpohehialkgigaa", sum := "da3e21a169bf8fb8404547b72fdb0a4c812d4b6c71816ea3f61bc9eac8a9f499", func := "vinculum/vinculumlaw21.AxiomSerial", spec := "axiomSerial", unfollowed := true, recurses := true, apart := false, narrowed := true }
def AxiomSerialUptoSaid : Prop := axiomSerialUptoRow.holds Try.pinned (OpenSpec.upto axiomSerialSpec)

end Rows
end Go.Proofs.Ytpohehialkgigaa
