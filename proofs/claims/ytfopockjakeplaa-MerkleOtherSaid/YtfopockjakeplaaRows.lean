/-
  No cell of these rows narrows 'for every input' (looked for: loops, veiled, ifaces, maps, wideKeys, modest, calm, conditions, laid).
  DERIVED. THE GIVEN ROWS OF THIS SEAT. 13 by the template 'for every input the law returns true; each argument reads behind the call as it read before'; 0 by the template 'total and deterministic' (their statements: YtfopockjakeplaaTotals.lean).
  GIVEN WITH THE SEED: the statements are not yours to turn. If you find one false, say at which input.
  Laid BY PROGRAM, IN A SANDBOX (cutbox-rows.mjs): the forced cells as the released guide's own fill.sh prints them over the translation 851cdcb4e6e3c22e… (all of the seat's roots in one cut). By AI agents, Wed Nov 11 2026. No macro, syntax, notation, axiom, sorry.
-/
import Derived.Test.YtfopockjakeplaaChecked
import GoSem.Claim
import GoSem.ClaimJoined
import GoSem.ClaimMapViews
import Derived.JoinedTies
import Derived.KernelRfl
namespace Go.Proofs.Ytfopockjakeplaa
/- THE CELL 'sum', in the pinned program and in every row, IS THE sha256 OF THE DUMP (.gsa) THAT YtfopockjakeplaaProg.lean LOADS. Nothing in Lean hashes anything: it is a label: what it is worth is what the hold of that sum in a sandbox is worth. -/
noncomputable def Try.pinned : Pinned := { name := "ytfopockjakeplaa", sum := "851cdcb4e6e3c22ed52cd9d27419a5bd66e7f0b9707325e6fceefb51d824d7d0", checked := Try.checked }
namespace Rows
def none {H : Type} : Left H := { results := [], args := [] }

/-- 'tallysticklaw01.HashOf': WHATEVER THE INPUT: true; the input reads as it did. -/
def hashOfSpec : ChangeSpec := { name := "hashOf", fn := fun _ => fun
  | [d] => { results := [.lit (.bool true)], args := [d] }
  | _ => none }
def hashOfRow : OpenClaim := { program := "ytfopockjakeplaa", sum := "851cdcb4e6e3c22ed52cd9d27419a5bd66e7f0b9707325e6fceefb51d824d7d0", func := "tallystick/tallysticklaw01.HashOf", spec := "hashOf", apart := false }
def HashOfSaid : Prop := hashOfRow.holds Try.pinned (OpenSpec.ofChange hashOfSpec)

/-- ITS FALSE NEIGHBOUR: 'it returns false'. Refute it at one input. -/
def hashOfWrong : ChangeSpec := { name := "hashOf", fn := fun _ => fun
  | [d] => { results := [.lit (.bool false)], args := [d] }
  | _ => none }
def HashOfWrongFalsely : Prop := hashOfRow.holds Try.pinned (OpenSpec.ofChange hashOfWrong)

/-- 'tallysticklaw01.HashParts': WHATEVER THE INPUT: true; the input reads as it did. -/
def hashPartsSpec : ChangeSpec := { name := "hashParts", fn := fun _ => fun
  | [d] => { results := [.lit (.bool true)], args := [d] }
  | _ => none }
def hashPartsRow : OpenClaim := { program := "ytfopockjakeplaa", sum := "851cdcb4e6e3c22ed52cd9d27419a5bd66e7f0b9707325e6fceefb51d824d7d0", func := "tallystick/tallysticklaw01.HashParts", spec := "hashParts", apart := false }
def HashPartsSaid : Prop := hashPartsRow.holds Try.pinned (OpenSpec.ofChange hashPartsSpec)

/-- ITS FALSE NEIGHBOUR: 'it returns false'. Refute it at one input. -/
def hashPartsWrong : ChangeSpec := { name := "hashParts", fn := fun _ => fun
  | [d] => { results := [.lit (.bool false)], args := [d] }
  | _ => none }
def HashPartsWrongFalsely : Prop := hashPartsRow.holds Try.pinned (OpenSpec.ofChange hashPartsWrong)

/-- 'tallysticklaw01.HashTwice': WHATEVER THE INPUT: true; the input reads as it did. -/
def hashTwiceSpec : ChangeSpec := { name := "hashTwice", fn := fun _ => fun
  | [d] => { results := [.lit (.bool true)], args := [d] }
  | _ => none }
def hashTwiceRow : OpenClaim := { program := "ytfopockjakeplaa", sum := "851cdcb4e6e3c22ed52cd9d27419a5bd66e7f0b9707325e6fceefb51d824d7d0", func := "tallystick/tallysticklaw01.HashTwice", spec := "hashTwice", apart := false }
def HashTwiceSaid : Prop := hashTwiceRow.holds Try.pinned (OpenSpec.ofChange hashTwiceSpec)

/-- ITS FALSE NEIGHBOUR: 'it returns false'. Refute it at one input. -/
def hashTwiceWrong : ChangeSpec := { name := "hashTwice", fn := fun _ => fun
  | [d] => { results := [.lit (.bool false)], args := [d] }
  | _ => none }
def HashTwiceWrongFalsely : Prop := hashTwiceRow.holds Try.pinned (OpenSpec.ofChange hashTwiceWrong)

/-- 'tallysticklaw01.HashRuns': WHATEVER THE INPUT: true; the input reads as it did. -/
def hashRunsSpec : ChangeSpec := { name := "hashRuns", fn := fun _ => fun
  | [d1, d2] => { results := [.lit (.bool true)], args := [d1, d2] }
  | _ => none }
def hashRunsRow : OpenClaim := { program := "ytfopockjakeplaa", sum := "851cdcb4e6e3c22ed52cd9d27419a5bd66e7f0b9707325e6fceefb51d824d7d0", func := "tallystick/tallysticklaw01.HashRuns", spec := "hashRuns", apart := false }
def HashRunsSaid : Prop := hashRunsRow.holds Try.pinned (OpenSpec.ofChange hashRunsSpec)

/-- ITS FALSE NEIGHBOUR: 'it returns false'. Refute it at one input. -/
def hashRunsWrong : ChangeSpec := { name := "hashRuns", fn := fun _ => fun
  | [d1, d2] => { results := [.lit (.bool false)], args := [d1, d2] }
  | _ => none }
def HashRunsWrongFalsely : Prop := hashRunsRow.holds Try.pinned (OpenSpec.ofChange hashRunsWrong)

/-- 'tallysticklaw01.HashNumbers': WHATEVER THE INPUT: true; the input reads as it did. -/
def hashNumbersSpec : ChangeSpec := { name := "hashNumbers", fn := fun _ => fun
  | [d] => { results := [.lit (.bool true)], args := [d] }
  | _ => none }
def hashNumbersRow : OpenClaim := { program := "ytfopockjakeplaa", sum := "851cdcb4e6e3c22ed52cd9d27419a5bd66e7f0b9707325e6fceefb51d824d7d0", func := "tallystick/tallysticklaw01.HashNumbers", spec := "hashNumbers", apart := false }
def HashNumbersSaid : Prop := hashNumbersRow.holds Try.pinned (OpenSpec.ofChange hashNumbersSpec)

/-- ITS FALSE NEIGHBOUR: 'it returns false'. Refute it at one input. -/
def hashNumbersWrong : ChangeSpec := { name := "hashNumbers", fn := fun _ => fun
  | [d] => { results := [.lit (.bool false)], args := [d] }
  | _ => none }
def HashNumbersWrongFalsely : Prop := hashNumbersRow.holds Try.pinned (OpenSpec.ofChange hashNumbersWrong)

/-- 'tallysticklaw01.HashBlocks': WHATEVER THE INPUT: true; the input reads as it did. -/
def hashBlocksSpec : ChangeSpec := { name := "hashBlocks", fn := fun _ => fun
  | [d1, d2] => { results := [.lit (.bool true)], args := [d1, d2] }
  | _ => none }
def hashBlocksRow : OpenClaim := { program := "ytfopockjakeplaa", sum := "851cdcb4e6e3c22ed52cd9d27419a5bd66e7f0b9707325e6fceefb51d824d7d0", func := "tallystick/tallysticklaw01.HashBlocks", spec := "hashBlocks", apart := false }
def HashBlocksSaid : Prop := hashBlocksRow.holds Try.pinned (OpenSpec.ofChange hashBlocksSpec)

/-- ITS FALSE NEIGHBOUR: 'it returns false'. Refute it at one input. -/
def hashBlocksWrong : ChangeSpec := { name := "hashBlocks", fn := fun _ => fun
  | [d1, d2] => { results := [.lit (.bool false)], args := [d1, d2] }
  | _ => none }
def HashBlocksWrongFalsely : Prop := hashBlocksRow.holds Try.pinned (OpenSpec.ofChange hashBlocksWrong)

/-- 'tallysticklaw01.HashOwn': WHATEVER THE INPUT: true; the input reads as it did. -/
def hashOwnSpec : ChangeSpec := { name := "hashOwn", fn := fun _ => fun
  | [d] => { results := [.lit (.bool true)], args := [d] }
  | _ => none }
def hashOwnRow : OpenClaim := { program := "ytfopockjakeplaa", sum := "851cdcb4e6e3c22ed52cd9d27419a5bd66e7f0b9707325e6fceefb51d824d7d0", func := "tallystick/tallysticklaw01.HashOwn", spec := "hashOwn", apart := false }
def HashOwnSaid : Prop := hashOwnRow.holds Try.pinned (OpenSpec.ofChange hashOwnSpec)

/-- ITS FALSE NEIGHBOUR: 'it returns false'. Refute it at one input. -/
def hashOwnWrong : ChangeSpec := { name := "hashOwn", fn := fun _ => fun
  | [d] => { results := [.lit (.bool false)], args := [d] }
  | _ => none }
def HashOwnWrongFalsely : Prop := hashOwnRow.holds Try.pinned (OpenSpec.ofChange hashOwnWrong)

/-- 'tallysticklaw04.MerkleRoots': WHATEVER THE INPUT: true; the input reads as it did. -/
def merkleRootsSpec : ChangeSpec := { name := "merkleRoots", fn := fun _ => fun
  | [d] => { results := [.lit (.bool true)], args := [d] }
  | _ => none }
def merkleRootsRow : OpenClaim := { program := "ytfopockjakeplaa", sum := "851cdcb4e6e3c22ed52cd9d27419a5bd66e7f0b9707325e6fceefb51d824d7d0", func := "tallystick/tallysticklaw04.MerkleRoots", spec := "merkleRoots", recurses := true, apart := false }
def MerkleRootsSaid : Prop := merkleRootsRow.holds Try.pinned (OpenSpec.ofChange merkleRootsSpec)

/-- ITS FALSE NEIGHBOUR: 'it returns false'. Refute it at one input. -/
def merkleRootsWrong : ChangeSpec := { name := "merkleRoots", fn := fun _ => fun
  | [d] => { results := [.lit (.bool false)], args := [d] }
  | _ => none }
def MerkleRootsWrongFalsely : Prop := merkleRootsRow.holds Try.pinned (OpenSpec.ofChange merkleRootsWrong)

/-- 'tallysticklaw04.MerkleTwins': WHATEVER THE INPUT: true; the input reads as it did. -/
def merkleTwinsSpec : ChangeSpec := { name := "merkleTwins", fn := fun _ => fun
  | [d1, d2] => { results := [.lit (.bool true)], args := [d1, d2] }
  | _ => none }
def merkleTwinsRow : OpenClaim := { program := "ytfopockjakeplaa", sum := "851cdcb4e6e3c22ed52cd9d27419a5bd66e7f0b9707325e6fceefb51d824d7d0", func := "tallystick/tallysticklaw04.MerkleTwins", spec := "merkleTwins", apart := false }
def MerkleTwinsSaid : Prop := merkleTwinsRow.holds Try.pinned (OpenSpec.ofChange merkleTwinsSpec)

/-- ITS FALSE NEIGHBOUR: 'it returns false'. Refute it at one input. -/
def merkleTwinsWrong : ChangeSpec := { name := "merkleTwins", fn := fun _ => fun
  | [d1, d2] => { results := [.lit (.bool false)], args := [d1, d2] }
  | _ => none }
def MerkleTwinsWrongFalsely : Prop := merkleTwinsRow.holds Try.pinned (OpenSpec.ofChange merkleTwinsWrong)

/-- 'tallysticklaw04.MerkleOne': WHATEVER THE INPUT: true; the input reads as it did. -/
def merkleOneSpec : ChangeSpec := { name := "merkleOne", fn := fun _ => fun
  | [d1, d2] => { results := [.lit (.bool true)], args := [d1, d2] }
  | _ => none }
def merkleOneRow : OpenClaim := { program := "ytfopockjakeplaa", sum := "851cdcb4e6e3c22ed52cd9d27419a5bd66e7f0b9707325e6fceefb51d824d7d0", func := "tallystick/tallysticklaw04.MerkleOne", spec := "merkleOne", apart := false }
def MerkleOneSaid : Prop := merkleOneRow.holds Try.pinned (OpenSpec.ofChange merkleOneSpec)

/-- ITS FALSE NEIGHBOUR: 'it returns false'. Refute it at one input. -/
def merkleOneWrong : ChangeSpec := { name := "merkleOne", fn := fun _ => fun
  | [d1, d2] => { results := [.lit (.bool false)], args := [d1, d2] }
  | _ => none }
def MerkleOneWrongFalsely : Prop := merkleOneRow.holds Try.pinned (OpenSpec.ofChange merkleOneWrong)

/-- 'tallysticklaw04.MerkleLeads': WHATEVER THE INPUT: true; the input reads as it did. -/
def merkleLeadsSpec : ChangeSpec := { name := "merkleLeads", fn := fun _ => fun
  | [d1, d2, d3] => { results := [.lit (.bool true)], args := [d1, d2, d3] }
  | _ => none }
def merkleLeadsRow : OpenClaim := { program := "ytfopockjakeplaa", sum := "851cdcb4e6e3c22ed52cd9d27419a5bd66e7f0b9707325e6fceefb51d824d7d0", func := "tallystick/tallysticklaw04.MerkleLeads", spec := "merkleLeads", apart := false }
def MerkleLeadsSaid : Prop := merkleLeadsRow.holds Try.pinned (OpenSpec.ofChange merkleLeadsSpec)

/-- ITS FALSE NEIGHBOUR: 'it returns false'. Refute it at one input. -/
def merkleLeadsWrong : ChangeSpec := { name := "merkleLeads", fn := fun _ => fun
  | [d1, d2, d3] => { results := [.lit (.bool false)], args := [d1, d2, d3] }
  | _ => none }
def MerkleLeadsWrongFalsely : Prop := merkleLeadsRow.holds Try.pinned (OpenSpec.ofChange merkleLeadsWrong)

/-- 'tallysticklaw04.MerkleWays': WHATEVER THE INPUT: true; the input reads as it did. -/
def merkleWaysSpec : ChangeSpec := { name := "merkleWays", fn := fun _ => fun
  | [d1, d2] => { results := [.lit (.bool true)], args := [d1, d2] }
  | _ => none }
def merkleWaysRow : OpenClaim := { program := "ytfopockjakeplaa", sum := "851cdcb4e6e3c22ed52cd9d27419a5bd66e7f0b9707325e6fceefb51d824d7d0", func := "tallystick/tallysticklaw04.MerkleWays", spec := "merkleWays", apart := false }
def MerkleWaysSaid : Prop := merkleWaysRow.holds Try.pinned (OpenSpec.ofChange merkleWaysSpec)

/-- ITS FALSE NEIGHBOUR: 'it returns false'. Refute it at one input. -/
def merkleWaysWrong : ChangeSpec := { name := "merkleWays", fn := fun _ => fun
  | [d1, d2] => { results := [.lit (.bool false)], args := [d1, d2] }
  | _ => none }
def MerkleWaysWrongFalsely : Prop := merkleWaysRow.holds Try.pinned (OpenSpec.ofChange merkleWaysWrong)

/-- 'tallysticklaw04.MerkleOther': WHATEVER THE INPUT: true; the input reads as it did. -/
def merkleOtherSpec : ChangeSpec := { name := "merkleOther", fn := fun _ => fun
  | [d1, d2, d3] => { results := [.lit (.bool true)], args := [d1, d2, d3] }
  | _ => none }
def merkleOtherRow : OpenClaim := { program := "ytfopockjakeplaa", sum := "851cdcb4e6e3c22ed52cd9d27419a5bd66e7f0b9707325e6fceefb51d824d7d0", func := "tallystick/tallysticklaw04.MerkleOther", spec := "merkleOther", apart := false }
def MerkleOtherSaid : Prop := merkleOtherRow.holds Try.pinned (OpenSpec.ofChange merkleOtherSpec)

/-- ITS FALSE NEIGHBOUR: 'it returns false'. Refute it at one input. -/
def merkleOtherWrong : ChangeSpec := { name := "merkleOther", fn := fun _ => fun
  | [d1, d2, d3] => { results := [.lit (.bool false)], args := [d1, d2, d3] }
  | _ => none }
def MerkleOtherWrongFalsely : Prop := merkleOtherRow.holds Try.pinned (OpenSpec.ofChange merkleOtherWrong)

/- THE SECOND FORM. 'bulk': how many values and letters a reading holds, each counted each time it is reached (what is shared counts as often as it is met; a slice's spare places count too). A statement '..UptoSaid' is the law's where the arguments, and the package variables that the reading takes, are together of bulk at most 1048576: NARROWER than '..Said'. Prove '..Said' where nothing that the law and all that it calls make is longer than what came in: it says more and counts as full. Else prove '..UptoSaid'. A law counts once. -/
mutual
def uptoBulk {H : Type} : DataW H → Nat
  | .lit (.string bytes) => bytes.length + 1
  | .lit _ => 1
  | .nil => 1
  | .ptr d => uptoBulk d + 1
  | .slice elems spare => uptoBulkAll elems + uptoBulkAll spare + 1
  | .agg parts => uptoBulkAll parts + 1
  | .iface _ d => uptoBulk d + 1
  | .map entries => uptoBulkEntries entries + 1
  | .held _ => 1
def uptoBulkAll {H : Type} : List (DataW H) → Nat
  | [] => 0
  | d :: r => uptoBulk d + uptoBulkAll r
def uptoBulkEntries {H : Type} : List (Lit × DataW H) → Nat
  | [] => 0
  | x :: r => uptoBulkEntry x + uptoBulkEntries r
def uptoBulkEntry {H : Type} : Lit × DataW H → Nat
  | (.string bytes, d) => bytes.length + uptoBulk d + 1
  | (_, d) => uptoBulk d + 1
 end
def uptoSmall : (H : Type) → List (DataW H) → Bool := fun _ ds => decide (uptoBulkAll ds ≤ 1048576)
def OpenSpec.upto (s : _root_.Go.ChangeSpec) : _root_.Go.OpenSpec := { _root_.Go.OpenSpec.ofChange s with cond := some uptoSmall }

/-- 'tallysticklaw01.HashOf', WHERE WHAT IT READS IS OF BULK AT MOST 1048576: true; the input reads as it did. -/
def hashOfUptoRow : OpenClaim := { program := "ytfopockjakeplaa", sum := "851cdcb4e6e3c22ed52cd9d27419a5bd66e7f0b9707325e6fceefb51d824d7d0", func := "tallystick/tallysticklaw01.HashOf", spec := "hashOf", apart := false, narrowed := true }
def HashOfUptoSaid : Prop := hashOfUptoRow.holds Try.pinned (OpenSpec.upto hashOfSpec)

/-- 'tallysticklaw01.HashParts', WHERE WHAT IT READS IS OF BULK AT MOST 1048576: true; the input reads as it did. -/
def hashPartsUptoRow : OpenClaim := { program := "ytfopockjakeplaa", sum := "851cdcb4e6e3c22ed52cd9d27419a5bd66e7f0b9707325e6fceefb51d824d7d0", func := "tallystick/tallysticklaw01.HashParts", spec := "hashParts", apart := false, narrowed := true }
def HashPartsUptoSaid : Prop := hashPartsUptoRow.holds Try.pinned (OpenSpec.upto hashPartsSpec)

/-- 'tallysticklaw01.HashTwice', WHERE WHAT IT READS IS OF BULK AT MOST 1048576: true; the input reads as it did. -/
def hashTwiceUptoRow : OpenClaim := { program := "ytfopockjakeplaa", sum := "851cdcb4e6e3c22ed52cd9d27419a5bd66e7f0b9707325e6fceefb51d824d7d0", func := "tallystick/tallysticklaw01.HashTwice", spec := "hashTwice", apart := false, narrowed := true }
def HashTwiceUptoSaid : Prop := hashTwiceUptoRow.holds Try.pinned (OpenSpec.upto hashTwiceSpec)

/-- 'tallysticklaw01.HashRuns', WHERE WHAT IT READS IS OF BULK AT MOST 1048576: true; the input reads as it did. -/
def hashRunsUptoRow : OpenClaim := { program := "ytfopockjakeplaa", sum := "851cdcb4e6e3c22ed52cd9d27419a5bd66e7f0b9707325e6fceefb51d824d7d0", func := "tallystick/tallysticklaw01.HashRuns", spec := "hashRuns", apart := false, narrowed := true }
def HashRunsUptoSaid : Prop := hashRunsUptoRow.holds Try.pinned (OpenSpec.upto hashRunsSpec)

/-- 'tallysticklaw01.HashNumbers', WHERE WHAT IT READS IS OF BULK AT MOST 1048576: true; the input reads as it did. -/
def hashNumbersUptoRow : OpenClaim := { program := "ytfopockjakeplaa", sum := "851cdcb4e6e3c22ed52cd9d27419a5bd66e7f0b9707325e6fceefb51d824d7d0", func := "tallystick/tallysticklaw01.HashNumbers", spec := "hashNumbers", apart := false, narrowed := true }
def HashNumbersUptoSaid : Prop := hashNumbersUptoRow.holds Try.pinned (OpenSpec.upto hashNumbersSpec)

/-- 'tallysticklaw01.HashBlocks', WHERE WHAT IT READS IS OF BULK AT MOST 1048576: true; the input reads as it did. -/
def hashBlocksUptoRow : OpenClaim := { program := "ytfopockjakeplaa", sum := "851cdcb4e6e3c22ed52cd9d27419a5bd66e7f0b9707325e6fceefb51d824d7d0", func := "tallystick/tallysticklaw01.HashBlocks", spec := "hashBlocks", apart := false, narrowed := true }
def HashBlocksUptoSaid : Prop := hashBlocksUptoRow.holds Try.pinned (OpenSpec.upto hashBlocksSpec)

/-- 'tallysticklaw01.HashOwn', WHERE WHAT IT READS IS OF BULK AT MOST 1048576: true; the input reads as it did. -/
def hashOwnUptoRow : OpenClaim := { program := "ytfopockjakeplaa", sum := "851cdcb4e6e3c22ed52cd9d27419a5bd66e7f0b9707325e6fceefb51d824d7d0", func := "tallystick/tallysticklaw01.HashOwn", spec := "hashOwn", apart := false, narrowed := true }
def HashOwnUptoSaid : Prop := hashOwnUptoRow.holds Try.pinned (OpenSpec.upto hashOwnSpec)

/-- 'tallysticklaw04.MerkleRoots', WHERE WHAT IT READS IS OF BULK AT MOST 1048576: true; the input reads as it did. -/
def merkleRootsUptoRow : OpenClaim := { program := "ytfopockjakeplaa", sum := "851cdcb4e6e3c22ed52cd9d27419a5bd66e7f0b9707325e6fceefb51d824d7d0", func := "tallystick/tallysticklaw04.MerkleRoots", spec := "merkleRoots", recurses := true, apart := false, narrowed := true }
def MerkleRootsUptoSaid : Prop := merkleRootsUptoRow.holds Try.pinned (OpenSpec.upto merkleRootsSpec)

/-- 'tallysticklaw04.MerkleTwins', WHERE WHAT IT READS IS OF BULK AT MOST 1048576: true; the input reads as it did. -/
def merkleTwinsUptoRow : OpenClaim := { program := "ytfopockjakeplaa", sum := "851cdcb4e6e3c22ed52cd9d27419a5bd66e7f0b9707325e6fceefb51d824d7d0", func := "tallystick/tallysticklaw04.MerkleTwins", spec := "merkleTwins", apart := false, narrowed := true }
def MerkleTwinsUptoSaid : Prop := merkleTwinsUptoRow.holds Try.pinned (OpenSpec.upto merkleTwinsSpec)

/-- 'tallysticklaw04.MerkleOne', WHERE WHAT IT READS IS OF BULK AT MOST 1048576: true; the input reads as it did. -/
def merkleOneUptoRow : OpenClaim := { program := "ytfopockjakeplaa", sum := "851cdcb4e6e3c22ed52cd9d27419a5bd66e7f0b9707325e6fceefb51d824d7d0", func := "tallystick/tallysticklaw04.MerkleOne", spec := "merkleOne", apart := false, narrowed := true }
def MerkleOneUptoSaid : Prop := merkleOneUptoRow.holds Try.pinned (OpenSpec.upto merkleOneSpec)

/-- 'tallysticklaw04.MerkleLeads', WHERE WHAT IT READS IS OF BULK AT MOST 1048576: true; the input reads as it did. -/
def merkleLeadsUptoRow : OpenClaim := { program := "ytfopockjakeplaa", sum := "851cdcb4e6e3c22ed52cd9d27419a5bd66e7f0b9707325e6fceefb51d824d7d0", func := "tallystick/tallysticklaw04.MerkleLeads", spec := "merkleLeads", apart := false, narrowed := true }
def MerkleLeadsUptoSaid : Prop := merkleLeadsUptoRow.holds Try.pinned (OpenSpec.upto merkleLeadsSpec)

/-- 'tallysticklaw04.MerkleWays', WHERE WHAT IT READS IS OF BULK AT MOST 1048576: true; the input reads as it did. -/
def merkleWaysUptoRow : OpenClaim := { program := "ytfopockjakeplaa", sum := "851cdcb4e6e3c22ed52cd9d27419a5bd66e7f0b9707325e6fceefb51d824d7d0", func := "tallystick/tallysticklaw04.MerkleWays", spec := "merkleWays", apart := false, narrowed := true }
def MerkleWaysUptoSaid : Prop := merkleWaysUptoRow.holds Try.pinned (OpenSpec.upto merkleWaysSpec)

/-- 'tallysticklaw04.MerkleOther', WHERE WHAT IT READS IS OF BULK AT MOST 1048576: true; the input reads as it did. -/
def merkleOtherUptoRow : OpenClaim := { program := "ytfopockjakeplaa", sum := "851cdcb4e6e3c22ed52cd9d27419a5bd66e7f0b9707325e6fceefb51d824d7d0", func := "tallystick/tallysticklaw04.MerkleOther", spec := "merkleOther", apart := false, narrowed := true }
def MerkleOtherUptoSaid : Prop := merkleOtherUptoRow.holds Try.pinned (OpenSpec.upto merkleOtherSpec)

end Rows
end Go.Proofs.Ytfopockjakeplaa
