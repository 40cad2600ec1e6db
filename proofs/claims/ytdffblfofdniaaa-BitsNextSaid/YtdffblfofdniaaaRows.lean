/-
  No cell of these rows narrows 'for every input' (looked for: loops, veiled, ifaces, maps, wideKeys, modest, calm, conditions, laid).
  DERIVED. THE GIVEN ROWS OF THIS SEAT. 17 by the template 'for every input the law returns true; each argument reads behind the call as it read before'; 0 by the template 'total and deterministic' (their statements: YtdffblfofdniaaaTotals.lean).
  GIVEN WITH THE SEED: the statements are not yours to turn. If you find one false, say at which input.
  Laid BY PROGRAM, IN A SANDBOX (cutbox-rows.mjs): the forced cells as the released guide's own fill.sh prints them over the translation b97b6a8185960a8a… (all of the seat's roots in one cut). By AI agents, Wed Nov 11 2026. No macro, syntax, notation, axiom, sorry.
-/
import Derived.Test.YtdffblfofdniaaaChecked
import GoSem.Claim
import GoSem.ClaimJoined
import GoSem.ClaimMapViews
import Derived.JoinedTies
import Derived.KernelRfl
namespace Go.Proofs.Ytdffblfofdniaaa
/- THE CELL 'sum', in the pinned program and in every row, IS THE sha256 OF THE DUMP (.gsa) THAT YtdffblfofdniaaaProg.lean LOADS. Nothing in Lean hashes anything: it is a label: what it is worth is what the hold of that sum in a sandbox is worth. -/
noncomputable def Try.pinned : Pinned := { name := "ytdffblfofdniaaa", sum := "b97b6a8185960a8ab8a7b5442de3b644a4b175904ec73e06146d351c5ab068bf", checked := Try.checked }
namespace Rows
def none {H : Type} : Left H := { results := [], args := [] }

/-- 'tallysticklaw02.NumSums': WHATEVER THE INPUT: true; the input reads as it did. -/
def numSumsSpec : ChangeSpec := { name := "numSums", fn := fun _ => fun
  | [d1, d2] => { results := [.lit (.bool true)], args := [d1, d2] }
  | _ => none }
def numSumsRow : OpenClaim := { program := "ytdffblfofdniaaa", sum := "b97b6a8185960a8ab8a7b5442de3b644a4b175904ec73e06146d351c5ab068bf", func := "tallystick/tallysticklaw02.NumSums", spec := "numSums", inPlace := ["math/bits.Add64", "math/bits.Sub64"], apart := false }
def NumSumsSaid : Prop := numSumsRow.holds Try.pinned (OpenSpec.ofChange numSumsSpec)

/-- ITS FALSE NEIGHBOUR: 'it returns false'. Refute it at one input. -/
def numSumsWrong : ChangeSpec := { name := "numSums", fn := fun _ => fun
  | [d1, d2] => { results := [.lit (.bool false)], args := [d1, d2] }
  | _ => none }
def NumSumsWrongFalsely : Prop := numSumsRow.holds Try.pinned (OpenSpec.ofChange numSumsWrong)

/-- 'tallysticklaw02.NumMany': WHATEVER THE INPUT: true; the input reads as it did. -/
def numManySpec : ChangeSpec := { name := "numMany", fn := fun _ => fun
  | [d] => { results := [.lit (.bool true)], args := [d] }
  | _ => none }
def numManyRow : OpenClaim := { program := "ytdffblfofdniaaa", sum := "b97b6a8185960a8ab8a7b5442de3b644a4b175904ec73e06146d351c5ab068bf", func := "tallystick/tallysticklaw02.NumMany", spec := "numMany", inPlace := ["math/bits.Add64", "math/bits.Sub64"], apart := false }
def NumManySaid : Prop := numManyRow.holds Try.pinned (OpenSpec.ofChange numManySpec)

/-- ITS FALSE NEIGHBOUR: 'it returns false'. Refute it at one input. -/
def numManyWrong : ChangeSpec := { name := "numMany", fn := fun _ => fun
  | [d] => { results := [.lit (.bool false)], args := [d] }
  | _ => none }
def NumManyWrongFalsely : Prop := numManyRow.holds Try.pinned (OpenSpec.ofChange numManyWrong)

/-- 'tallysticklaw02.NumOrder': WHATEVER THE INPUT: true; the input reads as it did. -/
def numOrderSpec : ChangeSpec := { name := "numOrder", fn := fun _ => fun
  | [d1, d2, d3] => { results := [.lit (.bool true)], args := [d1, d2, d3] }
  | _ => none }
def numOrderRow : OpenClaim := { program := "ytdffblfofdniaaa", sum := "b97b6a8185960a8ab8a7b5442de3b644a4b175904ec73e06146d351c5ab068bf", func := "tallystick/tallysticklaw02.NumOrder", spec := "numOrder", inPlace := ["math/bits.Add64", "math/bits.Sub64"], apart := false }
def NumOrderSaid : Prop := numOrderRow.holds Try.pinned (OpenSpec.ofChange numOrderSpec)

/-- ITS FALSE NEIGHBOUR: 'it returns false'. Refute it at one input. -/
def numOrderWrong : ChangeSpec := { name := "numOrder", fn := fun _ => fun
  | [d1, d2, d3] => { results := [.lit (.bool false)], args := [d1, d2, d3] }
  | _ => none }
def NumOrderWrongFalsely : Prop := numOrderRow.holds Try.pinned (OpenSpec.ofChange numOrderWrong)

/-- 'tallysticklaw02.NumShifts': WHATEVER THE INPUT: true; the input reads as it did. -/
def numShiftsSpec : ChangeSpec := { name := "numShifts", fn := fun _ => fun
  | [d1, d2] => { results := [.lit (.bool true)], args := [d1, d2] }
  | _ => none }
def numShiftsRow : OpenClaim := { program := "ytdffblfofdniaaa", sum := "b97b6a8185960a8ab8a7b5442de3b644a4b175904ec73e06146d351c5ab068bf", func := "tallystick/tallysticklaw02.NumShifts", spec := "numShifts", inPlace := ["math/bits.Add64", "math/bits.Sub64"], apart := false }
def NumShiftsSaid : Prop := numShiftsRow.holds Try.pinned (OpenSpec.ofChange numShiftsSpec)

/-- ITS FALSE NEIGHBOUR: 'it returns false'. Refute it at one input. -/
def numShiftsWrong : ChangeSpec := { name := "numShifts", fn := fun _ => fun
  | [d1, d2] => { results := [.lit (.bool false)], args := [d1, d2] }
  | _ => none }
def NumShiftsWrongFalsely : Prop := numShiftsRow.holds Try.pinned (OpenSpec.ofChange numShiftsWrong)

/-- 'tallysticklaw02.NumBytes': WHATEVER THE INPUT: true; the input reads as it did. -/
def numBytesSpec : ChangeSpec := { name := "numBytes", fn := fun _ => fun
  | [d] => { results := [.lit (.bool true)], args := [d] }
  | _ => none }
def numBytesRow : OpenClaim := { program := "ytdffblfofdniaaa", sum := "b97b6a8185960a8ab8a7b5442de3b644a4b175904ec73e06146d351c5ab068bf", func := "tallystick/tallysticklaw02.NumBytes", spec := "numBytes", inPlace := ["math/bits.Add64", "math/bits.Sub64"], apart := false }
def NumBytesSaid : Prop := numBytesRow.holds Try.pinned (OpenSpec.ofChange numBytesSpec)

/-- ITS FALSE NEIGHBOUR: 'it returns false'. Refute it at one input. -/
def numBytesWrong : ChangeSpec := { name := "numBytes", fn := fun _ => fun
  | [d] => { results := [.lit (.bool false)], args := [d] }
  | _ => none }
def NumBytesWrongFalsely : Prop := numBytesRow.holds Try.pinned (OpenSpec.ofChange numBytesWrong)

/-- 'tallysticklaw02.NumProducts': WHATEVER THE INPUT: true; the input reads as it did. -/
def numProductsSpec : ChangeSpec := { name := "numProducts", fn := fun _ => fun
  | [d1, d2, d3] => { results := [.lit (.bool true)], args := [d1, d2, d3] }
  | _ => none }
def numProductsRow : OpenClaim := { program := "ytdffblfofdniaaa", sum := "b97b6a8185960a8ab8a7b5442de3b644a4b175904ec73e06146d351c5ab068bf", func := "tallystick/tallysticklaw02.NumProducts", spec := "numProducts", inPlace := ["math/bits.Add64", "math/bits.Sub64"], apart := false }
def NumProductsSaid : Prop := numProductsRow.holds Try.pinned (OpenSpec.ofChange numProductsSpec)

/-- ITS FALSE NEIGHBOUR: 'it returns false'. Refute it at one input. -/
def numProductsWrong : ChangeSpec := { name := "numProducts", fn := fun _ => fun
  | [d1, d2, d3] => { results := [.lit (.bool false)], args := [d1, d2, d3] }
  | _ => none }
def NumProductsWrongFalsely : Prop := numProductsRow.holds Try.pinned (OpenSpec.ofChange numProductsWrong)

/-- 'tallysticklaw02.NumTimes': WHATEVER THE INPUT: true; the input reads as it did. -/
def numTimesSpec : ChangeSpec := { name := "numTimes", fn := fun _ => fun
  | [d1, d2] => { results := [.lit (.bool true)], args := [d1, d2] }
  | _ => none }
def numTimesRow : OpenClaim := { program := "ytdffblfofdniaaa", sum := "b97b6a8185960a8ab8a7b5442de3b644a4b175904ec73e06146d351c5ab068bf", func := "tallystick/tallysticklaw02.NumTimes", spec := "numTimes", inPlace := ["math/bits.Add64", "math/bits.Sub64"], apart := false }
def NumTimesSaid : Prop := numTimesRow.holds Try.pinned (OpenSpec.ofChange numTimesSpec)

/-- ITS FALSE NEIGHBOUR: 'it returns false'. Refute it at one input. -/
def numTimesWrong : ChangeSpec := { name := "numTimes", fn := fun _ => fun
  | [d1, d2] => { results := [.lit (.bool false)], args := [d1, d2] }
  | _ => none }
def NumTimesWrongFalsely : Prop := numTimesRow.holds Try.pinned (OpenSpec.ofChange numTimesWrong)

/-- 'tallysticklaw02.NumRules': WHATEVER THE INPUT: true; the input reads as it did. -/
def numRulesSpec : ChangeSpec := { name := "numRules", fn := fun _ => fun
  | [d1, d2] => { results := [.lit (.bool true)], args := [d1, d2] }
  | _ => none }
def numRulesRow : OpenClaim := { program := "ytdffblfofdniaaa", sum := "b97b6a8185960a8ab8a7b5442de3b644a4b175904ec73e06146d351c5ab068bf", func := "tallystick/tallysticklaw02.NumRules", spec := "numRules", inPlace := ["math/bits.Add64", "math/bits.Sub64"], apart := false }
def NumRulesSaid : Prop := numRulesRow.holds Try.pinned (OpenSpec.ofChange numRulesSpec)

/-- ITS FALSE NEIGHBOUR: 'it returns false'. Refute it at one input. -/
def numRulesWrong : ChangeSpec := { name := "numRules", fn := fun _ => fun
  | [d1, d2] => { results := [.lit (.bool false)], args := [d1, d2] }
  | _ => none }
def NumRulesWrongFalsely : Prop := numRulesRow.holds Try.pinned (OpenSpec.ofChange numRulesWrong)

/-- 'tallysticklaw03.BitsMean': WHATEVER THE INPUT: true; the input reads as it did. -/
def bitsMeanSpec : ChangeSpec := { name := "bitsMean", fn := fun _ => fun
  | [d] => { results := [.lit (.bool true)], args := [d] }
  | _ => none }
def bitsMeanRow : OpenClaim := { program := "ytdffblfofdniaaa", sum := "b97b6a8185960a8ab8a7b5442de3b644a4b175904ec73e06146d351c5ab068bf", func := "tallystick/tallysticklaw03.BitsMean", spec := "bitsMean", inPlace := ["math/bits.Add64", "math/bits.Sub64"], apart := false }
def BitsMeanSaid : Prop := bitsMeanRow.holds Try.pinned (OpenSpec.ofChange bitsMeanSpec)

/-- ITS FALSE NEIGHBOUR: 'it returns false'. Refute it at one input. -/
def bitsMeanWrong : ChangeSpec := { name := "bitsMean", fn := fun _ => fun
  | [d] => { results := [.lit (.bool false)], args := [d] }
  | _ => none }
def BitsMeanWrongFalsely : Prop := bitsMeanRow.holds Try.pinned (OpenSpec.ofChange bitsMeanWrong)

/-- 'tallysticklaw03.BitsShort': WHATEVER THE INPUT: true; the input reads as it did. -/
def bitsShortSpec : ChangeSpec := { name := "bitsShort", fn := fun _ => fun
  | [d] => { results := [.lit (.bool true)], args := [d] }
  | _ => none }
def bitsShortRow : OpenClaim := { program := "ytdffblfofdniaaa", sum := "b97b6a8185960a8ab8a7b5442de3b644a4b175904ec73e06146d351c5ab068bf", func := "tallystick/tallysticklaw03.BitsShort", spec := "bitsShort", inPlace := ["math/bits.Add64", "math/bits.Sub64"], apart := false }
def BitsShortSaid : Prop := bitsShortRow.holds Try.pinned (OpenSpec.ofChange bitsShortSpec)

/-- ITS FALSE NEIGHBOUR: 'it returns false'. Refute it at one input. -/
def bitsShortWrong : ChangeSpec := { name := "bitsShort", fn := fun _ => fun
  | [d] => { results := [.lit (.bool false)], args := [d] }
  | _ => none }
def BitsShortWrongFalsely : Prop := bitsShortRow.holds Try.pinned (OpenSpec.ofChange bitsShortWrong)

/-- 'tallysticklaw03.BitsWork': WHATEVER THE INPUT: true; the input reads as it did. -/
def bitsWorkSpec : ChangeSpec := { name := "bitsWork", fn := fun _ => fun
  | [d1, d2] => { results := [.lit (.bool true)], args := [d1, d2] }
  | _ => none }
def bitsWorkRow : OpenClaim := { program := "ytdffblfofdniaaa", sum := "b97b6a8185960a8ab8a7b5442de3b644a4b175904ec73e06146d351c5ab068bf", func := "tallystick/tallysticklaw03.BitsWork", spec := "bitsWork", inPlace := ["math/bits.Add64", "math/bits.Sub64"], apart := false }
def BitsWorkSaid : Prop := bitsWorkRow.holds Try.pinned (OpenSpec.ofChange bitsWorkSpec)

/-- ITS FALSE NEIGHBOUR: 'it returns false'. Refute it at one input. -/
def bitsWorkWrong : ChangeSpec := { name := "bitsWork", fn := fun _ => fun
  | [d1, d2] => { results := [.lit (.bool false)], args := [d1, d2] }
  | _ => none }
def BitsWorkWrongFalsely : Prop := bitsWorkRow.holds Try.pinned (OpenSpec.ofChange bitsWorkWrong)

/-- 'tallysticklaw03.BitsOrder': WHATEVER THE INPUT: true; the input reads as it did. -/
def bitsOrderSpec : ChangeSpec := { name := "bitsOrder", fn := fun _ => fun
  | [d1, d2] => { results := [.lit (.bool true)], args := [d1, d2] }
  | _ => none }
def bitsOrderRow : OpenClaim := { program := "ytdffblfofdniaaa", sum := "b97b6a8185960a8ab8a7b5442de3b644a4b175904ec73e06146d351c5ab068bf", func := "tallystick/tallysticklaw03.BitsOrder", spec := "bitsOrder", inPlace := ["math/bits.Add64", "math/bits.Sub64"], apart := false }
def BitsOrderSaid : Prop := bitsOrderRow.holds Try.pinned (OpenSpec.ofChange bitsOrderSpec)

/-- ITS FALSE NEIGHBOUR: 'it returns false'. Refute it at one input. -/
def bitsOrderWrong : ChangeSpec := { name := "bitsOrder", fn := fun _ => fun
  | [d1, d2] => { results := [.lit (.bool false)], args := [d1, d2] }
  | _ => none }
def BitsOrderWrongFalsely : Prop := bitsOrderRow.holds Try.pinned (OpenSpec.ofChange bitsOrderWrong)

/-- 'tallysticklaw03.BitsNext': WHATEVER THE INPUT: true; the input reads as it did. -/
def bitsNextSpec : ChangeSpec := { name := "bitsNext", fn := fun _ => fun
  | [d1, d2, d3] => { results := [.lit (.bool true)], args := [d1, d2, d3] }
  | _ => none }
def bitsNextRow : OpenClaim := { program := "ytdffblfofdniaaa", sum := "b97b6a8185960a8ab8a7b5442de3b644a4b175904ec73e06146d351c5ab068bf", func := "tallystick/tallysticklaw03.BitsNext", spec := "bitsNext", inPlace := ["math/bits.Add64", "math/bits.Sub64"], apart := false }
def BitsNextSaid : Prop := bitsNextRow.holds Try.pinned (OpenSpec.ofChange bitsNextSpec)

/-- ITS FALSE NEIGHBOUR: 'it returns false'. Refute it at one input. -/
def bitsNextWrong : ChangeSpec := { name := "bitsNext", fn := fun _ => fun
  | [d1, d2, d3] => { results := [.lit (.bool false)], args := [d1, d2, d3] }
  | _ => none }
def BitsNextWrongFalsely : Prop := bitsNextRow.holds Try.pinned (OpenSpec.ofChange bitsNextWrong)

/-- 'tallysticklaw03.BitsStays': WHATEVER THE INPUT: true; the input reads as it did. -/
def bitsStaysSpec : ChangeSpec := { name := "bitsStays", fn := fun _ => fun
  | [d1, d2, d3] => { results := [.lit (.bool true)], args := [d1, d2, d3] }
  | _ => none }
def bitsStaysRow : OpenClaim := { program := "ytdffblfofdniaaa", sum := "b97b6a8185960a8ab8a7b5442de3b644a4b175904ec73e06146d351c5ab068bf", func := "tallystick/tallysticklaw03.BitsStays", spec := "bitsStays", inPlace := ["math/bits.Add64", "math/bits.Sub64"], apart := false }
def BitsStaysSaid : Prop := bitsStaysRow.holds Try.pinned (OpenSpec.ofChange bitsStaysSpec)

/-- ITS FALSE NEIGHBOUR: 'it returns false'. Refute it at one input. -/
def bitsStaysWrong : ChangeSpec := { name := "bitsStays", fn := fun _ => fun
  | [d1, d2, d3] => { results := [.lit (.bool false)], args := [d1, d2, d3] }
  | _ => none }
def BitsStaysWrongFalsely : Prop := bitsStaysRow.holds Try.pinned (OpenSpec.ofChange bitsStaysWrong)

/-- 'tallysticklaw03.BitsLimit': WHATEVER THE INPUT: true; the input reads as it did. -/
def bitsLimitSpec : ChangeSpec := { name := "bitsLimit", fn := fun _ => fun
  | [d1, d2, d3] => { results := [.lit (.bool true)], args := [d1, d2, d3] }
  | _ => none }
def bitsLimitRow : OpenClaim := { program := "ytdffblfofdniaaa", sum := "b97b6a8185960a8ab8a7b5442de3b644a4b175904ec73e06146d351c5ab068bf", func := "tallystick/tallysticklaw03.BitsLimit", spec := "bitsLimit", inPlace := ["math/bits.Add64", "math/bits.Sub64"], apart := false }
def BitsLimitSaid : Prop := bitsLimitRow.holds Try.pinned (OpenSpec.ofChange bitsLimitSpec)

/-- ITS FALSE NEIGHBOUR: 'it returns false'. Refute it at one input. -/
def bitsLimitWrong : ChangeSpec := { name := "bitsLimit", fn := fun _ => fun
  | [d1, d2, d3] => { results := [.lit (.bool false)], args := [d1, d2, d3] }
  | _ => none }
def BitsLimitWrongFalsely : Prop := bitsLimitRow.holds Try.pinned (OpenSpec.ofChange bitsLimitWrong)

/-- 'tallysticktop.WholeNumbers': WHATEVER THE INPUT: true; the input reads as it did. -/
def wholeNumbersSpec : ChangeSpec := { name := "wholeNumbers", fn := fun _ => fun
  | [d1, d2] => { results := [.lit (.bool true)], args := [d1, d2] }
  | _ => none }
def wholeNumbersRow : OpenClaim := { program := "ytdffblfofdniaaa", sum := "b97b6a8185960a8ab8a7b5442de3b644a4b175904ec73e06146d351c5ab068bf", func := "tallystick/tallysticktop.WholeNumbers", spec := "wholeNumbers", inPlace := ["math/bits.Add64", "math/bits.Sub64"], apart := false }
def WholeNumbersSaid : Prop := wholeNumbersRow.holds Try.pinned (OpenSpec.ofChange wholeNumbersSpec)

/-- ITS FALSE NEIGHBOUR: 'it returns false'. Refute it at one input. -/
def wholeNumbersWrong : ChangeSpec := { name := "wholeNumbers", fn := fun _ => fun
  | [d1, d2] => { results := [.lit (.bool false)], args := [d1, d2] }
  | _ => none }
def WholeNumbersWrongFalsely : Prop := wholeNumbersRow.holds Try.pinned (OpenSpec.ofChange wholeNumbersWrong)

/-- 'tallysticktop.WholeTargets': WHATEVER THE INPUT: true; the input reads as it did. -/
def wholeTargetsSpec : ChangeSpec := { name := "wholeTargets", fn := fun _ => fun
  | [d1, d2] => { results := [.lit (.bool true)], args := [d1, d2] }
  | _ => none }
def wholeTargetsRow : OpenClaim := { program := "ytdffblfofdniaaa", sum := "b97b6a8185960a8ab8a7b5442de3b644a4b175904ec73e06146d351c5ab068bf", func := "tallystick/tallysticktop.WholeTargets", spec := "wholeTargets", inPlace := ["math/bits.Add64", "math/bits.Sub64"], apart := false }
def WholeTargetsSaid : Prop := wholeTargetsRow.holds Try.pinned (OpenSpec.ofChange wholeTargetsSpec)

/-- ITS FALSE NEIGHBOUR: 'it returns false'. Refute it at one input. -/
def wholeTargetsWrong : ChangeSpec := { name := "wholeTargets", fn := fun _ => fun
  | [d1, d2] => { results := [.lit (.bool false)], args := [d1, d2] }
  | _ => none }
def WholeTargetsWrongFalsely : Prop := wholeTargetsRow.holds Try.pinned (OpenSpec.ofChange wholeTargetsWrong)

/- THE SECOND FORM. 'bulk': how many values and letters a reading holds, each counted each time it is reached (what is shared counts as often as it is met; a slice's spare places count too). A statement '..UptoSaid' is the law's where the arguments, and the package variables that the reading takes, are together of bulk at most 1048576: NARROWER than '..Said'. Prove '..Said' where nothing that the law and all that it calls make is longer than what came in: it says more and counts as full. Else prove '..UptoSaid'. A law counts once. -/
mutual
def uptoBulk {H : Type} : DataW H → Nat
  | .lit (.string bytes) => bytes.length + 1
  | .lit _ => 1
  | .nil => 1
  | .ptr d => uptoBulk d + 1
  | .slice elems spare => uptoBulkAll elems + uptoBulkAll spare + 1
  | .agg parts => uptoBulkAll parts + 1
  | .iface _ d => uptoBulk d + 1
  | .map entries => uptoBulkEntries entries + 1
  | .held _ => 1
def uptoBulkAll {H : Type} : List (DataW H) → Nat
  | [] => 0
  | d :: r => uptoBulk d + uptoBulkAll r
def uptoBulkEntries {H : Type} : List (Lit × DataW H) → Nat
  | [] => 0
  | x :: r => uptoBulkEntry x + uptoBulkEntries r
def uptoBulkEntry {H : Type} : Lit × DataW H → Nat
  | (.string bytes, d) => bytes.length + uptoBulk d + 1
  | (_, d) => uptoBulk d + 1
 end
def uptoSmall : (H : Type) → List (DataW H) → Bool := fun _ ds => decide (uptoBulkAll ds ≤ 1048576)
def OpenSpec.upto (s : _root_.Go.ChangeSpec) : _root_.Go.OpenSpec := { _root_.Go.OpenSpec.ofChange s with cond := some uptoSmall }

/-- 'tallysticklaw02.NumSums', WHERE WHAT IT READS IS OF BULK AT MOST 1048576: true; the input reads as it did. -/
def numSumsUptoRow : OpenClaim := { program := "ytdffblfofdniaaa", sum := "b97b6a8185960a8ab8a7b5442de3b644a4b175904ec73e06146d351c5ab068bf", func := "tallystick/tallysticklaw02.NumSums", spec := "numSums", inPlace := ["math/bits.Add64", "math/bits.Sub64"], apart := false, narrowed := true }
def NumSumsUptoSaid : Prop := numSumsUptoRow.holds Try.pinned (OpenSpec.upto numSumsSpec)

/-- 'tallysticklaw02.NumMany', WHERE WHAT IT READS IS OF BULK AT MOST 1048576: true; the input reads as it did. -/
def numManyUptoRow : OpenClaim := { program := "ytdffblfofdniaaa", sum := "b97b6a8185960a8ab8a7b5442de3b644a4b175904ec73e06146d351c5ab068bf", func := "tallystick/tallysticklaw02.NumMany", spec := "numMany", inPlace := ["math/bits.Add64", "math/bits.Sub64"], apart := false, narrowed := true }
def NumManyUptoSaid : Prop := numManyUptoRow.holds Try.pinned (OpenSpec.upto numManySpec)

/-- 'tallysticklaw02.NumOrder', WHERE WHAT IT READS IS OF BULK AT MOST 1048576: true; the input reads as it did. -/
def numOrderUptoRow : OpenClaim := { program := "ytdffblfofdniaaa", sum := "b97b6a8185960a8ab8a7b5442de3b644a4b175904ec73e06146d351c5ab068bf", func := "tallystick/tallysticklaw02.NumOrder", spec := "numOrder", inPlace := ["math/bits.Add64", "math/bits.Sub64"], apart := false, narrowed := true }
def NumOrderUptoSaid : Prop := numOrderUptoRow.holds Try.pinned (OpenSpec.upto numOrderSpec)

/-- 'tallysticklaw02.NumShifts', WHERE WHAT IT READS IS OF BULK AT MOST 1048576: true; the input reads as it did. -/
def numShiftsUptoRow : OpenClaim := { program := "ytdffblfofdniaaa", sum := "b97b6a8185960a8ab8a7b5442de3b644a4b175904ec73e06146d351c5ab068bf", func := "tallystick/tallysticklaw02.NumShifts", spec := "numShifts", inPlace := ["math/bits.Add64", "math/bits.Sub64"], apart := false, narrowed := true }
def NumShiftsUptoSaid : Prop := numShiftsUptoRow.holds Try.pinned (OpenSpec.upto numShiftsSpec)

/-- 'tallysticklaw02.NumBytes', WHERE WHAT IT READS IS OF BULK AT MOST 1048576: true; the input reads as it did. -/
def numBytesUptoRow : OpenClaim := { program := "ytdffblfofdniaaa", sum := "b97b6a8185960a8ab8a7b5442de3b644a4b175904ec73e06146d351c5ab068bf", func := "tallystick/tallysticklaw02.NumBytes", spec := "numBytes", inPlace := ["math/bits.Add64", "math/bits.Sub64"], apart := false, narrowed := true }
def NumBytesUptoSaid : Prop := numBytesUptoRow.holds Try.pinned (OpenSpec.upto numBytesSpec)

/-- 'tallysticklaw02.NumProducts', WHERE WHAT IT READS IS OF BULK AT MOST 1048576: true; the input reads as it did. -/
def numProductsUptoRow : OpenClaim := { program := "ytdffblfofdniaaa", sum := "b97b6a8185960a8ab8a7b5442de3b644a4b175904ec73e06146d351c5ab068bf", func := "tallystick/tallysticklaw02.NumProducts", spec := "numProducts", inPlace := ["math/bits.Add64", "math/bits.Sub64"], apart := false, narrowed := true }
def NumProductsUptoSaid : Prop := numProductsUptoRow.holds Try.pinned (OpenSpec.upto numProductsSpec)

/-- 'tallysticklaw02.NumTimes', WHERE WHAT IT READS IS OF BULK AT MOST 1048576: true; the input reads as it did. -/
def numTimesUptoRow : OpenClaim := { program := "ytdffblfofdniaaa", sum := "b97b6a8185960a8ab8a7b5442de3b644a4b175904ec73e06146d351c5ab068bf", func := "tallystick/tallysticklaw02.NumTimes", spec := "numTimes", inPlace := ["math/bits.Add64", "math/bits.Sub64"], apart := false, narrowed := true }
def NumTimesUptoSaid : Prop := numTimesUptoRow.holds Try.pinned (OpenSpec.upto numTimesSpec)

/-- 'tallysticklaw02.NumRules', WHERE WHAT IT READS IS OF BULK AT MOST 1048576: true; the input reads as it did. -/
def numRulesUptoRow : OpenClaim := { program := "ytdffblfofdniaaa", sum := "b97b6a8185960a8ab8a7b5442de3b644a4b175904ec73e06146d351c5ab068bf", func := "tallystick/tallysticklaw02.NumRules", spec := "numRules", inPlace := ["math/bits.Add64", "math/bits.Sub64"], apart := false, narrowed := true }
def NumRulesUptoSaid : Prop := numRulesUptoRow.holds Try.pinned (OpenSpec.upto numRulesSpec)

/-- 'tallysticklaw03.BitsMean', WHERE WHAT IT READS IS OF BULK AT MOST 1048576: true; the input reads as it did. -/
def bitsMeanUptoRow : OpenClaim := { program := "ytdffblfofdniaaa", sum := "b97b6a8185960a8ab8a7b5442de3b644a4b175904ec73e06146d351c5ab068bf", func := "tallystick/tallysticklaw03.BitsMean", spec := "bitsMean", inPlace := ["math/bits.Add64", "math/bits.Sub64"], apart := false, narrowed := true }
def BitsMeanUptoSaid : Prop := bitsMeanUptoRow.holds Try.pinned (OpenSpec.upto bitsMeanSpec)

/-- 'tallysticklaw03.BitsShort', WHERE WHAT IT READS IS OF BULK AT MOST 1048576: true; the input reads as it did. -/
def bitsShortUptoRow : OpenClaim := { program := "ytdffblfofdniaaa", sum := "b97b6a8185960a8ab8a7b5442de3b644a4b175904ec73e06146d351c5ab068bf", func := "tallystick/tallysticklaw03.BitsShort", spec := "bitsShort", inPlace := ["math/bits.Add64", "math/bits.Sub64"], apart := false, narrowed := true }
def BitsShortUptoSaid : Prop := bitsShortUptoRow.holds Try.pinned (OpenSpec.upto bitsShortSpec)

/-- 'tallysticklaw03.BitsWork', WHERE WHAT IT READS IS OF BULK AT MOST 1048576: true; the input reads as it did. -/
def bitsWorkUptoRow : OpenClaim := { program := "ytdffblfofdniaaa", sum := "b97b6a8185960a8ab8a7b5442de3b644a4b175904ec73e06146d351c5ab068bf", func := "tallystick/tallysticklaw03.BitsWork", spec := "bitsWork", inPlace := ["math/bits.Add64", "math/bits.Sub64"], apart := false, narrowed := true }
def BitsWorkUptoSaid : Prop := bitsWorkUptoRow.holds Try.pinned (OpenSpec.upto bitsWorkSpec)

/-- 'tallysticklaw03.BitsOrder', WHERE WHAT IT READS IS OF BULK AT MOST 1048576: true; the input reads as it did. -/
def bitsOrderUptoRow : OpenClaim := { program := "ytdffblfofdniaaa", sum := "b97b6a8185960a8ab8a7b5442de3b644a4b175904ec73e06146d351c5ab068bf", func := "tallystick/tallysticklaw03.BitsOrder", spec := "bitsOrder", inPlace := ["math/bits.Add64", "math/bits.Sub64"], apart := false, narrowed := true }
def BitsOrderUptoSaid : Prop := bitsOrderUptoRow.holds Try.pinned (OpenSpec.upto bitsOrderSpec)

/-- 'tallysticklaw03.BitsNext', WHERE WHAT IT READS IS OF BULK AT MOST 1048576: true; the input reads as it did. -/
def bitsNextUptoRow : OpenClaim := { program := "ytdffblfofdniaaa", sum := "b97b6a8185960a8ab8a7b5442de3b644a4b175904ec73e06146d351c5ab068bf", func := "tallystick/tallysticklaw03.BitsNext", spec := "bitsNext", inPlace := ["math/bits.Add64", "math/bits.Sub64"], apart := false, narrowed := true }
def BitsNextUptoSaid : Prop := bitsNextUptoRow.holds Try.pinned (OpenSpec.upto bitsNextSpec)

/-- 'tallysticklaw03.BitsStays', WHERE WHAT IT READS IS OF BULK AT MOST 1048576: true; the input reads as it did. -/
def bitsStaysUptoRow : OpenClaim := { program := "ytdffblfofdniaaa", sum := "b97b6a8185960a8ab8a7b5442de3b644a4b175904ec73e06146d351c5ab068bf", func := "tallystick/tallysticklaw03.BitsStays", spec := "bitsStays", inPlace := ["math/bits.Add64", "math/bits.Sub64"], apart := false, narrowed := true }
def BitsStaysUptoSaid : Prop := bitsStaysUptoRow.holds Try.pinned (OpenSpec.upto bitsStaysSpec)

/-- 'tallysticklaw03.BitsLimit', WHERE WHAT IT READS IS OF BULK AT MOST 1048576: true; the input reads as it did. -/
def bitsLimitUptoRow : OpenClaim := { program := "ytdffblfofdniaaa", sum := "b97b6a8185960a8ab8a7b5442de3b644a4b175904ec73e06146d351c5ab068bf", func := "tallystick/tallysticklaw03.BitsLimit", spec := "bitsLimit", inPlace := ["math/bits.Add64", "math/bits.Sub64"], apart := false, narrowed := true }
def BitsLimitUptoSaid : Prop := bitsLimitUptoRow.holds Try.pinned (OpenSpec.upto bitsLimitSpec)

/-- 'tallysticktop.WholeNumbers', WHERE WHAT IT READS IS OF BULK AT MOST 1048576: true; the input reads as it did. -/
def wholeNumbersUptoRow : OpenClaim := { program := "ytdffblfofdniaaa", sum := "b97b6a8185960a8ab8a7b5442de3b644a4b175904ec73e06146d351c5ab068bf", func := "tallystick/tallysticktop.WholeNumbers", spec := "wholeNumbers", inPlace := ["math/bits.Add64", "math/bits.Sub64"], apart := false, narrowed := true }
def WholeNumbersUptoSaid : Prop := wholeNumbersUptoRow.holds Try.pinned (OpenSpec.upto wholeNumbersSpec)

/-- 'tallysticktop.WholeTargets', WHERE WHAT IT READS IS OF BULK AT MOST 1048576: true; the input reads as it did. -/
def wholeTargetsUptoRow : OpenClaim := { program := "ytdffblfofdniaaa", sum := "b97b6a8185960a8ab8a7b5442de3b644a4b175904ec73e06146d351c5ab068bf", func := "tallystick/tallysticktop.WholeTargets", spec := "wholeTargets", inPlace := ["math/bits.Add64", "math/bits.Sub64"], apart := false, narrowed := true }
def WholeTargetsUptoSaid : Prop := wholeTargetsUptoRow.holds Try.pinned (OpenSpec.upto wholeTargetsSpec)

end Rows
end Go.Proofs.Ytdffblfofdniaaa
