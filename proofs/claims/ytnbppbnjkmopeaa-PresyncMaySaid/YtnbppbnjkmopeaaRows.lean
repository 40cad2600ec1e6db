/-
  No cell of these rows narrows 'for every input' (looked for: loops, veiled, ifaces, maps, wideKeys, modest, calm, conditions, laid).
  DERIVED. THE GIVEN ROWS OF THIS SEAT. 16 by the template 'for every input the law returns true; each argument reads behind the call as it read before'; 0 by the template 'total and deterministic' (their statements: YtnbppbnjkmopeaaTotals.lean).
  GIVEN WITH THE SEED: the statements are not yours to turn. If you find one false, say at which input.
  Laid BY PROGRAM, IN A SANDBOX (cutbox-rows.mjs): the forced cells as the released guide's own fill.sh prints them over the translation bffba472a4691fe7… (all of the seat's roots in one cut). By AI agents, Wed Nov 11 2026. No macro, syntax, notation, axiom, sorry.
-/
import Derived.Test.YtnbppbnjkmopeaaChecked
import GoSem.Claim
import GoSem.ClaimJoined
import GoSem.ClaimMapViews
import Derived.JoinedTies
import Derived.KernelRfl
namespace Go.Proofs.Ytnbppbnjkmopeaa
/- THE CELL 'sum', in the pinned program and in every row, IS THE sha256 OF THE DUMP (.gsa) THAT YtnbppbnjkmopeaaProg.lean LOADS. Nothing in Lean hashes anything: it is a label: what it is worth is what the hold of that sum in a sandbox is worth. -/
noncomputable def Try.pinned : Pinned := { name := "ytnbppbnjkmopeaa", sum := "bffba472a4691fe7873f12096e308ff5c550c2a0229f120d1824858035592276", checked := Try.checked }
namespace Rows
def none {H : Type} : Left H := { results := [], args := [] }

/-- 'tallysticklaw05.HeadBytes': WHATEVER THE INPUT: true; the input reads as it did. -/
def headBytesSpec : ChangeSpec := { name := "headBytes", fn := fun _ => fun
  | [d1, d2] => { results := [.lit (.bool true)], args := [d1, d2] }
  | _ => none }
def headBytesRow : OpenClaim := { program := "ytnbppbnjkmopeaa", sum := "bffba472a4691fe7873f12096e308ff5c550c2a0229f120d1824858035592276", func := "tallystick/tallysticklaw05.HeadBytes", spec := "headBytes", plainKeys := false, apart := false }
def HeadBytesSaid : Prop := headBytesRow.holds Try.pinned (OpenSpec.ofChange headBytesSpec)

/-- ITS FALSE NEIGHBOUR: 'it returns false'. Refute it at one input. -/
def headBytesWrong : ChangeSpec := { name := "headBytes", fn := fun _ => fun
  | [d1, d2] => { results := [.lit (.bool false)], args := [d1, d2] }
  | _ => none }
def HeadBytesWrongFalsely : Prop := headBytesRow.holds Try.pinned (OpenSpec.ofChange headBytesWrong)

/-- 'tallysticklaw05.HeadProved': WHATEVER THE INPUT: true; the input reads as it did. -/
def headProvedSpec : ChangeSpec := { name := "headProved", fn := fun _ => fun
  | [d1, d2] => { results := [.lit (.bool true)], args := [d1, d2] }
  | _ => none }
def headProvedRow : OpenClaim := { program := "ytnbppbnjkmopeaa", sum := "bffba472a4691fe7873f12096e308ff5c550c2a0229f120d1824858035592276", func := "tallystick/tallysticklaw05.HeadProved", spec := "headProved", plainKeys := false, apart := false }
def HeadProvedSaid : Prop := headProvedRow.holds Try.pinned (OpenSpec.ofChange headProvedSpec)

/-- ITS FALSE NEIGHBOUR: 'it returns false'. Refute it at one input. -/
def headProvedWrong : ChangeSpec := { name := "headProved", fn := fun _ => fun
  | [d1, d2] => { results := [.lit (.bool false)], args := [d1, d2] }
  | _ => none }
def HeadProvedWrongFalsely : Prop := headProvedRow.holds Try.pinned (OpenSpec.ofChange headProvedWrong)

/-- 'tallysticklaw05.HeadMines': WHATEVER THE INPUT: true; the input reads as it did. -/
def headMinesSpec : ChangeSpec := { name := "headMines", fn := fun _ => fun
  | [d1, d2, d3] => { results := [.lit (.bool true)], args := [d1, d2, d3] }
  | _ => none }
def headMinesRow : OpenClaim := { program := "ytnbppbnjkmopeaa", sum := "bffba472a4691fe7873f12096e308ff5c550c2a0229f120d1824858035592276", func := "tallystick/tallysticklaw05.HeadMines", spec := "headMines", plainKeys := false, apart := false }
def HeadMinesSaid : Prop := headMinesRow.holds Try.pinned (OpenSpec.ofChange headMinesSpec)

/-- ITS FALSE NEIGHBOUR: 'it returns false'. Refute it at one input. -/
def headMinesWrong : ChangeSpec := { name := "headMines", fn := fun _ => fun
  | [d1, d2, d3] => { results := [.lit (.bool false)], args := [d1, d2, d3] }
  | _ => none }
def HeadMinesWrongFalsely : Prop := headMinesRow.holds Try.pinned (OpenSpec.ofChange headMinesWrong)

/-- 'tallysticklaw05.HeadApart': WHATEVER THE INPUT: true; the input reads as it did. -/
def headApartSpec : ChangeSpec := { name := "headApart", fn := fun _ => fun
  | [d1, d2] => { results := [.lit (.bool true)], args := [d1, d2] }
  | _ => none }
def headApartRow : OpenClaim := { program := "ytnbppbnjkmopeaa", sum := "bffba472a4691fe7873f12096e308ff5c550c2a0229f120d1824858035592276", func := "tallystick/tallysticklaw05.HeadApart", spec := "headApart", plainKeys := false, apart := false }
def HeadApartSaid : Prop := headApartRow.holds Try.pinned (OpenSpec.ofChange headApartSpec)

/-- ITS FALSE NEIGHBOUR: 'it returns false'. Refute it at one input. -/
def headApartWrong : ChangeSpec := { name := "headApart", fn := fun _ => fun
  | [d1, d2] => { results := [.lit (.bool false)], args := [d1, d2] }
  | _ => none }
def HeadApartWrongFalsely : Prop := headApartRow.holds Try.pinned (OpenSpec.ofChange headApartWrong)

/-- 'tallysticklaw05.HeadEasier': WHATEVER THE INPUT: true; the input reads as it did. -/
def headEasierSpec : ChangeSpec := { name := "headEasier", fn := fun _ => fun
  | [d1, d2] => { results := [.lit (.bool true)], args := [d1, d2] }
  | _ => none }
def headEasierRow : OpenClaim := { program := "ytnbppbnjkmopeaa", sum := "bffba472a4691fe7873f12096e308ff5c550c2a0229f120d1824858035592276", func := "tallystick/tallysticklaw05.HeadEasier", spec := "headEasier", plainKeys := false, apart := false }
def HeadEasierSaid : Prop := headEasierRow.holds Try.pinned (OpenSpec.ofChange headEasierSpec)

/-- ITS FALSE NEIGHBOUR: 'it returns false'. Refute it at one input. -/
def headEasierWrong : ChangeSpec := { name := "headEasier", fn := fun _ => fun
  | [d1, d2] => { results := [.lit (.bool false)], args := [d1, d2] }
  | _ => none }
def HeadEasierWrongFalsely : Prop := headEasierRow.holds Try.pinned (OpenSpec.ofChange headEasierWrong)

/-- 'tallysticklaw05.HeadNonces': WHATEVER THE INPUT: true; the input reads as it did. -/
def headNoncesSpec : ChangeSpec := { name := "headNonces", fn := fun _ => fun
  | [d1, d2] => { results := [.lit (.bool true)], args := [d1, d2] }
  | _ => none }
def headNoncesRow : OpenClaim := { program := "ytnbppbnjkmopeaa", sum := "bffba472a4691fe7873f12096e308ff5c550c2a0229f120d1824858035592276", func := "tallystick/tallysticklaw05.HeadNonces", spec := "headNonces", plainKeys := false, apart := false }
def HeadNoncesSaid : Prop := headNoncesRow.holds Try.pinned (OpenSpec.ofChange headNoncesSpec)

/-- ITS FALSE NEIGHBOUR: 'it returns false'. Refute it at one input. -/
def headNoncesWrong : ChangeSpec := { name := "headNonces", fn := fun _ => fun
  | [d1, d2] => { results := [.lit (.bool false)], args := [d1, d2] }
  | _ => none }
def HeadNoncesWrongFalsely : Prop := headNoncesRow.holds Try.pinned (OpenSpec.ofChange headNoncesWrong)

/-- 'tallysticklaw15.PresyncHonest': WHATEVER THE INPUT: true; the input reads as it did. -/
def presyncHonestSpec : ChangeSpec := { name := "presyncHonest", fn := fun _ => fun
  | [d1, d2, d3] => { results := [.lit (.bool true)], args := [d1, d2, d3] }
  | _ => none }
def presyncHonestRow : OpenClaim := { program := "ytnbppbnjkmopeaa", sum := "bffba472a4691fe7873f12096e308ff5c550c2a0229f120d1824858035592276", func := "tallystick/tallysticklaw15.PresyncHonest", spec := "presyncHonest", inPlace := ["math/bits.Add64", "math/bits.Sub64"], plainKeys := false, apart := false }
def PresyncHonestSaid : Prop := presyncHonestRow.holds Try.pinned (OpenSpec.ofChange presyncHonestSpec)

/-- ITS FALSE NEIGHBOUR: 'it returns false'. Refute it at one input. -/
def presyncHonestWrong : ChangeSpec := { name := "presyncHonest", fn := fun _ => fun
  | [d1, d2, d3] => { results := [.lit (.bool false)], args := [d1, d2, d3] }
  | _ => none }
def PresyncHonestWrongFalsely : Prop := presyncHonestRow.holds Try.pinned (OpenSpec.ofChange presyncHonestWrong)

/-- 'tallysticklaw15.PresyncLies': WHATEVER THE INPUT: true; the input reads as it did. -/
def presyncLiesSpec : ChangeSpec := { name := "presyncLies", fn := fun _ => fun
  | [d1, d2, d3] => { results := [.lit (.bool true)], args := [d1, d2, d3] }
  | _ => none }
def presyncLiesRow : OpenClaim := { program := "ytnbppbnjkmopeaa", sum := "bffba472a4691fe7873f12096e308ff5c550c2a0229f120d1824858035592276", func := "tallystick/tallysticklaw15.PresyncLies", spec := "presyncLies", inPlace := ["math/bits.Add64", "math/bits.Sub64"], plainKeys := false, apart := false }
def PresyncLiesSaid : Prop := presyncLiesRow.holds Try.pinned (OpenSpec.ofChange presyncLiesSpec)

/-- ITS FALSE NEIGHBOUR: 'it returns false'. Refute it at one input. -/
def presyncLiesWrong : ChangeSpec := { name := "presyncLies", fn := fun _ => fun
  | [d1, d2, d3] => { results := [.lit (.bool false)], args := [d1, d2, d3] }
  | _ => none }
def PresyncLiesWrongFalsely : Prop := presyncLiesRow.holds Try.pinned (OpenSpec.ofChange presyncLiesWrong)

/-- 'tallysticklaw15.PresyncMay': WHATEVER THE INPUT: true; the input reads as it did. -/
def presyncMaySpec : ChangeSpec := { name := "presyncMay", fn := fun _ => fun
  | [d1, d2, d3] => { results := [.lit (.bool true)], args := [d1, d2, d3] }
  | _ => none }
def presyncMayRow : OpenClaim := { program := "ytnbppbnjkmopeaa", sum := "bffba472a4691fe7873f12096e308ff5c550c2a0229f120d1824858035592276", func := "tallystick/tallysticklaw15.PresyncMay", spec := "presyncMay", inPlace := ["math/bits.Add64", "math/bits.Sub64"], plainKeys := false, apart := false }
def PresyncMaySaid : Prop := presyncMayRow.holds Try.pinned (OpenSpec.ofChange presyncMaySpec)

/-- ITS FALSE NEIGHBOUR: 'it returns false'. Refute it at one input. -/
def presyncMayWrong : ChangeSpec := { name := "presyncMay", fn := fun _ => fun
  | [d1, d2, d3] => { results := [.lit (.bool false)], args := [d1, d2, d3] }
  | _ => none }
def PresyncMayWrongFalsely : Prop := presyncMayRow.holds Try.pinned (OpenSpec.ofChange presyncMayWrong)

/-- 'tallysticklaw15.PresyncPlays': WHATEVER THE INPUT: true; the input reads as it did. -/
def presyncPlaysSpec : ChangeSpec := { name := "presyncPlays", fn := fun _ => fun
  | [d1, d2, d3] => { results := [.lit (.bool true)], args := [d1, d2, d3] }
  | _ => none }
def presyncPlaysRow : OpenClaim := { program := "ytnbppbnjkmopeaa", sum := "bffba472a4691fe7873f12096e308ff5c550c2a0229f120d1824858035592276", func := "tallystick/tallysticklaw15.PresyncPlays", spec := "presyncPlays", inPlace := ["math/bits.Add64", "math/bits.Sub64"], plainKeys := false, apart := false }
def PresyncPlaysSaid : Prop := presyncPlaysRow.holds Try.pinned (OpenSpec.ofChange presyncPlaysSpec)

/-- ITS FALSE NEIGHBOUR: 'it returns false'. Refute it at one input. -/
def presyncPlaysWrong : ChangeSpec := { name := "presyncPlays", fn := fun _ => fun
  | [d1, d2, d3] => { results := [.lit (.bool false)], args := [d1, d2, d3] }
  | _ => none }
def PresyncPlaysWrongFalsely : Prop := presyncPlaysRow.holds Try.pinned (OpenSpec.ofChange presyncPlaysWrong)

/-- 'tallysticklaw15.PresyncSmall': WHATEVER THE INPUT: true; the input reads as it did. -/
def presyncSmallSpec : ChangeSpec := { name := "presyncSmall", fn := fun _ => fun
  | [d1, d2, d3] => { results := [.lit (.bool true)], args := [d1, d2, d3] }
  | _ => none }
def presyncSmallRow : OpenClaim := { program := "ytnbppbnjkmopeaa", sum := "bffba472a4691fe7873f12096e308ff5c550c2a0229f120d1824858035592276", func := "tallystick/tallysticklaw15.PresyncSmall", spec := "presyncSmall", inPlace := ["math/bits.Add64", "math/bits.Sub64"], plainKeys := false, apart := false }
def PresyncSmallSaid : Prop := presyncSmallRow.holds Try.pinned (OpenSpec.ofChange presyncSmallSpec)

/-- ITS FALSE NEIGHBOUR: 'it returns false'. Refute it at one input. -/
def presyncSmallWrong : ChangeSpec := { name := "presyncSmall", fn := fun _ => fun
  | [d1, d2, d3] => { results := [.lit (.bool false)], args := [d1, d2, d3] }
  | _ => none }
def PresyncSmallWrongFalsely : Prop := presyncSmallRow.holds Try.pinned (OpenSpec.ofChange presyncSmallWrong)

/-- 'tallysticklaw15.PresyncBits': WHATEVER THE INPUT: true; the input reads as it did. -/
def presyncBitsSpec : ChangeSpec := { name := "presyncBits", fn := fun _ => fun
  | [d1, d2] => { results := [.lit (.bool true)], args := [d1, d2] }
  | _ => none }
def presyncBitsRow : OpenClaim := { program := "ytnbppbnjkmopeaa", sum := "bffba472a4691fe7873f12096e308ff5c550c2a0229f120d1824858035592276", func := "tallystick/tallysticklaw15.PresyncBits", spec := "presyncBits", inPlace := ["math/bits.Add64", "math/bits.Sub64"], plainKeys := false, apart := false }
def PresyncBitsSaid : Prop := presyncBitsRow.holds Try.pinned (OpenSpec.ofChange presyncBitsSpec)

/-- ITS FALSE NEIGHBOUR: 'it returns false'. Refute it at one input. -/
def presyncBitsWrong : ChangeSpec := { name := "presyncBits", fn := fun _ => fun
  | [d1, d2] => { results := [.lit (.bool false)], args := [d1, d2] }
  | _ => none }
def PresyncBitsWrongFalsely : Prop := presyncBitsRow.holds Try.pinned (OpenSpec.ofChange presyncBitsWrong)

/-- 'tallysticktop.WholeNumbers': WHATEVER THE INPUT: true; the input reads as it did. -/
def wholeNumbersSpec : ChangeSpec := { name := "wholeNumbers", fn := fun _ => fun
  | [d1, d2] => { results := [.lit (.bool true)], args := [d1, d2] }
  | _ => none }
def wholeNumbersRow : OpenClaim := { program := "ytnbppbnjkmopeaa", sum := "bffba472a4691fe7873f12096e308ff5c550c2a0229f120d1824858035592276", func := "tallystick/tallysticktop.WholeNumbers", spec := "wholeNumbers", inPlace := ["math/bits.Add64", "math/bits.Sub64"], plainKeys := false, apart := false }
def WholeNumbersSaid : Prop := wholeNumbersRow.holds Try.pinned (OpenSpec.ofChange wholeNumbersSpec)

/-- ITS FALSE NEIGHBOUR: 'it returns false'. Refute it at one input. -/
def wholeNumbersWrong : ChangeSpec := { name := "wholeNumbers", fn := fun _ => fun
  | [d1, d2] => { results := [.lit (.bool false)], args := [d1, d2] }
  | _ => none }
def WholeNumbersWrongFalsely : Prop := wholeNumbersRow.holds Try.pinned (OpenSpec.ofChange wholeNumbersWrong)

/-- 'tallysticktop.WholeTargets': WHATEVER THE INPUT: true; the input reads as it did. -/
def wholeTargetsSpec : ChangeSpec := { name := "wholeTargets", fn := fun _ => fun
  | [d1, d2] => { results := [.lit (.bool true)], args := [d1, d2] }
  | _ => none }
def wholeTargetsRow : OpenClaim := { program := "ytnbppbnjkmopeaa", sum := "bffba472a4691fe7873f12096e308ff5c550c2a0229f120d1824858035592276", func := "tallystick/tallysticktop.WholeTargets", spec := "wholeTargets", inPlace := ["math/bits.Add64", "math/bits.Sub64"], plainKeys := false, apart := false }
def WholeTargetsSaid : Prop := wholeTargetsRow.holds Try.pinned (OpenSpec.ofChange wholeTargetsSpec)

/-- ITS FALSE NEIGHBOUR: 'it returns false'. Refute it at one input. -/
def wholeTargetsWrong : ChangeSpec := { name := "wholeTargets", fn := fun _ => fun
  | [d1, d2] => { results := [.lit (.bool false)], args := [d1, d2] }
  | _ => none }
def WholeTargetsWrongFalsely : Prop := wholeTargetsRow.holds Try.pinned (OpenSpec.ofChange wholeTargetsWrong)

/-- 'tallysticktop.WholeParted': WHATEVER THE INPUT: true; the input reads as it did. -/
def wholePartedSpec : ChangeSpec := { name := "wholeParted", fn := fun _ => fun
  | [d1, d2, d3] => { results := [.lit (.bool true)], args := [d1, d2, d3] }
  | _ => none }
def wholePartedRow : OpenClaim := { program := "ytnbppbnjkmopeaa", sum := "bffba472a4691fe7873f12096e308ff5c550c2a0229f120d1824858035592276", func := "tallystick/tallysticktop.WholeParted", spec := "wholeParted", inPlace := ["math/bits.Add64", "math/bits.Sub64"], unfollowed := true, recurses := true, plainKeys := false, apart := false }
def WholePartedSaid : Prop := wholePartedRow.holds Try.pinned (OpenSpec.ofChange wholePartedSpec)

/-- ITS FALSE NEIGHBOUR: 'it returns false'. Refute it at one input. -/
def wholePartedWrong : ChangeSpec := { name := "wholeParted", fn := fun _ => fun
  | [d1, d2, d3] => { results := [.lit (.bool false)], args := [d1, d2, d3] }
  | _ => none }
def WholePartedWrongFalsely : Prop := wholePartedRow.holds Try.pinned (OpenSpec.ofChange wholePartedWrong)

/-- 'tallysticktop.WholeTwice': WHATEVER THE INPUT: true; the input reads as it did. -/
def wholeTwiceSpec : ChangeSpec := { name := "wholeTwice", fn := fun _ => fun
  | [d1, d2, d3] => { results := [.lit (.bool true)], args := [d1, d2, d3] }
  | _ => none }
def wholeTwiceRow : OpenClaim := { program := "ytnbppbnjkmopeaa", sum := "bffba472a4691fe7873f12096e308ff5c550c2a0229f120d1824858035592276", func := "tallystick/tallysticktop.WholeTwice", spec := "wholeTwice", inPlace := ["math/bits.Add64", "math/bits.Sub64"], recurses := true, plainKeys := false, apart := false }
def WholeTwiceSaid : Prop := wholeTwiceRow.holds Try.pinned (OpenSpec.ofChange wholeTwiceSpec)

/-- ITS FALSE NEIGHBOUR: 'it returns false'. Refute it at one input. -/
def wholeTwiceWrong : ChangeSpec := { name := "wholeTwice", fn := fun _ => fun
  | [d1, d2, d3] => { results := [.lit (.bool false)], args := [d1, d2, d3] }
  | _ => none }
def WholeTwiceWrongFalsely : Prop := wholeTwiceRow.holds Try.pinned (OpenSpec.ofChange wholeTwiceWrong)

/- THE SECOND FORM. 'bulk': how many values and letters a reading holds, each counted each time it is reached (what is shared counts as often as it is met; a slice's spare places count too). A statement '..UptoSaid' is the law's where the arguments, and the package variables that the reading takes, are together of bulk at most 1048576: NARROWER than '..Said'. Prove '..Said' where nothing that the law and all that it calls make is longer than what came in: it says more and counts as full. Else prove '..UptoSaid'. A law counts once. -/
mutual
def uptoBulk {H : Type} : DataW H → Nat
  | .lit (.string bytes) => bytes.length + 1
  | .lit _ => 1
  | .nil => 1
  | .ptr d => uptoBulk d + 1
  | .slice elems spare => uptoBulkAll elems + uptoBulkAll spare + 1
  | .agg parts => uptoBulkAll parts + 1
  | .iface _ d => uptoBulk d + 1
  | .map entries => uptoBulkEntries entries + 1
  | .held _ => 1
def uptoBulkAll {H : Type} : List (DataW H) → Nat
  | [] => 0
  | d :: r => uptoBulk d + uptoBulkAll r
def uptoBulkEntries {H : Type} : List (Lit × DataW H) → Nat
  | [] => 0
  | x :: r => uptoBulkEntry x + uptoBulkEntries r
def uptoBulkEntry {H : Type} : Lit × DataW H → Nat
  | (.string bytes, d) => bytes.length + uptoBulk d + 1
  | (_, d) => uptoBulk d + 1
 end
def uptoSmall : (H : Type) → List (DataW H) → Bool := fun _ ds => decide (uptoBulkAll ds ≤ 1048576)
def OpenSpec.upto (s : _root_.Go.ChangeSpec) : _root_.Go.OpenSpec := { _root_.Go.OpenSpec.ofChange s with cond := some uptoSmall }

/-- 'tallysticklaw05.HeadBytes', WHERE WHAT IT READS IS OF BULK AT MOST 1048576: true; the input reads as it did. -/
def headBytesUptoRow : OpenClaim := { program := "ytnbppbnjkmopeaa", sum := "bffba472a4691fe7873f12096e308ff5c550c2a0229f120d1824858035592276", func := "tallystick/tallysticklaw05.HeadBytes", spec := "headBytes", plainKeys := false, apart := false, narrowed := true }
def HeadBytesUptoSaid : Prop := headBytesUptoRow.holds Try.pinned (OpenSpec.upto headBytesSpec)

/-- 'tallysticklaw05.HeadProved', WHERE WHAT IT READS IS OF BULK AT MOST 1048576: true; the input reads as it did. -/
def headProvedUptoRow : OpenClaim := { program := "ytnbppbnjkmopeaa", sum := "bffba472a4691fe7873f12096e308ff5c550c2a0229f120d1824858035592276", func := "tallystick/tallysticklaw05.HeadProved", spec := "headProved", plainKeys := false, apart := false, narrowed := true }
def HeadProvedUptoSaid : Prop := headProvedUptoRow.holds Try.pinned (OpenSpec.upto headProvedSpec)

/-- 'tallysticklaw05.HeadMines', WHERE WHAT IT READS IS OF BULK AT MOST 1048576: true; the input reads as it did. -/
def headMinesUptoRow : OpenClaim := { program := "ytnbppbnjkmopeaa", sum := "bffba472a4691fe7873f12096e308ff5c550c2a0229f120d1824858035592276", func := "tallystick/tallysticklaw05.HeadMines", spec := "headMines", plainKeys := false, apart := false, narrowed := true }
def HeadMinesUptoSaid : Prop := headMinesUptoRow.holds Try.pinned (OpenSpec.upto headMinesSpec)

/-- 'tallysticklaw05.HeadApart', WHERE WHAT IT READS IS OF BULK AT MOST 1048576: true; the input reads as it did. -/
def headApartUptoRow : OpenClaim := { program := "ytnbppbnjkmopeaa", sum := "bffba472a4691fe7873f12096e308ff5c550c2a0229f120d1824858035592276", func := "tallystick/tallysticklaw05.HeadApart", spec := "headApart", plainKeys := false, apart := false, narrowed := true }
def HeadApartUptoSaid : Prop := headApartUptoRow.holds Try.pinned (OpenSpec.upto headApartSpec)

/-- 'tallysticklaw05.HeadEasier', WHERE WHAT IT READS IS OF BULK AT MOST 1048576: true; the input reads as it did. -/
def headEasierUptoRow : OpenClaim := { program := "ytnbppbnjkmopeaa", sum := "bffba472a4691fe7873f12096e308ff5c550c2a0229f120d1824858035592276", func := "tallystick/tallysticklaw05.HeadEasier", spec := "headEasier", plainKeys := false, apart := false, narrowed := true }
def HeadEasierUptoSaid : Prop := headEasierUptoRow.holds Try.pinned (OpenSpec.upto headEasierSpec)

/-- 'tallysticklaw05.HeadNonces', WHERE WHAT IT READS IS OF BULK AT MOST 1048576: true; the input reads as it did. -/
def headNoncesUptoRow : OpenClaim := { program := "ytnbppbnjkmopeaa", sum := "bffba472a4691fe7873f12096e308ff5c550c2a0229f120d1824858035592276", func := "tallystick/tallysticklaw05.HeadNonces", spec := "headNonces", plainKeys := false, apart := false, narrowed := true }
def HeadNoncesUptoSaid : Prop := headNoncesUptoRow.holds Try.pinned (OpenSpec.upto headNoncesSpec)

/-- 'tallysticklaw15.PresyncHonest', WHERE WHAT IT READS IS OF BULK AT MOST 1048576: true; the input reads as it did. -/
def presyncHonestUptoRow : OpenClaim := { program := "ytnbppbnjkmopeaa", sum := "bffba472a4691fe7873f12096e308ff5c550c2a0229f120d1824858035592276", func := "tallystick/tallysticklaw15.PresyncHonest", spec := "presyncHonest", inPlace := ["math/bits.Add64", "math/bits.Sub64"], plainKeys := false, apart := false, narrowed := true }
def PresyncHonestUptoSaid : Prop := presyncHonestUptoRow.holds Try.pinned (OpenSpec.upto presyncHonestSpec)

/-- 'tallysticklaw15.PresyncLies', WHERE WHAT IT READS IS OF BULK AT MOST 1048576: true; the input reads as it did. -/
def presyncLiesUptoRow : OpenClaim := { program := "ytnbppbnjkmopeaa", sum := "bffba472a4691fe7873f12096e308ff5c550c2a0229f120d1824858035592276", func := "tallystick/tallysticklaw15.PresyncLies", spec := "presyncLies", inPlace := ["math/bits.Add64", "math/bits.Sub64"], plainKeys := false, apart := false, narrowed := true }
def PresyncLiesUptoSaid : Prop := presyncLiesUptoRow.holds Try.pinned (OpenSpec.upto presyncLiesSpec)

/-- 'tallysticklaw15.PresyncMay', WHERE WHAT IT READS IS OF BULK AT MOST 1048576: true; the input reads as it did. -/
def presyncMayUptoRow : OpenClaim := { program := "ytnbppbnjkmopeaa", sum := "bffba472a4691fe7873f12096e308ff5c550c2a0229f120d1824858035592276", func := "tallystick/tallysticklaw15.PresyncMay", spec := "presyncMay", inPlace := ["math/bits.Add64", "math/bits.Sub64"], plainKeys := false, apart := false, narrowed := true }
def PresyncMayUptoSaid : Prop := presyncMayUptoRow.holds Try.pinned (OpenSpec.upto presyncMaySpec)

/-- 'tallysticklaw15.PresyncPlays', WHERE WHAT IT READS IS OF BULK AT MOST 1048576: true; the input reads as it did. -/
def presyncPlaysUptoRow : OpenClaim := { program := "ytnbppbnjkmopeaa", sum := "bffba472a4691fe7873f12096e308ff5c550c2a0229f120d1824858035592276", func := "tallystick/tallysticklaw15.PresyncPlays", spec := "presyncPlays", inPlace := ["math/bits.Add64", "math/bits.Sub64"], plainKeys := false, apart := false, narrowed := true }
def PresyncPlaysUptoSaid : Prop := presyncPlaysUptoRow.holds Try.pinned (OpenSpec.upto presyncPlaysSpec)

/-- 'tallysticklaw15.PresyncSmall', WHERE WHAT IT READS IS OF BULK AT MOST 1048576: true; the input reads as it did. -/
def presyncSmallUptoRow : OpenClaim := { program := "ytnbppbnjkmopeaa", sum := "bffba472a4691fe7873f12096e308ff5c550c2a0229f120d1824858035592276", func := "tallystick/tallysticklaw15.PresyncSmall", spec := "presyncSmall", inPlace := ["math/bits.Add64", "math/bits.Sub64"], plainKeys := false, apart := false, narrowed := true }
def PresyncSmallUptoSaid : Prop := presyncSmallUptoRow.holds Try.pinned (OpenSpec.upto presyncSmallSpec)

/-- 'tallysticklaw15.PresyncBits', WHERE WHAT IT READS IS OF BULK AT MOST 1048576: true; the input reads as it did. -/
def presyncBitsUptoRow : OpenClaim := { program := "ytnbppbnjkmopeaa", sum := "bffba472a4691fe7873f12096e308ff5c550c2a0229f120d1824858035592276", func := "tallystick/tallysticklaw15.PresyncBits", spec := "presyncBits", inPlace := ["math/bits.Add64", "math/bits.Sub64"], plainKeys := false, apart := false, narrowed := true }
def PresyncBitsUptoSaid : Prop := presyncBitsUptoRow.holds Try.pinned (OpenSpec.upto presyncBitsSpec)

/-- 'tallysticktop.WholeNumbers', WHERE WHAT IT READS IS OF BULK AT MOST 1048576: true; the input reads as it did. -/
def wholeNumbersUptoRow : OpenClaim := { program := "ytnbppbnjkmopeaa", sum := "bffba472a4691fe7873f12096e308ff5c550c2a0229f120d1824858035592276", func := "tallystick/tallysticktop.WholeNumbers", spec := "wholeNumbers", inPlace := ["math/bits.Add64", "math/bits.Sub64"], plainKeys := false, apart := false, narrowed := true }
def WholeNumbersUptoSaid : Prop := wholeNumbersUptoRow.holds Try.pinned (OpenSpec.upto wholeNumbersSpec)

/-- 'tallysticktop.WholeTargets', WHERE WHAT IT READS IS OF BULK AT MOST 1048576: true; the input reads as it did. -/
def wholeTargetsUptoRow : OpenClaim := { program := "ytnbppbnjkmopeaa", sum := "bffba472a4691fe7873f12096e308ff5c550c2a0229f120d1824858035592276", func := "tallystick/tallysticktop.WholeTargets", spec := "wholeTargets", inPlace := ["math/bits.Add64", "math/bits.Sub64"], plainKeys := false, apart := false, narrowed := true }
def WholeTargetsUptoSaid : Prop := wholeTargetsUptoRow.holds Try.pinned (OpenSpec.upto wholeTargetsSpec)

/-- 'tallysticktop.WholeParted', WHERE WHAT IT READS IS OF BULK AT MOST 1048576: true; the input reads as it did. -/
def wholePartedUptoRow : OpenClaim := { program := "ytnbppbnjkmopeaa", sum := "bffba472a4691fe7873f12096e308ff5c550c2a0229f120d1824858035592276", func := "tallystick/tallysticktop.WholeParted", spec := "wholeParted", inPlace := ["math/bits.Add64", "math/bits.Sub64"], unfollowed := true, recurses := true, plainKeys := false, apart := false, narrowed := true }
def WholePartedUptoSaid : Prop := wholePartedUptoRow.holds Try.pinned (OpenSpec.upto wholePartedSpec)

/-- 'tallysticktop.WholeTwice', WHERE WHAT IT READS IS OF BULK AT MOST 1048576: true; the input reads as it did. -/
def wholeTwiceUptoRow : OpenClaim := { program := "ytnbppbnjkmopeaa", sum := "bffba472a4691fe7873f12096e308ff5c550c2a0229f120d1824858035592276", func := "tallystick/tallysticktop.WholeTwice", spec := "wholeTwice", inPlace := ["math/bits.Add64", "math/bits.Sub64"], recurses := true, plainKeys := false, apart := false, narrowed := true }
def WholeTwiceUptoSaid : Prop := wholeTwiceUptoRow.holds Try.pinned (OpenSpec.upto wholeTwiceSpec)

end Rows
end Go.Proofs.Ytnbppbnjkmopeaa
