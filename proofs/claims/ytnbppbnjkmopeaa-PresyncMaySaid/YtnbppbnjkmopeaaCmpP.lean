/- How numbers compare. No condition. -/
import Derived.Test.YtnbppbnjkmopeaaNumPlain
namespace Go.Proofs.Ytnbppbnjkmopeaa

theorem cmpn_leq {a b : Nat} : cmpn a b ≤ 0 ↔ a ≤ b := by unfold cmpn; split <;> (try split) <;> constructor <;> intro h <;> omega
theorem cmpn_geq {a b : Nat} : 0 ≤ cmpn a b ↔ b ≤ a := by unfold cmpn; split <;> (try split) <;> constructor <;> intro h <;> omega
theorem cmpn_gt {a b : Nat} : 0 < cmpn a b ↔ b < a := by unfold cmpn; split <;> (try split) <;> constructor <;> intro h <;> omega
end Go.Proofs.Ytnbppbnjkmopeaa
