/- num.Add of two numbers, num.Of of a natural number. No condition. -/
import Derived.Test.YtnbppbnjkmopeaaNumDiv
import Derived.Test.YtnbppbnjkmopeaaNumMul
namespace Go.Proofs.Ytnbppbnjkmopeaa
open Go.RowKit

/-- the sum of two numbers in a new row -/
theorem add2_any (a b : Nat) (ha : a < 2 ^ 256) (hb : b < 2 ^ 256) (g : Nat) (t : TypeId) (w : World)
    (h : w.heap[g]? = some (.cells #[.int .u64 (lw a 0), .int .u64 (lw a 1), .int .u64 (lw a 2), .int .u64 (lw a 3), .int .u64 (lw b 0), .int .u64 (lw b 1), .int .u64 (lw b 2), .int .u64 (lw b 3)] t (0, 0))) :
    Calls Try.prog 58 #[.slice (some ⟨g, 0, none⟩) 2 2] w fun e w' => e = .returned (.tuple #[nv ((a + b) % 2 ^ 256), .bool (decide (2 ^ 256 ≤ a + b))]) ∧ Below w.heap.size w w' := by
  have hr := add_row [a, b] g 0 2 w (by intro x hx; simp at hx; rcases hx with rfl | rfl <;> assumption) (by simp) (block_lt h) (by
    intro i hi j hj
    have hi' : i = 0 ∨ i = 1 := by simp at hi; omega
    have hj' : j = 0 ∨ j = 1 ∨ j = 2 ∨ j = 3 := by omega
    rw [cell_of_row _ _ _ _ _ _ h]
    rcases hi' with rfl | rfl <;> rcases hj' with rfl | rfl | rfl | rfl <;> rfl)
  have e : addAll [a, b] = ((a + b) % 2 ^ 256, decide (2 ^ 256 ≤ a + b)) := by
    simp only [addAll, addStep, List.foldl_cons, List.foldl_nil, Nat.zero_add, Nat.mod_eq_of_lt ha]
    congr 1
    simp; omega
  rw [e] at hr
  exact hr

theorem of_nat (n : Nat) (w : World) (h : n < 18446744073709551616) : Calls Try.prog 55 #[.int .u64 (n : Int)] w fun e w' => e = .returned (nv n) ∧ Below w.heap.size w w' := by
  have := of_any n w (by omega) (by omega)
  simpa using this
end Go.Proofs.Ytnbppbnjkmopeaa
