/- Sums of rows of numbers. No condition. -/
import Derived.Test.YtnbppbnjkmopeaaNumAr
namespace Go.Proofs.Ytnbppbnjkmopeaa
open Go.RowKit

theorem addAll_from (xs : List Nat) : ∀ p : Nat × Bool, p.1 < 2 ^ 256 → (xs.foldl addStep p).1 = (p.1 + xs.sum) % 2 ^ 256 := by
  induction xs with
  | nil => intro p h; simp [Nat.mod_eq_of_lt h]
  | cons x xs ih =>
    intro p h
    rw [List.foldl_cons, ih _ (by unfold addStep; exact Nat.mod_lt _ (by omega)), List.sum_cons]
    unfold addStep
    simp only
    omega
theorem addAll_sum (xs : List Nat) : (addAll xs).1 = xs.sum % 2 ^ 256 := by
  unfold addAll
  rw [addAll_from xs _ (by simp)]; simp
theorem addAll_lt (xs : List Nat) : (addAll xs).1 < 2 ^ 256 := by rw [addAll_sum]; exact Nat.mod_lt _ (by omega)
theorem addAll_back (xs : List Nat) : (addAll xs.reverse).1 = (addAll xs).1 := by rw [addAll_sum, addAll_sum, List.sum_reverse]
/-- the sum of the last k -/
def backs (xs : List Nat) (k : Nat) : Nat := (addAll (xs.reverse.take k)).1
theorem backs_lt (xs : List Nat) (k : Nat) : backs xs k < 2 ^ 256 := addAll_lt _
theorem backs_step (xs : List Nat) (k : Nat) (h : k < xs.length) : backs xs (k + 1) = (xs.getD (xs.length - 1 - k) 0 + backs xs k) % 2 ^ 256 := by
  unfold backs
  rw [addAll_snoc _ _ (by simpa using h)]
  unfold addStep
  simp only
  rw [Nat.add_comm]
  congr 2
  simp [List.getD, List.getElem?_reverse h]
theorem backs_all (xs : List Nat) : backs xs xs.length = (addAll xs).1 := by
  unfold backs
  rw [List.take_of_length_le (by simp), addAll_back]

set_option maxRecDepth 100000 in
theorem add_nil (x : Option Addr) (cap : Nat) (w : World) : Calls Try.prog 58 #[.slice x 0 cap] w fun e w' => e = .returned (.tuple #[nv 0, .bool false]) ∧ Below w.heap.size w w' := by
  go_enter Try.func58, Try.ntmps58
  go_wp2_with fail
  refine wp_loop_rounds 1 ?_
  rw [rounds_succ]
  go_wp2_with fail
  exact bodyPost_ret (v := .tuple #[.agg #[.int .u64 0, .int .u64 0, .int .u64 0, .int .u64 0], .bool false]) (by simp [results, Try.results58, go_sem]) rfl ⟨rfl, (by repeat' (first | (with_reducible exact Below.refl _ _) | (with_reducible assumption) | (with_reducible refine below_alloc ?_ _) | (with_reducible refine Below.drew ?_) | (with_reducible refine below_drewN ?_ _) | (with_reducible refine Below.setCell ?_ ?_ _) | go_size))⟩

theorem add_list (x : Option Addr) (cap : Nat) (l : List Nat) (hl : ∀ x ∈ l, x < 2 ^ 256) (hn : l.length ≤ 1000000) (w : World) (hx : l ≠ [] → ∃ b o, x = some ⟨b, o, none⟩ ∧ b < w.heap.size ∧ NumsAt w b o l) :
    Calls Try.prog 58 #[.slice x l.length cap] w fun e w' => e = .returned (.tuple #[nv (addAll l).1, .bool (addAll l).2]) ∧ Below w.heap.size w w' := by
  by_cases h : l = []
  · subst h; exact add_nil x cap w
  · obtain ⟨b, o, rfl, hb, hc⟩ := hx h
    exact add_row l b o cap w hl hn hb hc
end Go.Proofs.Ytnbppbnjkmopeaa
