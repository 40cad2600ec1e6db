/- tallystickref01: turn, low, List. No condition. -/
import Derived.Test.YtfopockjakeplaaHashC
namespace Go.Proofs.Ytfopockjakeplaa
open Go.RowKit

theorem ror_step {x r : Nat} (hr : r < 32) : ror x (r + 1) = ror x r / 2 + ror x r % 2 * 2147483648 := by
  unfold ror
  obtain ⟨m, hm⟩ : ∃ m, m = 31 - r := ⟨_, rfl⟩
  have e1 : 32 - r = m + 1 := by omega
  have e2 : 32 - (r + 1) = m := by omega
  rw [e1, e2, Nat.pow_succ 2 r, Nat.mod_mul, Nat.pow_succ 2 m, ← Nat.div_div_eq_div_mul]
  have e3 : 2 ^ r * 2 ^ m = 2147483648 := by rw [← Nat.pow_add, show r + m = 31 by omega]
  obtain ⟨a, ha⟩ : ∃ a, a = x % 2 ^ r := ⟨_, rfl⟩
  obtain ⟨q, hq⟩ : ∃ q, q = x / 2 ^ r := ⟨_, rfl⟩
  rw [← ha, ← hq, Nat.add_mul, Nat.mul_right_comm, e3, ← Nat.mul_assoc]
  obtain ⟨p, hp⟩ : ∃ p, p = a * 2 ^ m := ⟨_, rfl⟩
  rw [← hp]
  omega
theorem ror_zero (x : Nat) : ror x 0 = x := by unfold ror; simp [Nat.mod_one]

set_option maxRecDepth 100000 in
set_option maxHeartbeats 1000000 in
theorem turn_any (x n : Nat) (hx : x < 4294967296) (hn : n ≤ 32) (w : World) :
    Calls Try.prog 31 #[.int .u32 x, .int .i64 n] w fun e w' => e = .returned (.int .u32 (ror x n)) ∧ w = w' := by
  have H0 := Lib.hid (ror_zero x)
  have HL := Lib.hid fun k (hk : k ≤ 32) => ror_lt hx hk
  have HS := Lib.hid fun k (hk : k < 32) => @ror_step x k hk
  clear hx
  go_enter Try.func31, Try.ntmps31
  go_wp2_with fail
  go_loopg [0, 5] n (fun g xv ix wr => ∃ k : Nat, g = n - k ∧ k ≤ n ∧ ix = .int .i64 k ∧ xv = .int .u32 (ror x k) ∧ w = wr)
  case atStart => exact ⟨0, rfl, by omega, rfl, by rw [H0.out], rfl⟩
  case round =>
    obtain ⟨k, hg, hk, rfl, rfl, rfl⟩ := hrel
    have HG := Lib.hid hg
    clear hg
    by_cases hlt : k < n
    · have hl := HL.out k (by omega)
      have hs := Lib.hid (HS.out k (by omega))
      obtain ⟨y, hy⟩ : ∃ y, y = ror x k := ⟨_, rfl⟩
      rw [← hy] at hl hs
      rw [← hy]
      clear hy
      have ey : (y : Int) / 2 + (y : Int) % 2 * 2147483648 = ((ror x (k + 1) : Nat) : Int) := by rw [hs.out]; omega
      have hb : (y : Int) / 2 + (y : Int) % 2 * 2147483648 < 4294967296 := by omega
      go_wp2_with fail
      go_roundg (n - (k + 1))
      case measure => have := HG.out; omega
      case rel => exact ⟨k + 1, rfl, by omega, by go_num, rfl, rfl⟩
    · obtain rfl : k = n := by omega
      go_wp2_with fail
      go_ret
      exact ⟨rfl, rfl⟩

set_option maxRecDepth 100000 in
set_option maxHeartbeats 1000000 in
theorem low_any (x n : Nat) (hx : x < 4294967296) (hn : n ≤ 32) (w : World) :
    Calls Try.prog 32 #[.int .u32 x, .int .i64 n] w fun e w' => e = .returned (.int .u32 ((x / 2 ^ n : Nat) : Int)) ∧ w = w' := by
  have H0 : Hid (x / 2 ^ 0 = x) := Lib.hid (by rw [Nat.pow_zero, Nat.div_one])
  have HL := Lib.hid fun k => Nat.lt_of_le_of_lt (Nat.div_le_self x (2 ^ k)) hx
  have HS := Lib.hid fun k => show x / 2 ^ (k + 1) = x / 2 ^ k / 2 by rw [Nat.pow_succ, Nat.div_div_eq_div_mul]
  clear hx
  go_enter Try.func32, Try.ntmps32
  go_wp2_with fail
  go_loopg [0, 5] n (fun g xv ix wr => ∃ k : Nat, g = n - k ∧ k ≤ n ∧ ix = .int .i64 k ∧ xv = .int .u32 ((x / 2 ^ k : Nat) : Int) ∧ w = wr)
  case atStart => exact ⟨0, rfl, by omega, rfl, by rw [H0.out], rfl⟩
  case round =>
    obtain ⟨k, hg, hk, rfl, rfl, rfl⟩ := hrel
    have HG := Lib.hid hg
    clear hg
    have hl := HL.out k
    have hs := Lib.hid (HS.out k)
    obtain ⟨y, hy⟩ : ∃ y, y = x / 2 ^ k := ⟨_, rfl⟩
    rw [← hy] at hl hs
    rw [← hy]
    by_cases hlt : k < n
    · clear hy
      obtain ⟨z, hz⟩ : ∃ z, z = x / 2 ^ (k + 1) := ⟨_, rfl⟩
      rw [← hz] at hs
      have ey : (y : Int) / 2 = (z : Int) := by rw [hs.out]; omega
      have HZ := Lib.hid hz
      clear hz
      go_wp2_with fail
      go_roundg (n - (k + 1))
      case measure => have := HG.out; omega
      case rel => exact ⟨k + 1, rfl, by omega, by go_num, by rw [← HZ.out], rfl⟩
    · obtain rfl : k = n := by omega
      have HY := Lib.hid hy
      clear hy
      go_wp2_with fail
      go_ret
      exact ⟨by rw [HY.out]; rfl, rfl⟩

set_option maxRecDepth 100000 in
theorem list_any (w : World) : Calls Try.prog 21 #[] w fun e w' => ∃ g, e = .returned (.slice (some ⟨g, 0, none⟩) 64 64) ∧ w'.heap[g]? = some (.cells (us ks).toArray 34 (0, 0)) ∧ w.heap.size ≤ g ∧ Below w.heap.size w w' := by
  have B : Below w.heap.size w w := Below.refl _ _
  go_enter Try.func21, Try.ntmps21
  go_wp2_with fail
  go_ret
  exact ⟨w.heap.size, rfl, heap_new w _, Nat.le_refl _, below_alloc B _⟩
end Go.Proofs.Ytfopockjakeplaa
