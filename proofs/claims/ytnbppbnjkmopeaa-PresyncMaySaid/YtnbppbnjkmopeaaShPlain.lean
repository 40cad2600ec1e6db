/- Plain arithmetic of shifts of numbers in four words. No condition. -/
import Derived.Test.YtnbppbnjkmopeaaNumPlain
namespace Go.Proofs.Ytnbppbnjkmopeaa
open Go.RowKit

theorem pow_split (k : Nat) (hk : k ≤ 64) : 2 ^ k * 2 ^ (64 - k) = 18446744073709551616 := by
  rw [← Nat.pow_add, Nat.add_sub_cancel' hk]

/-- x * p, p * q = 2^64: what stays and what goes over -/
theorem mul_split (x p q : Nat) (h : p * q = 18446744073709551616) : x * p = x / q * 18446744073709551616 + x % q * p := by
  have e := Nat.div_add_mod x q
  calc x * p = (q * (x / q) + x % q) * p := by rw [e]
    _ = x / q * 18446744073709551616 + x % q * p := by rw [← h]; grind

theorem low_lt (x p q : Nat) (h : p * q = 18446744073709551616) : x % q * p + p ≤ 18446744073709551616 := by
  have hq : 0 < q := by rcases Nat.eq_zero_or_pos q with rfl | hq; · simp at h
                        · exact hq
  have : x % q + 1 ≤ q := Nat.mod_lt _ hq
  calc x % q * p + p = (x % q + 1) * p := by grind
    _ ≤ q * p := Nat.mul_le_mul_right _ this
    _ = _ := by rw [Nat.mul_comm]; exact h

theorem mul_modB (x p q : Nat) (hp : 0 < p) (h : p * q = 18446744073709551616) : x * p % 18446744073709551616 = x % q * p := by
  rw [mul_split x p q h, Nat.add_comm, Nat.add_mul_mod_self_right, Nat.mod_eq_of_lt]
  exact Nat.lt_of_lt_of_le (Nat.lt_add_of_pos_right hp) (low_lt x p q h)

theorem high_lt (x p q : Nat) (h : p * q = 18446744073709551616) (hx : x < 18446744073709551616) : x / q < p := by
  have hq : 0 < q := by rcases Nat.eq_zero_or_pos q with rfl | hq; · simp at h
                        · exact hq
  rw [Nat.div_lt_iff_lt_mul hq, h]; exact hx

theorem wrap_mul (X j : Nat) : IntKind.u64.wrap ((X : Int) * 2 ^ j) = ((X * 2 ^ j % 18446744073709551616 : Nat) : Int) := by
  have cP : ((X * 2 ^ j : Nat) : Int) = (X : Int) * 2 ^ j := by rw [Int.natCast_mul, Int.natCast_pow]; rfl
  rw [IntKind.wrap_u64, ← cP]
  omega

theorem shl_or (x y : Int) (b : Int) (hb : 0 < b) (hb2 : b < 64) (hx : 0 ≤ x) (hy : 0 ≤ y) (hxm : x < 18446744073709551616) (hym : y < 18446744073709551616) :
    bits .or .u64 (IntKind.u64.wrap (x * 2 ^ b.toNat)) (y / 2 ^ (64 - b).toNat) = ((x.toNat % 2 ^ (64 - b.toNat) * 2 ^ b.toNat + y.toNat / 2 ^ (64 - b.toNat) : Nat) : Int) := by
  obtain ⟨X, rfl⟩ := Int.eq_ofNat_of_zero_le hx
  obtain ⟨Y, rfl⟩ := Int.eq_ofNat_of_zero_le hy
  obtain ⟨k, rfl⟩ := Int.eq_ofNat_of_zero_le (Int.le_of_lt hb)
  have ek : (64 - (k : Int)).toNat = 64 - k := by omega
  rw [ek]
  simp only [Int.toNat_natCast]
  have hpq := pow_split k (by omega)
  have hl := low_lt X _ _ hpq
  have hh := high_lt Y _ _ hpq (by omega)
  have hp : 0 < 2 ^ k := Nat.two_pow_pos k
  have e1 : IntKind.u64.wrap ((X : Int) * 2 ^ k) = ((X % 2 ^ (64 - k) * 2 ^ k : Nat) : Int) := by
    rw [wrap_mul, mul_modB X _ _ hp hpq]
  have bX : X % 2 ^ (64 - k) * 2 ^ k < 18446744073709551616 := Nat.lt_of_lt_of_le (Nat.lt_add_of_pos_right hp) hl
  have bY : Y / 2 ^ (64 - k) < 18446744073709551616 := Nat.lt_of_le_of_lt (Nat.div_le_self _ _) (by omega)
  have e2 : (Y : Int) / 2 ^ (64 - k) = ((Y / 2 ^ (64 - k) : Nat) : Int) := by simp
  rw [e1, e2, u64_or_nat _ _ bX bY, nat_join k _ _ (Nat.mul_mod_left _ _) hh]

theorem shr_or (x y : Int) (b : Int) (hb : 0 < b) (hb2 : b < 64) (hx : 0 ≤ x) (hy : 0 ≤ y) (hxm : x < 18446744073709551616) (hym : y < 18446744073709551616) :
    bits .or .u64 (x / 2 ^ b.toNat) (IntKind.u64.wrap (y * 2 ^ (64 - b).toNat)) = ((x.toNat / 2 ^ b.toNat + y.toNat % 2 ^ b.toNat * 2 ^ (64 - b.toNat) : Nat) : Int) := by
  obtain ⟨X, rfl⟩ := Int.eq_ofNat_of_zero_le hx
  obtain ⟨Y, rfl⟩ := Int.eq_ofNat_of_zero_le hy
  obtain ⟨k, rfl⟩ := Int.eq_ofNat_of_zero_le (Int.le_of_lt hb)
  have ek : (64 - (k : Int)).toNat = 64 - k := by omega
  rw [ek]
  simp only [Int.toNat_natCast]
  have hpq := pow_split k (by omega)
  rw [Nat.mul_comm] at hpq
  have hl := low_lt Y _ _ hpq
  have hh := high_lt X _ _ hpq (by omega)
  have hp : 0 < 2 ^ (64 - k) := Nat.two_pow_pos _
  have e1 : IntKind.u64.wrap ((Y : Int) * 2 ^ (64 - k)) = ((Y % 2 ^ k * 2 ^ (64 - k) : Nat) : Int) := by
    rw [wrap_mul, mul_modB Y _ _ hp hpq]
  have bY : Y % 2 ^ k * 2 ^ (64 - k) < 18446744073709551616 := Nat.lt_of_lt_of_le (Nat.lt_add_of_pos_right hp) hl
  have bX : X / 2 ^ k < 18446744073709551616 := Nat.lt_of_le_of_lt (Nat.div_le_self _ _) (by omega)
  have e2 : (X : Int) / 2 ^ k = ((X / 2 ^ k : Nat) : Int) := by simp
  rw [e1, e2, u64_or_nat _ _ bX bY, Nat.or_comm, nat_join (64 - k) _ _ (Nat.mul_mod_left _ _) hh, Nat.add_comm]

theorem shl_lo (x : Int) (b : Int) (hb : 0 ≤ b) (hb2 : b < 64) (hx : 0 ≤ x) :
    IntKind.u64.wrap (x * 2 ^ b.toNat) = ((x.toNat % 2 ^ (64 - b.toNat) * 2 ^ b.toNat : Nat) : Int) := by
  obtain ⟨X, rfl⟩ := Int.eq_ofNat_of_zero_le hx
  obtain ⟨k, rfl⟩ := Int.eq_ofNat_of_zero_le hb
  simp only [Int.toNat_natCast]
  have hpq := pow_split k (by omega)
  have hp : 0 < 2 ^ k := Nat.two_pow_pos k
  rw [wrap_mul, mul_modB X _ _ hp hpq]

theorem shr_lo (x : Int) (b : Int) (hx : 0 ≤ x) : x / 2 ^ b.toNat = ((x.toNat / 2 ^ b.toNat : Nat) : Int) := by
  obtain ⟨X, rfl⟩ := Int.eq_ofNat_of_zero_le hx
  simp

/-- four words, as natural numbers -/
def nat4 (x0 x1 x2 x3 : Nat) : Nat := x0 + 18446744073709551616 * x1 + 340282366920938463463374607431768211456 * x2 + 6277101735386680763835789423207666416102355444464034512896 * x3
theorem nv_nat4 {x0 x1 x2 x3 : Nat} (m0 : x0 < 18446744073709551616) (m1 : x1 < 18446744073709551616) (m2 : x2 < 18446744073709551616) (m3 : x3 < 18446744073709551616) :
    nv (nat4 x0 x1 x2 x3) = .agg #[.int .u64 (x0 : Nat), .int .u64 (x1 : Nat), .int .u64 (x2 : Nat), .int .u64 (x3 : Nat)] := by
  have e : nat4 x0 x1 x2 x3 = nOf x0 x1 x2 x3 := by unfold nat4 nOf; omega
  rw [e]
  exact nv_mk (by omega) (by omega) (by omega) (by omega) (by omega) (by omega) (by omega) (by omega)
theorem nat4_lw {n : Nat} (h : n < 2 ^ 256) : n = nat4 (lw n 0).toNat (lw n 1).toNat (lw n 2).toNat (lw n 3).toNat := by
  rw [lw_at0, lw_at1, lw_at2, lw_at3]; unfold nat4; omega

theorem shl4 (x0 x1 x2 x3 p q : Nat) (h : p * q = 18446744073709551616) : nat4 x0 x1 x2 x3 * p = nat4 (x0 % q * p) (x1 % q * p + x0 / q) (x2 % q * p + x1 / q) (x3 % q * p + x2 / q) + 115792089237316195423570985008687907853269984665640564039457584007913129639936 * (x3 / q) := by
  have e0 := mul_split x0 p q h; have e1 := mul_split x1 p q h; have e2 := mul_split x2 p q h; have e3 := mul_split x3 p q h
  unfold nat4
  have : (x0 + 18446744073709551616 * x1 + 340282366920938463463374607431768211456 * x2 + 6277101735386680763835789423207666416102355444464034512896 * x3) * p = x0 * p + 18446744073709551616 * (x1 * p) + 340282366920938463463374607431768211456 * (x2 * p) + 6277101735386680763835789423207666416102355444464034512896 * (x3 * p) := by grind
  rw [this, e0, e1, e2, e3]
  generalize x0 / q = u0; generalize x1 / q = u1; generalize x2 / q = u2; generalize x3 / q = u3
  generalize x0 % q * p = v0; generalize x1 % q * p = v1; generalize x2 % q * p = v2; generalize x3 % q * p = v3
  omega
theorem shr4 (x0 x1 x2 x3 p q : Nat) (h : p * q = 18446744073709551616) : nat4 x0 x1 x2 x3 / p = nat4 (x0 / p + x1 % p * q) (x1 / p + x2 % p * q) (x2 / p + x3 % p * q) (x3 / p) := by
  have hp : 0 < p := by rcases Nat.eq_zero_or_pos p with rfl | hp; · simp at h
                        · exact hp
  have e0 := Nat.div_add_mod x0 p; have e1 := Nat.div_add_mod x1 p; have e2 := Nat.div_add_mod x2 p; have e3 := Nat.div_add_mod x3 p
  have hr := Nat.mod_lt x0 hp
  have key : nat4 x0 x1 x2 x3 = p * nat4 (x0 / p + x1 % p * q) (x1 / p + x2 % p * q) (x2 / p + x3 % p * q) (x3 / p) + x0 % p := by
    unfold nat4
    generalize x0 / p = u0 at *; generalize x1 / p = u1 at *; generalize x2 / p = u2 at *; generalize x3 / p = u3 at *
    generalize x0 % p = r0 at *; generalize x1 % p = r1 at *; generalize x2 % p = r2 at *; generalize x3 % p = r3 at *
    have f1 : p * (r1 * q) = 18446744073709551616 * r1 := by rw [← h]; grind
    have f2 : p * (r2 * q) = 18446744073709551616 * r2 := by rw [← h]; grind
    have f3 : p * (r3 * q) = 18446744073709551616 * r3 := by rw [← h]; grind
    have : p * (u0 + r1 * q + 18446744073709551616 * (u1 + r2 * q) + 340282366920938463463374607431768211456 * (u2 + r3 * q) + 6277101735386680763835789423207666416102355444464034512896 * u3) = p * u0 + p * (r1 * q) + 18446744073709551616 * (p * u1 + p * (r2 * q)) + 340282366920938463463374607431768211456 * (p * u2 + p * (r3 * q)) + 6277101735386680763835789423207666416102355444464034512896 * (p * u3) := by grind
    rw [this, f1, f2, f3, ← e0, ← e1, ← e2, ← e3]
    omega
  rw [key, Nat.mul_add_div hp, Nat.div_eq_of_lt hr, Nat.add_zero]
end Go.Proofs.Ytnbppbnjkmopeaa
