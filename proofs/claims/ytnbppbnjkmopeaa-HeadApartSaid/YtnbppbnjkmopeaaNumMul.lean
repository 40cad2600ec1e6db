/- What bits.Mul64 and num.Mul answer. -/
import Derived.Test.YtnbppbnjkmopeaaNumA
import Derived.Test.YtnbppbnjkmopeaaShPlain
namespace Go.Proofs.Ytnbppbnjkmopeaa
open Go.RowKit

def mhi (x n : Int) : Int := x * n / 18446744073709551616
def mlo (x n : Int) : Int := x * n % 18446744073709551616
theorem mlo_0 (x n : Int) : 0 ≤ mlo x n := by unfold mlo; omega
theorem mlo_m (x n : Int) : mlo x n < 18446744073709551616 := by unfold mlo; omega
theorem wrap_m (z : Int) : IntKind.u64.wrap z < 18446744073709551616 := by rw [IntKind.wrap_u64]; omega
theorem wrap_0 (z : Int) : 0 ≤ IntKind.u64.wrap z := by rw [IntKind.wrap_u64]; omega
namespace Mul64
theorem maskN (a : Nat) (ha : a < 18446744073709551616) : bits .and .u64 (a : Int) 4294967295 = ((a % 4294967296 : Nat) : Int) := by
  have h := bits_and_u64_nat a 4294967295 ha (by omega)
  have e : a &&& 4294967295 = a % 4294967296 := Nat.and_two_pow_sub_one_eq_mod a 32
  rw [e] at h
  exact h
theorem divN (a : Nat) : (a : Int) / 4294967296 = ((a / 4294967296 : Nat) : Int) := by omega
theorem mulN (a b : Nat) : (a : Int) * (b : Int) = ((a * b : Nat) : Int) := (Int.natCast_mul a b).symm
theorem addN (a b : Nat) : (a : Int) + (b : Int) = ((a + b : Nat) : Int) := (Int.natCast_add a b).symm
theorem wrapN (a : Nat) (ha : a < 18446744073709551616) : IntKind.u64.wrap (a : Int) = (a : Int) := by rw [IntKind.wrap_u64]; omega
theorem wrapM (a : Nat) : IntKind.u64.wrap (a : Int) = ((a % 18446744073709551616 : Nat) : Int) := by rw [IntKind.wrap_u64]; omega
end Mul64

set_option maxHeartbeats 1000000 in
theorem mul64_nat (x y : Nat) (hx : x < 18446744073709551616) (hy : y < 18446744073709551616) (w : World) :
    Calls Try.prog 102 #[.int .u64 x, .int .u64 y] w fun e w' => e = .returned (.tuple #[.int .u64 ((x * y / 18446744073709551616 : Nat) : Int), .int .u64 ((x * y % 18446744073709551616 : Nat) : Int)]) ∧ w = w' := by
  obtain ⟨bd, bt, bw, hhi⟩ := Lib.mul64_hi x y hx hy
  have ba := Lib.half_mul_le (a := x / 4294967296) (b := y / 4294967296) (by omega) (by omega)
  have bb := Lib.half_mul_le (a := x / 4294967296) (b := y % 4294967296) (by omega) (by omega)
  have bc := Lib.half_mul_le (a := x % 4294967296) (b := y / 4294967296) (by omega) (by omega)
  have ba' : x / 4294967296 * (y / 4294967296) < 18446744073709551616 := by omega
  have bb' : x / 4294967296 * (y % 4294967296) < 18446744073709551616 := by omega
  have bc' : x % 4294967296 * (y / 4294967296) < 18446744073709551616 := by omega
  have bh1 : x / 4294967296 * (y / 4294967296) + (x / 4294967296 * (y % 4294967296) + x % 4294967296 * (y % 4294967296) / 4294967296) / 4294967296 < 18446744073709551616 := by omega
  have bh : x / 4294967296 * (y / 4294967296) + (x / 4294967296 * (y % 4294967296) + x % 4294967296 * (y % 4294967296) / 4294967296) / 4294967296 + ((x / 4294967296 * (y % 4294967296) + x % 4294967296 * (y % 4294967296) / 4294967296) % 4294967296 + x % 4294967296 * (y / 4294967296)) / 4294967296 < 18446744073709551616 := by omega
  have H := Lib.hid hhi; clear hhi
  go_enter Try.func102, Try.ntmps102
  go_wp2
  simp only [Mul64.maskN x hx, Mul64.maskN y hy, Mul64.divN, Mul64.mulN, Mul64.addN, Mul64.wrapN _ bd, Mul64.wrapN _ bb', Mul64.wrapN _ bt, Mul64.maskN _ bt, Mul64.wrapN _ bc', Mul64.wrapN _ bw, Mul64.wrapN _ ba', Mul64.wrapN _ bh1, Mul64.wrapN _ bh, Mul64.wrapM (x * y)]
  rw [H.out]
  go_ret2
  exact ⟨rfl, rfl⟩

theorem mul64_any (x y : Int) (w : World) (hx0 : 0 ≤ x) (hx : x < 18446744073709551616) (hy0 : 0 ≤ y) (hy : y < 18446744073709551616) :
    Calls Try.prog 102 #[.int .u64 x, .int .u64 y] w fun e w' => e = .returned (.tuple #[.int .u64 (mhi x y), .int .u64 (mlo x y)]) ∧ w = w' := by
  obtain ⟨X, rfl⟩ := Int.eq_ofNat_of_zero_le hx0
  obtain ⟨Y, rfl⟩ := Int.eq_ofNat_of_zero_le hy0
  have e1 : mhi X Y = ((X * Y / 18446744073709551616 : Nat) : Int) := by unfold mhi; rw [← Int.natCast_mul]; omega
  have e2 : mlo X Y = ((X * Y % 18446744073709551616 : Nat) : Int) := by unfold mlo; rw [← Int.natCast_mul]; omega
  rw [e1, e2]
  exact mul64_nat X Y (by omega) (by omega) w

/-- the carry behind a word -/
def mc (x n c : Int) : Int := IntKind.u64.wrap (mhi x n + addc (mlo x n) c 0)
theorem mc_0 (x n c : Int) : 0 ≤ mc x n c := wrap_0 _
theorem mc_m (x n c : Int) : mc x n c < 18446744073709551616 := wrap_m _
theorem mc_eq (x n c : Int) (hx0 : 0 ≤ x) (hx : x < 18446744073709551616) (hn0 : 0 ≤ n) (hn : n < 18446744073709551616) (hc0 : 0 ≤ c) (hc : c < 18446744073709551616) :
    mc x n c * 18446744073709551616 + addw (mlo x n) c 0 = x * n + c ∧ mc x n c < 18446744073709551616 ∧ 0 ≤ addw (mlo x n) c 0 ∧ addw (mlo x n) c 0 < 18446744073709551616 := by
  have hb : x * n ≤ 18446744073709551615 * 18446744073709551615 := Int.mul_le_mul (by omega) (by omega) hn0 (by omega)
  have h0 : 0 ≤ x * n := Int.mul_nonneg hx0 hn0
  unfold mc addc addw mhi mlo
  rw [IntKind.wrap_u64]
  generalize x * n = p at *
  split <;> omega

set_option maxRecDepth 100000 in
set_option maxHeartbeats 1000000 in
theorem mul_walk (a : Nat) (n : Int) (hn0 : 0 ≤ n) (hn : n < 18446744073709551616) (w : World) :
    Calls Try.prog 60 #[nv a, .int .u64 n] w fun e w' =>
      e = .returned (.tuple #[.agg #[.int .u64 (addw (mlo (lw a 0) n) 0 0), .int .u64 (addw (mlo (lw a 1) n) (mc (lw a 0) n 0) 0), .int .u64 (addw (mlo (lw a 2) n) (mc (lw a 1) n (mc (lw a 0) n 0)) 0), .int .u64 (addw (mlo (lw a 3) n) (mc (lw a 2) n (mc (lw a 1) n (mc (lw a 0) n 0))) 0)],
        .bool (mc (lw a 3) n (mc (lw a 2) n (mc (lw a 1) n (mc (lw a 0) n 0))) != 0)]) ∧ Below w.heap.size w w' := by
  have hs := call_add
  have m0 := mlo_0
  have m1 := mc_0
  have m2 := mlo_m
  have m3 := mc_m
  have x0 := lw_0
  have x1 := lw_m
  have mf : ∀ x c, IntKind.u64.wrap (mhi x n + addc (mlo x n) c 0) = mc x n c := fun _ _ => rfl
  have i0 : ∀ w, (Instr.index 47 (nv a) (.int .i64 0)).run Try.prog w = .ok (.int .u64 (lw a 0)) w := fun _ => by kernel_rfl
  have i1 : ∀ w, (Instr.index 47 (nv a) (.int .i64 1)).run Try.prog w = .ok (.int .u64 (lw a 1)) w := fun _ => by kernel_rfl
  have i2 : ∀ w, (Instr.index 47 (nv a) (.int .i64 2)).run Try.prog w = .ok (.int .u64 (lw a 2)) w := fun _ => by kernel_rfl
  have i3 : ∀ w, (Instr.index 47 (nv a) (.int .i64 3)).run Try.prog w = .ok (.int .u64 (lw a 3)) w := fun _ => by kernel_rfl
  go_enter Try.func60, Try.ntmps60
  go_wp2
  refine wp_loop_rounds 5 ?_
  rw [rounds_succ]; go_wp2_with (go_at_call 102; refine (mul64_any _ _ _ (x0 _ _) (x1 _ _) hn0 hn).mono ?_; rintro e w' ⟨rfl, rfl⟩)
  trace "1"
  rw [rounds_succ]; go_wp2_with (go_at_call 102; refine (mul64_any _ _ _ (x0 _ _) (x1 _ _) hn0 hn).mono ?_; rintro e w' ⟨rfl, rfl⟩)
  trace "2"
  rw [rounds_succ]; go_wp2_with (go_at_call 102; refine (mul64_any _ _ _ (x0 _ _) (x1 _ _) hn0 hn).mono ?_; rintro e w' ⟨rfl, rfl⟩)
  trace "3"
  rw [rounds_succ]; go_wp2_with (go_at_call 102; refine (mul64_any _ _ _ (x0 _ _) (x1 _ _) hn0 hn).mono ?_; rintro e w' ⟨rfl, rfl⟩)
  trace "4"
  rw [rounds_succ]; go_wp2_with fail
  exact bodyPost_ret (v := .tuple #[.agg #[.int .u64 (addw (mlo (lw a 0) n) 0 0), .int .u64 (addw (mlo (lw a 1) n) (mc (lw a 0) n 0) 0), .int .u64 (addw (mlo (lw a 2) n) (mc (lw a 1) n (mc (lw a 0) n 0)) 0), .int .u64 (addw (mlo (lw a 3) n) (mc (lw a 2) n (mc (lw a 1) n (mc (lw a 0) n 0))) 0)],
        .bool (mc (lw a 3) n (mc (lw a 2) n (mc (lw a 1) n (mc (lw a 0) n 0))) != 0)]) (by simp [results, Try.results60, go_sem]) rfl ⟨rfl, (by repeat' (first | (with_reducible exact Below.refl _ _) | (with_reducible assumption) | (with_reducible refine Below.alloc ?_ ?_ _) | (with_reducible refine Below.drew ?_) | (with_reducible refine below_drewN ?_ _) | (with_reducible refine Below.setCell ?_ ?_ _) | go_size))⟩

theorem mul_any (a : Nat) (ha : a < 2 ^ 256) (n : Int) (hn0 : 0 ≤ n) (hn : n < 18446744073709551616) (w : World) :
    Calls Try.prog 60 #[nv a, .int .u64 n] w fun e w' =>
      e = .returned (.tuple #[nv (a * n.toNat % 2 ^ 256), .bool (decide (2 ^ 256 ≤ a * n.toNat))]) ∧ Below w.heap.size w w' := by
  have h := mul_walk a n hn0 hn w
  obtain ⟨e0, c0, p0, q0⟩ := mc_eq (lw a 0) n 0 (lw_0 a 0) (lw_m a 0) hn0 hn (by omega) (by omega)
  have z0 := mc_0 (lw a 0) n 0
  generalize mc (lw a 0) n 0 = k0 at *
  obtain ⟨e1, c1, p1, q1⟩ := mc_eq (lw a 1) n k0 (lw_0 a 1) (lw_m a 1) hn0 hn z0 c0
  have z1 := mc_0 (lw a 1) n k0
  generalize mc (lw a 1) n k0 = k1 at *
  obtain ⟨e2, c2, p2, q2⟩ := mc_eq (lw a 2) n k1 (lw_0 a 2) (lw_m a 2) hn0 hn z1 c1
  have z2 := mc_0 (lw a 2) n k1
  generalize mc (lw a 2) n k1 = k2 at *
  obtain ⟨e3, c3, p3, q3⟩ := mc_eq (lw a 3) n k2 (lw_0 a 3) (lw_m a 3) hn0 hn z2 c2
  have z3 := mc_0 (lw a 3) n k2
  generalize mc (lw a 3) n k2 = k3 at *
  have ea := nOf_lw ha
  have x0 := lw_0 a 0; have x1 := lw_0 a 1; have x2 := lw_0 a 2; have x3 := lw_0 a 3
  generalize hr0 : addw (mlo (lw a 0) n) 0 0 = r0 at *; generalize hr1 : addw (mlo (lw a 1) n) k0 0 = r1 at *; generalize hr2 : addw (mlo (lw a 2) n) k1 0 = r2 at *; generalize hr3 : addw (mlo (lw a 3) n) k2 0 = r3 at *
  have A : (a : Int) = lw a 0 + 18446744073709551616 * lw a 1 + 340282366920938463463374607431768211456 * lw a 2 + 6277101735386680763835789423207666416102355444464034512896 * lw a 3 := by unfold nOf at ea; omega
  obtain ⟨N, rfl⟩ := Int.eq_ofNat_of_zero_le hn0
  have T : ((a * N : Nat) : Int) = r0 + 18446744073709551616 * r1 + 340282366920938463463374607431768211456 * r2 + 6277101735386680763835789423207666416102355444464034512896 * r3 + 115792089237316195423570985008687907853269984665640564039457584007913129639936 * k3 := by
    rw [Int.natCast_mul, A]
    have : (lw a 0 + 18446744073709551616 * lw a 1 + 340282366920938463463374607431768211456 * lw a 2 + 6277101735386680763835789423207666416102355444464034512896 * lw a 3) * (N : Int) = lw a 0 * N + 18446744073709551616 * (lw a 1 * N) + 340282366920938463463374607431768211456 * (lw a 2 * N) + 6277101735386680763835789423207666416102355444464034512896 * (lw a 3 * N) := by grind
    rw [this]
    generalize lw a 0 * (N : Int) = m0 at *; generalize lw a 1 * (N : Int) = m1 at *; generalize lw a 2 * (N : Int) = m2 at *; generalize lw a 3 * (N : Int) = m3 at *
    clear A ea x0 x1 x2 x3 this p0 q0 p1 q1 p2 q2 p3 q3 hr0 hr1 hr2 hr3 h
    omega
  rw [Int.toNat_natCast]
  generalize a * N = M at *
  have E1 : M % 2 ^ 256 = nOf r0 r1 r2 r3 := by
    clear A ea x0 x1 x2 x3 e0 e1 e2 e3 hr0 hr1 hr2 hr3 h
    unfold nOf; omega
  have E2 : (k3 != 0) = decide (2 ^ 256 ≤ M) := by
    clear A ea x0 x1 x2 x3 e0 e1 e2 e3 hr0 hr1 hr2 hr3 h
    by_cases hk : k3 = 0
    · have : ¬ 2 ^ 256 ≤ M := by omega
      simp [hk, this]
    · have : 2 ^ 256 ≤ M := by omega
      simp [hk, this]
  rw [E1, nv_mk p0 p1 p2 p3 q0 q1 q2 q3, ← E2]
  exact h
end Go.Proofs.Ytnbppbnjkmopeaa
