/- What num.Shl and num.Shr answer. -/
import Derived.Test.YtnbppbnjkmopeaaNumA
import Derived.Test.YtnbppbnjkmopeaaShPlain
namespace Go.Proofs.Ytnbppbnjkmopeaa
open Go.RowKit

theorem wrap_lw (a i : Nat) : IntKind.u64.wrap (lw a i) = lw a i := by
  have h0 := lw_0 a i
  have h1 := lw_m a i
  rw [IntKind.wrap_u64]; omega
def shlN (a : Nat) (n : Int) : Nat := if n < 0 ∨ 255 < n then 0 else a * 2 ^ n.toNat % 2 ^ 256
def shrN (a : Nat) (n : Int) : Nat := if n < 0 ∨ 255 < n then 0 else a / 2 ^ n.toNat

theorem shl_00_words (a : Nat) (ha : a < 2 ^ 256) (n : Int) (_h0 : 0 ≤ n) (e : n / 64 = 0) (hb : n % 64 = 0) :
    nv (a * 2 ^ n.toNat % 2 ^ 256) = .agg #[.int .u64 (IntKind.u64.wrap (lw a 0)), .int .u64 (IntKind.u64.wrap (lw a 1)), .int .u64 (IntKind.u64.wrap (lw a 2)), .int .u64 (IntKind.u64.wrap (lw a 3))] := by
  have ea := nat4_lw ha
  have x0 := lw_0 a 0; have x1 := lw_0 a 1; have x2 := lw_0 a 2; have x3 := lw_0 a 3
  have X0 := lw_m a 0; have X1 := lw_m a 1; have X2 := lw_m a 2; have X3 := lw_m a 3
  have en : n.toNat = 0 := by omega
  rw [en]
  simp only [wrap_lw]
  have E : a * 2 ^ 0 % 2 ^ 256 = nOf (lw a 0) (lw a 1) (lw a 2) (lw a 3) := by
    unfold nat4 at ea; unfold nOf
    omega
  rw [E]
  exact nv_mk (by omega) (by omega) (by omega) (by omega) (by omega) (by omega) (by omega) (by omega)
set_option maxRecDepth 100000 in
set_option maxHeartbeats 1000000 in
theorem shl_00 (a : Nat) (ha : a < 2 ^ 256) (n : Int) (w : World) (h0 : 0 ≤ n) (_h1 : n ≤ 255) (e : n / 64 = 0) (hb : n % 64 = 0) :
    Calls Try.prog 83 #[nv a, .int .i64 n] w fun e w' => e = .returned (nv (a * 2 ^ n.toNat % 2 ^ 256)) ∧ Below w.heap.size w w' := by
  have H := Lib.hid (shl_00_words a ha n h0 e hb)
  clear ha
  have x0 := lw_0
  have x1 := lw_m
  go_enter Try.func83, Try.ntmps83
  go_wp2
  refine wp_loop_rounds 5 ?_
  repeat any_goals (first | (rw [rounds_succ]; go_wp2) | (go_region; go_wp2))
  rw [H.out]
  exact bodyPost_ret (v := .agg #[.int .u64 (IntKind.u64.wrap (lw a 0)), .int .u64 (IntKind.u64.wrap (lw a 1)), .int .u64 (IntKind.u64.wrap (lw a 2)), .int .u64 (IntKind.u64.wrap (lw a 3))]) (by simp [results, Try.results83, go_sem]) rfl ⟨rfl, (by repeat' (first | (with_reducible exact Below.refl _ _) | (with_reducible assumption) | (with_reducible refine Below.alloc ?_ ?_ _) | (with_reducible refine Below.drew ?_) | (with_reducible refine below_drewN ?_ _) | (with_reducible refine Below.setCell ?_ ?_ _) | go_size))⟩

theorem shl_0b_words (a : Nat) (ha : a < 2 ^ 256) (n : Int) (h0 : 0 ≤ n) (e : n / 64 = 0) (hb : 0 < n % 64) :
    nv (a * 2 ^ n.toNat % 2 ^ 256) = .agg #[.int .u64 (IntKind.u64.wrap (lw a 0 * 2 ^ (n % 64).toNat)), .int .u64 (bits .or .u64 (IntKind.u64.wrap (lw a 1 * 2 ^ (n % 64).toNat)) (lw a 0 / 2 ^ (64 - n % 64).toNat)), .int .u64 (bits .or .u64 (IntKind.u64.wrap (lw a 2 * 2 ^ (n % 64).toNat)) (lw a 1 / 2 ^ (64 - n % 64).toNat)), .int .u64 (bits .or .u64 (IntKind.u64.wrap (lw a 3 * 2 ^ (n % 64).toNat)) (lw a 2 / 2 ^ (64 - n % 64).toNat))] := by
  have ea := nat4_lw ha
  have x0 := lw_0 a 0; have x1 := lw_0 a 1; have x2 := lw_0 a 2; have x3 := lw_0 a 3
  have X0 := lw_m a 0; have X1 := lw_m a 1; have X2 := lw_m a 2; have X3 := lw_m a 3
  have hb2 : n % 64 < 64 := by omega
  have en : n.toNat = 0 + (n % 64).toNat := by omega
  rw [shl_lo _ _ (Int.le_of_lt hb) hb2 x0, shl_or _ _ _ hb hb2 x1 x0 X1 X0, shl_or _ _ _ hb hb2 x2 x1 X2 X1, shl_or _ _ _ hb hb2 x3 x2 X3 X2]
  have Y0 : (lw a 0).toNat < 18446744073709551616 := by omega
  have Y1 : (lw a 1).toNat < 18446744073709551616 := by omega
  have Y2 : (lw a 2).toNat < 18446744073709551616 := by omega
  have Y3 : (lw a 3).toNat < 18446744073709551616 := by omega
  generalize (lw a 0).toNat = y0 at *; generalize (lw a 1).toNat = y1 at *; generalize (lw a 2).toNat = y2 at *; generalize (lw a 3).toNat = y3 at *
  rw [en]
  have hk : (n % 64).toNat < 64 := by omega
  generalize (n % 64).toNat = k at *
  have hpq := pow_split k (by omega)
  have hp : 0 < 2 ^ k := Nat.two_pow_pos _
  have hq : 0 < 2 ^ (64 - k) := Nat.two_pow_pos _
  rw [ea, Nat.pow_add]
  clear ea x0 x1 x2 x3 X0 X1 X2 X3 ha
  generalize 2 ^ k = p at *; generalize 2 ^ (64 - k) = q at *
  have l0 := low_lt y0 p q hpq; have l1 := low_lt y1 p q hpq; have l2 := low_lt y2 p q hpq; have l3 := low_lt y3 p q hpq
  have g0 := high_lt y0 p q hpq Y0; have g1 := high_lt y1 p q hpq Y1; have g2 := high_lt y2 p q hpq Y2; have g3 := high_lt y3 p q hpq Y3
  have E : nat4 y0 y1 y2 y3 * (2 ^ 0 * p) % 2 ^ 256 = nat4 (y0 % q * p) ((y1 % q * p + y0 / q)) ((y2 % q * p + y1 / q)) ((y3 % q * p + y2 / q)) := by
    have s := shl4 y0 y1 y2 y3 p q hpq
    rw [show nat4 y0 y1 y2 y3 * (2 ^ 0 * p) = 2 ^ 0 * (nat4 y0 y1 y2 y3 * p) by grind, s]
    generalize y0 % q * p = v0 at *; generalize y1 % q * p = v1 at *; generalize y2 % q * p = v2 at *; generalize y3 % q * p = v3 at *
    generalize y0 / q = u0 at *; generalize y1 / q = u1 at *; generalize y2 / q = u2 at *; generalize y3 / q = u3 at *
    clear s
    unfold nat4
    omega
  rw [E]
  exact nv_nat4 (by omega) (by omega) (by omega) (by omega)
set_option maxRecDepth 100000 in
set_option maxHeartbeats 1000000 in
theorem shl_0b (a : Nat) (ha : a < 2 ^ 256) (n : Int) (w : World) (h0 : 0 ≤ n) (h1 : n ≤ 255) (e : n / 64 = 0) (hb : 0 < n % 64) :
    Calls Try.prog 83 #[nv a, .int .i64 n] w fun e w' => e = .returned (nv (a * 2 ^ n.toNat % 2 ^ 256)) ∧ Below w.heap.size w w' := by
  have H := Lib.hid (shl_0b_words a ha n h0 e hb)
  clear ha
  have hb2 : n % 64 < 64 := by omega
  have x0 := lw_0
  have x1 := lw_m
  go_enter Try.func83, Try.ntmps83
  go_wp2
  refine wp_loop_rounds 5 ?_
  repeat any_goals (first | (rw [rounds_succ]; go_wp2) | (go_region; go_wp2))
  rw [H.out]
  exact bodyPost_ret (v := .agg #[.int .u64 (IntKind.u64.wrap (lw a 0 * 2 ^ (n % 64).toNat)), .int .u64 (bits .or .u64 (IntKind.u64.wrap (lw a 1 * 2 ^ (n % 64).toNat)) (lw a 0 / 2 ^ (64 - n % 64).toNat)), .int .u64 (bits .or .u64 (IntKind.u64.wrap (lw a 2 * 2 ^ (n % 64).toNat)) (lw a 1 / 2 ^ (64 - n % 64).toNat)), .int .u64 (bits .or .u64 (IntKind.u64.wrap (lw a 3 * 2 ^ (n % 64).toNat)) (lw a 2 / 2 ^ (64 - n % 64).toNat))]) (by simp [results, Try.results83, go_sem]) rfl ⟨rfl, (by repeat' (first | (with_reducible exact Below.refl _ _) | (with_reducible assumption) | (with_reducible refine Below.alloc ?_ ?_ _) | (with_reducible refine Below.drew ?_) | (with_reducible refine below_drewN ?_ _) | (with_reducible refine Below.setCell ?_ ?_ _) | go_size))⟩

theorem shl_10_words (a : Nat) (ha : a < 2 ^ 256) (n : Int) (_h0 : 0 ≤ n) (e : n / 64 = 1) (hb : n % 64 = 0) :
    nv (a * 2 ^ n.toNat % 2 ^ 256) = .agg #[.int .u64 0, .int .u64 (IntKind.u64.wrap (lw a 0)), .int .u64 (IntKind.u64.wrap (lw a 1)), .int .u64 (IntKind.u64.wrap (lw a 2))] := by
  have ea := nat4_lw ha
  have x0 := lw_0 a 0; have x1 := lw_0 a 1; have x2 := lw_0 a 2; have x3 := lw_0 a 3
  have X0 := lw_m a 0; have X1 := lw_m a 1; have X2 := lw_m a 2; have X3 := lw_m a 3
  have en : n.toNat = 64 := by omega
  rw [en]
  simp only [wrap_lw]
  have E : a * 2 ^ 64 % 2 ^ 256 = nOf (0) (lw a 0) (lw a 1) (lw a 2) := by
    unfold nat4 at ea; unfold nOf
    omega
  rw [E]
  exact nv_mk (by omega) (by omega) (by omega) (by omega) (by omega) (by omega) (by omega) (by omega)
set_option maxRecDepth 100000 in
set_option maxHeartbeats 1000000 in
theorem shl_10 (a : Nat) (ha : a < 2 ^ 256) (n : Int) (w : World) (h0 : 0 ≤ n) (_h1 : n ≤ 255) (e : n / 64 = 1) (hb : n % 64 = 0) :
    Calls Try.prog 83 #[nv a, .int .i64 n] w fun e w' => e = .returned (nv (a * 2 ^ n.toNat % 2 ^ 256)) ∧ Below w.heap.size w w' := by
  have H := Lib.hid (shl_10_words a ha n h0 e hb)
  clear ha
  have x0 := lw_0
  have x1 := lw_m
  go_enter Try.func83, Try.ntmps83
  go_wp2
  refine wp_loop_rounds 5 ?_
  repeat any_goals (first | (rw [rounds_succ]; go_wp2) | (go_region; go_wp2))
  rw [H.out]
  exact bodyPost_ret (v := .agg #[.int .u64 0, .int .u64 (IntKind.u64.wrap (lw a 0)), .int .u64 (IntKind.u64.wrap (lw a 1)), .int .u64 (IntKind.u64.wrap (lw a 2))]) (by simp [results, Try.results83, go_sem]) rfl ⟨rfl, (by repeat' (first | (with_reducible exact Below.refl _ _) | (with_reducible assumption) | (with_reducible refine Below.alloc ?_ ?_ _) | (with_reducible refine Below.drew ?_) | (with_reducible refine below_drewN ?_ _) | (with_reducible refine Below.setCell ?_ ?_ _) | go_size))⟩

theorem shl_1b_words (a : Nat) (ha : a < 2 ^ 256) (n : Int) (h0 : 0 ≤ n) (e : n / 64 = 1) (hb : 0 < n % 64) :
    nv (a * 2 ^ n.toNat % 2 ^ 256) = .agg #[.int .u64 0, .int .u64 (IntKind.u64.wrap (lw a 0 * 2 ^ (n % 64).toNat)), .int .u64 (bits .or .u64 (IntKind.u64.wrap (lw a 1 * 2 ^ (n % 64).toNat)) (lw a 0 / 2 ^ (64 - n % 64).toNat)), .int .u64 (bits .or .u64 (IntKind.u64.wrap (lw a 2 * 2 ^ (n % 64).toNat)) (lw a 1 / 2 ^ (64 - n % 64).toNat))] := by
  have ea := nat4_lw ha
  have x0 := lw_0 a 0; have x1 := lw_0 a 1; have x2 := lw_0 a 2; have x3 := lw_0 a 3
  have X0 := lw_m a 0; have X1 := lw_m a 1; have X2 := lw_m a 2; have X3 := lw_m a 3
  have hb2 : n % 64 < 64 := by omega
  have en : n.toNat = 64 + (n % 64).toNat := by omega
  rw [shl_lo _ _ (Int.le_of_lt hb) hb2 x0, shl_or _ _ _ hb hb2 x1 x0 X1 X0, shl_or _ _ _ hb hb2 x2 x1 X2 X1]
  have Y0 : (lw a 0).toNat < 18446744073709551616 := by omega
  have Y1 : (lw a 1).toNat < 18446744073709551616 := by omega
  have Y2 : (lw a 2).toNat < 18446744073709551616 := by omega
  have Y3 : (lw a 3).toNat < 18446744073709551616 := by omega
  generalize (lw a 0).toNat = y0 at *; generalize (lw a 1).toNat = y1 at *; generalize (lw a 2).toNat = y2 at *; generalize (lw a 3).toNat = y3 at *
  rw [en]
  have hk : (n % 64).toNat < 64 := by omega
  generalize (n % 64).toNat = k at *
  have hpq := pow_split k (by omega)
  have hp : 0 < 2 ^ k := Nat.two_pow_pos _
  have hq : 0 < 2 ^ (64 - k) := Nat.two_pow_pos _
  rw [ea, Nat.pow_add]
  clear ea x0 x1 x2 x3 X0 X1 X2 X3 ha
  generalize 2 ^ k = p at *; generalize 2 ^ (64 - k) = q at *
  have l0 := low_lt y0 p q hpq; have l1 := low_lt y1 p q hpq; have l2 := low_lt y2 p q hpq; have l3 := low_lt y3 p q hpq
  have g0 := high_lt y0 p q hpq Y0; have g1 := high_lt y1 p q hpq Y1; have g2 := high_lt y2 p q hpq Y2; have g3 := high_lt y3 p q hpq Y3
  have E : nat4 y0 y1 y2 y3 * (2 ^ 64 * p) % 2 ^ 256 = nat4 (0) (y0 % q * p) ((y1 % q * p + y0 / q)) ((y2 % q * p + y1 / q)) := by
    have s := shl4 y0 y1 y2 y3 p q hpq
    rw [show nat4 y0 y1 y2 y3 * (2 ^ 64 * p) = 2 ^ 64 * (nat4 y0 y1 y2 y3 * p) by grind, s]
    generalize y0 % q * p = v0 at *; generalize y1 % q * p = v1 at *; generalize y2 % q * p = v2 at *; generalize y3 % q * p = v3 at *
    generalize y0 / q = u0 at *; generalize y1 / q = u1 at *; generalize y2 / q = u2 at *; generalize y3 / q = u3 at *
    clear s
    unfold nat4
    omega
  rw [E]
  exact nv_nat4 (by omega) (by omega) (by omega) (by omega)
set_option maxRecDepth 100000 in
set_option maxHeartbeats 1000000 in
theorem shl_1b (a : Nat) (ha : a < 2 ^ 256) (n : Int) (w : World) (h0 : 0 ≤ n) (h1 : n ≤ 255) (e : n / 64 = 1) (hb : 0 < n % 64) :
    Calls Try.prog 83 #[nv a, .int .i64 n] w fun e w' => e = .returned (nv (a * 2 ^ n.toNat % 2 ^ 256)) ∧ Below w.heap.size w w' := by
  have H := Lib.hid (shl_1b_words a ha n h0 e hb)
  clear ha
  have hb2 : n % 64 < 64 := by omega
  have x0 := lw_0
  have x1 := lw_m
  go_enter Try.func83, Try.ntmps83
  go_wp2
  refine wp_loop_rounds 5 ?_
  repeat any_goals (first | (rw [rounds_succ]; go_wp2) | (go_region; go_wp2))
  rw [H.out]
  exact bodyPost_ret (v := .agg #[.int .u64 0, .int .u64 (IntKind.u64.wrap (lw a 0 * 2 ^ (n % 64).toNat)), .int .u64 (bits .or .u64 (IntKind.u64.wrap (lw a 1 * 2 ^ (n % 64).toNat)) (lw a 0 / 2 ^ (64 - n % 64).toNat)), .int .u64 (bits .or .u64 (IntKind.u64.wrap (lw a 2 * 2 ^ (n % 64).toNat)) (lw a 1 / 2 ^ (64 - n % 64).toNat))]) (by simp [results, Try.results83, go_sem]) rfl ⟨rfl, (by repeat' (first | (with_reducible exact Below.refl _ _) | (with_reducible assumption) | (with_reducible refine Below.alloc ?_ ?_ _) | (with_reducible refine Below.drew ?_) | (with_reducible refine below_drewN ?_ _) | (with_reducible refine Below.setCell ?_ ?_ _) | go_size))⟩

theorem shl_20_words (a : Nat) (ha : a < 2 ^ 256) (n : Int) (_h0 : 0 ≤ n) (e : n / 64 = 2) (hb : n % 64 = 0) :
    nv (a * 2 ^ n.toNat % 2 ^ 256) = .agg #[.int .u64 0, .int .u64 0, .int .u64 (IntKind.u64.wrap (lw a 0)), .int .u64 (IntKind.u64.wrap (lw a 1))] := by
  have ea := nat4_lw ha
  have x0 := lw_0 a 0; have x1 := lw_0 a 1; have x2 := lw_0 a 2; have x3 := lw_0 a 3
  have X0 := lw_m a 0; have X1 := lw_m a 1; have X2 := lw_m a 2; have X3 := lw_m a 3
  have en : n.toNat = 128 := by omega
  rw [en]
  simp only [wrap_lw]
  have E : a * 2 ^ 128 % 2 ^ 256 = nOf (0) (0) (lw a 0) (lw a 1) := by
    unfold nat4 at ea; unfold nOf
    omega
  rw [E]
  exact nv_mk (by omega) (by omega) (by omega) (by omega) (by omega) (by omega) (by omega) (by omega)
set_option maxRecDepth 100000 in
set_option maxHeartbeats 1000000 in
theorem shl_20 (a : Nat) (ha : a < 2 ^ 256) (n : Int) (w : World) (h0 : 0 ≤ n) (_h1 : n ≤ 255) (e : n / 64 = 2) (hb : n % 64 = 0) :
    Calls Try.prog 83 #[nv a, .int .i64 n] w fun e w' => e = .returned (nv (a * 2 ^ n.toNat % 2 ^ 256)) ∧ Below w.heap.size w w' := by
  have H := Lib.hid (shl_20_words a ha n h0 e hb)
  clear ha
  have x0 := lw_0
  have x1 := lw_m
  go_enter Try.func83, Try.ntmps83
  go_wp2
  refine wp_loop_rounds 5 ?_
  repeat any_goals (first | (rw [rounds_succ]; go_wp2) | (go_region; go_wp2))
  rw [H.out]
  exact bodyPost_ret (v := .agg #[.int .u64 0, .int .u64 0, .int .u64 (IntKind.u64.wrap (lw a 0)), .int .u64 (IntKind.u64.wrap (lw a 1))]) (by simp [results, Try.results83, go_sem]) rfl ⟨rfl, (by repeat' (first | (with_reducible exact Below.refl _ _) | (with_reducible assumption) | (with_reducible refine Below.alloc ?_ ?_ _) | (with_reducible refine Below.drew ?_) | (with_reducible refine below_drewN ?_ _) | (with_reducible refine Below.setCell ?_ ?_ _) | go_size))⟩

theorem shl_2b_words (a : Nat) (ha : a < 2 ^ 256) (n : Int) (h0 : 0 ≤ n) (e : n / 64 = 2) (hb : 0 < n % 64) :
    nv (a * 2 ^ n.toNat % 2 ^ 256) = .agg #[.int .u64 0, .int .u64 0, .int .u64 (IntKind.u64.wrap (lw a 0 * 2 ^ (n % 64).toNat)), .int .u64 (bits .or .u64 (IntKind.u64.wrap (lw a 1 * 2 ^ (n % 64).toNat)) (lw a 0 / 2 ^ (64 - n % 64).toNat))] := by
  have ea := nat4_lw ha
  have x0 := lw_0 a 0; have x1 := lw_0 a 1; have x2 := lw_0 a 2; have x3 := lw_0 a 3
  have X0 := lw_m a 0; have X1 := lw_m a 1; have X2 := lw_m a 2; have X3 := lw_m a 3
  have hb2 : n % 64 < 64 := by omega
  have en : n.toNat = 128 + (n % 64).toNat := by omega
  rw [shl_lo _ _ (Int.le_of_lt hb) hb2 x0, shl_or _ _ _ hb hb2 x1 x0 X1 X0]
  have Y0 : (lw a 0).toNat < 18446744073709551616 := by omega
  have Y1 : (lw a 1).toNat < 18446744073709551616 := by omega
  have Y2 : (lw a 2).toNat < 18446744073709551616 := by omega
  have Y3 : (lw a 3).toNat < 18446744073709551616 := by omega
  generalize (lw a 0).toNat = y0 at *; generalize (lw a 1).toNat = y1 at *; generalize (lw a 2).toNat = y2 at *; generalize (lw a 3).toNat = y3 at *
  rw [en]
  have hk : (n % 64).toNat < 64 := by omega
  generalize (n % 64).toNat = k at *
  have hpq := pow_split k (by omega)
  have hp : 0 < 2 ^ k := Nat.two_pow_pos _
  have hq : 0 < 2 ^ (64 - k) := Nat.two_pow_pos _
  rw [ea, Nat.pow_add]
  clear ea x0 x1 x2 x3 X0 X1 X2 X3 ha
  generalize 2 ^ k = p at *; generalize 2 ^ (64 - k) = q at *
  have l0 := low_lt y0 p q hpq; have l1 := low_lt y1 p q hpq; have l2 := low_lt y2 p q hpq; have l3 := low_lt y3 p q hpq
  have g0 := high_lt y0 p q hpq Y0; have g1 := high_lt y1 p q hpq Y1; have g2 := high_lt y2 p q hpq Y2; have g3 := high_lt y3 p q hpq Y3
  have E : nat4 y0 y1 y2 y3 * (2 ^ 128 * p) % 2 ^ 256 = nat4 (0) (0) (y0 % q * p) ((y1 % q * p + y0 / q)) := by
    have s := shl4 y0 y1 y2 y3 p q hpq
    rw [show nat4 y0 y1 y2 y3 * (2 ^ 128 * p) = 2 ^ 128 * (nat4 y0 y1 y2 y3 * p) by grind, s]
    generalize y0 % q * p = v0 at *; generalize y1 % q * p = v1 at *; generalize y2 % q * p = v2 at *; generalize y3 % q * p = v3 at *
    generalize y0 / q = u0 at *; generalize y1 / q = u1 at *; generalize y2 / q = u2 at *; generalize y3 / q = u3 at *
    clear s
    unfold nat4
    omega
  rw [E]
  exact nv_nat4 (by omega) (by omega) (by omega) (by omega)
set_option maxRecDepth 100000 in
set_option maxHeartbeats 1000000 in
theorem shl_2b (a : Nat) (ha : a < 2 ^ 256) (n : Int) (w : World) (h0 : 0 ≤ n) (h1 : n ≤ 255) (e : n / 64 = 2) (hb : 0 < n % 64) :
    Calls Try.prog 83 #[nv a, .int .i64 n] w fun e w' => e = .returned (nv (a * 2 ^ n.toNat % 2 ^ 256)) ∧ Below w.heap.size w w' := by
  have H := Lib.hid (shl_2b_words a ha n h0 e hb)
  clear ha
  have hb2 : n % 64 < 64 := by omega
  have x0 := lw_0
  have x1 := lw_m
  go_enter Try.func83, Try.ntmps83
  go_wp2
  refine wp_loop_rounds 5 ?_
  repeat any_goals (first | (rw [rounds_succ]; go_wp2) | (go_region; go_wp2))
  rw [H.out]
  exact bodyPost_ret (v := .agg #[.int .u64 0, .int .u64 0, .int .u64 (IntKind.u64.wrap (lw a 0 * 2 ^ (n % 64).toNat)), .int .u64 (bits .or .u64 (IntKind.u64.wrap (lw a 1 * 2 ^ (n % 64).toNat)) (lw a 0 / 2 ^ (64 - n % 64).toNat))]) (by simp [results, Try.results83, go_sem]) rfl ⟨rfl, (by repeat' (first | (with_reducible exact Below.refl _ _) | (with_reducible assumption) | (with_reducible refine Below.alloc ?_ ?_ _) | (with_reducible refine Below.drew ?_) | (with_reducible refine below_drewN ?_ _) | (with_reducible refine Below.setCell ?_ ?_ _) | go_size))⟩

theorem shl_30_words (a : Nat) (ha : a < 2 ^ 256) (n : Int) (_h0 : 0 ≤ n) (e : n / 64 = 3) (hb : n % 64 = 0) :
    nv (a * 2 ^ n.toNat % 2 ^ 256) = .agg #[.int .u64 0, .int .u64 0, .int .u64 0, .int .u64 (IntKind.u64.wrap (lw a 0))] := by
  have ea := nat4_lw ha
  have x0 := lw_0 a 0; have x1 := lw_0 a 1; have x2 := lw_0 a 2; have x3 := lw_0 a 3
  have X0 := lw_m a 0; have X1 := lw_m a 1; have X2 := lw_m a 2; have X3 := lw_m a 3
  have en : n.toNat = 192 := by omega
  rw [en]
  simp only [wrap_lw]
  have E : a * 2 ^ 192 % 2 ^ 256 = nOf (0) (0) (0) (lw a 0) := by
    unfold nat4 at ea; unfold nOf
    omega
  rw [E]
  exact nv_mk (by omega) (by omega) (by omega) (by omega) (by omega) (by omega) (by omega) (by omega)
set_option maxRecDepth 100000 in
set_option maxHeartbeats 1000000 in
theorem shl_30 (a : Nat) (ha : a < 2 ^ 256) (n : Int) (w : World) (h0 : 0 ≤ n) (_h1 : n ≤ 255) (e : n / 64 = 3) (hb : n % 64 = 0) :
    Calls Try.prog 83 #[nv a, .int .i64 n] w fun e w' => e = .returned (nv (a * 2 ^ n.toNat % 2 ^ 256)) ∧ Below w.heap.size w w' := by
  have H := Lib.hid (shl_30_words a ha n h0 e hb)
  clear ha
  have x0 := lw_0
  have x1 := lw_m
  go_enter Try.func83, Try.ntmps83
  go_wp2
  refine wp_loop_rounds 5 ?_
  repeat any_goals (first | (rw [rounds_succ]; go_wp2) | (go_region; go_wp2))
  rw [H.out]
  exact bodyPost_ret (v := .agg #[.int .u64 0, .int .u64 0, .int .u64 0, .int .u64 (IntKind.u64.wrap (lw a 0))]) (by simp [results, Try.results83, go_sem]) rfl ⟨rfl, (by repeat' (first | (with_reducible exact Below.refl _ _) | (with_reducible assumption) | (with_reducible refine Below.alloc ?_ ?_ _) | (with_reducible refine Below.drew ?_) | (with_reducible refine below_drewN ?_ _) | (with_reducible refine Below.setCell ?_ ?_ _) | go_size))⟩

theorem shl_3b_words (a : Nat) (ha : a < 2 ^ 256) (n : Int) (h0 : 0 ≤ n) (e : n / 64 = 3) (hb : 0 < n % 64) :
    nv (a * 2 ^ n.toNat % 2 ^ 256) = .agg #[.int .u64 0, .int .u64 0, .int .u64 0, .int .u64 (IntKind.u64.wrap (lw a 0 * 2 ^ (n % 64).toNat))] := by
  have ea := nat4_lw ha
  have x0 := lw_0 a 0; have x1 := lw_0 a 1; have x2 := lw_0 a 2; have x3 := lw_0 a 3
  have X0 := lw_m a 0; have X1 := lw_m a 1; have X2 := lw_m a 2; have X3 := lw_m a 3
  have hb2 : n % 64 < 64 := by omega
  have en : n.toNat = 192 + (n % 64).toNat := by omega
  rw [shl_lo _ _ (Int.le_of_lt hb) hb2 x0]
  have Y0 : (lw a 0).toNat < 18446744073709551616 := by omega
  have Y1 : (lw a 1).toNat < 18446744073709551616 := by omega
  have Y2 : (lw a 2).toNat < 18446744073709551616 := by omega
  have Y3 : (lw a 3).toNat < 18446744073709551616 := by omega
  generalize (lw a 0).toNat = y0 at *; generalize (lw a 1).toNat = y1 at *; generalize (lw a 2).toNat = y2 at *; generalize (lw a 3).toNat = y3 at *
  rw [en]
  have hk : (n % 64).toNat < 64 := by omega
  generalize (n % 64).toNat = k at *
  have hpq := pow_split k (by omega)
  have hp : 0 < 2 ^ k := Nat.two_pow_pos _
  have hq : 0 < 2 ^ (64 - k) := Nat.two_pow_pos _
  rw [ea, Nat.pow_add]
  clear ea x0 x1 x2 x3 X0 X1 X2 X3 ha
  generalize 2 ^ k = p at *; generalize 2 ^ (64 - k) = q at *
  have l0 := low_lt y0 p q hpq; have l1 := low_lt y1 p q hpq; have l2 := low_lt y2 p q hpq; have l3 := low_lt y3 p q hpq
  have g0 := high_lt y0 p q hpq Y0; have g1 := high_lt y1 p q hpq Y1; have g2 := high_lt y2 p q hpq Y2; have g3 := high_lt y3 p q hpq Y3
  have E : nat4 y0 y1 y2 y3 * (2 ^ 192 * p) % 2 ^ 256 = nat4 (0) (0) (0) (y0 % q * p) := by
    have s := shl4 y0 y1 y2 y3 p q hpq
    rw [show nat4 y0 y1 y2 y3 * (2 ^ 192 * p) = 2 ^ 192 * (nat4 y0 y1 y2 y3 * p) by grind, s]
    generalize y0 % q * p = v0 at *; generalize y1 % q * p = v1 at *; generalize y2 % q * p = v2 at *; generalize y3 % q * p = v3 at *
    generalize y0 / q = u0 at *; generalize y1 / q = u1 at *; generalize y2 / q = u2 at *; generalize y3 / q = u3 at *
    clear s
    unfold nat4
    omega
  rw [E]
  exact nv_nat4 (by omega) (by omega) (by omega) (by omega)
set_option maxRecDepth 100000 in
set_option maxHeartbeats 1000000 in
theorem shl_3b (a : Nat) (ha : a < 2 ^ 256) (n : Int) (w : World) (h0 : 0 ≤ n) (h1 : n ≤ 255) (e : n / 64 = 3) (hb : 0 < n % 64) :
    Calls Try.prog 83 #[nv a, .int .i64 n] w fun e w' => e = .returned (nv (a * 2 ^ n.toNat % 2 ^ 256)) ∧ Below w.heap.size w w' := by
  have H := Lib.hid (shl_3b_words a ha n h0 e hb)
  clear ha
  have hb2 : n % 64 < 64 := by omega
  have x0 := lw_0
  have x1 := lw_m
  go_enter Try.func83, Try.ntmps83
  go_wp2
  refine wp_loop_rounds 5 ?_
  repeat any_goals (first | (rw [rounds_succ]; go_wp2) | (go_region; go_wp2))
  rw [H.out]
  exact bodyPost_ret (v := .agg #[.int .u64 0, .int .u64 0, .int .u64 0, .int .u64 (IntKind.u64.wrap (lw a 0 * 2 ^ (n % 64).toNat))]) (by simp [results, Try.results83, go_sem]) rfl ⟨rfl, (by repeat' (first | (with_reducible exact Below.refl _ _) | (with_reducible assumption) | (with_reducible refine Below.alloc ?_ ?_ _) | (with_reducible refine Below.drew ?_) | (with_reducible refine below_drewN ?_ _) | (with_reducible refine Below.setCell ?_ ?_ _) | go_size))⟩

set_option maxRecDepth 100000 in
set_option maxHeartbeats 1000000 in
theorem shl_any (a : Nat) (ha : a < 2 ^ 256) (n : Int) (w : World) :
    Calls Try.prog 83 #[nv a, .int .i64 n] w fun e w' => e = .returned (nv (shlN a n)) ∧ Below w.heap.size w w' := by
  unfold shlN
  by_cases hn : n < 0
  · rw [if_pos (.inl hn)]
    clear ha
    go_enter Try.func83, Try.ntmps83
    go_wp2
    exact bodyPost_ret (v := .agg #[.int .u64 0, .int .u64 0, .int .u64 0, .int .u64 0]) (by simp [results, Try.results83, go_sem]) rfl ⟨rfl, (by repeat' (first | (with_reducible exact Below.refl _ _) | (with_reducible assumption) | (with_reducible refine Below.alloc ?_ ?_ _) | (with_reducible refine Below.drew ?_) | (with_reducible refine below_drewN ?_ _) | (with_reducible refine Below.setCell ?_ ?_ _) | go_size))⟩
  · by_cases hm : 255 < n
    · rw [if_pos (.inr hm)]
      clear ha
      go_enter Try.func83, Try.ntmps83
      go_wp2
      exact bodyPost_ret (v := .agg #[.int .u64 0, .int .u64 0, .int .u64 0, .int .u64 0]) (by simp [results, Try.results83, go_sem]) rfl ⟨rfl, (by repeat' (first | (with_reducible exact Below.refl _ _) | (with_reducible assumption) | (with_reducible refine Below.alloc ?_ ?_ _) | (with_reducible refine Below.drew ?_) | (with_reducible refine below_drewN ?_ _) | (with_reducible refine Below.setCell ?_ ?_ _) | go_size))⟩
    · rw [if_neg (by omega)]
      have h0 : 0 ≤ n := by omega
      have h1 : n ≤ 255 := by omega
      have hw : n / 64 = 0 ∨ n / 64 = 1 ∨ n / 64 = 2 ∨ n / 64 = 3 := by omega
      have hb : n % 64 = 0 ∨ 0 < n % 64 := by omega
      rcases hw with e | e | e | e <;> rcases hb with hb | hb
      · exact shl_00 a ha n w h0 h1 e hb
      · exact shl_0b a ha n w h0 h1 e hb
      · exact shl_10 a ha n w h0 h1 e hb
      · exact shl_1b a ha n w h0 h1 e hb
      · exact shl_20 a ha n w h0 h1 e hb
      · exact shl_2b a ha n w h0 h1 e hb
      · exact shl_30 a ha n w h0 h1 e hb
      · exact shl_3b a ha n w h0 h1 e hb

theorem shr_00_words (a : Nat) (ha : a < 2 ^ 256) (n : Int) (_h0 : 0 ≤ n) (e : n / 64 = 0) (hb : n % 64 = 0) :
    nv (a / 2 ^ n.toNat) = .agg #[.int .u64 (lw a 0), .int .u64 (lw a 1), .int .u64 (lw a 2), .int .u64 (lw a 3)] := by
  have ea := nat4_lw ha
  have x0 := lw_0 a 0; have x1 := lw_0 a 1; have x2 := lw_0 a 2; have x3 := lw_0 a 3
  have X0 := lw_m a 0; have X1 := lw_m a 1; have X2 := lw_m a 2; have X3 := lw_m a 3
  have en : n.toNat = 0 := by omega
  rw [en]
  have E : a / 2 ^ 0 = nOf (lw a 0) (lw a 1) (lw a 2) (lw a 3) := by
    unfold nat4 at ea; unfold nOf
    omega
  rw [E]
  exact nv_mk (by omega) (by omega) (by omega) (by omega) (by omega) (by omega) (by omega) (by omega)
set_option maxRecDepth 100000 in
set_option maxHeartbeats 1000000 in
theorem shr_00 (a : Nat) (ha : a < 2 ^ 256) (n : Int) (w : World) (h0 : 0 ≤ n) (_h1 : n ≤ 255) (e : n / 64 = 0) (hb : n % 64 = 0) :
    Calls Try.prog 82 #[nv a, .int .i64 n] w fun e w' => e = .returned (nv (a / 2 ^ n.toNat)) ∧ Below w.heap.size w w' := by
  have H := Lib.hid (shr_00_words a ha n h0 e hb)
  clear ha
  have x0 := lw_0
  have x1 := lw_m
  go_enter Try.func82, Try.ntmps82
  go_wp2
  refine wp_loop_rounds 5 ?_
  repeat any_goals (first | (rw [rounds_succ]; go_wp2) | (go_region; go_wp2))
  rw [H.out]
  exact bodyPost_ret (v := .agg #[.int .u64 (lw a 0), .int .u64 (lw a 1), .int .u64 (lw a 2), .int .u64 (lw a 3)]) (by simp [results, Try.results82, go_sem]) rfl ⟨rfl, (by repeat' (first | (with_reducible exact Below.refl _ _) | (with_reducible assumption) | (with_reducible refine Below.alloc ?_ ?_ _) | (with_reducible refine Below.drew ?_) | (with_reducible refine below_drewN ?_ _) | (with_reducible refine Below.setCell ?_ ?_ _) | go_size))⟩

theorem shr_0b_words (a : Nat) (ha : a < 2 ^ 256) (n : Int) (h0 : 0 ≤ n) (e : n / 64 = 0) (hb : 0 < n % 64) :
    nv (a / 2 ^ n.toNat) = .agg #[.int .u64 (bits .or .u64 (lw a 0 / 2 ^ (n % 64).toNat) (IntKind.u64.wrap (lw a 1 * 2 ^ (64 - n % 64).toNat))), .int .u64 (bits .or .u64 (lw a 1 / 2 ^ (n % 64).toNat) (IntKind.u64.wrap (lw a 2 * 2 ^ (64 - n % 64).toNat))), .int .u64 (bits .or .u64 (lw a 2 / 2 ^ (n % 64).toNat) (IntKind.u64.wrap (lw a 3 * 2 ^ (64 - n % 64).toNat))), .int .u64 (lw a 3 / 2 ^ (n % 64).toNat)] := by
  have ea := nat4_lw ha
  have x0 := lw_0 a 0; have x1 := lw_0 a 1; have x2 := lw_0 a 2; have x3 := lw_0 a 3
  have X0 := lw_m a 0; have X1 := lw_m a 1; have X2 := lw_m a 2; have X3 := lw_m a 3
  have hb2 : n % 64 < 64 := by omega
  have en : n.toNat = 0 + (n % 64).toNat := by omega
  rw [shr_or _ _ _ hb hb2 x0 x1 X0 X1, shr_or _ _ _ hb hb2 x1 x2 X1 X2, shr_or _ _ _ hb hb2 x2 x3 X2 X3, shr_lo _ _ x3]
  have Y0 : (lw a 0).toNat < 18446744073709551616 := by omega
  have Y1 : (lw a 1).toNat < 18446744073709551616 := by omega
  have Y2 : (lw a 2).toNat < 18446744073709551616 := by omega
  have Y3 : (lw a 3).toNat < 18446744073709551616 := by omega
  generalize (lw a 0).toNat = y0 at *; generalize (lw a 1).toNat = y1 at *; generalize (lw a 2).toNat = y2 at *; generalize (lw a 3).toNat = y3 at *
  rw [en]
  have hk : (n % 64).toNat < 64 := by omega
  generalize (n % 64).toNat = k at *
  have hpq := pow_split k (by omega)
  have hp : 0 < 2 ^ k := Nat.two_pow_pos _
  have hq : 0 < 2 ^ (64 - k) := Nat.two_pow_pos _
  rw [ea, Nat.pow_add]
  clear ea x0 x1 x2 x3 X0 X1 X2 X3 ha
  generalize 2 ^ k = p at *; generalize 2 ^ (64 - k) = q at *
  rw [Nat.mul_comm] at hpq
  have l0 := low_lt y0 q p hpq; have l1 := low_lt y1 q p hpq; have l2 := low_lt y2 q p hpq; have l3 := low_lt y3 q p hpq
  have g0 := high_lt y0 q p hpq Y0; have g1 := high_lt y1 q p hpq Y1; have g2 := high_lt y2 q p hpq Y2; have g3 := high_lt y3 q p hpq Y3
  rw [Nat.mul_comm] at hpq
  have E : nat4 y0 y1 y2 y3 / (2 ^ 0 * p) = nat4 (y0 / p + y1 % p * q) (y1 / p + y2 % p * q) (y2 / p + y3 % p * q) (y3 / p) := by
    rw [← Nat.div_div_eq_div_mul, show nat4 y0 y1 y2 y3 / 2 ^ 0 = nat4 y0 y1 y2 y3 by unfold nat4; omega, shr4 _ _ _ _ p q hpq]
  rw [E]
  exact nv_nat4 (by omega) (by omega) (by omega) (by omega)
set_option maxRecDepth 100000 in
set_option maxHeartbeats 1000000 in
theorem shr_0b (a : Nat) (ha : a < 2 ^ 256) (n : Int) (w : World) (h0 : 0 ≤ n) (h1 : n ≤ 255) (e : n / 64 = 0) (hb : 0 < n % 64) :
    Calls Try.prog 82 #[nv a, .int .i64 n] w fun e w' => e = .returned (nv (a / 2 ^ n.toNat)) ∧ Below w.heap.size w w' := by
  have H := Lib.hid (shr_0b_words a ha n h0 e hb)
  clear ha
  have hb2 : n % 64 < 64 := by omega
  have x0 := lw_0
  have x1 := lw_m
  go_enter Try.func82, Try.ntmps82
  go_wp2
  refine wp_loop_rounds 5 ?_
  repeat any_goals (first | (rw [rounds_succ]; go_wp2) | (go_region; go_wp2))
  rw [H.out]
  exact bodyPost_ret (v := .agg #[.int .u64 (bits .or .u64 (lw a 0 / 2 ^ (n % 64).toNat) (IntKind.u64.wrap (lw a 1 * 2 ^ (64 - n % 64).toNat))), .int .u64 (bits .or .u64 (lw a 1 / 2 ^ (n % 64).toNat) (IntKind.u64.wrap (lw a 2 * 2 ^ (64 - n % 64).toNat))), .int .u64 (bits .or .u64 (lw a 2 / 2 ^ (n % 64).toNat) (IntKind.u64.wrap (lw a 3 * 2 ^ (64 - n % 64).toNat))), .int .u64 (lw a 3 / 2 ^ (n % 64).toNat)]) (by simp [results, Try.results82, go_sem]) rfl ⟨rfl, (by repeat' (first | (with_reducible exact Below.refl _ _) | (with_reducible assumption) | (with_reducible refine Below.alloc ?_ ?_ _) | (with_reducible refine Below.drew ?_) | (with_reducible refine below_drewN ?_ _) | (with_reducible refine Below.setCell ?_ ?_ _) | go_size))⟩

theorem shr_10_words (a : Nat) (ha : a < 2 ^ 256) (n : Int) (_h0 : 0 ≤ n) (e : n / 64 = 1) (hb : n % 64 = 0) :
    nv (a / 2 ^ n.toNat) = .agg #[.int .u64 (lw a 1), .int .u64 (lw a 2), .int .u64 (lw a 3), .int .u64 0] := by
  have ea := nat4_lw ha
  have x0 := lw_0 a 0; have x1 := lw_0 a 1; have x2 := lw_0 a 2; have x3 := lw_0 a 3
  have X0 := lw_m a 0; have X1 := lw_m a 1; have X2 := lw_m a 2; have X3 := lw_m a 3
  have en : n.toNat = 64 := by omega
  rw [en]
  have E : a / 2 ^ 64 = nOf (lw a 1) (lw a 2) (lw a 3) (0) := by
    unfold nat4 at ea; unfold nOf
    omega
  rw [E]
  exact nv_mk (by omega) (by omega) (by omega) (by omega) (by omega) (by omega) (by omega) (by omega)
set_option maxRecDepth 100000 in
set_option maxHeartbeats 1000000 in
theorem shr_10 (a : Nat) (ha : a < 2 ^ 256) (n : Int) (w : World) (h0 : 0 ≤ n) (_h1 : n ≤ 255) (e : n / 64 = 1) (hb : n % 64 = 0) :
    Calls Try.prog 82 #[nv a, .int .i64 n] w fun e w' => e = .returned (nv (a / 2 ^ n.toNat)) ∧ Below w.heap.size w w' := by
  have H := Lib.hid (shr_10_words a ha n h0 e hb)
  clear ha
  have x0 := lw_0
  have x1 := lw_m
  go_enter Try.func82, Try.ntmps82
  go_wp2
  refine wp_loop_rounds 5 ?_
  repeat any_goals (first | (rw [rounds_succ]; go_wp2) | (go_region; go_wp2))
  rw [H.out]
  exact bodyPost_ret (v := .agg #[.int .u64 (lw a 1), .int .u64 (lw a 2), .int .u64 (lw a 3), .int .u64 0]) (by simp [results, Try.results82, go_sem]) rfl ⟨rfl, (by repeat' (first | (with_reducible exact Below.refl _ _) | (with_reducible assumption) | (with_reducible refine Below.alloc ?_ ?_ _) | (with_reducible refine Below.drew ?_) | (with_reducible refine below_drewN ?_ _) | (with_reducible refine Below.setCell ?_ ?_ _) | go_size))⟩

theorem shr_1b_words (a : Nat) (ha : a < 2 ^ 256) (n : Int) (h0 : 0 ≤ n) (e : n / 64 = 1) (hb : 0 < n % 64) :
    nv (a / 2 ^ n.toNat) = .agg #[.int .u64 (bits .or .u64 (lw a 1 / 2 ^ (n % 64).toNat) (IntKind.u64.wrap (lw a 2 * 2 ^ (64 - n % 64).toNat))), .int .u64 (bits .or .u64 (lw a 2 / 2 ^ (n % 64).toNat) (IntKind.u64.wrap (lw a 3 * 2 ^ (64 - n % 64).toNat))), .int .u64 (lw a 3 / 2 ^ (n % 64).toNat), .int .u64 0] := by
  have ea := nat4_lw ha
  have x0 := lw_0 a 0; have x1 := lw_0 a 1; have x2 := lw_0 a 2; have x3 := lw_0 a 3
  have X0 := lw_m a 0; have X1 := lw_m a 1; have X2 := lw_m a 2; have X3 := lw_m a 3
  have hb2 : n % 64 < 64 := by omega
  have en : n.toNat = 64 + (n % 64).toNat := by omega
  rw [shr_or _ _ _ hb hb2 x1 x2 X1 X2, shr_or _ _ _ hb hb2 x2 x3 X2 X3, shr_lo _ _ x3]
  have Y0 : (lw a 0).toNat < 18446744073709551616 := by omega
  have Y1 : (lw a 1).toNat < 18446744073709551616 := by omega
  have Y2 : (lw a 2).toNat < 18446744073709551616 := by omega
  have Y3 : (lw a 3).toNat < 18446744073709551616 := by omega
  generalize (lw a 0).toNat = y0 at *; generalize (lw a 1).toNat = y1 at *; generalize (lw a 2).toNat = y2 at *; generalize (lw a 3).toNat = y3 at *
  rw [en]
  have hk : (n % 64).toNat < 64 := by omega
  generalize (n % 64).toNat = k at *
  have hpq := pow_split k (by omega)
  have hp : 0 < 2 ^ k := Nat.two_pow_pos _
  have hq : 0 < 2 ^ (64 - k) := Nat.two_pow_pos _
  rw [ea, Nat.pow_add]
  clear ea x0 x1 x2 x3 X0 X1 X2 X3 ha
  generalize 2 ^ k = p at *; generalize 2 ^ (64 - k) = q at *
  rw [Nat.mul_comm] at hpq
  have l0 := low_lt y0 q p hpq; have l1 := low_lt y1 q p hpq; have l2 := low_lt y2 q p hpq; have l3 := low_lt y3 q p hpq
  have g0 := high_lt y0 q p hpq Y0; have g1 := high_lt y1 q p hpq Y1; have g2 := high_lt y2 q p hpq Y2; have g3 := high_lt y3 q p hpq Y3
  rw [Nat.mul_comm] at hpq
  have E : nat4 y0 y1 y2 y3 / (2 ^ 64 * p) = nat4 (y1 / p + y2 % p * q) (y2 / p + y3 % p * q) (y3 / p) 0 := by
    rw [← Nat.div_div_eq_div_mul, show nat4 y0 y1 y2 y3 / 2 ^ 64 = nat4 y1 y2 y3 0 by unfold nat4; omega, shr4 _ _ _ _ p q hpq]
    simp
  rw [E]
  exact nv_nat4 (by omega) (by omega) (by omega) (by omega)
set_option maxRecDepth 100000 in
set_option maxHeartbeats 1000000 in
theorem shr_1b (a : Nat) (ha : a < 2 ^ 256) (n : Int) (w : World) (h0 : 0 ≤ n) (h1 : n ≤ 255) (e : n / 64 = 1) (hb : 0 < n % 64) :
    Calls Try.prog 82 #[nv a, .int .i64 n] w fun e w' => e = .returned (nv (a / 2 ^ n.toNat)) ∧ Below w.heap.size w w' := by
  have H := Lib.hid (shr_1b_words a ha n h0 e hb)
  clear ha
  have hb2 : n % 64 < 64 := by omega
  have x0 := lw_0
  have x1 := lw_m
  go_enter Try.func82, Try.ntmps82
  go_wp2
  refine wp_loop_rounds 5 ?_
  repeat any_goals (first | (rw [rounds_succ]; go_wp2) | (go_region; go_wp2))
  rw [H.out]
  exact bodyPost_ret (v := .agg #[.int .u64 (bits .or .u64 (lw a 1 / 2 ^ (n % 64).toNat) (IntKind.u64.wrap (lw a 2 * 2 ^ (64 - n % 64).toNat))), .int .u64 (bits .or .u64 (lw a 2 / 2 ^ (n % 64).toNat) (IntKind.u64.wrap (lw a 3 * 2 ^ (64 - n % 64).toNat))), .int .u64 (lw a 3 / 2 ^ (n % 64).toNat), .int .u64 0]) (by simp [results, Try.results82, go_sem]) rfl ⟨rfl, (by repeat' (first | (with_reducible exact Below.refl _ _) | (with_reducible assumption) | (with_reducible refine Below.alloc ?_ ?_ _) | (with_reducible refine Below.drew ?_) | (with_reducible refine below_drewN ?_ _) | (with_reducible refine Below.setCell ?_ ?_ _) | go_size))⟩

theorem shr_20_words (a : Nat) (ha : a < 2 ^ 256) (n : Int) (_h0 : 0 ≤ n) (e : n / 64 = 2) (hb : n % 64 = 0) :
    nv (a / 2 ^ n.toNat) = .agg #[.int .u64 (lw a 2), .int .u64 (lw a 3), .int .u64 0, .int .u64 0] := by
  have ea := nat4_lw ha
  have x0 := lw_0 a 0; have x1 := lw_0 a 1; have x2 := lw_0 a 2; have x3 := lw_0 a 3
  have X0 := lw_m a 0; have X1 := lw_m a 1; have X2 := lw_m a 2; have X3 := lw_m a 3
  have en : n.toNat = 128 := by omega
  rw [en]
  have E : a / 2 ^ 128 = nOf (lw a 2) (lw a 3) (0) (0) := by
    unfold nat4 at ea; unfold nOf
    omega
  rw [E]
  exact nv_mk (by omega) (by omega) (by omega) (by omega) (by omega) (by omega) (by omega) (by omega)
set_option maxRecDepth 100000 in
set_option maxHeartbeats 1000000 in
theorem shr_20 (a : Nat) (ha : a < 2 ^ 256) (n : Int) (w : World) (h0 : 0 ≤ n) (_h1 : n ≤ 255) (e : n / 64 = 2) (hb : n % 64 = 0) :
    Calls Try.prog 82 #[nv a, .int .i64 n] w fun e w' => e = .returned (nv (a / 2 ^ n.toNat)) ∧ Below w.heap.size w w' := by
  have H := Lib.hid (shr_20_words a ha n h0 e hb)
  clear ha
  have x0 := lw_0
  have x1 := lw_m
  go_enter Try.func82, Try.ntmps82
  go_wp2
  refine wp_loop_rounds 5 ?_
  repeat any_goals (first | (rw [rounds_succ]; go_wp2) | (go_region; go_wp2))
  rw [H.out]
  exact bodyPost_ret (v := .agg #[.int .u64 (lw a 2), .int .u64 (lw a 3), .int .u64 0, .int .u64 0]) (by simp [results, Try.results82, go_sem]) rfl ⟨rfl, (by repeat' (first | (with_reducible exact Below.refl _ _) | (with_reducible assumption) | (with_reducible refine Below.alloc ?_ ?_ _) | (with_reducible refine Below.drew ?_) | (with_reducible refine below_drewN ?_ _) | (with_reducible refine Below.setCell ?_ ?_ _) | go_size))⟩

theorem shr_2b_words (a : Nat) (ha : a < 2 ^ 256) (n : Int) (h0 : 0 ≤ n) (e : n / 64 = 2) (hb : 0 < n % 64) :
    nv (a / 2 ^ n.toNat) = .agg #[.int .u64 (bits .or .u64 (lw a 2 / 2 ^ (n % 64).toNat) (IntKind.u64.wrap (lw a 3 * 2 ^ (64 - n % 64).toNat))), .int .u64 (lw a 3 / 2 ^ (n % 64).toNat), .int .u64 0, .int .u64 0] := by
  have ea := nat4_lw ha
  have x0 := lw_0 a 0; have x1 := lw_0 a 1; have x2 := lw_0 a 2; have x3 := lw_0 a 3
  have X0 := lw_m a 0; have X1 := lw_m a 1; have X2 := lw_m a 2; have X3 := lw_m a 3
  have hb2 : n % 64 < 64 := by omega
  have en : n.toNat = 128 + (n % 64).toNat := by omega
  rw [shr_or _ _ _ hb hb2 x2 x3 X2 X3, shr_lo _ _ x3]
  have Y0 : (lw a 0).toNat < 18446744073709551616 := by omega
  have Y1 : (lw a 1).toNat < 18446744073709551616 := by omega
  have Y2 : (lw a 2).toNat < 18446744073709551616 := by omega
  have Y3 : (lw a 3).toNat < 18446744073709551616 := by omega
  generalize (lw a 0).toNat = y0 at *; generalize (lw a 1).toNat = y1 at *; generalize (lw a 2).toNat = y2 at *; generalize (lw a 3).toNat = y3 at *
  rw [en]
  have hk : (n % 64).toNat < 64 := by omega
  generalize (n % 64).toNat = k at *
  have hpq := pow_split k (by omega)
  have hp : 0 < 2 ^ k := Nat.two_pow_pos _
  have hq : 0 < 2 ^ (64 - k) := Nat.two_pow_pos _
  rw [ea, Nat.pow_add]
  clear ea x0 x1 x2 x3 X0 X1 X2 X3 ha
  generalize 2 ^ k = p at *; generalize 2 ^ (64 - k) = q at *
  rw [Nat.mul_comm] at hpq
  have l0 := low_lt y0 q p hpq; have l1 := low_lt y1 q p hpq; have l2 := low_lt y2 q p hpq; have l3 := low_lt y3 q p hpq
  have g0 := high_lt y0 q p hpq Y0; have g1 := high_lt y1 q p hpq Y1; have g2 := high_lt y2 q p hpq Y2; have g3 := high_lt y3 q p hpq Y3
  rw [Nat.mul_comm] at hpq
  have E : nat4 y0 y1 y2 y3 / (2 ^ 128 * p) = nat4 (y2 / p + y3 % p * q) (y3 / p) 0 0 := by
    rw [← Nat.div_div_eq_div_mul, show nat4 y0 y1 y2 y3 / 2 ^ 128 = nat4 y2 y3 0 0 by unfold nat4; omega, shr4 _ _ _ _ p q hpq]
    simp
  rw [E]
  exact nv_nat4 (by omega) (by omega) (by omega) (by omega)
set_option maxRecDepth 100000 in
set_option maxHeartbeats 1000000 in
theorem shr_2b (a : Nat) (ha : a < 2 ^ 256) (n : Int) (w : World) (h0 : 0 ≤ n) (h1 : n ≤ 255) (e : n / 64 = 2) (hb : 0 < n % 64) :
    Calls Try.prog 82 #[nv a, .int .i64 n] w fun e w' => e = .returned (nv (a / 2 ^ n.toNat)) ∧ Below w.heap.size w w' := by
  have H := Lib.hid (shr_2b_words a ha n h0 e hb)
  clear ha
  have hb2 : n % 64 < 64 := by omega
  have x0 := lw_0
  have x1 := lw_m
  go_enter Try.func82, Try.ntmps82
  go_wp2
  refine wp_loop_rounds 5 ?_
  repeat any_goals (first | (rw [rounds_succ]; go_wp2) | (go_region; go_wp2))
  rw [H.out]
  exact bodyPost_ret (v := .agg #[.int .u64 (bits .or .u64 (lw a 2 / 2 ^ (n % 64).toNat) (IntKind.u64.wrap (lw a 3 * 2 ^ (64 - n % 64).toNat))), .int .u64 (lw a 3 / 2 ^ (n % 64).toNat), .int .u64 0, .int .u64 0]) (by simp [results, Try.results82, go_sem]) rfl ⟨rfl, (by repeat' (first | (with_reducible exact Below.refl _ _) | (with_reducible assumption) | (with_reducible refine Below.alloc ?_ ?_ _) | (with_reducible refine Below.drew ?_) | (with_reducible refine below_drewN ?_ _) | (with_reducible refine Below.setCell ?_ ?_ _) | go_size))⟩

theorem shr_30_words (a : Nat) (ha : a < 2 ^ 256) (n : Int) (_h0 : 0 ≤ n) (e : n / 64 = 3) (hb : n % 64 = 0) :
    nv (a / 2 ^ n.toNat) = .agg #[.int .u64 (lw a 3), .int .u64 0, .int .u64 0, .int .u64 0] := by
  have ea := nat4_lw ha
  have x0 := lw_0 a 0; have x1 := lw_0 a 1; have x2 := lw_0 a 2; have x3 := lw_0 a 3
  have X0 := lw_m a 0; have X1 := lw_m a 1; have X2 := lw_m a 2; have X3 := lw_m a 3
  have en : n.toNat = 192 := by omega
  rw [en]
  have E : a / 2 ^ 192 = nOf (lw a 3) (0) (0) (0) := by
    unfold nat4 at ea; unfold nOf
    omega
  rw [E]
  exact nv_mk (by omega) (by omega) (by omega) (by omega) (by omega) (by omega) (by omega) (by omega)
set_option maxRecDepth 100000 in
set_option maxHeartbeats 1000000 in
theorem shr_30 (a : Nat) (ha : a < 2 ^ 256) (n : Int) (w : World) (h0 : 0 ≤ n) (_h1 : n ≤ 255) (e : n / 64 = 3) (hb : n % 64 = 0) :
    Calls Try.prog 82 #[nv a, .int .i64 n] w fun e w' => e = .returned (nv (a / 2 ^ n.toNat)) ∧ Below w.heap.size w w' := by
  have H := Lib.hid (shr_30_words a ha n h0 e hb)
  clear ha
  have x0 := lw_0
  have x1 := lw_m
  go_enter Try.func82, Try.ntmps82
  go_wp2
  refine wp_loop_rounds 5 ?_
  repeat any_goals (first | (rw [rounds_succ]; go_wp2) | (go_region; go_wp2))
  rw [H.out]
  exact bodyPost_ret (v := .agg #[.int .u64 (lw a 3), .int .u64 0, .int .u64 0, .int .u64 0]) (by simp [results, Try.results82, go_sem]) rfl ⟨rfl, (by repeat' (first | (with_reducible exact Below.refl _ _) | (with_reducible assumption) | (with_reducible refine Below.alloc ?_ ?_ _) | (with_reducible refine Below.drew ?_) | (with_reducible refine below_drewN ?_ _) | (with_reducible refine Below.setCell ?_ ?_ _) | go_size))⟩

theorem shr_3b_words (a : Nat) (ha : a < 2 ^ 256) (n : Int) (h0 : 0 ≤ n) (e : n / 64 = 3) (hb : 0 < n % 64) :
    nv (a / 2 ^ n.toNat) = .agg #[.int .u64 (lw a 3 / 2 ^ (n % 64).toNat), .int .u64 0, .int .u64 0, .int .u64 0] := by
  have ea := nat4_lw ha
  have x0 := lw_0 a 0; have x1 := lw_0 a 1; have x2 := lw_0 a 2; have x3 := lw_0 a 3
  have X0 := lw_m a 0; have X1 := lw_m a 1; have X2 := lw_m a 2; have X3 := lw_m a 3
  have hb2 : n % 64 < 64 := by omega
  have en : n.toNat = 192 + (n % 64).toNat := by omega
  rw [shr_lo _ _ x3]
  have Y0 : (lw a 0).toNat < 18446744073709551616 := by omega
  have Y1 : (lw a 1).toNat < 18446744073709551616 := by omega
  have Y2 : (lw a 2).toNat < 18446744073709551616 := by omega
  have Y3 : (lw a 3).toNat < 18446744073709551616 := by omega
  generalize (lw a 0).toNat = y0 at *; generalize (lw a 1).toNat = y1 at *; generalize (lw a 2).toNat = y2 at *; generalize (lw a 3).toNat = y3 at *
  rw [en]
  have hk : (n % 64).toNat < 64 := by omega
  generalize (n % 64).toNat = k at *
  have hpq := pow_split k (by omega)
  have hp : 0 < 2 ^ k := Nat.two_pow_pos _
  have hq : 0 < 2 ^ (64 - k) := Nat.two_pow_pos _
  rw [ea, Nat.pow_add]
  clear ea x0 x1 x2 x3 X0 X1 X2 X3 ha
  generalize 2 ^ k = p at *; generalize 2 ^ (64 - k) = q at *
  rw [Nat.mul_comm] at hpq
  have l0 := low_lt y0 q p hpq; have l1 := low_lt y1 q p hpq; have l2 := low_lt y2 q p hpq; have l3 := low_lt y3 q p hpq
  have g0 := high_lt y0 q p hpq Y0; have g1 := high_lt y1 q p hpq Y1; have g2 := high_lt y2 q p hpq Y2; have g3 := high_lt y3 q p hpq Y3
  rw [Nat.mul_comm] at hpq
  have E : nat4 y0 y1 y2 y3 / (2 ^ 192 * p) = nat4 (y3 / p) 0 0 0 := by
    rw [← Nat.div_div_eq_div_mul, show nat4 y0 y1 y2 y3 / 2 ^ 192 = nat4 y3 0 0 0 by unfold nat4; omega, shr4 _ _ _ _ p q hpq]
    simp
  rw [E]
  exact nv_nat4 (by omega) (by omega) (by omega) (by omega)
set_option maxRecDepth 100000 in
set_option maxHeartbeats 1000000 in
theorem shr_3b (a : Nat) (ha : a < 2 ^ 256) (n : Int) (w : World) (h0 : 0 ≤ n) (h1 : n ≤ 255) (e : n / 64 = 3) (hb : 0 < n % 64) :
    Calls Try.prog 82 #[nv a, .int .i64 n] w fun e w' => e = .returned (nv (a / 2 ^ n.toNat)) ∧ Below w.heap.size w w' := by
  have H := Lib.hid (shr_3b_words a ha n h0 e hb)
  clear ha
  have hb2 : n % 64 < 64 := by omega
  have x0 := lw_0
  have x1 := lw_m
  go_enter Try.func82, Try.ntmps82
  go_wp2
  refine wp_loop_rounds 5 ?_
  repeat any_goals (first | (rw [rounds_succ]; go_wp2) | (go_region; go_wp2))
  rw [H.out]
  exact bodyPost_ret (v := .agg #[.int .u64 (lw a 3 / 2 ^ (n % 64).toNat), .int .u64 0, .int .u64 0, .int .u64 0]) (by simp [results, Try.results82, go_sem]) rfl ⟨rfl, (by repeat' (first | (with_reducible exact Below.refl _ _) | (with_reducible assumption) | (with_reducible refine Below.alloc ?_ ?_ _) | (with_reducible refine Below.drew ?_) | (with_reducible refine below_drewN ?_ _) | (with_reducible refine Below.setCell ?_ ?_ _) | go_size))⟩

set_option maxRecDepth 100000 in
set_option maxHeartbeats 1000000 in
theorem shr_any (a : Nat) (ha : a < 2 ^ 256) (n : Int) (w : World) :
    Calls Try.prog 82 #[nv a, .int .i64 n] w fun e w' => e = .returned (nv (shrN a n)) ∧ Below w.heap.size w w' := by
  unfold shrN
  by_cases hn : n < 0
  · rw [if_pos (.inl hn)]
    clear ha
    go_enter Try.func82, Try.ntmps82
    go_wp2
    exact bodyPost_ret (v := .agg #[.int .u64 0, .int .u64 0, .int .u64 0, .int .u64 0]) (by simp [results, Try.results82, go_sem]) rfl ⟨rfl, (by repeat' (first | (with_reducible exact Below.refl _ _) | (with_reducible assumption) | (with_reducible refine Below.alloc ?_ ?_ _) | (with_reducible refine Below.drew ?_) | (with_reducible refine below_drewN ?_ _) | (with_reducible refine Below.setCell ?_ ?_ _) | go_size))⟩
  · by_cases hm : 255 < n
    · rw [if_pos (.inr hm)]
      clear ha
      go_enter Try.func82, Try.ntmps82
      go_wp2
      exact bodyPost_ret (v := .agg #[.int .u64 0, .int .u64 0, .int .u64 0, .int .u64 0]) (by simp [results, Try.results82, go_sem]) rfl ⟨rfl, (by repeat' (first | (with_reducible exact Below.refl _ _) | (with_reducible assumption) | (with_reducible refine Below.alloc ?_ ?_ _) | (with_reducible refine Below.drew ?_) | (with_reducible refine below_drewN ?_ _) | (with_reducible refine Below.setCell ?_ ?_ _) | go_size))⟩
    · rw [if_neg (by omega)]
      have h0 : 0 ≤ n := by omega
      have h1 : n ≤ 255 := by omega
      have hw : n / 64 = 0 ∨ n / 64 = 1 ∨ n / 64 = 2 ∨ n / 64 = 3 := by omega
      have hb : n % 64 = 0 ∨ 0 < n % 64 := by omega
      rcases hw with e | e | e | e <;> rcases hb with hb | hb
      · exact shr_00 a ha n w h0 h1 e hb
      · exact shr_0b a ha n w h0 h1 e hb
      · exact shr_10 a ha n w h0 h1 e hb
      · exact shr_1b a ha n w h0 h1 e hb
      · exact shr_20 a ha n w h0 h1 e hb
      · exact shr_2b a ha n w h0 h1 e hb
      · exact shr_30 a ha n w h0 h1 e hb
      · exact shr_3b a ha n w h0 h1 e hb

end Go.Proofs.Ytnbppbnjkmopeaa
