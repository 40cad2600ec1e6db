/- The law NumRules: what is added and taken off again is what was; quotient, divisor and rest belong together. No condition. -/
import Derived.Test.YtdffblfofdniaaaNumLawA
import Derived.Test.YtdffblfofdniaaaNumOpen
import Derived.Test.YtdffblfofdniaaaHead
namespace Go.Proofs.Ytdffblfofdniaaa
open Go.ChangeShapes Go.WideShapes Go.ChangeAt Go.RowKit

/-- the quotient's words, times the divisor, so far -/
def part4 (b q k : Nat) : Nat := b * (q % 2 ^ (64 * k))
theorem part4_step (b q k : Nat) (h : b * q < 2 ^ 256) (hk : k < 4) :
    b * (lw q k).toNat % 2 ^ 256 = b * (lw q k).toNat ∧ b * (lw q k).toNat < 2 ^ 256 ∧ shlN (b * (lw q k).toNat) (64 * (k : Int)) = b * (lw q k).toNat * 2 ^ (64 * k) ∧
    b * (lw q k).toNat * 2 ^ (64 * k) < 2 ^ 256 ∧ part4 b q k < 2 ^ 256 ∧ (part4 b q k + b * (lw q k).toNat * 2 ^ (64 * k)) % 2 ^ 256 = part4 b q (k + 1) := by
  have e : (lw q k).toNat = q / 2 ^ (64 * k) % 2 ^ 64 := by unfold lw; rw [Int.toNat_natCast]
  rw [e]
  have hm : q % 2 ^ (64 * (k + 1)) = q % 2 ^ (64 * k) + 2 ^ (64 * k) * (q / 2 ^ (64 * k) % 2 ^ 64) := by
    rw [show 64 * (k + 1) = 64 * k + 64 by omega, Nat.pow_add, Nat.mod_mul]
  generalize q / 2 ^ (64 * k) % 2 ^ 64 = x at *
  have hp : 0 < 2 ^ (64 * k) := Nat.two_pow_pos _
  have h1 : 2 ^ (64 * k) * x ≤ q := by
    have := Nat.mod_le q (2 ^ (64 * (k + 1)))
    omega
  have h2 : b * x * 2 ^ (64 * k) ≤ b * q := by rw [Nat.mul_assoc, Nat.mul_comm x]; exact Nat.mul_le_mul_left _ h1
  have h3 : b * x ≤ b * x * 2 ^ (64 * k) := Nat.le_mul_of_pos_right _ hp
  have h4 : part4 b q (k + 1) = part4 b q k + b * x * 2 ^ (64 * k) := by
    unfold part4; rw [hm, Nat.mul_add, Nat.mul_assoc, Nat.mul_comm x]
  have h5 : part4 b q (k + 1) ≤ b * q := Nat.mul_le_mul_left _ (Nat.mod_le _ _)
  refine ⟨Nat.mod_eq_of_lt (by omega), by omega, ?_, by omega, by omega, ?_⟩
  · unfold shlN
    rw [if_neg (by omega), show (64 * (k : Int)).toNat = 64 * k by omega, Nat.mod_eq_of_lt (by omega)]
  · rw [← h4, Nat.mod_eq_of_lt (by omega)]

theorem cell_at {w : World} {g n k : Nat} (h : w.heap[g]? = some (nblk n)) (hk : k < 4) : w.cell? ⟨g, k, none⟩ = some (.int .u64 (lw n k)) := by
  obtain ⟨c0, c1, c2, c3, -, -⟩ := cells4 h
  match k, hk with
  | 0, _ => exact c0
  | 1, _ => exact c1
  | 2, _ => exact c2
  | 3, _ => exact c3

attribute [local irreducible] part4
set_option maxRecDepth 100000 in
set_option maxHeartbeats 4000000 in
theorem NumRules_walk (a : Nat) (ha : a < 2 ^ 256) (b : Nat) (hb : b < 2 ^ 256) (w : World) :
    Calls Try.prog 10 #[nv a, nv b] w fun e w' => e = .returned (.bool true) ∧ Below w.heap.size w w' := by
  have HA := Lib.hid ha; have HB := Lib.hid hb
  have HS := Lib.hid (Nat.mod_lt (a + b) (show 0 < 2 ^ 256 by omega))
  have HR := Lib.hid (show ((a + b) % 2 ^ 256 + 2 ^ 256 - b) % 2 ^ 256 = a by omega)
  obtain ⟨N, hN⟩ : ∃ N, N = 2 ^ 256 - 1 - a := ⟨_, rfl⟩
  obtain ⟨M, hM⟩ : ∃ M, M = 2 ^ 256 - 1 := ⟨_, rfl⟩
  have HN := Lib.hid (show N < 2 ^ 256 by omega)
  have HM := Lib.hid (show M < 2 ^ 256 by omega)
  have cn : Hid (∀ w, Calls Try.prog 42 #[nv a] w fun e w' => e = .returned (nv N) ∧ Below w.heap.size w w') := Lib.hid fun w => by rw [hN]; exact not_any a ha w
  have cn2 : Hid (∀ w, Calls Try.prog 42 #[nv N] w fun e w' => e = .returned (nv a) ∧ Below w.heap.size w w') := Lib.hid fun w => by
    have := not_any N HN.out w
    rwa [show 2 ^ 256 - 1 - N = a by omega] at this
  have cn3 : Hid (∀ w, Calls Try.prog 42 #[.agg #[.int .u64 0, .int .u64 0, .int .u64 0, .int .u64 0]] w fun e w' => e = .returned (nv M) ∧ Below w.heap.size w w') := Lib.hid fun w => by rw [hM, ← nv_zero]; exact not_any 0 (by omega) w
  have ES1 := Lib.hid (show (a + N) % 2 ^ 256 = M by omega)
  have ES2 := Lib.hid (show decide (2 ^ 256 ≤ a + N) = false from decide_eq_false (by omega))
  clear hN hM
  have ca : ∀ g t w, w.heap[g]? = some (.cells #[.int .u64 (lw a 0), .int .u64 (lw a 1), .int .u64 (lw a 2), .int .u64 (lw a 3), .int .u64 (lw N 0), .int .u64 (lw N 1), .int .u64 (lw N 2), .int .u64 (lw N 3)] t (0, 0)) →
      Calls Try.prog 21 #[.slice (some ⟨g, 0, none⟩) 2 2] w fun e w' => e = .returned (.tuple #[nv M, .bool false]) ∧ Below w.heap.size w w' := fun g t w h => by
    have := add2_any a N ha HN.out g t w h
    rwa [ES1.out, ES2.out] at this
  have ca1 := Lib.hid fun W t => ca _ t _ (heap_new W _)
  have ca3 := Lib.hid fun W t o => ca _ t _ (alloc2 W o _).2
  have ca2 := Lib.hid fun W t o => ca _ t _ (keep_alloc o (heap_new W _))
  clear ca
  clear ES1 ES2
  clear ha hb
  have B : Below w.heap.size w w := Below.refl _ _
  have A := alloc2 w (nblk a) (nblk b)
  have K0 := Lib.hid A.1; have K1 := Lib.hid A.2
  clear A
  go_enter Try.func10, Try.ntmps10
  go_wp2_with fail
  refine (counts_any _).mono ?_
  rintro e w1 ⟨rfl, hbw1⟩
  have K0' := Lib.hid (below_keep hbw1 (by first | exact K0.out | exact keep_alloc _ (K0.out) | exact keep_alloc _ (keep_alloc _ (K0.out)) | exact keep_alloc _ (keep_alloc _ (keep_alloc _ (K0.out))) | exact keep_alloc _ (keep_alloc _ (keep_alloc _ (keep_alloc _ (K0.out)))) | exact keep_alloc _ (keep_alloc _ (keep_alloc _ (keep_alloc _ (keep_alloc _ (K0.out)))))))
  have K1' := Lib.hid (below_keep hbw1 (by first | exact K1.out | exact keep_alloc _ (K1.out) | exact keep_alloc _ (keep_alloc _ (K1.out)) | exact keep_alloc _ (keep_alloc _ (keep_alloc _ (K1.out))) | exact keep_alloc _ (keep_alloc _ (keep_alloc _ (keep_alloc _ (K1.out)))) | exact keep_alloc _ (keep_alloc _ (keep_alloc _ (keep_alloc _ (keep_alloc _ (K1.out)))))))
  have B' := below_next (w := w) (by repeat' (first | (with_reducible exact Below.refl _ _) | (with_reducible assumption) | (with_reducible refine below_alloc ?_ _) | (with_reducible refine Below.drew ?_) | (with_reducible refine below_drewN ?_ _) | (with_reducible refine Below.setCell ?_ ?_ _) | go_size)) hbw1
  clear hbw1 B K0 K1
  have B := B'; clear B'
  have K0 := K0'; clear K0'
  obtain ⟨K0_0, K0_1, K0_2, K0_3, K0_f, K0_z⟩ := cells4 K0.out
  have K1 := K1'; clear K1'
  obtain ⟨K1_0, K1_1, K1_2, K1_3, K1_f, K1_z⟩ := cells4 K1.out
  go_wp2_with fail
  refine (add2_any a b HA.out HB.out _ _ _ (heap_new _ _)).mono ?_
  rintro e w2 ⟨rfl, hbw2⟩
  have K0' := Lib.hid (below_keep hbw2 (by first | exact K0.out | exact keep_alloc _ (K0.out) | exact keep_alloc _ (keep_alloc _ (K0.out)) | exact keep_alloc _ (keep_alloc _ (keep_alloc _ (K0.out))) | exact keep_alloc _ (keep_alloc _ (keep_alloc _ (keep_alloc _ (K0.out)))) | exact keep_alloc _ (keep_alloc _ (keep_alloc _ (keep_alloc _ (keep_alloc _ (K0.out)))))))
  have K1' := Lib.hid (below_keep hbw2 (by first | exact K1.out | exact keep_alloc _ (K1.out) | exact keep_alloc _ (keep_alloc _ (K1.out)) | exact keep_alloc _ (keep_alloc _ (keep_alloc _ (K1.out))) | exact keep_alloc _ (keep_alloc _ (keep_alloc _ (keep_alloc _ (K1.out)))) | exact keep_alloc _ (keep_alloc _ (keep_alloc _ (keep_alloc _ (keep_alloc _ (K1.out)))))))
  have B' := below_next (w := w) (by repeat' (first | (with_reducible exact Below.refl _ _) | (with_reducible assumption) | (with_reducible refine below_alloc ?_ _) | (with_reducible refine Below.drew ?_) | (with_reducible refine below_drewN ?_ _) | (with_reducible refine Below.setCell ?_ ?_ _) | go_size)) hbw2
  clear hbw2 B K0 K1 K0_0 K0_1 K0_2 K0_3 K0_f K0_z K1_0 K1_1 K1_2 K1_3 K1_f K1_z
  have B := B'; clear B'
  have K0 := K0'; clear K0'
  obtain ⟨K0_0, K0_1, K0_2, K0_3, K0_f, K0_z⟩ := cells4 K0.out
  have K1 := K1'; clear K1'
  obtain ⟨K1_0, K1_1, K1_2, K1_3, K1_f, K1_z⟩ := cells4 K1.out
  generalize hS : (a + b) % 2 ^ 256 = S at *
  have ES := Lib.hid hS; clear hS
  generalize decide (2 ^ 256 ≤ a + b) = o1
  have K2 := Lib.hid (heap_new w2 (nblk S))
  go_wp2_with fail
  refine (sub_any S b HS.out HB.out _).mono ?_
  rintro e w3 ⟨rfl, hbw3⟩
  have K0' := Lib.hid (below_keep hbw3 (by first | exact K0.out | exact keep_alloc _ (K0.out) | exact keep_alloc _ (keep_alloc _ (K0.out)) | exact keep_alloc _ (keep_alloc _ (keep_alloc _ (K0.out))) | exact keep_alloc _ (keep_alloc _ (keep_alloc _ (keep_alloc _ (K0.out)))) | exact keep_alloc _ (keep_alloc _ (keep_alloc _ (keep_alloc _ (keep_alloc _ (K0.out)))))))
  have K1' := Lib.hid (below_keep hbw3 (by first | exact K1.out | exact keep_alloc _ (K1.out) | exact keep_alloc _ (keep_alloc _ (K1.out)) | exact keep_alloc _ (keep_alloc _ (keep_alloc _ (K1.out))) | exact keep_alloc _ (keep_alloc _ (keep_alloc _ (keep_alloc _ (K1.out)))) | exact keep_alloc _ (keep_alloc _ (keep_alloc _ (keep_alloc _ (keep_alloc _ (K1.out)))))))
  have K2' := Lib.hid (below_keep hbw3 (by first | exact K2.out | exact keep_alloc _ (K2.out) | exact keep_alloc _ (keep_alloc _ (K2.out)) | exact keep_alloc _ (keep_alloc _ (keep_alloc _ (K2.out))) | exact keep_alloc _ (keep_alloc _ (keep_alloc _ (keep_alloc _ (K2.out)))) | exact keep_alloc _ (keep_alloc _ (keep_alloc _ (keep_alloc _ (keep_alloc _ (K2.out)))))))
  have B' := below_next (w := w) (by repeat' (first | (with_reducible exact Below.refl _ _) | (with_reducible assumption) | (with_reducible refine below_alloc ?_ _) | (with_reducible refine Below.drew ?_) | (with_reducible refine below_drewN ?_ _) | (with_reducible refine Below.setCell ?_ ?_ _) | go_size)) hbw3
  clear hbw3 B K0 K1 K2 K0_0 K0_1 K0_2 K0_3 K0_f K0_z K1_0 K1_1 K1_2 K1_3 K1_f K1_z
  have B := B'; clear B'
  have K0 := K0'; clear K0'
  obtain ⟨K0_0, K0_1, K0_2, K0_3, K0_f, K0_z⟩ := cells4 K0.out
  have K1 := K1'; clear K1'
  obtain ⟨K1_0, K1_1, K1_2, K1_3, K1_f, K1_z⟩ := cells4 K1.out
  have K2 := K2'; clear K2'
  obtain ⟨K2_0, K2_1, K2_2, K2_3, K2_f, K2_z⟩ := cells4 K2.out
  rw [HR.out]
  generalize decide (S < b) = o2
  have K3 := Lib.hid (heap_new w3 (nblk a))
  go_wp2_with fail
  refine wp_abs (fun W => W.heap[w.heap.size]? = some (nblk a) ∧ W.heap[w.heap.size + 1]? = some (nblk b) ∧ W.heap[w2.heap.size]? = some (nblk S) ∧ W.heap[w3.heap.size]? = some (nblk a) ∧ Below w.heap.size w W)
    ⟨keep_alloc _ K0.out, keep_alloc _ K1.out, keep_alloc _ K2.out, K3.out, (by repeat' (first | (with_reducible exact Below.refl _ _) | (with_reducible assumption) | (with_reducible refine below_alloc ?_ _) | (with_reducible refine Below.drew ?_) | (with_reducible refine below_drewN ?_ _) | (with_reducible refine Below.setCell ?_ ?_ _) | go_size))⟩ ?_
  clear K0 K1 K2 K3 B K0_0 K0_1 K0_2 K0_3 K0_f K0_z K1_0 K1_1 K1_2 K1_3 K1_f K1_z K2_0 K2_1 K2_2 K2_3 K2_f K2_z
  rintro W ⟨k0, k1, k2, k3, B⟩
  have K0 := Lib.hid k0; have K1 := Lib.hid k1; have K2 := Lib.hid k2; have K3 := Lib.hid k3
  clear k0 k1 k2 k3
  obtain ⟨K0_0, K0_1, K0_2, K0_3, K0_f, K0_z⟩ := cells4 K0.out
  have L0 : ∀ w', Below W.heap.size W w' → w'.cell? ⟨w.heap.size, 0, none⟩ = some (.int .u64 (lw a 0)) := fun w' h => (h.cell (p := ⟨_, 0, none⟩) K0_z).trans K0_0
  have L1 : ∀ w', Below W.heap.size W w' → w'.cell? ⟨w.heap.size, 1, none⟩ = some (.int .u64 (lw a 1)) := fun w' h => (h.cell (p := ⟨_, 1, none⟩) K0_z).trans K0_1
  have L2 : ∀ w', Below W.heap.size W w' → w'.cell? ⟨w.heap.size, 2, none⟩ = some (.int .u64 (lw a 2)) := fun w' h => (h.cell (p := ⟨_, 2, none⟩) K0_z).trans K0_2
  have L3 : ∀ w', Below W.heap.size W w' → w'.cell? ⟨w.heap.size, 3, none⟩ = some (.int .u64 (lw a 3)) := fun w' h => (h.cell (p := ⟨_, 3, none⟩) K0_z).trans K0_3
  go_cut [9, 10] (fun s9 s10 wc => ∃ p, s9 = .pointer (some ⟨p, 0, none⟩) ∧ s10 = .bool false ∧ W.heap.size ≤ p ∧ wc.heap[p]? = some (nblk M) ∧ Below W.heap.size W wc)
  case first =>
    go_region_held3 (fun w' => Below W.heap.size W w') (first | (with_reducible assumption) | exact (by repeat' (first | (with_reducible exact Below.refl _ _) | (with_reducible assumption) | (with_reducible refine below_alloc ?_ _) | (with_reducible refine Below.drew ?_) | (with_reducible refine below_drewN ?_ _) | (with_reducible refine Below.setCell ?_ ?_ _) | go_size))) (first | (go_at_call 42; refine (cn.out _).mono ?_; rintro e wx ⟨rfl, hbx⟩; have hSx := below_next (w := W) (by repeat' (first | (with_reducible exact Below.refl _ _) | (with_reducible assumption) | (with_reducible refine below_alloc ?_ _) | (with_reducible refine Below.drew ?_) | (with_reducible refine below_drewN ?_ _) | (with_reducible refine Below.setCell ?_ ?_ _) | go_size)) hbx; have hzx := hSx.size; (try have hst : W.heap.size < wx.heap.size := by (have h0 := hbx.size; simp only [World.size_alloc, World.size_drew] at h0; omega)); (try have hZ1 : wx.heap[W.heap.size]? = some zblk := below_keep hbx (heap_new W.drew zblk)); obtain ⟨hcx, hfx⟩ := bcell hbx) | (go_at_call 21; (first | with_reducible refine (ca1.out _ _).mono ?_ | with_reducible refine (ca2.out _ _ _).mono ?_ | with_reducible refine (ca3.out _ _ _).mono ?_); rintro e wy ⟨rfl, hby⟩; have hSy := below_next (w := W) (by repeat' (first | (with_reducible exact Below.refl _ _) | (with_reducible assumption) | (with_reducible refine below_alloc ?_ _) | (with_reducible refine Below.drew ?_) | (with_reducible refine below_drewN ?_ _) | (with_reducible refine Below.setCell ?_ ?_ _) | go_size)) hby; have hzy := hSy.size; have hzq := hby.size; (try have hst : W.heap.size < wy.heap.size := by (simp only [World.size_alloc] at hzq; omega)); (try have hst : wx.heap.size < wy.heap.size := by (simp only [World.size_alloc] at hzq; omega)); clear hzq; (try have hZ2 : wy.heap[wx.heap.size]? = some zblk := below_keep hby (keep_alloc _ (heap_new wx zblk))); (try have hZ3 : wy.heap[wx.heap.size + 1]? = some zblk := below_keep hby (alloc2 wx _ zblk).2); (try have hZ4 : wy.heap[W.heap.size]? = some zblk := below_keep hby (keep_alloc _ hZ1)); obtain ⟨hcy, hfy⟩ := bcell hby))
    all_goals
      go_wp2_with fail
      go_meet
      case rel =>
        refine ⟨_, rfl, rfl, by omega, ?_, (by repeat' (first | (with_reducible exact Below.refl _ _) | (with_reducible assumption) | (with_reducible refine below_alloc ?_ _) | (with_reducible refine Below.drew ?_) | (with_reducible refine below_drewN ?_ _) | (with_reducible refine Below.setCell ?_ ?_ _) | go_size))⟩
        first
          | (with_reducible exact heap_new _ _)
          | (with_reducible exact set4 _ _ _ _ hZ2)
          | (with_reducible exact set4 _ _ _ _ hZ3)
          | (with_reducible exact set4 _ _ _ _ hZ4)
  case rest =>
    obtain ⟨p, rfl, rfl, hp, k4, hbc⟩ := hcut
    have Ka := Lib.hid (below_keep hbc K0.out); have Kb := Lib.hid (below_keep hbc K1.out); have Kc := Lib.hid (below_keep hbc K3.out); have Kd := Lib.hid k4
    have B2 := below_next (w := w) B hbc
    clear hbc k4 B K0 K1 K2 K3 K0_0 K0_1 K0_2 K0_3 K0_f K0_z L0 L1 L2 L3 ca1 ca2 ca3 hp
    have B := B2; have K0 := Ka; have K1 := Kb; have K3 := Kc; have K4 := Kd
    clear B2 Ka Kb Kc Kd
    obtain ⟨K0_0, K0_1, K0_2, K0_3, K0_f, K0_z⟩ := cells4 K0.out
    obtain ⟨K1_0, K1_1, K1_2, K1_3, K1_f, K1_z⟩ := cells4 K1.out
    obtain ⟨K3_0, K3_1, K3_2, K3_3, K3_f, K3_z⟩ := cells4 K3.out
    obtain ⟨K4_0, K4_1, K4_2, K4_3, K4_f, K4_z⟩ := cells4 K4.out
    have qa : ∀ w : World, (Op.equalIn 10000 24 (nv a) (nv a)).run Try.prog w = .ok true w := fun w => by rw [eq_num a a HA.out HA.out w, decide_eq_true rfl]
    have qM : ∀ w : World, (Op.equalIn 10000 24 (nv M) (nv M)).run Try.prog w = .ok true w := fun w => by rw [eq_num M M HM.out HM.out w, decide_eq_true rfl]
    have R0 := cell_regrown K0_0; have R1 := cell_regrown K0_1; have R2 := cell_regrown K0_2; have R3 := cell_regrown K0_3
    have D0 := cell_regrown K3_0; have D1 := cell_regrown K3_1; have D2 := cell_regrown K3_2; have D3 := cell_regrown K3_3
    have E0 := cell_regrown K4_0; have E1 := cell_regrown K4_1; have E2 := cell_regrown K4_2; have E3 := cell_regrown K4_3
    go_wp2_with fail
    refine wp_region_quiet_below (by kernel_rfl) (by kernel_rfl) ?_
    repeat (go_big_quiet_step ((go_at_call 42; first | with_reducible exact Calls.regrown_of (cn.out _) | with_reducible exact Calls.regrown_of (cn2.out _) | with_reducible exact Calls.regrown_of (cn3.out _))))
    refine wpQuiet_nil ?_
    intro w6 hw6
    have hb6 := below_of_regrown hw6
    clear hw6
    have Ka := Lib.hid (below_keep hb6 K0.out); have Kb := Lib.hid (below_keep hb6 K1.out)
    have B2 := below_next (w := w) B hb6
    clear hb6 B K0 K1 K3 K4 K0_0 K0_1 K0_2 K0_3 K0_f K0_z K1_0 K1_1 K1_2 K1_3 K1_f K1_z K3_0 K3_1 K3_2 K3_3 K3_f K3_z K4_0 K4_1 K4_2 K4_3 K4_f K4_z R0 R1 R2 R3 D0 D1 D2 D3 E0 E1 E2 E3 qM cn cn2 cn3
    have B := B2; have K0 := Ka; have K1 := Kb
    clear B2 Ka Kb
    obtain ⟨K0_0, K0_1, K0_2, K0_3, K0_f, K0_z⟩ := cells4 K0.out
    obtain ⟨K1_0, K1_1, K1_2, K1_3, K1_f, K1_z⟩ := cells4 K1.out
    go_wp2_with fail
    refine (zero_any b HB.out _).mono ?_
    rintro e w7 ⟨rfl, hbw7⟩
    have K0' := Lib.hid (below_keep hbw7 (by first | exact K0.out | exact keep_alloc _ (K0.out) | exact keep_alloc _ (keep_alloc _ (K0.out)) | exact keep_alloc _ (keep_alloc _ (keep_alloc _ (K0.out))) | exact keep_alloc _ (keep_alloc _ (keep_alloc _ (keep_alloc _ (K0.out)))) | exact keep_alloc _ (keep_alloc _ (keep_alloc _ (keep_alloc _ (keep_alloc _ (K0.out)))))))
    have K1' := Lib.hid (below_keep hbw7 (by first | exact K1.out | exact keep_alloc _ (K1.out) | exact keep_alloc _ (keep_alloc _ (K1.out)) | exact keep_alloc _ (keep_alloc _ (keep_alloc _ (K1.out))) | exact keep_alloc _ (keep_alloc _ (keep_alloc _ (keep_alloc _ (K1.out)))) | exact keep_alloc _ (keep_alloc _ (keep_alloc _ (keep_alloc _ (keep_alloc _ (K1.out)))))))
    have B' := below_next (w := w) (by repeat' (first | (with_reducible exact Below.refl _ _) | (with_reducible assumption) | (with_reducible refine below_alloc ?_ _) | (with_reducible refine Below.drew ?_) | (with_reducible refine below_drewN ?_ _) | (with_reducible refine Below.setCell ?_ ?_ _) | go_size)) hbw7
    clear hbw7 B K0 K1 K0_0 K0_1 K0_2 K0_3 K0_f K0_z K1_0 K1_1 K1_2 K1_3 K1_f K1_z
    have B := B'; clear B'
    have K0 := K0'; clear K0'
    obtain ⟨K0_0, K0_1, K0_2, K0_3, K0_f, K0_z⟩ := cells4 K0.out
    have K1 := K1'; clear K1'
    obtain ⟨K1_0, K1_1, K1_2, K1_3, K1_f, K1_z⟩ := cells4 K1.out
    by_cases hb0 : b = 0
    · rw [decide_eq_true hb0]
      clear hb0
      go_wp2_with fail
      go_ret
      exact ⟨rfl, (by repeat' (first | (with_reducible exact Below.refl _ _) | (with_reducible assumption) | (with_reducible refine below_alloc ?_ _) | (with_reducible refine Below.drew ?_) | (with_reducible refine below_drewN ?_ _) | (with_reducible refine Below.setCell ?_ ?_ _) | go_size))⟩
    · have hbq : b * (a / b) + a % b = a := Nat.div_add_mod a b
      have hrb : a % b < b := Nat.mod_lt _ (by omega)
      have hqa : a / b ≤ a := Nat.div_le_self _ _
      rw [decide_eq_false hb0]
      have cd : Hid (∀ w, Calls Try.prog 40 #[nv a, nv b] w fun e w' => e = .returned (.tuple #[nv (a / b), nv (a % b), .int .i64 0]) ∧ Below w.heap.size w w') := Lib.hid fun w => div_walk a b HA.out HB.out hb0 w
      generalize a / b = q at *
      generalize a % b = r at *
      have HQ := Lib.hid (show q < 2 ^ 256 by have := HA.out; omega)
      have HRr := Lib.hid (show r < 2 ^ 256 by have := HB.out; omega)
      have HBQ := Lib.hid hbq; have HRB := Lib.hid hrb; have HQA := Lib.hid hqa
      clear hbq hrb hqa hb0
      go_wp2_with fail
      refine (cd.out _).mono ?_
      rintro e w8 ⟨rfl, hbw8⟩
      have K0' := Lib.hid (below_keep hbw8 (by first | exact K0.out | exact keep_alloc _ (K0.out) | exact keep_alloc _ (keep_alloc _ (K0.out)) | exact keep_alloc _ (keep_alloc _ (keep_alloc _ (K0.out))) | exact keep_alloc _ (keep_alloc _ (keep_alloc _ (keep_alloc _ (K0.out)))) | exact keep_alloc _ (keep_alloc _ (keep_alloc _ (keep_alloc _ (keep_alloc _ (K0.out)))))))
      have K1' := Lib.hid (below_keep hbw8 (by first | exact K1.out | exact keep_alloc _ (K1.out) | exact keep_alloc _ (keep_alloc _ (K1.out)) | exact keep_alloc _ (keep_alloc _ (keep_alloc _ (K1.out))) | exact keep_alloc _ (keep_alloc _ (keep_alloc _ (keep_alloc _ (K1.out)))) | exact keep_alloc _ (keep_alloc _ (keep_alloc _ (keep_alloc _ (keep_alloc _ (K1.out)))))))
      have B' := below_next (w := w) (by repeat' (first | (with_reducible exact Below.refl _ _) | (with_reducible assumption) | (with_reducible refine below_alloc ?_ _) | (with_reducible refine Below.drew ?_) | (with_reducible refine below_drewN ?_ _) | (with_reducible refine Below.setCell ?_ ?_ _) | go_size)) hbw8
      clear hbw8 B K0 K1 K0_0 K0_1 K0_2 K0_3 K0_f K0_z K1_0 K1_1 K1_2 K1_3 K1_f K1_z
      have B := B'; clear B'
      have K0 := K0'; clear K0'
      obtain ⟨K0_0, K0_1, K0_2, K0_3, K0_f, K0_z⟩ := cells4 K0.out
      have K1 := K1'; clear K1'
      obtain ⟨K1_0, K1_1, K1_2, K1_3, K1_f, K1_z⟩ := cells4 K1.out
      have A := alloc2 w8 (nblk q) (nblk r)
      have K5 := Lib.hid A.1; have K6 := Lib.hid A.2
      clear A
      have c1 : cmpn r b < 0 := by have := HRB.out; unfold cmpn; rw [if_pos (by omega)]; omega
      have c2 : cmpn q a ≤ 0 := by have := HQA.out; unfold cmpn; split <;> (try split) <;> omega
      go_wp2_with fail
      refine (cmp_any r b HRr.out HB.out _).mono ?_
      rintro e w9 ⟨rfl, hbw9⟩
      have K0' := Lib.hid (below_keep hbw9 (by first | exact K0.out | exact keep_alloc _ (K0.out) | exact keep_alloc _ (keep_alloc _ (K0.out)) | exact keep_alloc _ (keep_alloc _ (keep_alloc _ (K0.out))) | exact keep_alloc _ (keep_alloc _ (keep_alloc _ (keep_alloc _ (K0.out)))) | exact keep_alloc _ (keep_alloc _ (keep_alloc _ (keep_alloc _ (keep_alloc _ (K0.out)))))))
      have K1' := Lib.hid (below_keep hbw9 (by first | exact K1.out | exact keep_alloc _ (K1.out) | exact keep_alloc _ (keep_alloc _ (K1.out)) | exact keep_alloc _ (keep_alloc _ (keep_alloc _ (K1.out))) | exact keep_alloc _ (keep_alloc _ (keep_alloc _ (keep_alloc _ (K1.out)))) | exact keep_alloc _ (keep_alloc _ (keep_alloc _ (keep_alloc _ (keep_alloc _ (K1.out)))))))
      have K5' := Lib.hid (below_keep hbw9 (by first | exact K5.out | exact keep_alloc _ (K5.out) | exact keep_alloc _ (keep_alloc _ (K5.out)) | exact keep_alloc _ (keep_alloc _ (keep_alloc _ (K5.out))) | exact keep_alloc _ (keep_alloc _ (keep_alloc _ (keep_alloc _ (K5.out)))) | exact keep_alloc _ (keep_alloc _ (keep_alloc _ (keep_alloc _ (keep_alloc _ (K5.out)))))))
      have K6' := Lib.hid (below_keep hbw9 (by first | exact K6.out | exact keep_alloc _ (K6.out) | exact keep_alloc _ (keep_alloc _ (K6.out)) | exact keep_alloc _ (keep_alloc _ (keep_alloc _ (K6.out))) | exact keep_alloc _ (keep_alloc _ (keep_alloc _ (keep_alloc _ (K6.out)))) | exact keep_alloc _ (keep_alloc _ (keep_alloc _ (keep_alloc _ (keep_alloc _ (K6.out)))))))
      have B' := below_next (w := w) (by repeat' (first | (with_reducible exact Below.refl _ _) | (with_reducible assumption) | (with_reducible refine below_alloc ?_ _) | (with_reducible refine Below.drew ?_) | (with_reducible refine below_drewN ?_ _) | (with_reducible refine Below.setCell ?_ ?_ _) | go_size)) hbw9
      clear hbw9 B K0 K1 K5 K6 K0_0 K0_1 K0_2 K0_3 K0_f K0_z K1_0 K1_1 K1_2 K1_3 K1_f K1_z
      have B := B'; clear B'
      have K0 := K0'; clear K0'
      obtain ⟨K0_0, K0_1, K0_2, K0_3, K0_f, K0_z⟩ := cells4 K0.out
      have K1 := K1'; clear K1'
      obtain ⟨K1_0, K1_1, K1_2, K1_3, K1_f, K1_z⟩ := cells4 K1.out
      have K5 := K5'; clear K5'
      obtain ⟨K5_0, K5_1, K5_2, K5_3, K5_f, K5_z⟩ := cells4 K5.out
      have K6 := K6'; clear K6'
      obtain ⟨K6_0, K6_1, K6_2, K6_3, K6_f, K6_z⟩ := cells4 K6.out
      go_wp2_with fail
      refine (cmp_any q a HQ.out HA.out _).mono ?_
      rintro e w10 ⟨rfl, hbw10⟩
      have K0' := Lib.hid (below_keep hbw10 (by first | exact K0.out | exact keep_alloc _ (K0.out) | exact keep_alloc _ (keep_alloc _ (K0.out)) | exact keep_alloc _ (keep_alloc _ (keep_alloc _ (K0.out))) | exact keep_alloc _ (keep_alloc _ (keep_alloc _ (keep_alloc _ (K0.out)))) | exact keep_alloc _ (keep_alloc _ (keep_alloc _ (keep_alloc _ (keep_alloc _ (K0.out)))))))
      have K1' := Lib.hid (below_keep hbw10 (by first | exact K1.out | exact keep_alloc _ (K1.out) | exact keep_alloc _ (keep_alloc _ (K1.out)) | exact keep_alloc _ (keep_alloc _ (keep_alloc _ (K1.out))) | exact keep_alloc _ (keep_alloc _ (keep_alloc _ (keep_alloc _ (K1.out)))) | exact keep_alloc _ (keep_alloc _ (keep_alloc _ (keep_alloc _ (keep_alloc _ (K1.out)))))))
      have K5' := Lib.hid (below_keep hbw10 (by first | exact K5.out | exact keep_alloc _ (K5.out) | exact keep_alloc _ (keep_alloc _ (K5.out)) | exact keep_alloc _ (keep_alloc _ (keep_alloc _ (K5.out))) | exact keep_alloc _ (keep_alloc _ (keep_alloc _ (keep_alloc _ (K5.out)))) | exact keep_alloc _ (keep_alloc _ (keep_alloc _ (keep_alloc _ (keep_alloc _ (K5.out)))))))
      have K6' := Lib.hid (below_keep hbw10 (by first | exact K6.out | exact keep_alloc _ (K6.out) | exact keep_alloc _ (keep_alloc _ (K6.out)) | exact keep_alloc _ (keep_alloc _ (keep_alloc _ (K6.out))) | exact keep_alloc _ (keep_alloc _ (keep_alloc _ (keep_alloc _ (K6.out)))) | exact keep_alloc _ (keep_alloc _ (keep_alloc _ (keep_alloc _ (keep_alloc _ (K6.out)))))))
      have B' := below_next (w := w) (by repeat' (first | (with_reducible exact Below.refl _ _) | (with_reducible assumption) | (with_reducible refine below_alloc ?_ _) | (with_reducible refine Below.drew ?_) | (with_reducible refine below_drewN ?_ _) | (with_reducible refine Below.setCell ?_ ?_ _) | go_size)) hbw10
      clear hbw10 B K0 K1 K5 K6 K0_0 K0_1 K0_2 K0_3 K0_f K0_z K1_0 K1_1 K1_2 K1_3 K1_f K1_z K5_0 K5_1 K5_2 K5_3 K5_f K5_z K6_0 K6_1 K6_2 K6_3 K6_f K6_z
      have B := B'; clear B'
      have K0 := K0'; clear K0'
      obtain ⟨K0_0, K0_1, K0_2, K0_3, K0_f, K0_z⟩ := cells4 K0.out
      have K1 := K1'; clear K1'
      obtain ⟨K1_0, K1_1, K1_2, K1_3, K1_f, K1_z⟩ := cells4 K1.out
      have K5 := K5'; clear K5'
      obtain ⟨K5_0, K5_1, K5_2, K5_3, K5_f, K5_z⟩ := cells4 K5.out
      have K6 := K6'; clear K6'
      obtain ⟨K6_0, K6_1, K6_2, K6_3, K6_f, K6_z⟩ := cells4 K6.out
      have K7 := Lib.hid (heap_new w10 zblk)
      have K0' := Lib.hid (keep_alloc zblk K0.out); have K1' := Lib.hid (keep_alloc zblk K1.out); have K5' := Lib.hid (keep_alloc zblk K5.out); have K6' := Lib.hid (keep_alloc zblk K6.out)
      have cs : Hid (∀ x (n : Int), x < 2 ^ 256 → ∀ w, Calls Try.prog 31 #[nv x, .int .i64 n] w fun e w' => e = .returned (nv (shlN x n)) ∧ Below w.heap.size w w') := Lib.hid fun x n hx w => shl_any x hx n w
      have EZ := Lib.hid (show nblk (part4 b q 0) = zblk by unfold part4; rw [Nat.mul_zero, Nat.pow_zero, Nat.mod_one, Nat.mul_zero]; rfl)
      go_wp2_with fail
      have HZ := Lib.hid (show w.heap.size + 1 < w10.heap.size ∧ w8.heap.size + 1 < w10.heap.size from ⟨K1_z, K6_z⟩)
      go_loopg [80] 4 (fun g ix wr => ∃ k : Nat, g = 4 - k ∧ k ≤ 4 ∧ ix = .int .i64 k ∧ wr.heap[w.heap.size]? = some (nblk a) ∧ wr.heap[w.heap.size + 1]? = some (nblk b) ∧ wr.heap[w8.heap.size]? = some (nblk q) ∧ wr.heap[w8.heap.size + 1]? = some (nblk r) ∧ wr.heap[w10.heap.size]? = some (nblk (part4 b q k)) ∧ Below w.heap.size w wr)
      case atStart =>
        exact ⟨0, rfl, by omega, rfl, K0'.out, K1'.out, K5'.out, K6'.out, by rw [EZ.out]; exact K7.out, (by repeat' (first | (with_reducible exact Below.refl _ _) | (with_reducible assumption) | (with_reducible refine below_alloc ?_ _) | (with_reducible refine Below.drew ?_) | (with_reducible refine below_drewN ?_ _) | (with_reducible refine Below.setCell ?_ ?_ _) | go_size))⟩
      case round =>
        obtain ⟨k, hg, hk, rfl, hr0, hr1, hr5, hr6, hr7, B⟩ := hrel
        have HG := Lib.hid hg; clear hg
        have K0 := Lib.hid hr0; have K1 := Lib.hid hr1; have K5 := Lib.hid hr5; have K6 := Lib.hid hr6; have K7 := Lib.hid hr7
        clear hr0 hr1 hr5 hr6 hr7 K0' K1' K5' K6' EZ
        obtain ⟨K0_0, K0_1, K0_2, K0_3, K0_f, K0_z⟩ := cells4 K0.out
        obtain ⟨K1_0, K1_1, K1_2, K1_3, K1_f, K1_z⟩ := cells4 K1.out
        obtain ⟨K5_0, K5_1, K5_2, K5_3, K5_f, K5_z⟩ := cells4 K5.out
        obtain ⟨K6_0, K6_1, K6_2, K6_3, K6_f, K6_z⟩ := cells4 K6.out
        obtain ⟨K7_0, K7_1, K7_2, K7_3, K7_f, K7_z⟩ := cells4 K7.out
        by_cases hlt : k < 4
        · have st := part4_step b q k (by have := HBQ.out; have := HA.out; omega) hlt
          obtain ⟨s1, s2, s3, s4, s5, s6⟩ := st
          have cm : Hid (∀ w, Calls Try.prog 38 #[nv b, .int .u64 (lw q k)] w fun e w' => e = .returned (.tuple #[nv (b * (lw q k).toNat), .bool false]) ∧ Below w.heap.size w w') := Lib.hid fun w => by
            have := mul_any b HB.out (lw q k) (lw_0 q k) (lw_m q k) w
            rwa [s1, decide_eq_false (by omega)] at this
          generalize b * (lw q k).toNat = m at *
          have csm : Hid (∀ w, Calls Try.prog 31 #[nv m, .int .i64 (64 * (k : Int))] w fun e w' => e = .returned (nv (m * 2 ^ (64 * k))) ∧ Below w.heap.size w w') := Lib.hid fun w => by
            have := cs.out m (64 * (k : Int)) s2 w
            rwa [s3] at this
          have hPk : part4 b q k < 2 ^ 256 := s5
          obtain ⟨m2, hm2⟩ : ∃ m2, m2 = m * 2 ^ (64 * k) := ⟨_, rfl⟩
          rw [← hm2] at csm s4 s6
          clear hm2 s3
          obtain ⟨o3, ho3⟩ : ∃ o3, o3 = decide (2 ^ 256 ≤ part4 b q k + m2) := ⟨_, rfl⟩
          have cadd : ∀ g t w, w.heap[g]? = some (.cells #[.int .u64 (lw (part4 b q k) 0), .int .u64 (lw (part4 b q k) 1), .int .u64 (lw (part4 b q k) 2), .int .u64 (lw (part4 b q k) 3), .int .u64 (lw m2 0), .int .u64 (lw m2 1), .int .u64 (lw m2 2), .int .u64 (lw m2 3)] t (0, 0)) →
              Calls Try.prog 21 #[.slice (some ⟨g, 0, none⟩) 2 2] w fun e w' => e = .returned (.tuple #[nv (part4 b q (k + 1)), .bool o3]) ∧ Below w.heap.size w w' := fun g t w h => by
            have := add2_any (part4 b q k) m2 s5 s4 g t w h
            rwa [s6, ← ho3] at this
          have ca1 := Lib.hid fun W t => cadd _ t _ (heap_new W _)
          clear cadd ho3 hPk
          have S2 := Lib.hid s2; have S4 := Lib.hid s4; have S5 := Lib.hid s5; have S6 := Lib.hid s6
          clear s1 s2 s4 s5 s6
          have Lq : ∀ w', Below wr.heap.size wr w' → w'.cell? ⟨w8.heap.size, k, none⟩ = some (.int .u64 (lw q k)) := fun w' h => (h.cell (p := ⟨_, k, none⟩) K5_z).trans (cell_at K5.out hlt)
          have L0 : ∀ w', Below wr.heap.size wr w' → w'.cell? ⟨w.heap.size + 1, 0, none⟩ = some (.int .u64 (lw b 0)) := fun w' h => (h.cell (p := ⟨_, 0, none⟩) K1_z).trans K1_0
          have L1 : ∀ w', Below wr.heap.size wr w' → w'.cell? ⟨w.heap.size + 1, 1, none⟩ = some (.int .u64 (lw b 1)) := fun w' h => (h.cell (p := ⟨_, 1, none⟩) K1_z).trans K1_1
          have L2 : ∀ w', Below wr.heap.size wr w' → w'.cell? ⟨w.heap.size + 1, 2, none⟩ = some (.int .u64 (lw b 2)) := fun w' h => (h.cell (p := ⟨_, 2, none⟩) K1_z).trans K1_2
          have L3 : ∀ w', Below wr.heap.size wr w' → w'.cell? ⟨w.heap.size + 1, 3, none⟩ = some (.int .u64 (lw b 3)) := fun w' h => (h.cell (p := ⟨_, 3, none⟩) K1_z).trans K1_3
          have hk0 : (0 : Int) ≤ (k : Int) := by omega
          have hk4 : (k : Int) < 4 := by omega
          go_upto_region 17 with fail
          go_cut [16, 17] (fun s16 s17 wc => ∃ p, s16 = .pointer (some ⟨p, 0, none⟩) ∧ s17 = .bool false ∧ wr.heap.size ≤ p ∧ wc.heap[p]? = some (nblk m) ∧ Below wr.heap.size wr wc)
          case first =>
            go_region_held3 (fun w' => Below wr.heap.size wr w') (first | (with_reducible assumption) | exact (by repeat' (first | (with_reducible exact Below.refl _ _) | (with_reducible assumption) | (with_reducible refine below_alloc ?_ _) | (with_reducible refine Below.drew ?_) | (with_reducible refine below_drewN ?_ _) | (with_reducible refine Below.setCell ?_ ?_ _) | go_size))) ((go_at_call 38; refine (cm.out _).mono ?_; rintro e wx ⟨rfl, hbx⟩; have hSx := below_next (w := wr) (by repeat' (first | (with_reducible exact Below.refl _ _) | (with_reducible assumption) | (with_reducible refine below_alloc ?_ _) | (with_reducible refine Below.drew ?_) | (with_reducible refine below_drewN ?_ _) | (with_reducible refine Below.setCell ?_ ?_ _) | go_size)) hbx; have hzx := hSx.size; (try have hst : wr.heap.size < wx.heap.size := by (have h0 := hbx.size; simp only [World.size_alloc, World.size_drew] at h0; omega)); (try have hZ1 : wx.heap[wr.heap.size]? = some zblk := below_keep hbx (heap_new wr.drew zblk)); obtain ⟨hcx, hfx⟩ := bcell hbx))
            all_goals
              go_wp2_with fail
              go_meet
              case rel =>
                refine ⟨_, rfl, rfl, by omega, ?_, (by repeat' (first | (with_reducible exact Below.refl _ _) | (with_reducible assumption) | (with_reducible refine below_alloc ?_ _) | (with_reducible refine Below.drew ?_) | (with_reducible refine below_drewN ?_ _) | (with_reducible refine Below.setCell ?_ ?_ _) | go_size))⟩
                first
                  | (with_reducible exact heap_new _ _)
                  | (with_reducible exact set4 _ _ _ _ hZ1)
          case rest =>
            obtain ⟨p, rfl, rfl, hp, k8, hbc⟩ := hcut
            have Ka := Lib.hid (below_keep hbc K0.out); have Kb := Lib.hid (below_keep hbc K1.out); have Kc := Lib.hid (below_keep hbc K5.out); have Kd := Lib.hid (below_keep hbc K6.out); have Ke := Lib.hid (below_keep hbc K7.out); have K8 := Lib.hid k8
            have B2 := below_next (w := w) B hbc
            clear hbc k8 B K0 K1 K5 K6 K7 K0_0 K0_1 K0_2 K0_3 K0_f K0_z K1_0 K1_1 K1_2 K1_3 K1_f K1_z K5_0 K5_1 K5_2 K5_3 K5_f K5_z K6_0 K6_1 K6_2 K6_3 K6_f K6_z K7_0 K7_1 K7_2 K7_3 K7_f K7_z L0 L1 L2 L3 Lq cm hp
            have B := B2; have K0 := Ka; have K1 := Kb; have K5 := Kc; have K6 := Kd; have K7 := Ke
            clear B2 Ka Kb Kc Kd Ke
            obtain ⟨K7_0, K7_1, K7_2, K7_3, K7_f, K7_z⟩ := cells4 K7.out
            obtain ⟨K8_0, K8_1, K8_2, K8_3, K8_f, K8_z⟩ := cells4 K8.out
            have ew : IntKind.i64.wrap (64 * (k : Int)) = 64 * (k : Int) := IntWalk.i64_in _ (by omega)
            go_wp2_with fail
            go_region_with (first | (go_at_call 31; refine (csm.out _).mono ?_; rintro e wx ⟨rfl, hbx⟩; have hSx := below_next (w := w) (by repeat' (first | (with_reducible exact Below.refl _ _) | (with_reducible assumption) | (with_reducible refine below_alloc ?_ _) | (with_reducible refine Below.drew ?_) | (with_reducible refine below_drewN ?_ _) | (with_reducible refine Below.setCell ?_ ?_ _) | go_size)) hbx; have hzx := hSx.size; have X0 := Lib.hid (below_keep hbx K0.out); have X1 := Lib.hid (below_keep hbx K1.out); have X5 := Lib.hid (below_keep hbx K5.out); have X6 := Lib.hid (below_keep hbx K6.out); have X7 := Lib.hid (below_keep hbx K7.out); have X8 := Lib.hid (below_keep hbx K8.out); obtain ⟨X7_0, X7_1, X7_2, X7_3, X7_f, X7_z⟩ := cells4 X7.out; obtain ⟨X8_0, X8_1, X8_2, X8_3, X8_f, X8_z⟩ := cells4 X8.out) | (go_at_call 21; refine (ca1.out _ _).mono ?_; rintro e wy ⟨rfl, hby⟩; have hSy := below_next (w := w) (by repeat' (first | (with_reducible exact Below.refl _ _) | (with_reducible assumption) | (with_reducible refine below_alloc ?_ _) | (with_reducible refine Below.drew ?_) | (with_reducible refine below_drewN ?_ _) | (with_reducible refine Below.setCell ?_ ?_ _) | go_size)) hby; have hzy := hSy.size; have Y0 := Lib.hid (below_keep hby (keep_alloc _ X0.out)); have Y1 := Lib.hid (below_keep hby (keep_alloc _ X1.out)); have Y5 := Lib.hid (below_keep hby (keep_alloc _ X5.out)); have Y6 := Lib.hid (below_keep hby (keep_alloc _ X6.out)); have Y7 := Lib.hid (below_keep hby (keep_alloc _ X7.out)); obtain ⟨Y7_0, Y7_1, Y7_2, Y7_3, Y7_f, Y7_z⟩ := cells4 Y7.out))
            all_goals
              clear ew
              go_wp2_with fail
              go_roundg (4 - (k + 1))
              case measure => have := HG.out; omega
              case rel =>
                have hz := HZ.out
                refine ⟨k + 1, rfl, by omega, by go_num, (set4_other _ _ _ _ (by omega)).trans Y0.out, (set4_other _ _ _ _ (by omega)).trans Y1.out, (set4_other _ _ _ _ (by omega)).trans Y5.out, (set4_other _ _ _ _ (by omega)).trans Y6.out, set4 _ _ _ _ Y7.out, (by repeat' (first | (with_reducible exact Below.refl _ _) | (with_reducible assumption) | (with_reducible refine below_alloc ?_ _) | (with_reducible refine Below.drew ?_) | (with_reducible refine below_drewN ?_ _) | (with_reducible refine Below.setCell ?_ ?_ _) | go_size))⟩
        · have hk4 : k = 4 := by omega
          subst hk4
          have e4 : part4 b q 4 = b * q := by
            have := HQ.out
            unfold part4
            rw [Nat.mod_eq_of_lt (by omega)]
          obtain ⟨P, hP⟩ : ∃ P, P = part4 b q 4 := ⟨_, rfl⟩
          rw [← hP] at K7 K7_0 K7_1 K7_2 K7_3
          have hPr : P + r = a := by rw [hP, e4]; exact HBQ.out
          clear hP e4
          have ca9 : ∀ g t w, w.heap[g]? = some (.cells #[.int .u64 (lw P 0), .int .u64 (lw P 1), .int .u64 (lw P 2), .int .u64 (lw P 3), .int .u64 (lw r 0), .int .u64 (lw r 1), .int .u64 (lw r 2), .int .u64 (lw r 3)] t (0, 0)) →
              Calls Try.prog 21 #[.slice (some ⟨g, 0, none⟩) 2 2] w fun e w' => e = .returned (.tuple #[nv a, .bool false]) ∧ Below w.heap.size w w' := fun g t w h => by
            have := add2_any P r (by have := HA.out; omega) HRr.out g t w h
            have hA := HA.out
            rwa [hPr, Nat.mod_eq_of_lt hA, decide_eq_false (by omega)] at this
          have ca9 := Lib.hid ca9
          clear hPr
          go_wp2_with fail
          refine (ca9.out _ _ _ (heap_new _ _)).mono ?_
          rintro e w11 ⟨rfl, hbw11⟩
          have K0' := Lib.hid (below_keep hbw11 (by first | exact K0.out | exact keep_alloc _ (K0.out) | exact keep_alloc _ (keep_alloc _ (K0.out)) | exact keep_alloc _ (keep_alloc _ (keep_alloc _ (K0.out))) | exact keep_alloc _ (keep_alloc _ (keep_alloc _ (keep_alloc _ (K0.out)))) | exact keep_alloc _ (keep_alloc _ (keep_alloc _ (keep_alloc _ (keep_alloc _ (K0.out)))))))
          have K1' := Lib.hid (below_keep hbw11 (by first | exact K1.out | exact keep_alloc _ (K1.out) | exact keep_alloc _ (keep_alloc _ (K1.out)) | exact keep_alloc _ (keep_alloc _ (keep_alloc _ (K1.out))) | exact keep_alloc _ (keep_alloc _ (keep_alloc _ (keep_alloc _ (K1.out)))) | exact keep_alloc _ (keep_alloc _ (keep_alloc _ (keep_alloc _ (keep_alloc _ (K1.out)))))))
          have K7' := Lib.hid (below_keep hbw11 (by first | exact K7.out | exact keep_alloc _ (K7.out) | exact keep_alloc _ (keep_alloc _ (K7.out)) | exact keep_alloc _ (keep_alloc _ (keep_alloc _ (K7.out))) | exact keep_alloc _ (keep_alloc _ (keep_alloc _ (keep_alloc _ (K7.out)))) | exact keep_alloc _ (keep_alloc _ (keep_alloc _ (keep_alloc _ (keep_alloc _ (K7.out)))))))
          have B' := below_next (w := w) (by repeat' (first | (with_reducible exact Below.refl _ _) | (with_reducible assumption) | (with_reducible refine below_alloc ?_ _) | (with_reducible refine Below.drew ?_) | (with_reducible refine below_drewN ?_ _) | (with_reducible refine Below.setCell ?_ ?_ _) | go_size)) hbw11
          clear hbw11 B K0 K1 K7 K0_0 K0_1 K0_2 K0_3 K0_f K0_z K1_0 K1_1 K1_2 K1_3 K1_f K1_z K7_0 K7_1 K7_2 K7_3 K7_f K7_z
          have B := B'; clear B'
          have K0 := K0'; clear K0'
          obtain ⟨K0_0, K0_1, K0_2, K0_3, K0_f, K0_z⟩ := cells4 K0.out
          have K1 := K1'; clear K1'
          obtain ⟨K1_0, K1_1, K1_2, K1_3, K1_f, K1_z⟩ := cells4 K1.out
          have K7 := K7'; clear K7'
          obtain ⟨K7_0, K7_1, K7_2, K7_3, K7_f, K7_z⟩ := cells4 K7.out
          go_wp2_with fail
          go_ret
          exact ⟨rfl, (by repeat' (first | (with_reducible exact Below.refl _ _) | (with_reducible assumption) | (with_reducible refine below_alloc ?_ _) | (with_reducible refine Below.drew ?_) | (with_reducible refine below_drewN ?_ _) | (with_reducible refine Below.setCell ?_ ?_ _) | go_size))⟩

set_option maxRecDepth 100000 in
theorem NumRules_lifted (os : Os) (started : os.Started) (H : Type) (enc : TypeId × Value → H) :
    ReturnsInHanded {} Try.checked os 10 .any (Rows.numRulesSpec.pre6 enc Try.prog Try.f10 Rows.numRulesRow.domain false) (Rows.numRulesSpec.post enc Try.prog Try.f10 false true false false) := by
  refine returnsInHanded_of_change (C := Try.checked) own started (by kernel_rfl) Try.func10
    (ChangeSpec.witness6 (enc := enc) (C := Try.checked) false ⟨#[], #[.agg #[.int .u64 0, .int .u64 0, .int .u64 0, .int .u64 0], .agg #[.int .u64 0, .int .u64 0, .int .u64 0, .int .u64 0]], []⟩ 8 (by kernel_rfl) (by kernel_rfl) (by kernel_rfl) (by kernel_rfl)) ?_
  intro W base args ds gs before hval0 hW hcnd _
  have hval : ∀ (j : Nat) t v, Try.f10.params[j]? = some t → args[j]? = some v → Value.okWide Try.prog W .any base t v := hval0
  have hW' := hW
  obtain ⟨p, q, hA0, hV, rfl, hfz, hnd⟩ := hW
  have hA : DataW.TrodAll enc Try.prog W 0 (fun _ => true) true Try.f10.params.toList args.toList ds p := hA0
  rw [Try.params10] at hA hval
  obtain ⟨v0, vs0, d0, ds0, p0, q0, hargs, rfl, rfl, h0, r0⟩ := trodAll_cons hA
  obtain ⟨v1, vs1, d1, ds1, p1, q1, rfl, rfl, rfl, h1, r1⟩ := trodAll_cons r0
  obtain ⟨rfl, rfl, rfl⟩ := trodAll_nil r1
  obtain rfl : args = #[v0, v1] := by cases args; simp_all
  obtain ⟨rfl, rfl⟩ := trodVars_none hV
  have k0 := h0
  have lt0 := trod_lt_of h0
  obtain ⟨a0, b0, rfl⟩ := open_num (hval 0 24 v0 rfl rfl) h0
  have k1 := h1
  have lt1 := trod_lt_of h1
  obtain ⟨a1, b1, rfl⟩ := open_num (hval 1 24 v1 rfl rfl) h1
  clear hA0 hval0
  refine (NumRules_walk a0 b0 a1 b1 W).mono fun e W' ⟨he, bel⟩ => ?_
  subst he
  exact ⟨_, rfl, _, _, _, [], _, [], hW', trodAll_mk1 (shut_bool (by kernel_rfl) _), (trodAll_cons_mk (Below.trod laidOut (by kernel_rfl) (of_decide_eq_true (by kernel_rfl)) k0 bel lt0) (trodAll_cons_mk (Below.trod laidOut (by kernel_rfl) (of_decide_eq_true (by kernel_rfl)) k1 bel lt1) trodAll_mk0)), rfl, bel.frame _, fun h => by cases h⟩

theorem NumRules_closed : joinedFacts Try.prog 10 Try.f10 Rows.numRulesSpec Rows.numRulesRow = true := by
  simp only [joinedFacts, Bool.and_eq_true]
  repeat' apply And.intro
  all_goals first
    | (with_reducible exact head_enter)
    | (rw [head_make]; kernel_rfl)
    | (rw [head_lift]; kernel_rfl)
    | kernel_rfl

theorem NumRules_holds : Rows.NumRulesSaid :=
  OpenClaim.holds_of_wide 10 Try.f10 rfl rfl rfl rfl rfl rfl rfl ⟨rfl, rfl, rfl, rfl, rfl⟩ rfl rfl rfl rfl rfl (by kernel_rfl) Try.func10 NumRules_closed
    (of_decide_eq_true (by kernel_rfl)) (by unfold Func.isWrapper; rw [if_neg (of_decide_eq_false (by kernel_rfl))]; exact ⟨rfl, rfl⟩)
    (fun os started H enc _ => NumRules_lifted os started H enc)
end Go.Proofs.Ytdffblfofdniaaa
