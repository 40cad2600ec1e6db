/- bits.Short. No condition. -/
import Derived.Test.YtnbppbnjkmopeaaBtPlain
import Derived.Test.YtnbppbnjkmopeaaNumTwo
import Derived.Test.YtnbppbnjkmopeaaNumSh
namespace Go.Proofs.Ytnbppbnjkmopeaa
open Go.RowKit

/-- the three highest bytes, ahead of the turn -/
def shw (n : Nat) : Nat := if (bitLen n + 7) / 8 ≤ 3 then n * 2 ^ (8 * (3 - (bitLen n + 7) / 8)) else n / 2 ^ (8 * ((bitLen n + 7) / 8 - 3))
/-- the short bits of a number -/
def sht (n : Nat) : Nat := if shw n / 8388608 % 2 = 1 then ((bitLen n + 7) / 8 + 1) * 16777216 + shw n / 256 else (bitLen n + 7) / 8 * 16777216 + shw n

theorem shw_lt (n : Nat) : shw n < 16777216 := by
  have h := lt_two_bitLen n
  unfold shw
  generalize bitLen n = L at *
  split
  · calc n * 2 ^ (8 * (3 - (L + 7) / 8)) < 2 ^ L * 2 ^ (8 * (3 - (L + 7) / 8)) := Nat.mul_lt_mul_of_pos_right h (Nat.two_pow_pos _)
      _ = 2 ^ (L + 8 * (3 - (L + 7) / 8)) := (Nat.pow_add _ _ _).symm
      _ ≤ 2 ^ 24 := Nat.pow_le_pow_right (by omega) (by omega)
  · rw [Nat.div_lt_iff_lt_mul (Nat.two_pow_pos _)]
    calc n < 2 ^ L := h
      _ ≤ 2 ^ (24 + 8 * ((L + 7) / 8 - 3)) := Nat.pow_le_pow_right (by omega) (by omega)
      _ = 16777216 * 2 ^ (8 * ((L + 7) / 8 - 3)) := by rw [Nat.pow_add]

theorem and_top64 (b : Nat) (h : b < 16777216) : bits .and .u64 (b : Int) 8388608 = ((b / 8388608 % 2 * 8388608 : Nat) : Int) := by
  have h1 := u64_and_nat b 8388608 (by omega) (by omega)
  have h2 := u32_and_nat b 8388608 (by omega) (by omega)
  rw [show ((8388608 : Nat) : Int) = 8388608 from rfl] at h1 h2
  rw [h1, ← h2, and_top b (by omega)]
theorem or_join (z m : Nat) (hz : z < 256) (hm : m < 16777216) : bits .or .u32 ((z * 16777216 : Nat) : Int) (m : Int) = ((z * 16777216 + m : Nat) : Int) := by
  rw [u32_or_nat _ _ (by omega) (by omega), nat_join 24 _ _ (by omega) hm]

theorem or_join0 (z m : Nat) (hz : z < 256) (hm : m < 16777216) : bits .or .u32 ((z : Int) * 16777216) (m : Int) = ((z * 16777216 + m : Nat) : Int) := by
  rw [← or_join z m hz hm, Int.natCast_mul]; rfl
theorem or_join1 (z m : Nat) (hz : z < 255) (hm : m < 16777216) : bits .or .u32 (((z : Int) + 1) * 16777216) (m : Int) = (((z + 1) * 16777216 + m : Nat) : Int) := by
  rw [← or_join0 (z + 1) m (by omega) hm, Int.natCast_add]; rfl
theorem lw_small (n : Nat) (h : n < 18446744073709551616) : lw n 0 = (n : Int) := by rw [lw_at0, Nat.mod_eq_of_lt h]

theorem run_index_num0 (n : Nat) (w : World) : (Instr.index 47 (nv n) (.int .i64 0)).run Try.prog w = .ok (.int .u64 (lw n 0)) w := by
  have hu : Try.prog.underlying 47 = some (.array 4 45) := by kernel_rfl
  have he : Try.prog.underlying 45 = some (.int .u64) := by kernel_rfl
  have hs : (sizeOf 45).run Try.prog w = .ok 1 w := by kernel_rfl
  have hc : (0 : Int) ≤ 0 ∧ (0 : Int) < ((4 : Nat) : Int) := by omega
  simp only [Instr.index, asIntOf, Sem.run_bind, Sem.run_pure, Result.andThen_ok, run_underlying hu, hc, and_self, if_true, hs, Nat.mul_one]
  simp [part, isAgg, run_underlying he]

set_option maxRecDepth 100000 in
set_option maxHeartbeats 1000000 in
theorem short_any (n : Nat) (hn : n < 2 ^ 256) (w : World) :
    Calls Try.prog 122 #[nv n] w fun e w' => e = .returned (.int .u32 (sht n)) ∧ Below w.heap.size w w' := by
  have HN := Lib.hid hn
  have hL := bitLen_num n hn
  have h8 := shw_lt n
  have hlt := lt_two_bitLen n
  have ht : sht n = if shw n / 8388608 % 2 = 1 then ((bitLen n + 7) / 8 + 1) * 16777216 + shw n / 256 else (bitLen n + 7) / 8 * 16777216 + shw n := rfl
  have hw : shw n = if (bitLen n + 7) / 8 ≤ 3 then n * 2 ^ (8 * (3 - (bitLen n + 7) / 8)) else n / 2 ^ (8 * ((bitLen n + 7) / 8 - 3)) := rfl
  generalize sht n = S at *
  generalize shw n = W at *
  have cl := Lib.hid fun w => len_any n hn w
  generalize bitLen n = L at *
  obtain ⟨z, hz⟩ : ∃ z, z = (L + 7) / 8 := ⟨_, rfl⟩
  rw [← hz] at ht hw
  have es : ((L : Int) + 7) / 8 = (z : Int) := by omega
  have hz2 : z < 33 := by omega
  have HZ := Lib.hid hz; have HT := Lib.hid ht; have HW := Lib.hid hw; have HLT := Lib.hid hlt
  clear hn hlt ht hw hz
  have B : Below w.heap.size w w := Below.refl _ _
  have K0 := Lib.hid (heap_new w (nblk n))
  go_enter Try.func122, Try.ntmps122
  go_wp2_with fail
  refine (cl.out _).mono ?_
  rintro e w1 ⟨rfl, hbw1⟩
  have K0' := Lib.hid (below_keep hbw1 (by first | exact K0.out | exact keep_alloc _ (K0.out) | exact keep_alloc _ (keep_alloc _ (K0.out)) | exact keep_alloc _ (keep_alloc _ (keep_alloc _ (K0.out))) | exact keep_alloc _ (keep_alloc _ (keep_alloc _ (keep_alloc _ (K0.out)))) | exact keep_alloc _ (keep_alloc _ (keep_alloc _ (keep_alloc _ (keep_alloc _ (K0.out)))))))
  have B' := below_next (w := w) (by repeat' (first | (with_reducible exact Below.refl _ _) | (with_reducible assumption) | (with_reducible refine below_alloc ?_ _) | (with_reducible refine Below.drew ?_) | (with_reducible refine below_drewN ?_ _) | (with_reducible refine Below.setCell ?_ ?_ _) | go_size)) hbw1
  clear hbw1 B K0
  have B := B'; clear B'
  have K0 := K0'; clear K0'
  obtain ⟨K0_0, K0_1, K0_2, K0_3, K0_f, K0_z⟩ := cells4 K0.out
  by_cases h3 : z ≤ 3
  · have h3' : (z : Int) ≤ 3 := by omega
    have ew : IntKind.u64.wrap (lw n 0 * 2 ^ (8 * (3 - z))) = (W : Int) := by
      have hw := HW.out
      rw [if_pos h3] at hw
      have hn24 : n < 16777216 := Nat.lt_of_lt_of_le HLT.out (by rw [show (16777216 : Nat) = 2 ^ 24 from rfl]; exact Nat.pow_le_pow_right (by omega) (by have := HZ.out; omega))
      rw [lw_small n (by omega), wrap_mul, ← hw, Nat.mod_eq_of_lt (by omega)]
    clear h3
    by_cases h1 : W / 8388608 % 2 = 1
    · have hv : (W : Int) / 256 = ((W / 256 : Nat) : Int) := by omega
      have ha : bits .and .u64 (W : Int) 8388608 = 8388608 := by rw [and_top64 W h8, h1]; rfl
      have hV : W / 256 < 16777216 := by omega
      have hor := or_join1 z (W / 256) (by omega) hV
      have hS : S = (z + 1) * 16777216 + W / 256 := by rw [HT.out, if_pos h1]
      rw [← hS] at hor
      generalize W / 256 = V at *
      clear hS h1
      go_wp2_with fail
      go_ret
      refine ⟨?_, (by repeat' (first | (with_reducible exact Below.refl _ _) | (with_reducible assumption) | (with_reducible refine below_alloc ?_ _) | (with_reducible refine Below.drew ?_) | (with_reducible refine below_drewN ?_ _) | (with_reducible refine Below.setCell ?_ ?_ _) | go_size))⟩
      first | rfl | (rw [show (V : Int) % 4294967296 = (V : Int) by omega, hor])
    · have ha : bits .and .u64 (W : Int) 8388608 = 0 := by rw [and_top64 W h8, show W / 8388608 % 2 = 0 by omega]; rfl
      have hor := or_join0 z W (by omega) h8
      have hS : S = z * 16777216 + W := by rw [HT.out, if_neg h1]
      rw [← hS] at hor
      clear hS h1
      go_wp2_with fail
      go_ret
      refine ⟨?_, (by repeat' (first | (with_reducible exact Below.refl _ _) | (with_reducible assumption) | (with_reducible refine below_alloc ?_ _) | (with_reducible refine Below.drew ?_) | (with_reducible refine below_drewN ?_ _) | (with_reducible refine Below.setCell ?_ ?_ _) | go_size))⟩
      first | rfl | (rw [show (W : Int) % 4294967296 = (W : Int) by omega, hor])
  · have h3' : ¬ (z : Int) ≤ 3 := by omega
    have cs : Hid (∀ w, Calls Try.prog 82 #[nv n, .int .i64 (8 * ((z : Int) - 3))] w fun e w' => e = .returned (nv W) ∧ Below w.heap.size w w') := Lib.hid fun w => by
      have := shr_any n HN.out (8 * ((z : Int) - 3)) w
      unfold shrN at this
      have hw := HW.out
      rw [if_neg h3] at hw
      rwa [if_neg (by omega), show (8 * ((z : Int) - 3)).toNat = 8 * (z - 3) by omega, ← hw] at this
    have e0 := lw_small W (by omega)
    have hib : ∀ W', (Instr.index 47 (nv W) (.int .i64 0)).run Try.prog W' = .ok (.int .u64 (W : Int)) W' := fun W' => by rw [← e0]; exact run_index_num0 W W'
    clear h3
    go_wp2_with fail
    refine (cs.out _).mono ?_
    rintro e w2 ⟨rfl, hbw2⟩
    have K0' := Lib.hid (below_keep hbw2 (by first | exact K0.out | exact keep_alloc _ (K0.out) | exact keep_alloc _ (keep_alloc _ (K0.out)) | exact keep_alloc _ (keep_alloc _ (keep_alloc _ (K0.out))) | exact keep_alloc _ (keep_alloc _ (keep_alloc _ (keep_alloc _ (K0.out)))) | exact keep_alloc _ (keep_alloc _ (keep_alloc _ (keep_alloc _ (keep_alloc _ (K0.out)))))))
    have B' := below_next (w := w) (by repeat' (first | (with_reducible exact Below.refl _ _) | (with_reducible assumption) | (with_reducible refine below_alloc ?_ _) | (with_reducible refine Below.drew ?_) | (with_reducible refine below_drewN ?_ _) | (with_reducible refine Below.setCell ?_ ?_ _) | go_size)) hbw2
    clear hbw2 B K0 K0_0 K0_1 K0_2 K0_3 K0_f K0_z
    have B := B'; clear B'
    have K0 := K0'; clear K0'
    obtain ⟨K0_0, K0_1, K0_2, K0_3, K0_f, K0_z⟩ := cells4 K0.out
    clear cs
    by_cases h1 : W / 8388608 % 2 = 1
    · have hv : (W : Int) / 256 = ((W / 256 : Nat) : Int) := by omega
      have ha : bits .and .u64 (W : Int) 8388608 = 8388608 := by rw [and_top64 W h8, h1]; rfl
      have hV : W / 256 < 16777216 := by omega
      have hor := or_join1 z (W / 256) (by omega) hV
      have hS : S = (z + 1) * 16777216 + W / 256 := by rw [HT.out, if_pos h1]
      rw [← hS] at hor
      generalize W / 256 = V at *
      clear hS h1
      go_wp2_with fail
      go_ret
      refine ⟨?_, (by repeat' (first | (with_reducible exact Below.refl _ _) | (with_reducible assumption) | (with_reducible refine below_alloc ?_ _) | (with_reducible refine Below.drew ?_) | (with_reducible refine below_drewN ?_ _) | (with_reducible refine Below.setCell ?_ ?_ _) | go_size))⟩
      first | rfl | (rw [show (V : Int) % 4294967296 = (V : Int) by omega, hor])
    · have ha : bits .and .u64 (W : Int) 8388608 = 0 := by rw [and_top64 W h8, show W / 8388608 % 2 = 0 by omega]; rfl
      have hor := or_join0 z W (by omega) h8
      have hS : S = z * 16777216 + W := by rw [HT.out, if_neg h1]
      rw [← hS] at hor
      clear hS h1
      go_wp2_with fail
      go_ret
      refine ⟨?_, (by repeat' (first | (with_reducible exact Below.refl _ _) | (with_reducible assumption) | (with_reducible refine below_alloc ?_ _) | (with_reducible refine Below.drew ?_) | (with_reducible refine below_drewN ?_ _) | (with_reducible refine Below.setCell ?_ ?_ _) | go_size))⟩
      first | rfl | (rw [show (W : Int) % 4294967296 = (W : Int) by omega, hor])
end Go.Proofs.Ytnbppbnjkmopeaa
