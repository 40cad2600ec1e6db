/- Reading the short form again: how near it is to the number. No condition. bits.Next. No condition. -/
import Derived.Test.YtnbppbnjkmopeaaBt1
import Derived.Test.YtnbppbnjkmopeaaBtWork
namespace Go.Proofs.Ytnbppbnjkmopeaa

/-- how many of the lowest bits the short form drops -/
def dropN (n : Nat) : Nat := 8 * (bitLen n / 8 - 2)
/-- what the short form means -/
def rnd (n : Nat) : Nat := n / 2 ^ dropN n * 2 ^ dropN n

theorem two_le_of {n : Nat} (h : n ≠ 0) : 2 ^ (bitLen n - 1) ≤ n := (bitLen_spec n).2 h
theorem bitLen_of {n k : Nat} (h1 : 2 ^ k ≤ n) (h2 : n < 2 ^ (k + 1)) : bitLen n = k + 1 := by
  have h0 : n ≠ 0 := by have := Nat.two_pow_pos k; omega
  have a := lt_two_bitLen n
  have b := two_le_of h0
  have c := bitLen_pos h0
  have d : k < bitLen n := (Nat.pow_lt_pow_iff_right (by omega : 1 < 2)).1 (Nat.lt_of_le_of_lt h1 a)
  have e : bitLen n - 1 < k + 1 := (Nat.pow_lt_pow_iff_right (by omega : 1 < 2)).1 (Nat.lt_of_le_of_lt b h2)
  omega
theorem bitLen_mono {a b : Nat} (h : a ≤ b) : bitLen a ≤ bitLen b := by
  by_cases h0 : a = 0
  · subst h0; exact Nat.zero_le _
  · have h1 := two_le_of h0
    have h2 := lt_two_bitLen b
    have d : bitLen a - 1 < bitLen b := (Nat.pow_lt_pow_iff_right (by omega : 1 < 2)).1 (by omega)
    omega
theorem rnd_le (n : Nat) : rnd n ≤ n := Nat.div_mul_le_self _ _
theorem dropN_lt {n : Nat} (h : n ≠ 0) : dropN n < bitLen n := by have := bitLen_pos h; unfold dropN; omega
theorem rnd_ge {n : Nat} (h : n ≠ 0) : 2 ^ (bitLen n - 1) ≤ rnd n := by
  have hd := dropN_lt h
  have h1 := two_le_of h
  unfold rnd
  generalize dropN n = d at *
  obtain ⟨e, he⟩ := Nat.exists_eq_add_of_le (show d ≤ bitLen n - 1 by omega)
  rw [he, Nat.pow_add, Nat.mul_comm]
  apply Nat.mul_le_mul_right
  rw [Nat.le_div_iff_mul_le (Nat.two_pow_pos d), Nat.mul_comm, ← Nat.pow_add, ← he]
  exact h1
theorem rnd_bitLen (n : Nat) : bitLen (rnd n) = bitLen n := by
  by_cases h : n = 0
  · subst h; rfl
  · have h1 := rnd_ge h
    have h2 := rnd_le n
    have h3 := lt_two_bitLen n
    have h4 := bitLen_pos h
    have := bitLen_of (n := rnd n) (k := bitLen n - 1) h1 (by rw [show bitLen n - 1 + 1 = bitLen n by omega]; omega)
    omega
theorem rnd_rnd (n : Nat) : rnd (rnd n) = rnd n := by
  have e : dropN (rnd n) = dropN n := by unfold dropN; rw [rnd_bitLen]
  have h : rnd (rnd n) = rnd n / 2 ^ dropN (rnd n) * 2 ^ dropN (rnd n) := rfl
  rw [h, e]
  unfold rnd
  rw [Nat.mul_div_cancel _ (Nat.two_pow_pos _)]
theorem rnd_mono {a b : Nat} (h : a ≤ b) : rnd a ≤ rnd b := by
  by_cases h0 : a = 0
  · subst h0; have : rnd 0 = 0 := rfl; omega
  · have hb : b ≠ 0 := by omega
    by_cases e : bitLen a = bitLen b
    · unfold rnd
      have : dropN a = dropN b := by unfold dropN; rw [e]
      rw [this]
      exact Nat.mul_le_mul_right _ (Nat.div_le_div_right h)
    · have h1 := bitLen_mono h
      have h2 := rnd_ge hb
      have h3 := lt_two_bitLen a
      have h4 := rnd_le a
      have h5 : 2 ^ bitLen a ≤ 2 ^ (bitLen b - 1) := Nat.pow_le_pow_right (by omega) (by omega)
      omega
theorem rnd_near (n : Nat) : n < rnd n + 2 ^ dropN n := by
  unfold rnd
  have := Nat.div_add_mod n (2 ^ dropN n)
  have h2 := Nat.mod_lt n (Nat.two_pow_pos (dropN n))
  rw [Nat.mul_comm] at this
  omega

/-- the mantissa -/
def mant (n : Nat) : Nat := if bitLen n / 8 ≤ 2 then n * 2 ^ (8 * (2 - bitLen n / 8)) else n / 2 ^ (8 * (bitLen n / 8 - 2))
theorem mant_lt (n : Nat) : mant n < 8388608 := by
  have h := lt_two_bitLen n
  unfold mant
  generalize bitLen n = L at *
  split
  · calc n * 2 ^ (8 * (2 - L / 8)) < 2 ^ L * 2 ^ (8 * (2 - L / 8)) := Nat.mul_lt_mul_of_pos_right h (Nat.two_pow_pos _)
      _ = 2 ^ (L + 8 * (2 - L / 8)) := (Nat.pow_add _ _ _).symm
      _ ≤ 2 ^ 23 := Nat.pow_le_pow_right (by omega) (by omega)
  · rw [Nat.div_lt_iff_lt_mul (Nat.two_pow_pos _)]
    calc n < 2 ^ L := h
      _ ≤ 2 ^ (23 + 8 * (L / 8 - 2)) := Nat.pow_le_pow_right (by omega) (by omega)
      _ = 8388608 * 2 ^ (8 * (L / 8 - 2)) := by rw [Nat.pow_add]
theorem mant_pos {n : Nat} (h0 : n ≠ 0) : mant n ≠ 0 := by
  have h := two_le_of h0
  have hp := bitLen_pos h0
  unfold mant
  generalize bitLen n = L at *
  split
  · have := Nat.mul_le_mul (Nat.le_refl n) (Nat.two_pow_pos (8 * (2 - L / 8)))
    have h1 : 0 < n * 2 ^ (8 * (2 - L / 8)) := Nat.mul_pos (by omega) (Nat.two_pow_pos _)
    omega
  · have : 1 ≤ n / 2 ^ (8 * (L / 8 - 2)) := by
      rw [Nat.le_div_iff_mul_le (Nat.two_pow_pos _), Nat.one_mul]
      exact Nat.le_trans (Nat.pow_le_pow_right (by omega) (by omega)) h
    omega
theorem shw_top {n : Nat} (h0 : n ≠ 0) : shw n / 8388608 % 2 = (if bitLen n % 8 = 0 then 1 else 0) ∧ (if bitLen n % 8 = 0 then shw n / 256 else shw n) = mant n := by
  have h1 := lt_two_bitLen n
  have h2 := two_le_of h0
  have hp := bitLen_pos h0
  unfold shw mant
  generalize bitLen n = L at *
  by_cases h8 : L % 8 = 0
  · rw [if_pos h8, if_pos h8]
    have ez : (L + 7) / 8 = L / 8 := by omega
    rw [ez]
    generalize hq : L / 8 = q at *
    by_cases h3 : q ≤ 3
    · rw [if_pos h3]
      have hge : 2 ^ 23 ≤ n * 2 ^ (8 * (3 - q)) := by
        calc 2 ^ 23 = 2 ^ (L - 1) * 2 ^ (8 * (3 - q)) := by rw [← Nat.pow_add]; congr 1; omega
          _ ≤ n * 2 ^ (8 * (3 - q)) := Nat.mul_le_mul_right _ h2
      have hlt : n * 2 ^ (8 * (3 - q)) < 2 ^ 24 := by
        calc n * 2 ^ (8 * (3 - q)) < 2 ^ L * 2 ^ (8 * (3 - q)) := Nat.mul_lt_mul_of_pos_right h1 (Nat.two_pow_pos _)
          _ = 2 ^ 24 := by rw [← Nat.pow_add]; congr 1; omega
      refine ⟨by omega, ?_⟩
      by_cases h4 : q ≤ 2
      · rw [if_pos h4, show 8 * (3 - q) = 8 * (2 - q) + 8 by omega, Nat.pow_add, ← Nat.mul_assoc]; omega
      · have : q = 3 := by omega
        subst this; rw [if_neg (by omega)]; simp
    · rw [if_neg h3, if_neg (by omega)]
      have hge : 2 ^ 23 ≤ n / 2 ^ (8 * (q - 3)) := by
        rw [Nat.le_div_iff_mul_le (Nat.two_pow_pos _), ← Nat.pow_add]
        exact Nat.le_trans (Nat.pow_le_pow_right (by omega) (by omega)) h2
      have hlt : n / 2 ^ (8 * (q - 3)) < 2 ^ 24 := by
        rw [Nat.div_lt_iff_lt_mul (Nat.two_pow_pos _), ← Nat.pow_add]
        exact Nat.lt_of_lt_of_le h1 (Nat.pow_le_pow_right (by omega) (by omega))
      refine ⟨by omega, ?_⟩
      rw [show 8 * (q - 2) = 8 * (q - 3) + 8 by omega, Nat.pow_add, ← Nat.div_div_eq_div_mul]
  · rw [if_neg h8, if_neg h8]
    have ez : (L + 7) / 8 = L / 8 + 1 := by omega
    rw [ez]
    generalize hq : L / 8 = q at *
    by_cases h3 : q + 1 ≤ 3
    · rw [if_pos h3, if_pos (by omega), show 3 - (q + 1) = 2 - q by omega]
      have hlt : n * 2 ^ (8 * (2 - q)) < 2 ^ 23 := by
        calc n * 2 ^ (8 * (2 - q)) < 2 ^ L * 2 ^ (8 * (2 - q)) := Nat.mul_lt_mul_of_pos_right h1 (Nat.two_pow_pos _)
          _ = 2 ^ (L + 8 * (2 - q)) := (Nat.pow_add _ _ _).symm
          _ ≤ 2 ^ 23 := Nat.pow_le_pow_right (by omega) (by omega)
      exact ⟨by omega, rfl⟩
    · rw [if_neg h3, if_neg (by omega), show q + 1 - 3 = q - 2 by omega]
      have hlt : n / 2 ^ (8 * (q - 2)) < 2 ^ 23 := by
        rw [Nat.div_lt_iff_lt_mul (Nat.two_pow_pos _), ← Nat.pow_add]
        exact Nat.lt_of_lt_of_le h1 (Nat.pow_le_pow_right (by omega) (by omega))
      generalize n / 2 ^ (8 * (q - 2)) = y at *
      exact ⟨by omega, rfl⟩
/-- the short form by its parts -/
theorem sht_eq {n : Nat} (h0 : n ≠ 0) : sht n = (bitLen n / 8 + 1) * 16777216 + mant n := by
  obtain ⟨h1, h2⟩ := shw_top h0
  unfold sht
  rw [h1]
  by_cases h8 : bitLen n % 8 = 0
  · rw [if_pos h8] at h2
    rw [if_pos h8, if_pos rfl, h2]; omega
  · rw [if_neg h8] at h2
    rw [if_neg h8, if_neg (by omega), h2]; omega
theorem sht_zero : sht 0 = 0 := by decide
theorem sht_lt (n : Nat) (hn : n < 2 ^ 256) : sht n < 4294967296 := by
  by_cases h0 : n = 0
  · subst h0; rw [sht_zero]; omega
  · rw [sht_eq h0]
    have := mant_lt n
    have h2 := bitLen_num n hn
    omega
theorem tgt_sht {n : Nat} (h0 : n ≠ 0) (hn : n < 2 ^ 256) : tgt (sht n) = (rnd n, true) := by
  have hm := mant_lt n
  have hm0 := mant_pos h0
  have hL := bitLen_num n hn
  have hp := bitLen_pos h0
  have e := sht_eq h0
  have e1 : sht n % 8388608 = mant n := by rw [e]; omega
  have e2 : sht n / 8388608 % 2 = 0 := by rw [e]; omega
  have e3 : sht n / 16777216 = bitLen n / 8 + 1 := by rw [e]; omega
  have ml := lt_two_bitLen n
  by_cases h3 : bitLen n / 8 + 1 ≤ 3
  · have hr : mant n / 2 ^ (8 * (3 - (bitLen n / 8 + 1))) = rnd n := by
      unfold mant rnd dropN
      rw [if_pos (by omega), show 3 - (bitLen n / 8 + 1) = 2 - bitLen n / 8 by omega, Nat.mul_div_cancel _ (Nat.two_pow_pos _), show bitLen n / 8 - 2 = 0 by omega]; simp
    rw [tgt_small (by rw [e1]; exact hm0) (by omega) (by rw [e3]; exact h3), e1, e3, hr]
    have : rnd n ≠ 0 := by have := rnd_ge h0; have := Nat.two_pow_pos (bitLen n - 1); omega
    simp [this]
  · have hme : mant n * 2 ^ (8 * (bitLen n / 8 + 1 - 3)) = rnd n := by
      unfold mant rnd dropN
      rw [if_neg (by omega), show bitLen n / 8 + 1 - 3 = bitLen n / 8 - 2 by omega]
    have hml : bitLen (mant n) ≤ bitLen n - 8 * (bitLen n / 8 - 2) := by
      have h7 : mant n < 2 ^ (bitLen n - 8 * (bitLen n / 8 - 2)) := by
        unfold mant
        rw [if_neg (by omega), Nat.div_lt_iff_lt_mul (Nat.two_pow_pos _), ← Nat.pow_add, show bitLen n - 8 * (bitLen n / 8 - 2) + 8 * (bitLen n / 8 - 2) = bitLen n by omega]
        exact ml
      have h8 := two_le_of hm0
      have h9 : bitLen (mant n) - 1 < bitLen n - 8 * (bitLen n / 8 - 2) := (Nat.pow_lt_pow_iff_right (by omega : 1 < 2)).1 (Nat.lt_of_le_of_lt h8 h7)
      omega
    rw [tgt_fits (by rw [e1]; exact hm0) (by omega) (by rw [e3]; exact h3) (by rw [e1, e3]; omega), e1, e3, hme]
theorem tgt_zero0 : tgt 0 = (0, false) := by decide
theorem tgt_sht1 (n : Nat) (hn : n < 2 ^ 256) : (tgt (sht n)).1 = rnd n := by
  by_cases h0 : n = 0
  · subst h0; rw [sht_zero, tgt_zero0]; rfl
  · rw [tgt_sht h0 hn]
theorem sht_rnd {n : Nat} (h0 : n ≠ 0) : sht (rnd n) = sht n := by
  have h1 : rnd n ≠ 0 := by have := rnd_ge h0; have := Nat.two_pow_pos (bitLen n - 1); omega
  rw [sht_eq h1, sht_eq h0, rnd_bitLen]
  congr 1
  unfold mant
  rw [rnd_bitLen]
  by_cases h3 : bitLen n / 8 ≤ 2
  · rw [if_pos h3, if_pos h3]
    unfold rnd dropN
    rw [show bitLen n / 8 - 2 = 0 by omega]; simp
  · rw [if_neg h3, if_neg h3]
    unfold rnd dropN
    rw [Nat.mul_div_cancel _ (Nat.two_pow_pos _)]
end Go.Proofs.Ytnbppbnjkmopeaa
namespace Go.Proofs.Ytnbppbnjkmopeaa
open Go.RowKit

/-- the span as it counts -/
def spn (took should : Int) : Nat := (max (should / 4) (min took (4 * should))).toNat
/-- the target behind another one -/
def nxN (t k s limit : Nat) : Nat := if 2 ^ 256 ≤ t * k then (if 2 ^ 256 ≤ t / s * k then limit else min (t / s * k) limit) else min (t * k / s) limit
theorem spn_facts (took should : Int) (h1 : 1 ≤ should) (h2 : should ≤ 1099511627776) : (spn took should : Int) = max (should / 4) (min took (4 * should)) ∧ spn took should < 18446744073709551616 := by
  unfold spn
  omega

theorem tgt_lt (b : Nat) : (tgt b).1 < 2 ^ 256 := by
  unfold tgt
  split
  · decide
  · split
    · decide
    · split
      · exact Nat.lt_of_le_of_lt (Nat.div_le_self _ _) (Nat.lt_trans (Nat.mod_lt _ (by omega)) (by omega))
      · split
        · decide
        · exact shl_fits (by omega)

set_option maxRecDepth 100000 in
set_option maxHeartbeats 4000000 in
theorem next_any (b : Nat) (hb : b < 4294967296) (took should : Int) (l : Nat) (hl : l < 2 ^ 256) (_ht : (Lit.int .i64 took).wf = true) (_hs : (Lit.int .i64 should).wf = true) (w : World) :
    Calls Try.prog 90 #[.int .u32 b, .int .i64 took, .int .i64 should, nv l] w fun e w' =>
      e = .returned (if (tgt b).2 = true ∧ 1 ≤ should ∧ should ≤ 1099511627776 then .tuple #[.int .u32 (sht (nxN (tgt b).1 (spn took should) should.toNat l)), .bool true] else .tuple #[.int .u32 0, .bool false]) ∧ Below w.heap.size w w' := by
  have HL := Lib.hid hl
  have HT := Lib.hid (tgt_lt b)
  have ct := Lib.hid fun w => target_any b hb w
  have hsp := spn_facts took should
  obtain ⟨t, ht1⟩ : ∃ t, t = (tgt b).1 := ⟨_, rfl⟩
  obtain ⟨o, ho⟩ : ∃ o, o = (tgt b).2 := ⟨_, rfl⟩
  rw [← ht1] at HT
  rw [← ht1, ← ho] at ct
  rw [← ht1, ← ho]
  clear ht1 ho hl
  have hRok : ∀ x, (o = true ∧ 1 ≤ should ∧ should ≤ 1099511627776) → x = nxN t (spn took should) should.toNat l → (if o = true ∧ 1 ≤ should ∧ should ≤ 1099511627776 then Value.tuple #[.int .u32 (sht (nxN t (spn took should) should.toNat l)), .bool true] else .tuple #[.int .u32 0, .bool false]) = .tuple #[.int .u32 (sht x), .bool true] := fun x h e => by rw [if_pos h, e]
  have hRno : ¬ (o = true ∧ 1 ≤ should ∧ should ≤ 1099511627776) → (if o = true ∧ 1 ≤ should ∧ should ≤ 1099511627776 then Value.tuple #[.int .u32 (sht (nxN t (spn took should) should.toNat l)), .bool true] else .tuple #[.int .u32 0, .bool false]) = .tuple #[.int .u32 0, .bool false] := fun h => if_neg h
  generalize (if o = true ∧ 1 ≤ should ∧ should ≤ 1099511627776 then Value.tuple #[.int .u32 (sht (nxN t (spn took should) should.toNat l)), .bool true] else .tuple #[.int .u32 0, .bool false]) = R at *
  have HRN := Lib.hid hRno
  have B : Below w.heap.size w w := Below.refl _ _
  have K0 := Lib.hid (heap_new w (nblk l))
  go_enter Try.func90, Try.ntmps90
  go_wp2_with fail
  refine (ct.out _).mono ?_
  rintro e w1 ⟨rfl, hbw1⟩
  have K0' := Lib.hid (below_keep hbw1 (by first | exact K0.out | exact keep_alloc _ (K0.out) | exact keep_alloc _ (keep_alloc _ (K0.out)) | exact keep_alloc _ (keep_alloc _ (keep_alloc _ (K0.out))) | exact keep_alloc _ (keep_alloc _ (keep_alloc _ (keep_alloc _ (K0.out)))) | exact keep_alloc _ (keep_alloc _ (keep_alloc _ (keep_alloc _ (keep_alloc _ (K0.out)))))))
  have B' := below_next (w := w) (by repeat' (first | (with_reducible exact Below.refl _ _) | (with_reducible assumption) | (with_reducible refine below_alloc ?_ _) | (with_reducible refine Below.drew ?_) | (with_reducible refine below_drewN ?_ _) | (with_reducible refine Below.setCell ?_ ?_ _) | go_size)) hbw1
  clear hbw1 B K0
  have B := B'; clear B'
  have K0 := K0'; clear K0'
  obtain ⟨K0_0, K0_1, K0_2, K0_3, K0_f, K0_z⟩ := cells4 K0.out
  have hz := Lib.hid (show w.heap.size < w1.heap.size from K0_z)
  have K0' := Lib.hid (keep_alloc (nblk t) K0.out)
  have K1 := Lib.hid (heap_new w1 (nblk t))
  clear K0 K0_0 K0_1 K0_2 K0_3 K0_f K0_z
  have K0 := K0'
  clear K0' ct
  by_cases hok : o = true ∧ 1 ≤ should ∧ should ≤ 1099511627776
  · have HR0 := fun x => hRok x hok
    clear hRok hRno HRN
    obtain ⟨rfl, h1, h2⟩ := hok
    obtain ⟨k1, k2⟩ := hsp h1 h2
    obtain ⟨s, rfl⟩ := Int.eq_ofNat_of_zero_le (show 0 ≤ should by omega)
    rw [Int.toNat_natCast] at HR0
    generalize spn took (s : Int) = k at *
    have ek := k1.symm
    have h1' : ¬ (s : Int) < 1 := by omega
    have h2' : ¬ (1099511627776 : Int) < (s : Int) := by omega
    have HR := Lib.hid HR0
    obtain ⟨P, hP⟩ : ∃ P, P = t * k % 2 ^ 256 := ⟨_, rfl⟩
    obtain ⟨o2, ho2⟩ : ∃ o2, o2 = decide (2 ^ 256 ≤ t * k) := ⟨_, rfl⟩
    have cm : Hid (∀ w, Calls Try.prog 60 #[nv t, .int .u64 (k : Int)] w fun e w' => e = .returned (.tuple #[nv P, .bool o2]) ∧ Below w.heap.size w w') := Lib.hid fun w => by
      have := mul_any t HT.out (k : Int) (by omega) (by omega) w
      rwa [Int.toNat_natCast, ← hP, ← ho2] at this
    have hs0 : s ≠ 0 := by omega
    have hs1 : s < 18446744073709551616 := by omega
    have cof := Lib.hid fun w => of_nat s w hs1
    clear hsp k1 HR0
    go_wp2_with fail
    refine (cm.out _).mono ?_
    rintro e w2 ⟨rfl, hbw2⟩
    have K0' := Lib.hid (below_keep hbw2 (by first | exact K0.out | exact keep_alloc _ (K0.out) | exact keep_alloc _ (keep_alloc _ (K0.out)) | exact keep_alloc _ (keep_alloc _ (keep_alloc _ (K0.out))) | exact keep_alloc _ (keep_alloc _ (keep_alloc _ (keep_alloc _ (K0.out)))) | exact keep_alloc _ (keep_alloc _ (keep_alloc _ (keep_alloc _ (keep_alloc _ (K0.out)))))))
    have K1' := Lib.hid (below_keep hbw2 (by first | exact K1.out | exact keep_alloc _ (K1.out) | exact keep_alloc _ (keep_alloc _ (K1.out)) | exact keep_alloc _ (keep_alloc _ (keep_alloc _ (K1.out))) | exact keep_alloc _ (keep_alloc _ (keep_alloc _ (keep_alloc _ (K1.out)))) | exact keep_alloc _ (keep_alloc _ (keep_alloc _ (keep_alloc _ (keep_alloc _ (K1.out)))))))
    have B' := below_next (w := w) (by repeat' (first | (with_reducible exact Below.refl _ _) | (with_reducible assumption) | (with_reducible refine below_alloc ?_ _) | (with_reducible refine Below.drew ?_) | (with_reducible refine below_drewN ?_ _) | (with_reducible refine Below.setCell ?_ ?_ _) | go_size)) hbw2
    clear hbw2 B K0 K1
    have B := B'; clear B'
    have K0 := K0'; clear K0'
    obtain ⟨K0_0, K0_1, K0_2, K0_3, K0_f, K0_z⟩ := cells4 K0.out
    have K1 := K1'; clear K1'
    obtain ⟨K1_0, K1_1, K1_2, K1_3, K1_f, K1_z⟩ := cells4 K1.out
    have hz2 := Lib.hid (show w1.heap.size < w2.heap.size from K1_z)
    have K0' := Lib.hid (keep_alloc (nblk P) K0.out); have K1' := Lib.hid (keep_alloc (nblk P) K1.out)
    have K2 := Lib.hid (heap_new w2 (nblk P))
    clear K0 K1 K0_0 K0_1 K0_2 K0_3 K0_f K0_z K1_0 K1_1 K1_2 K1_3 K1_f K1_z
    have K0 := K0'; have K1 := K1'
    clear K0' K1' cm ek
    have ew : IntKind.u64.wrap (s : Int) = (s : Int) := IntWalk.u64_in _ (by omega)
    by_cases hov : 2 ^ 256 ≤ t * k
    · have ho : o2 = true := by rw [ho2, decide_eq_true hov]
      subst ho
      obtain ⟨q, hq⟩ : ∃ q, q = t / s := ⟨_, rfl⟩
      have HQ := Lib.hid (show q < 2 ^ 256 by rw [hq]; exact Nat.lt_of_le_of_lt (Nat.div_le_self _ _) HT.out)
      have cdv : Hid (∀ w, Calls Try.prog 61 #[nv t, nv s] w fun e w' => e = .returned (.tuple #[nv q, nv (t % s), .int .i64 0]) ∧ Below w.heap.size w w') := Lib.hid fun w => by rw [hq]; exact div_walk t s HT.out (by omega) hs0 w
      generalize t % s = rm at *
      obtain ⟨P2, hP2⟩ : ∃ P2, P2 = q * k % 2 ^ 256 := ⟨_, rfl⟩
      obtain ⟨o3, ho3⟩ : ∃ o3, o3 = decide (2 ^ 256 ≤ q * k) := ⟨_, rfl⟩
      have cm : Hid (∀ w, Calls Try.prog 60 #[nv q, .int .u64 (k : Int)] w fun e w' => e = .returned (.tuple #[nv P2, .bool o3]) ∧ Below w.heap.size w w') := Lib.hid fun w => by
        have := mul_any q HQ.out (k : Int) (by omega) (by omega) w
        rwa [Int.toNat_natCast, ← hP2, ← ho3] at this
      have HP2 := Lib.hid (show P2 < 2 ^ 256 by rw [hP2]; exact Nat.mod_lt _ (by omega))
      have hN : nxN t k s l = if o3 = true then l else min P2 l := by
        unfold nxN
        rw [if_pos hov, ← hq, ho3, hP2]
        by_cases h : 2 ^ 256 ≤ q * k
        · rw [if_pos h, if_pos (decide_eq_true h)]
        · rw [if_neg h, if_neg (by simpa using h), Nat.mod_eq_of_lt (by omega)]
      have HN := Lib.hid hN
      clear hN hP2 ho3 hq hov ho2 hP
      obtain ⟨K1_0, K1_1, K1_2, K1_3, K1_f, K1_z⟩ := cells4 K1.out
      go_wp2_with fail
      go_region_with (first | (go_at_call 55; refine (cof.out _).mono ?_; rintro e wx ⟨rfl, hbx⟩; have hSx := below_next (w := w) (by repeat' (first | (with_reducible exact Below.refl _ _) | (with_reducible assumption) | (with_reducible refine below_alloc ?_ _) | (with_reducible refine Below.drew ?_) | (with_reducible refine below_drewN ?_ _) | (with_reducible refine Below.setCell ?_ ?_ _) | go_size)) hbx; have hzx := hSx.size; have X0 := Lib.hid (below_keep hbx K0.out); obtain ⟨X0_0, X0_1, X0_2, X0_3, X0_f, X0_z⟩ := cells4 X0.out; have X1 := Lib.hid (below_keep hbx K1.out); obtain ⟨X1_0, X1_1, X1_2, X1_3, X1_f, X1_z⟩ := cells4 X1.out; have X2 := Lib.hid (below_keep hbx K2.out); obtain ⟨X2_0, X2_1, X2_2, X2_3, X2_f, X2_z⟩ := cells4 X2.out) | (go_at_call 61; refine (cdv.out _).mono ?_; rintro e wy ⟨rfl, hby⟩; have hSy := below_next (w := w) (by repeat' (first | (with_reducible exact Below.refl _ _) | (with_reducible assumption) | (with_reducible refine below_alloc ?_ _) | (with_reducible refine Below.drew ?_) | (with_reducible refine below_drewN ?_ _) | (with_reducible refine Below.setCell ?_ ?_ _) | go_size)) hby; have hzy := hSy.size; have Y0 := Lib.hid (below_keep hby X0.out); obtain ⟨Y0_0, Y0_1, Y0_2, Y0_3, Y0_f, Y0_z⟩ := cells4 Y0.out; have Y1 := Lib.hid (below_keep hby X1.out); obtain ⟨Y1_0, Y1_1, Y1_2, Y1_3, Y1_f, Y1_z⟩ := cells4 Y1.out; have Y2 := Lib.hid (below_keep hby X2.out); obtain ⟨Y2_0, Y2_1, Y2_2, Y2_3, Y2_f, Y2_z⟩ := cells4 Y2.out))
      all_goals
        clear ew
        go_wp2_with fail
        refine (cm.out _).mono ?_
        rintro e w4 ⟨rfl, hb4⟩
        have K0 := Lib.hid (below_keep hb4 ((set4_other _ _ _ _ (by have := hz.out; have := hz2.out; omega)).trans Y0.out)); have K1 := Lib.hid (below_keep hb4 ((set4_other _ _ _ _ (by have := hz.out; have := hz2.out; omega)).trans Y1.out)); have K2 := Lib.hid (below_keep hb4 (set4 _ _ _ _ Y2.out))
        have B4 := below_next (w := w) (by have := hz.out; have := hz2.out; exact (by repeat' (first | (with_reducible exact Below.refl _ _) | (with_reducible assumption) | (with_reducible refine below_alloc ?_ _) | (with_reducible refine Below.drew ?_) | (with_reducible refine below_drewN ?_ _) | (with_reducible refine Below.setCell ?_ ?_ _) | go_size))) hb4
        clear hb4 X0 X1 X2 Y0 Y1 Y2 X0_0 X0_1 X0_2 X0_3 X0_f X0_z X1_0 X1_1 X1_2 X1_3 X1_f X1_z X2_0 X2_1 X2_2 X2_3 X2_f X2_z Y0_0 Y0_1 Y0_2 Y0_3 Y0_f Y0_z Y1_0 Y1_1 Y1_2 Y1_3 Y1_f Y1_z Y2_0 Y2_1 Y2_2 Y2_3 Y2_f Y2_z hSx hzx hSy hzy hbx hby
        have B := B4
        clear B4
        obtain ⟨K0_0, K0_1, K0_2, K0_3, K0_f, K0_z⟩ := cells4 K0.out
        obtain ⟨K1_0, K1_1, K1_2, K1_3, K1_f, K1_z⟩ := cells4 K1.out
        obtain ⟨K2_0, K2_1, K2_2, K2_3, K2_f, K2_z⟩ := cells4 K2.out
        have hn1 := hz.out
        have hn2 := hz2.out
        by_cases hov3 : o3 = true
        · subst hov3
          go_wp2_with fail
          refine (short_any l HL.out _).mono ?_
          rintro e w6 ⟨rfl, hb6⟩
          have B6 := below_next (w := w) (by have := hz.out; have := hz2.out; exact (by repeat' (first | (with_reducible exact Below.refl _ _) | (with_reducible assumption) | (with_reducible refine below_alloc ?_ _) | (with_reducible refine Below.drew ?_) | (with_reducible refine below_drewN ?_ _) | (with_reducible refine Below.setCell ?_ ?_ _) | go_size))) hb6
          clear hb6
          go_wp2_with fail
          exact bodyPost_ret (v := .tuple #[.int .u32 (sht l), .bool true]) (by simp [results, Try.results90, go_sem]) rfl ⟨by rw [HR.out l (by rw [HN.out]; simp)], B6⟩
        · have ho3 : o3 = false := by simpa using hov3
          subst ho3
          go_wp2_with fail
          refine (cmp_any P2 l HP2.out HL.out _).mono ?_
          rintro e w5 ⟨rfl, hb5⟩
          have K0 := Lib.hid (below_keep hb5 ((set4_other _ _ _ _ (by have := hz.out; have := hz2.out; omega)).trans ((set4_other _ _ _ _ (by have := hz.out; have := hz2.out; omega)).trans K0.out))); have K1 := Lib.hid (below_keep hb5 (set4 _ _ _ _ ((set4_other _ _ _ _ (by have := hz.out; have := hz2.out; omega)).trans K1.out)))
          have B5 := below_next (w := w) (by have := hz.out; have := hz2.out; exact (by repeat' (first | (with_reducible exact Below.refl _ _) | (with_reducible assumption) | (with_reducible refine below_alloc ?_ _) | (with_reducible refine Below.drew ?_) | (with_reducible refine below_drewN ?_ _) | (with_reducible refine Below.setCell ?_ ?_ _) | go_size))) hb5
          clear hb5 B
          have B := B5
          clear B5
          obtain ⟨K0_0, K0_1, K0_2, K0_3, K0_f, K0_z⟩ := cells4 K0.out
          obtain ⟨K1_0, K1_1, K1_2, K1_3, K1_f, K1_z⟩ := cells4 K1.out
          by_cases hlx : l < P2
          · have hc : 0 < cmpn P2 l := by unfold cmpn; rw [if_neg (by omega), if_neg (by omega)]; omega
            go_wp2_with fail
            refine (short_any l HL.out _).mono ?_
            rintro e w6 ⟨rfl, hb6⟩
            have B6 := below_next (w := w) (by have := hz.out; have := hz2.out; exact (by repeat' (first | (with_reducible exact Below.refl _ _) | (with_reducible assumption) | (with_reducible refine below_alloc ?_ _) | (with_reducible refine Below.drew ?_) | (with_reducible refine below_drewN ?_ _) | (with_reducible refine Below.setCell ?_ ?_ _) | go_size))) hb6
            clear hb6
            go_wp2_with fail
            exact bodyPost_ret (v := .tuple #[.int .u32 (sht l), .bool true]) (by simp [results, Try.results90, go_sem]) rfl ⟨by rw [HR.out l (by rw [HN.out]; first | omega | (simp; omega))], B6⟩
          · have hc : ¬ 0 < cmpn P2 l := by unfold cmpn; split <;> (try split) <;> omega
            go_wp2_with fail
            refine (short_any P2 HP2.out _).mono ?_
            rintro e w6 ⟨rfl, hb6⟩
            have B6 := below_next (w := w) (by have := hz.out; have := hz2.out; exact (by repeat' (first | (with_reducible exact Below.refl _ _) | (with_reducible assumption) | (with_reducible refine below_alloc ?_ _) | (with_reducible refine Below.drew ?_) | (with_reducible refine below_drewN ?_ _) | (with_reducible refine Below.setCell ?_ ?_ _) | go_size))) hb6
            clear hb6
            go_wp2_with fail
            exact bodyPost_ret (v := .tuple #[.int .u32 (sht P2), .bool true]) (by simp [results, Try.results90, go_sem]) rfl ⟨by rw [HR.out P2 (by rw [HN.out]; first | omega | (simp; omega))], B6⟩
    · have ho : o2 = false := by rw [ho2, decide_eq_false hov]
      subst ho
      have hPe : P = t * k := by rw [hP, Nat.mod_eq_of_lt (by omega)]
      have HPP := Lib.hid (show P < 2 ^ 256 by rw [hPe]; omega)
      obtain ⟨q, hq⟩ : ∃ q, q = P / s := ⟨_, rfl⟩
      have HQ := Lib.hid (show q < 2 ^ 256 by rw [hq]; exact Nat.lt_of_le_of_lt (Nat.div_le_self _ _) HPP.out)
      have cdv : Hid (∀ w, Calls Try.prog 61 #[nv P, nv s] w fun e w' => e = .returned (.tuple #[nv q, nv (P % s), .int .i64 0]) ∧ Below w.heap.size w w') := Lib.hid fun w => by rw [hq]; exact div_walk P s HPP.out (by omega) hs0 w
      generalize P % s = rm at *
      have HN := Lib.hid (show nxN t k s l = min q l by unfold nxN; rw [if_neg hov, hq, hPe])
      clear hq hPe hov ho2 hP
      obtain ⟨K2_0, K2_1, K2_2, K2_3, K2_f, K2_z⟩ := cells4 K2.out
      go_wp2_with fail
      go_region_with (first | (go_at_call 55; refine (cof.out _).mono ?_; rintro e wx ⟨rfl, hbx⟩; have hSx := below_next (w := w) (by repeat' (first | (with_reducible exact Below.refl _ _) | (with_reducible assumption) | (with_reducible refine below_alloc ?_ _) | (with_reducible refine Below.drew ?_) | (with_reducible refine below_drewN ?_ _) | (with_reducible refine Below.setCell ?_ ?_ _) | go_size)) hbx; have hzx := hSx.size; have X0 := Lib.hid (below_keep hbx K0.out); obtain ⟨X0_0, X0_1, X0_2, X0_3, X0_f, X0_z⟩ := cells4 X0.out; have X1 := Lib.hid (below_keep hbx K1.out); obtain ⟨X1_0, X1_1, X1_2, X1_3, X1_f, X1_z⟩ := cells4 X1.out; have X2 := Lib.hid (below_keep hbx K2.out); obtain ⟨X2_0, X2_1, X2_2, X2_3, X2_f, X2_z⟩ := cells4 X2.out) | (go_at_call 61; refine (cdv.out _).mono ?_; rintro e wy ⟨rfl, hby⟩; have hSy := below_next (w := w) (by repeat' (first | (with_reducible exact Below.refl _ _) | (with_reducible assumption) | (with_reducible refine below_alloc ?_ _) | (with_reducible refine Below.drew ?_) | (with_reducible refine below_drewN ?_ _) | (with_reducible refine Below.setCell ?_ ?_ _) | go_size)) hby; have hzy := hSy.size; have Y0 := Lib.hid (below_keep hby X0.out); obtain ⟨Y0_0, Y0_1, Y0_2, Y0_3, Y0_f, Y0_z⟩ := cells4 Y0.out; have Y1 := Lib.hid (below_keep hby X1.out); obtain ⟨Y1_0, Y1_1, Y1_2, Y1_3, Y1_f, Y1_z⟩ := cells4 Y1.out; have Y2 := Lib.hid (below_keep hby X2.out); obtain ⟨Y2_0, Y2_1, Y2_2, Y2_3, Y2_f, Y2_z⟩ := cells4 Y2.out))
      all_goals
        clear ew
        have hn1 := hz.out
        have hn2 := hz2.out
        go_wp2_with fail
        refine (cmp_any q l HQ.out HL.out _).mono ?_
        rintro e w5 ⟨rfl, hb5⟩
        have K0 := Lib.hid (below_keep hb5 ((set4_other _ _ _ _ (by have := hz.out; have := hz2.out; omega)).trans Y0.out)); have K1 := Lib.hid (below_keep hb5 (set4 _ _ _ _ Y1.out))
        clear X0 X1 X2 Y0 Y1 Y2 X0_0 X0_1 X0_2 X0_3 X0_f X0_z X1_0 X1_1 X1_2 X1_3 X1_f X1_z X2_0 X2_1 X2_2 X2_3 X2_f X2_z Y0_0 Y0_1 Y0_2 Y0_3 Y0_f Y0_z Y1_0 Y1_1 Y1_2 Y1_3 Y1_f Y1_z Y2_0 Y2_1 Y2_2 Y2_3 Y2_f Y2_z hSx hzx hzy hbx hby
        have B5 := below_next (w := w) (by have := hz.out; have := hz2.out; exact (by repeat' (first | (with_reducible exact Below.refl _ _) | (with_reducible assumption) | (with_reducible refine below_alloc ?_ _) | (with_reducible refine Below.drew ?_) | (with_reducible refine below_drewN ?_ _) | (with_reducible refine Below.setCell ?_ ?_ _) | go_size))) hb5
        clear hb5 B
        have B := B5
        clear B5
        obtain ⟨K0_0, K0_1, K0_2, K0_3, K0_f, K0_z⟩ := cells4 K0.out
        obtain ⟨K1_0, K1_1, K1_2, K1_3, K1_f, K1_z⟩ := cells4 K1.out
        by_cases hlx : l < q
        · have hc : 0 < cmpn q l := by unfold cmpn; rw [if_neg (by omega), if_neg (by omega)]; omega
          go_wp2_with fail
          refine (short_any l HL.out _).mono ?_
          rintro e w6 ⟨rfl, hb6⟩
          have B6 := below_next (w := w) (by have := hz.out; have := hz2.out; exact (by repeat' (first | (with_reducible exact Below.refl _ _) | (with_reducible assumption) | (with_reducible refine below_alloc ?_ _) | (with_reducible refine Below.drew ?_) | (with_reducible refine below_drewN ?_ _) | (with_reducible refine Below.setCell ?_ ?_ _) | go_size))) hb6
          clear hb6
          go_wp2_with fail
          exact bodyPost_ret (v := .tuple #[.int .u32 (sht l), .bool true]) (by simp [results, Try.results90, go_sem]) rfl ⟨by rw [HR.out l (by rw [HN.out]; first | omega | (simp; omega))], B6⟩
        · have hc : ¬ 0 < cmpn q l := by unfold cmpn; split <;> (try split) <;> omega
          go_wp2_with fail
          refine (short_any q HQ.out _).mono ?_
          rintro e w6 ⟨rfl, hb6⟩
          have B6 := below_next (w := w) (by have := hz.out; have := hz2.out; exact (by repeat' (first | (with_reducible exact Below.refl _ _) | (with_reducible assumption) | (with_reducible refine below_alloc ?_ _) | (with_reducible refine Below.drew ?_) | (with_reducible refine below_drewN ?_ _) | (with_reducible refine Below.setCell ?_ ?_ _) | go_size))) hb6
          clear hb6
          go_wp2_with fail
          exact bodyPost_ret (v := .tuple #[.int .u32 (sht q), .bool true]) (by simp [results, Try.results90, go_sem]) rfl ⟨by rw [HR.out q (by rw [HN.out]; first | omega | (simp; omega))], B6⟩
  · clear hRok hsp
    have hv := HRN.out hok
    have fin : ∀ wz, Below w.heap.size w wz → Ending.returned (Value.tuple #[.int .u32 0, .bool false]) = Ending.returned R ∧ Below w.heap.size w wz := fun wz hb => ⟨by rw [hv], hb⟩
    have Fin := Lib.hid fin
    clear hv fin hRno HRN
    by_cases h1 : o = true
    · subst h1
      by_cases h2 : should < 1
      · go_wp2_with fail
        exact bodyPost_ret (v := .tuple #[.int .u32 0, .bool false]) (by simp [results, Try.results90, go_sem]) rfl (Fin.out _ (by repeat' (first | (with_reducible exact Below.refl _ _) | (with_reducible assumption) | (with_reducible refine below_alloc ?_ _) | (with_reducible refine Below.drew ?_) | (with_reducible refine below_drewN ?_ _) | (with_reducible refine Below.setCell ?_ ?_ _) | go_size)))
      · have h3 : 1099511627776 < should := by
          have : ¬ (true = true ∧ 1 ≤ should ∧ should ≤ 1099511627776) := hok
          simp at this
          omega
        clear hok
        go_wp2_with fail
        exact bodyPost_ret (v := .tuple #[.int .u32 0, .bool false]) (by simp [results, Try.results90, go_sem]) rfl (Fin.out _ (by repeat' (first | (with_reducible exact Below.refl _ _) | (with_reducible assumption) | (with_reducible refine below_alloc ?_ _) | (with_reducible refine Below.drew ?_) | (with_reducible refine below_drewN ?_ _) | (with_reducible refine Below.setCell ?_ ?_ _) | go_size)))
    · have h2 : o = false := by simpa using h1
      subst h2
      clear hok h1
      go_wp2_with fail
      exact bodyPost_ret (v := .tuple #[.int .u32 0, .bool false]) (by simp [results, Try.results90, go_sem]) rfl (Fin.out _ (by repeat' (first | (with_reducible exact Below.refl _ _) | (with_reducible assumption) | (with_reducible refine below_alloc ?_ _) | (with_reducible refine Below.drew ?_) | (with_reducible refine below_drewN ?_ _) | (with_reducible refine Below.setCell ?_ ?_ _) | go_size)))
end Go.Proofs.Ytnbppbnjkmopeaa
