/- Reading the short form again: how near it is to the number. No condition. -/
import Derived.Test.YtdffblfofdniaaaBtShort
import Derived.Test.YtdffblfofdniaaaBtWork
namespace Go.Proofs.Ytdffblfofdniaaa

/-- how many of the lowest bits the short form drops -/
def dropN (n : Nat) : Nat := 8 * (bitLen n / 8 - 2)
/-- what the short form means -/
def rnd (n : Nat) : Nat := n / 2 ^ dropN n * 2 ^ dropN n

theorem two_le_of {n : Nat} (h : n ≠ 0) : 2 ^ (bitLen n - 1) ≤ n := (bitLen_spec n).2 h
theorem bitLen_of {n k : Nat} (h1 : 2 ^ k ≤ n) (h2 : n < 2 ^ (k + 1)) : bitLen n = k + 1 := by
  have h0 : n ≠ 0 := by have := Nat.two_pow_pos k; omega
  have a := lt_two_bitLen n
  have b := two_le_of h0
  have c := bitLen_pos h0
  have d : k < bitLen n := (Nat.pow_lt_pow_iff_right (by omega : 1 < 2)).1 (Nat.lt_of_le_of_lt h1 a)
  have e : bitLen n - 1 < k + 1 := (Nat.pow_lt_pow_iff_right (by omega : 1 < 2)).1 (Nat.lt_of_le_of_lt b h2)
  omega
theorem bitLen_mono {a b : Nat} (h : a ≤ b) : bitLen a ≤ bitLen b := by
  by_cases h0 : a = 0
  · subst h0; exact Nat.zero_le _
  · have h1 := two_le_of h0
    have h2 := lt_two_bitLen b
    have d : bitLen a - 1 < bitLen b := (Nat.pow_lt_pow_iff_right (by omega : 1 < 2)).1 (by omega)
    omega
theorem rnd_le (n : Nat) : rnd n ≤ n := Nat.div_mul_le_self _ _
theorem dropN_lt {n : Nat} (h : n ≠ 0) : dropN n < bitLen n := by have := bitLen_pos h; unfold dropN; omega
theorem rnd_ge {n : Nat} (h : n ≠ 0) : 2 ^ (bitLen n - 1) ≤ rnd n := by
  have hd := dropN_lt h
  have h1 := two_le_of h
  unfold rnd
  generalize dropN n = d at *
  obtain ⟨e, he⟩ := Nat.exists_eq_add_of_le (show d ≤ bitLen n - 1 by omega)
  rw [he, Nat.pow_add, Nat.mul_comm]
  apply Nat.mul_le_mul_right
  rw [Nat.le_div_iff_mul_le (Nat.two_pow_pos d), Nat.mul_comm, ← Nat.pow_add, ← he]
  exact h1
theorem rnd_bitLen (n : Nat) : bitLen (rnd n) = bitLen n := by
  by_cases h : n = 0
  · subst h; rfl
  · have h1 := rnd_ge h
    have h2 := rnd_le n
    have h3 := lt_two_bitLen n
    have h4 := bitLen_pos h
    have := bitLen_of (n := rnd n) (k := bitLen n - 1) h1 (by rw [show bitLen n - 1 + 1 = bitLen n by omega]; omega)
    omega
theorem rnd_rnd (n : Nat) : rnd (rnd n) = rnd n := by
  have e : dropN (rnd n) = dropN n := by unfold dropN; rw [rnd_bitLen]
  have h : rnd (rnd n) = rnd n / 2 ^ dropN (rnd n) * 2 ^ dropN (rnd n) := rfl
  rw [h, e]
  unfold rnd
  rw [Nat.mul_div_cancel _ (Nat.two_pow_pos _)]
theorem rnd_mono {a b : Nat} (h : a ≤ b) : rnd a ≤ rnd b := by
  by_cases h0 : a = 0
  · subst h0; have : rnd 0 = 0 := rfl; omega
  · have hb : b ≠ 0 := by omega
    by_cases e : bitLen a = bitLen b
    · unfold rnd
      have : dropN a = dropN b := by unfold dropN; rw [e]
      rw [this]
      exact Nat.mul_le_mul_right _ (Nat.div_le_div_right h)
    · have h1 := bitLen_mono h
      have h2 := rnd_ge hb
      have h3 := lt_two_bitLen a
      have h4 := rnd_le a
      have h5 : 2 ^ bitLen a ≤ 2 ^ (bitLen b - 1) := Nat.pow_le_pow_right (by omega) (by omega)
      omega
theorem rnd_near (n : Nat) : n < rnd n + 2 ^ dropN n := by
  unfold rnd
  have := Nat.div_add_mod n (2 ^ dropN n)
  have h2 := Nat.mod_lt n (Nat.two_pow_pos (dropN n))
  rw [Nat.mul_comm] at this
  omega

/-- the mantissa -/
def mant (n : Nat) : Nat := if bitLen n / 8 ≤ 2 then n * 2 ^ (8 * (2 - bitLen n / 8)) else n / 2 ^ (8 * (bitLen n / 8 - 2))
theorem mant_lt (n : Nat) : mant n < 8388608 := by
  have h := lt_two_bitLen n
  unfold mant
  generalize bitLen n = L at *
  split
  · calc n * 2 ^ (8 * (2 - L / 8)) < 2 ^ L * 2 ^ (8 * (2 - L / 8)) := Nat.mul_lt_mul_of_pos_right h (Nat.two_pow_pos _)
      _ = 2 ^ (L + 8 * (2 - L / 8)) := (Nat.pow_add _ _ _).symm
      _ ≤ 2 ^ 23 := Nat.pow_le_pow_right (by omega) (by omega)
  · rw [Nat.div_lt_iff_lt_mul (Nat.two_pow_pos _)]
    calc n < 2 ^ L := h
      _ ≤ 2 ^ (23 + 8 * (L / 8 - 2)) := Nat.pow_le_pow_right (by omega) (by omega)
      _ = 8388608 * 2 ^ (8 * (L / 8 - 2)) := by rw [Nat.pow_add]
theorem mant_pos {n : Nat} (h0 : n ≠ 0) : mant n ≠ 0 := by
  have h := two_le_of h0
  have hp := bitLen_pos h0
  unfold mant
  generalize bitLen n = L at *
  split
  · have := Nat.mul_le_mul (Nat.le_refl n) (Nat.two_pow_pos (8 * (2 - L / 8)))
    have h1 : 0 < n * 2 ^ (8 * (2 - L / 8)) := Nat.mul_pos (by omega) (Nat.two_pow_pos _)
    omega
  · have : 1 ≤ n / 2 ^ (8 * (L / 8 - 2)) := by
      rw [Nat.le_div_iff_mul_le (Nat.two_pow_pos _), Nat.one_mul]
      exact Nat.le_trans (Nat.pow_le_pow_right (by omega) (by omega)) h
    omega
theorem shw_top {n : Nat} (h0 : n ≠ 0) : shw n / 8388608 % 2 = (if bitLen n % 8 = 0 then 1 else 0) ∧ (if bitLen n % 8 = 0 then shw n / 256 else shw n) = mant n := by
  have h1 := lt_two_bitLen n
  have h2 := two_le_of h0
  have hp := bitLen_pos h0
  unfold shw mant
  generalize bitLen n = L at *
  by_cases h8 : L % 8 = 0
  · rw [if_pos h8, if_pos h8]
    have ez : (L + 7) / 8 = L / 8 := by omega
    rw [ez]
    generalize hq : L / 8 = q at *
    by_cases h3 : q ≤ 3
    · rw [if_pos h3]
      have hge : 2 ^ 23 ≤ n * 2 ^ (8 * (3 - q)) := by
        calc 2 ^ 23 = 2 ^ (L - 1) * 2 ^ (8 * (3 - q)) := by rw [← Nat.pow_add]; congr 1; omega
          _ ≤ n * 2 ^ (8 * (3 - q)) := Nat.mul_le_mul_right _ h2
      have hlt : n * 2 ^ (8 * (3 - q)) < 2 ^ 24 := by
        calc n * 2 ^ (8 * (3 - q)) < 2 ^ L * 2 ^ (8 * (3 - q)) := Nat.mul_lt_mul_of_pos_right h1 (Nat.two_pow_pos _)
          _ = 2 ^ 24 := by rw [← Nat.pow_add]; congr 1; omega
      refine ⟨by omega, ?_⟩
      by_cases h4 : q ≤ 2
      · rw [if_pos h4, show 8 * (3 - q) = 8 * (2 - q) + 8 by omega, Nat.pow_add, ← Nat.mul_assoc]; omega
      · have : q = 3 := by omega
        subst this; rw [if_neg (by omega)]; simp
    · rw [if_neg h3, if_neg (by omega)]
      have hge : 2 ^ 23 ≤ n / 2 ^ (8 * (q - 3)) := by
        rw [Nat.le_div_iff_mul_le (Nat.two_pow_pos _), ← Nat.pow_add]
        exact Nat.le_trans (Nat.pow_le_pow_right (by omega) (by omega)) h2
      have hlt : n / 2 ^ (8 * (q - 3)) < 2 ^ 24 := by
        rw [Nat.div_lt_iff_lt_mul (Nat.two_pow_pos _), ← Nat.pow_add]
        exact Nat.lt_of_lt_of_le h1 (Nat.pow_le_pow_right (by omega) (by omega))
      refine ⟨by omega, ?_⟩
      rw [show 8 * (q - 2) = 8 * (q - 3) + 8 by omega, Nat.pow_add, ← Nat.div_div_eq_div_mul]
  · rw [if_neg h8, if_neg h8]
    have ez : (L + 7) / 8 = L / 8 + 1 := by omega
    rw [ez]
    generalize hq : L / 8 = q at *
    by_cases h3 : q + 1 ≤ 3
    · rw [if_pos h3, if_pos (by omega), show 3 - (q + 1) = 2 - q by omega]
      have hlt : n * 2 ^ (8 * (2 - q)) < 2 ^ 23 := by
        calc n * 2 ^ (8 * (2 - q)) < 2 ^ L * 2 ^ (8 * (2 - q)) := Nat.mul_lt_mul_of_pos_right h1 (Nat.two_pow_pos _)
          _ = 2 ^ (L + 8 * (2 - q)) := (Nat.pow_add _ _ _).symm
          _ ≤ 2 ^ 23 := Nat.pow_le_pow_right (by omega) (by omega)
      exact ⟨by omega, rfl⟩
    · rw [if_neg h3, if_neg (by omega), show q + 1 - 3 = q - 2 by omega]
      have hlt : n / 2 ^ (8 * (q - 2)) < 2 ^ 23 := by
        rw [Nat.div_lt_iff_lt_mul (Nat.two_pow_pos _), ← Nat.pow_add]
        exact Nat.lt_of_lt_of_le h1 (Nat.pow_le_pow_right (by omega) (by omega))
      generalize n / 2 ^ (8 * (q - 2)) = y at *
      exact ⟨by omega, rfl⟩
/-- the short form by its parts -/
theorem sht_eq {n : Nat} (h0 : n ≠ 0) : sht n = (bitLen n / 8 + 1) * 16777216 + mant n := by
  obtain ⟨h1, h2⟩ := shw_top h0
  unfold sht
  rw [h1]
  by_cases h8 : bitLen n % 8 = 0
  · rw [if_pos h8] at h2
    rw [if_pos h8, if_pos rfl, h2]; omega
  · rw [if_neg h8] at h2
    rw [if_neg h8, if_neg (by omega), h2]; omega
theorem sht_zero : sht 0 = 0 := by decide
theorem sht_lt (n : Nat) (hn : n < 2 ^ 256) : sht n < 4294967296 := by
  by_cases h0 : n = 0
  · subst h0; rw [sht_zero]; omega
  · rw [sht_eq h0]
    have := mant_lt n
    have h2 := bitLen_num n hn
    omega
theorem tgt_sht {n : Nat} (h0 : n ≠ 0) (hn : n < 2 ^ 256) : tgt (sht n) = (rnd n, true) := by
  have hm := mant_lt n
  have hm0 := mant_pos h0
  have hL := bitLen_num n hn
  have hp := bitLen_pos h0
  have e := sht_eq h0
  have e1 : sht n % 8388608 = mant n := by rw [e]; omega
  have e2 : sht n / 8388608 % 2 = 0 := by rw [e]; omega
  have e3 : sht n / 16777216 = bitLen n / 8 + 1 := by rw [e]; omega
  have ml := lt_two_bitLen n
  by_cases h3 : bitLen n / 8 + 1 ≤ 3
  · have hr : mant n / 2 ^ (8 * (3 - (bitLen n / 8 + 1))) = rnd n := by
      unfold mant rnd dropN
      rw [if_pos (by omega), show 3 - (bitLen n / 8 + 1) = 2 - bitLen n / 8 by omega, Nat.mul_div_cancel _ (Nat.two_pow_pos _), show bitLen n / 8 - 2 = 0 by omega]; simp
    rw [tgt_small (by rw [e1]; exact hm0) (by omega) (by rw [e3]; exact h3), e1, e3, hr]
    have : rnd n ≠ 0 := by have := rnd_ge h0; have := Nat.two_pow_pos (bitLen n - 1); omega
    simp [this]
  · have hme : mant n * 2 ^ (8 * (bitLen n / 8 + 1 - 3)) = rnd n := by
      unfold mant rnd dropN
      rw [if_neg (by omega), show bitLen n / 8 + 1 - 3 = bitLen n / 8 - 2 by omega]
    have hml : bitLen (mant n) ≤ bitLen n - 8 * (bitLen n / 8 - 2) := by
      have h7 : mant n < 2 ^ (bitLen n - 8 * (bitLen n / 8 - 2)) := by
        unfold mant
        rw [if_neg (by omega), Nat.div_lt_iff_lt_mul (Nat.two_pow_pos _), ← Nat.pow_add, show bitLen n - 8 * (bitLen n / 8 - 2) + 8 * (bitLen n / 8 - 2) = bitLen n by omega]
        exact ml
      have h8 := two_le_of hm0
      have h9 : bitLen (mant n) - 1 < bitLen n - 8 * (bitLen n / 8 - 2) := (Nat.pow_lt_pow_iff_right (by omega : 1 < 2)).1 (Nat.lt_of_le_of_lt h8 h7)
      omega
    rw [tgt_fits (by rw [e1]; exact hm0) (by omega) (by rw [e3]; exact h3) (by rw [e1, e3]; omega), e1, e3, hme]
theorem tgt_zero0 : tgt 0 = (0, false) := by decide
theorem tgt_sht1 (n : Nat) (hn : n < 2 ^ 256) : (tgt (sht n)).1 = rnd n := by
  by_cases h0 : n = 0
  · subst h0; rw [sht_zero, tgt_zero0]; rfl
  · rw [tgt_sht h0 hn]
theorem sht_rnd {n : Nat} (h0 : n ≠ 0) : sht (rnd n) = sht n := by
  have h1 : rnd n ≠ 0 := by have := rnd_ge h0; have := Nat.two_pow_pos (bitLen n - 1); omega
  rw [sht_eq h1, sht_eq h0, rnd_bitLen]
  congr 1
  unfold mant
  rw [rnd_bitLen]
  by_cases h3 : bitLen n / 8 ≤ 2
  · rw [if_pos h3, if_pos h3]
    unfold rnd dropN
    rw [show bitLen n / 8 - 2 = 0 by omega]; simp
  · rw [if_neg h3, if_neg h3]
    unfold rnd dropN
    rw [Nat.mul_div_cancel _ (Nat.two_pow_pos _)]
end Go.Proofs.Ytdffblfofdniaaa
