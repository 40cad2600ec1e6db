/- The bytes of a number: the plain laws of FromID and ID. No condition. -/
import Derived.Test.YtnbppbnjkmopeaaIdBase
import Derived.Test.YtnbppbnjkmopeaaNumAr
import Derived.Test.YtnbppbnjkmopeaaShPlain
namespace Go.Proofs.Ytnbppbnjkmopeaa

theorem cell_at {w : World} {g n k : Nat} (h : w.heap[g]? = some (nblk n)) (hk : k < 4) : w.cell? ⟨g, k, none⟩ = some (.int .u64 (lw n k)) := by
  obtain ⟨c0, c1, c2, c3, -, -⟩ := cells4 h
  match k, hk with
  | 0, _ => exact c0
  | 1, _ => exact c1
  | 2, _ => exact c2
  | 3, _ => exact c3
theorem lw_low (n m i : Nat) (h : 64 * (i + 1) ≤ m) : lw (n % 2 ^ m) i = lw n i := by
  unfold lw
  congr 1
  obtain ⟨d, rfl⟩ := Nat.exists_eq_add_of_le (show 64 * i ≤ m by omega)
  rw [Nat.pow_add, Nat.mod_mul_right_div_self, Nat.mod_mod_of_dvd _ (Nat.pow_dvd_pow 2 (by omega))]
theorem lw_high (n m i : Nat) (h : m ≤ 64 * i) : lw (n % 2 ^ m) i = 0 := by
  unfold lw
  have h1 : n % 2 ^ m < 2 ^ (64 * i) := Nat.lt_of_lt_of_le (Nat.mod_lt _ (Nat.two_pow_pos m)) (Nat.pow_le_pow_right (by omega) h)
  rw [Nat.div_eq_of_lt h1]; rfl
theorem lw_part (n j s : Nat) (hs : s ≤ 64) : lw (n % 2 ^ (64 * j + s)) j = ((n / 2 ^ (64 * j) % 2 ^ s : Nat) : Int) := by
  unfold lw
  congr 1
  rw [Nat.pow_add, Nat.mod_mul_right_div_self]
  exact Nat.mod_eq_of_lt (Nat.lt_of_lt_of_le (Nat.mod_lt _ (Nat.two_pow_pos s)) (Nat.pow_le_pow_right (by omega) hs))
theorem from_word (n k : Nat) :
    bits BinOp.or IntKind.u64 (lw (n % 2 ^ (8 * k)) (k / 8)) (IntKind.u64.wrap (lb n k * 2 ^ (8 * (k % 8)))) = lw (n % 2 ^ (8 * (k + 1))) (k / 8) := by
  obtain ⟨j, hj⟩ : ∃ j, j = k / 8 := ⟨_, rfl⟩
  obtain ⟨s, hs⟩ : ∃ s, s = 8 * (k % 8) := ⟨_, rfl⟩
  rw [← hj, ← hs, show 8 * k = 64 * j + s by omega, show 8 * (k + 1) = 64 * j + (s + 8) by omega, lw_part _ _ _ (by omega), lw_part _ _ _ (by omega)]
  have e : lb n k = ((n / 2 ^ (64 * j) / 2 ^ s % 256 : Nat) : Int) := by
    unfold lb
    rw [show 8 * k = 64 * j + s by omega, Nat.pow_add, Nat.div_div_eq_div_mul]
  rw [e]
  generalize n / 2 ^ (64 * j) = N
  rw [wrap_mul]
  have hb : N / 2 ^ s % 256 < 256 := Nat.mod_lt _ (by omega)
  have hp : 0 < 2 ^ s := Nat.two_pow_pos s
  have hA : N % 2 ^ s < 2 ^ s := Nat.mod_lt _ hp
  have h56 : 2 ^ s ≤ 2 ^ 56 := Nat.pow_le_pow_right (by omega) (by omega)
  have hm : N / 2 ^ s % 256 * 2 ^ s ≤ 255 * 2 ^ s := Nat.mul_le_mul_right _ (by omega)
  rw [Nat.mod_eq_of_lt (show N / 2 ^ s % 256 * 2 ^ s < 18446744073709551616 by omega), bits_or_u64_nat _ _ (by omega) (by omega), Nat.or_comm, nat_join s _ _ (Nat.mul_mod_left _ _) hA,
    Nat.pow_add, Nat.mod_mul, Nat.add_comm, Nat.mul_comm (2 ^ s)]
/-- one byte more -/
theorem from_step (n k : Nat) (hk : k < 32) {w : World} {g : Nat} (h : w.heap[g]? = some (nblk (n % 2 ^ (8 * k)))) :
    (w.setCell ⟨g, k / 8, none⟩ (.int .u64 (bits BinOp.or IntKind.u64 (lw (n % 2 ^ (8 * k)) (k / 8)) (IntKind.u64.wrap (lb n k * 2 ^ (8 * (k % 8))))))).heap[g]? = some (nblk (n % 2 ^ (8 * (k + 1)))) := by
  rw [from_word n k, heap_setCell_same w g (k / 8) _ _ _ h]
  have ho : ∀ i, i < 4 → i ≠ k / 8 → lw (n % 2 ^ (8 * k)) i = lw (n % 2 ^ (8 * (k + 1))) i := by
    intro i hi hne
    by_cases hl : i < k / 8
    · rw [lw_low _ _ _ (by omega), lw_low _ _ _ (by omega)]
    · rw [lw_high _ _ _ (by omega), lw_high _ _ _ (by omega)]
  have hc : k / 8 = 0 ∨ k / 8 = 1 ∨ k / 8 = 2 ∨ k / 8 = 3 := by omega
  rcases hc with e | e | e | e <;> rw [e] at ho ⊢ <;> unfold nblk
  · rw [ho 1 (by omega) (by omega), ho 2 (by omega) (by omega), ho 3 (by omega) (by omega)]; rfl
  · rw [ho 0 (by omega) (by omega), ho 2 (by omega) (by omega), ho 3 (by omega) (by omega)]; rfl
  · rw [ho 0 (by omega) (by omega), ho 1 (by omega) (by omega), ho 3 (by omega) (by omega)]; rfl
  · rw [ho 0 (by omega) (by omega), ho 1 (by omega) (by omega), ho 2 (by omega) (by omega)]; rfl

theorem lb_low (n m i : Nat) (h : 8 * (i + 1) ≤ m) : lb (n % 2 ^ m) i = lb n i := by
  unfold lb
  congr 1
  obtain ⟨d, rfl⟩ := Nat.exists_eq_add_of_le (show 8 * i ≤ m by omega)
  have e : (256 : Nat) = 2 ^ 8 := rfl
  rw [Nat.pow_add, Nat.mod_mul_right_div_self, e, Nat.mod_mod_of_dvd _ (Nat.pow_dvd_pow 2 (by omega))]
theorem lb_high (n m i : Nat) (h : m ≤ 8 * i) : lb (n % 2 ^ m) i = 0 := by
  unfold lb
  have h1 : n % 2 ^ m < 2 ^ (8 * i) := Nat.lt_of_lt_of_le (Nat.mod_lt _ (Nat.two_pow_pos m)) (Nat.pow_le_pow_right (by omega) h)
  rw [Nat.div_eq_of_lt h1]; rfl
/-- a byte out of a word -/
theorem id_byte (n k : Nat) : (lw n (k / 8)).toNat / 2 ^ (8 * (k % 8)) % 256 = n / 2 ^ (8 * k) % 256 := by
  unfold lw
  rw [Int.toNat_natCast]
  obtain ⟨j, hj⟩ : ∃ j, j = k / 8 := ⟨_, rfl⟩
  obtain ⟨s, hs⟩ : ∃ s, s = 8 * (k % 8) := ⟨_, rfl⟩
  rw [← hj, ← hs, show 8 * k = 64 * j + s by omega, Nat.pow_add, ← Nat.div_div_eq_div_mul]
  generalize n / 2 ^ (64 * j) = N
  obtain ⟨d, hd⟩ := Nat.exists_eq_add_of_le (show s + 8 ≤ 64 by omega)
  have e : (256 : Nat) = 2 ^ 8 := rfl
  rw [hd, Nat.add_assoc, Nat.pow_add 2 s, Nat.mod_mul_right_div_self, e, Nat.mod_mod_of_dvd _ (Nat.pow_dvd_pow 2 (by omega))]
theorem id_byteI (n k : Nat) : lw n (k / 8) / 2 ^ (8 * (k % 8)) % 256 = lb n k := by
  have h := id_byte n k
  have e : lw n (k / 8) = (((lw n (k / 8)).toNat : Nat) : Int) := by have := lw_0 n (k / 8); omega
  unfold lb
  rw [e, ← h]
  simp
/-- one byte more -/
theorem id_step (n k : Nat) {w : World} {g : Nat} (h : w.heap[g]? = some (iblk (n % 2 ^ (8 * k)))) :
    (w.setCell ⟨g, k, none⟩ (.int .u8 (lb n k))).heap[g]? = some (iblk (n % 2 ^ (8 * (k + 1)))) := by
  rw [heap_setCell_same w g k _ _ _ h]
  congr 2
  apply Array.ext_getElem?
  intro i
  by_cases hi : i < 32
  · rw [ids_aget _ _ hi, Array.getElem?_setIfInBounds, ids_size]
    by_cases hik : k = i
    · subst hik
      rw [if_pos rfl, if_pos hi, lb_low _ _ _ (by omega)]
    · rw [if_neg hik, ids_aget _ _ hi]
      by_cases hl : i < k
      · rw [lb_low _ _ _ (by omega), lb_low _ _ _ (by omega)]
      · rw [lb_high _ _ _ (by omega), lb_high _ _ _ (by omega)]
  · rw [Array.getElem?_eq_none (by rw [Array.size_setIfInBounds, ids_size]; omega), Array.getElem?_eq_none (by rw [ids_size]; omega)]
end Go.Proofs.Ytnbppbnjkmopeaa
