/- Plain arithmetic of numbers of 256 bits in four words. No condition. -/
import Derived.Test.YtnbppbnjkmopeaaNumBase
namespace Go.Proofs.Ytnbppbnjkmopeaa
open Go.RowKit

theorem lw_at0 (n : Nat) : lw n 0 = ((n % 18446744073709551616 : Nat) : Int) := by unfold lw; simp
theorem lw_at1 (n : Nat) : lw n 1 = ((n / 18446744073709551616 % 18446744073709551616 : Nat) : Int) := by unfold lw; rfl
theorem lw_at2 (n : Nat) : lw n 2 = ((n / 340282366920938463463374607431768211456 % 18446744073709551616 : Nat) : Int) := by unfold lw; rfl
theorem lw_at3 (n : Nat) : lw n 3 = ((n / 6277101735386680763835789423207666416102355444464034512896 % 18446744073709551616 : Nat) : Int) := by unfold lw; rfl

/-- the number of four words -/
def nOf (x0 x1 x2 x3 : Int) : Nat := (x0 + 18446744073709551616 * x1 + 340282366920938463463374607431768211456 * x2 + 6277101735386680763835789423207666416102355444464034512896 * x3).toNat

theorem nv_mk {x0 x1 x2 x3 : Int} (h0 : 0 ≤ x0) (h1 : 0 ≤ x1) (h2 : 0 ≤ x2) (h3 : 0 ≤ x3) (m0 : x0 < 18446744073709551616) (m1 : x1 < 18446744073709551616) (m2 : x2 < 18446744073709551616) (m3 : x3 < 18446744073709551616) :
    nv (nOf x0 x1 x2 x3) = .agg #[.int .u64 x0, .int .u64 x1, .int .u64 x2, .int .u64 x3] := by
  have e0 : lw (nOf x0 x1 x2 x3) 0 = x0 := by rw [lw_at0]; unfold nOf; omega
  have e1 : lw (nOf x0 x1 x2 x3) 1 = x1 := by rw [lw_at1]; unfold nOf; omega
  have e2 : lw (nOf x0 x1 x2 x3) 2 = x2 := by rw [lw_at2]; unfold nOf; omega
  have e3 : lw (nOf x0 x1 x2 x3) 3 = x3 := by rw [lw_at3]; unfold nOf; omega
  simp only [nv, e0, e1, e2, e3]

theorem nOf_lt {x0 x1 x2 x3 : Int} (h0 : 0 ≤ x0) (h1 : 0 ≤ x1) (h2 : 0 ≤ x2) (h3 : 0 ≤ x3) (m0 : x0 < 18446744073709551616) (m1 : x1 < 18446744073709551616) (m2 : x2 < 18446744073709551616) (m3 : x3 < 18446744073709551616) :
    nOf x0 x1 x2 x3 < 2 ^ 256 := by unfold nOf; omega

theorem nOf_lw {n : Nat} (h : n < 2 ^ 256) : nOf (lw n 0) (lw n 1) (lw n 2) (lw n 3) = n := by
  rw [lw_at0, lw_at1, lw_at2, lw_at3]; unfold nOf; omega

theorem nv_inj {a b : Nat} (ha : a < 2 ^ 256) (hb : b < 2 ^ 256) : (lw a 0 = lw b 0 ∧ lw a 1 = lw b 1 ∧ lw a 2 = lw b 2 ∧ lw a 3 = lw b 3) ↔ a = b := by
  constructor
  · rintro ⟨h0, h1, h2, h3⟩
    rw [← nOf_lw ha, ← nOf_lw hb, h0, h1, h2, h3]
  · rintro rfl; exact ⟨rfl, rfl, rfl, rfl⟩

theorem of_small {n : Int} (h0 : 0 ≤ n) (h1 : n < 18446744073709551616) : nv n.toNat = .agg #[.int .u64 n, .int .u64 0, .int .u64 0, .int .u64 0] := by
  have e : n.toNat = nOf n 0 0 0 := by unfold nOf; simp
  rw [e]
  exact nv_mk h0 (Int.le_refl 0) (Int.le_refl 0) (Int.le_refl 0) h1 (by omega) (by omega) (by omega)

/-- the difference -/
theorem sub_words (a b : Nat) (ha : a < 2 ^ 256) (hb : b < 2 ^ 256) :
    nv ((a + 2 ^ 256 - b) % 2 ^ 256) = .agg #[.int .u64 (subw (lw a 0) (lw b 0) 0), .int .u64 (subw (lw a 1) (lw b 1) (subc (lw a 0) (lw b 0) 0)),
      .int .u64 (subw (lw a 2) (lw b 2) (subc (lw a 1) (lw b 1) (subc (lw a 0) (lw b 0) 0))), .int .u64 (subw (lw a 3) (lw b 3) (subc (lw a 2) (lw b 2) (subc (lw a 1) (lw b 1) (subc (lw a 0) (lw b 0) 0))))] ∧
    (subc (lw a 3) (lw b 3) (subc (lw a 2) (lw b 2) (subc (lw a 1) (lw b 1) (subc (lw a 0) (lw b 0) 0))) != 0) = decide (a < b) := by
  have ea := nOf_lw ha
  have eb := nOf_lw hb
  have x0 := lw_0 a 0; have x1 := lw_0 a 1; have x2 := lw_0 a 2; have x3 := lw_0 a 3
  have y0 := lw_0 b 0; have y1 := lw_0 b 1; have y2 := lw_0 b 2; have y3 := lw_0 b 3
  have X0 := lw_m a 0; have X1 := lw_m a 1; have X2 := lw_m a 2; have X3 := lw_m a 3
  have Y0 := lw_m b 0; have Y1 := lw_m b 1; have Y2 := lw_m b 2; have Y3 := lw_m b 3
  generalize lw a 0 = a0 at *; generalize lw a 1 = a1 at *; generalize lw a 2 = a2 at *; generalize lw a 3 = a3 at *
  generalize lw b 0 = b0 at *; generalize lw b 1 = b1 at *; generalize lw b 2 = b2 at *; generalize lw b 3 = b3 at *
  have c0 : subc a0 b0 0 = 1 ∧ a0 < b0 ∨ subc a0 b0 0 = 0 ∧ ¬ a0 < b0 := by unfold subc; split <;> omega
  generalize e0 : subc a0 b0 0 = k0 at *
  have c1 : subc a1 b1 k0 = 1 ∧ a1 < b1 + k0 ∨ subc a1 b1 k0 = 0 ∧ ¬ a1 < b1 + k0 := by unfold subc; split <;> omega
  generalize e1 : subc a1 b1 k0 = k1 at *
  have c2 : subc a2 b2 k1 = 1 ∧ a2 < b2 + k1 ∨ subc a2 b2 k1 = 0 ∧ ¬ a2 < b2 + k1 := by unfold subc; split <;> omega
  generalize e2 : subc a2 b2 k1 = k2 at *
  have c3 : subc a3 b3 k2 = 1 ∧ a3 < b3 + k2 ∨ subc a3 b3 k2 = 0 ∧ ¬ a3 < b3 + k2 := by unfold subc; split <;> omega
  generalize e3 : subc a3 b3 k2 = k3 at *
  have d0 : subw a0 b0 0 = a0 - b0 + 18446744073709551616 * k0 := by unfold subw; omega
  have d1 : subw a1 b1 k0 = a1 - b1 - k0 + 18446744073709551616 * k1 := by unfold subw; omega
  have d2 : subw a2 b2 k1 = a2 - b2 - k1 + 18446744073709551616 * k2 := by unfold subw; omega
  have d3 : subw a3 b3 k2 = a3 - b3 - k2 + 18446744073709551616 * k3 := by unfold subw; omega
  have A : (a : Int) = a0 + 18446744073709551616 * a1 + 340282366920938463463374607431768211456 * a2 + 6277101735386680763835789423207666416102355444464034512896 * a3 := by unfold nOf at ea; omega
  have B : (b : Int) = b0 + 18446744073709551616 * b1 + 340282366920938463463374607431768211456 * b2 + 6277101735386680763835789423207666416102355444464034512896 * b3 := by unfold nOf at eb; omega
  clear ea eb
  generalize hr0 : subw a0 b0 0 = r0 at *; generalize hr1 : subw a1 b1 k0 = r1 at *; generalize hr2 : subw a2 b2 k1 = r2 at *; generalize hr3 : subw a3 b3 k2 = r3 at *
  have T : r0 + 18446744073709551616 * r1 + 340282366920938463463374607431768211456 * r2 + 6277101735386680763835789423207666416102355444464034512896 * r3 = (a : Int) - b + 115792089237316195423570985008687907853269984665640564039457584007913129639936 * k3 := by
    rw [A, B, d0, d1, d2, d3]; clear c0 c1 c2 c3 A B d0 d1 d2 d3; omega
  have R0 : 0 ≤ r0 ∧ r0 < 18446744073709551616 := by clear T A B; omega
  have R1 : 0 ≤ r1 ∧ r1 < 18446744073709551616 := by clear T A B; omega
  have R2 : 0 ≤ r2 ∧ r2 < 18446744073709551616 := by clear T A B; omega
  have R3 : 0 ≤ r3 ∧ r3 < 18446744073709551616 := by clear T A B; omega
  have K : k3 = 0 ∨ k3 = 1 := by clear T A B; omega
  clear c0 c1 c2 c3 A B d0 d1 d2 d3 hr0 hr1 hr2 hr3 e0 e1 e2 e3
  clear x0 x1 x2 x3 y0 y1 y2 y3 X0 X1 X2 X3 Y0 Y1 Y2 Y3
  have L : k3 = 1 ∧ a < b ∨ k3 = 0 ∧ ¬ a < b := by rcases K with rfl | rfl <;> omega
  constructor
  · have E : (a + 2 ^ 256 - b) % 2 ^ 256 = nOf r0 r1 r2 r3 := by
      unfold nOf
      rw [T]
      rcases L with ⟨rfl, h⟩ | ⟨rfl, h⟩ <;> omega
    rw [E]
    exact nv_mk R0.1 R1.1 R2.1 R3.1 R0.2 R1.2 R2.2 R3.2
  · rcases L with ⟨h, h'⟩ | ⟨h, h'⟩ <;> simp [h, h']

/-- the sum -/
theorem add_words (a b : Nat) (ha : a < 2 ^ 256) (hb : b < 2 ^ 256) :
    nv ((a + b) % 2 ^ 256) = .agg #[.int .u64 (addw (lw a 0) (lw b 0) 0), .int .u64 (addw (lw a 1) (lw b 1) (addc (lw a 0) (lw b 0) 0)),
      .int .u64 (addw (lw a 2) (lw b 2) (addc (lw a 1) (lw b 1) (addc (lw a 0) (lw b 0) 0))), .int .u64 (addw (lw a 3) (lw b 3) (addc (lw a 2) (lw b 2) (addc (lw a 1) (lw b 1) (addc (lw a 0) (lw b 0) 0))))] ∧
    (addc (lw a 3) (lw b 3) (addc (lw a 2) (lw b 2) (addc (lw a 1) (lw b 1) (addc (lw a 0) (lw b 0) 0))) != 0) = decide (2 ^ 256 ≤ a + b) := by
  have ea := nOf_lw ha
  have eb := nOf_lw hb
  have x0 := lw_0 a 0; have x1 := lw_0 a 1; have x2 := lw_0 a 2; have x3 := lw_0 a 3
  have y0 := lw_0 b 0; have y1 := lw_0 b 1; have y2 := lw_0 b 2; have y3 := lw_0 b 3
  have X0 := lw_m a 0; have X1 := lw_m a 1; have X2 := lw_m a 2; have X3 := lw_m a 3
  have Y0 := lw_m b 0; have Y1 := lw_m b 1; have Y2 := lw_m b 2; have Y3 := lw_m b 3
  generalize lw a 0 = a0 at *; generalize lw a 1 = a1 at *; generalize lw a 2 = a2 at *; generalize lw a 3 = a3 at *
  generalize lw b 0 = b0 at *; generalize lw b 1 = b1 at *; generalize lw b 2 = b2 at *; generalize lw b 3 = b3 at *
  have c0 : addc a0 b0 0 = 1 ∧ 18446744073709551616 ≤ a0 + b0 ∨ addc a0 b0 0 = 0 ∧ ¬ 18446744073709551616 ≤ a0 + b0 := by unfold addc; split <;> omega
  generalize e0 : addc a0 b0 0 = k0 at *
  have c1 : addc a1 b1 k0 = 1 ∧ 18446744073709551616 ≤ a1 + b1 + k0 ∨ addc a1 b1 k0 = 0 ∧ ¬ 18446744073709551616 ≤ a1 + b1 + k0 := by unfold addc; split <;> omega
  generalize e1 : addc a1 b1 k0 = k1 at *
  have c2 : addc a2 b2 k1 = 1 ∧ 18446744073709551616 ≤ a2 + b2 + k1 ∨ addc a2 b2 k1 = 0 ∧ ¬ 18446744073709551616 ≤ a2 + b2 + k1 := by unfold addc; split <;> omega
  generalize e2 : addc a2 b2 k1 = k2 at *
  have c3 : addc a3 b3 k2 = 1 ∧ 18446744073709551616 ≤ a3 + b3 + k2 ∨ addc a3 b3 k2 = 0 ∧ ¬ 18446744073709551616 ≤ a3 + b3 + k2 := by unfold addc; split <;> omega
  generalize e3 : addc a3 b3 k2 = k3 at *
  have d0 : addw a0 b0 0 = a0 + b0 - 18446744073709551616 * k0 := by unfold addw; omega
  have d1 : addw a1 b1 k0 = a1 + b1 + k0 - 18446744073709551616 * k1 := by unfold addw; omega
  have d2 : addw a2 b2 k1 = a2 + b2 + k1 - 18446744073709551616 * k2 := by unfold addw; omega
  have d3 : addw a3 b3 k2 = a3 + b3 + k2 - 18446744073709551616 * k3 := by unfold addw; omega
  have A : (a : Int) = a0 + 18446744073709551616 * a1 + 340282366920938463463374607431768211456 * a2 + 6277101735386680763835789423207666416102355444464034512896 * a3 := by unfold nOf at ea; omega
  have B : (b : Int) = b0 + 18446744073709551616 * b1 + 340282366920938463463374607431768211456 * b2 + 6277101735386680763835789423207666416102355444464034512896 * b3 := by unfold nOf at eb; omega
  clear ea eb
  generalize hr0 : addw a0 b0 0 = r0 at *; generalize hr1 : addw a1 b1 k0 = r1 at *; generalize hr2 : addw a2 b2 k1 = r2 at *; generalize hr3 : addw a3 b3 k2 = r3 at *
  have T : r0 + 18446744073709551616 * r1 + 340282366920938463463374607431768211456 * r2 + 6277101735386680763835789423207666416102355444464034512896 * r3 = (a : Int) + b - 115792089237316195423570985008687907853269984665640564039457584007913129639936 * k3 := by
    rw [A, B, d0, d1, d2, d3]; clear c0 c1 c2 c3 A B d0 d1 d2 d3; omega
  have R0 : 0 ≤ r0 ∧ r0 < 18446744073709551616 := by clear T A B; omega
  have R1 : 0 ≤ r1 ∧ r1 < 18446744073709551616 := by clear T A B; omega
  have R2 : 0 ≤ r2 ∧ r2 < 18446744073709551616 := by clear T A B; omega
  have R3 : 0 ≤ r3 ∧ r3 < 18446744073709551616 := by clear T A B; omega
  have K : k3 = 0 ∨ k3 = 1 := by clear T A B; omega
  clear c0 c1 c2 c3 A B d0 d1 d2 d3 hr0 hr1 hr2 hr3 e0 e1 e2 e3
  clear x0 x1 x2 x3 y0 y1 y2 y3 X0 X1 X2 X3 Y0 Y1 Y2 Y3
  have L : k3 = 1 ∧ 2 ^ 256 ≤ a + b ∨ k3 = 0 ∧ ¬ 2 ^ 256 ≤ a + b := by rcases K with rfl | rfl <;> omega
  constructor
  · have E : (a + b) % 2 ^ 256 = nOf r0 r1 r2 r3 := by
      unfold nOf
      rw [T]
      rcases L with ⟨rfl, h⟩ | ⟨rfl, h⟩ <;> omega
    rw [E]
    exact nv_mk R0.1 R1.1 R2.1 R3.1 R0.2 R1.2 R2.2 R3.2
  · rcases L with ⟨h, h'⟩ | ⟨h, h'⟩
    · rw [h, decide_eq_true h']; rfl
    · rw [h, decide_eq_false h']; rfl

/-- the order -/
def cmpn (a b : Nat) : Int := if a < b then -1 else if a = b then 0 else 1
def cmp4 (a0 a1 a2 a3 b0 b1 b2 b3 : Int) : Int := if a3 = b3 then if a2 = b2 then if a1 = b1 then if a0 = b0 then 0 else if a0 < b0 then -1 else 1 else if a1 < b1 then -1 else 1 else if a2 < b2 then -1 else 1 else if a3 < b3 then -1 else 1
theorem cmp_words (a b : Nat) (ha : a < 2 ^ 256) (hb : b < 2 ^ 256) : cmp4 (lw a 0) (lw a 1) (lw a 2) (lw a 3) (lw b 0) (lw b 1) (lw b 2) (lw b 3) = cmpn a b := by
  have ea := nOf_lw ha
  have eb := nOf_lw hb
  have x0 := lw_0 a 0; have x1 := lw_0 a 1; have x2 := lw_0 a 2; have x3 := lw_0 a 3
  have y0 := lw_0 b 0; have y1 := lw_0 b 1; have y2 := lw_0 b 2; have y3 := lw_0 b 3
  have X0 := lw_m a 0; have X1 := lw_m a 1; have X2 := lw_m a 2; have X3 := lw_m a 3
  have Y0 := lw_m b 0; have Y1 := lw_m b 1; have Y2 := lw_m b 2; have Y3 := lw_m b 3
  generalize lw a 0 = a0 at *; generalize lw a 1 = a1 at *; generalize lw a 2 = a2 at *; generalize lw a 3 = a3 at *
  generalize lw b 0 = b0 at *; generalize lw b 1 = b1 at *; generalize lw b 2 = b2 at *; generalize lw b 3 = b3 at *
  have A : (a : Int) = a0 + 18446744073709551616 * a1 + 340282366920938463463374607431768211456 * a2 + 6277101735386680763835789423207666416102355444464034512896 * a3 := by unfold nOf at ea; omega
  have B : (b : Int) = b0 + 18446744073709551616 * b1 + 340282366920938463463374607431768211456 * b2 + 6277101735386680763835789423207666416102355444464034512896 * b3 := by unfold nOf at eb; omega
  clear ea eb ha hb
  have N : ∀ {x y : Int}, x < y → ¬ x = y := fun h => by omega
  have G : ∀ {x y : Int}, y < x → ¬ x = y ∧ ¬ x < y := fun h => by omega
  unfold cmp4 cmpn
  rcases Int.lt_trichotomy a3 b3 with h3 | h3 | h3
  · rw [if_neg (N h3), if_pos h3, if_pos (by omega)]
  · rw [if_pos h3]
    rcases Int.lt_trichotomy a2 b2 with h2 | h2 | h2
    · rw [if_neg (N h2), if_pos h2, if_pos (by omega)]
    · rw [if_pos h2]
      rcases Int.lt_trichotomy a1 b1 with h1 | h1 | h1
      · rw [if_neg (N h1), if_pos h1, if_pos (by omega)]
      · rw [if_pos h1]
        rcases Int.lt_trichotomy a0 b0 with h0 | h0 | h0
        · rw [if_neg (N h0), if_pos h0, if_pos (by omega)]
        · rw [if_pos h0, if_neg (by omega), if_pos (by omega)]
        · rw [if_neg (G h0).1, if_neg (G h0).2, if_neg (by omega), if_neg (by omega)]
      · rw [if_neg (G h1).1, if_neg (G h1).2, if_neg (by omega), if_neg (by omega)]
    · rw [if_neg (G h2).1, if_neg (G h2).2, if_neg (by omega), if_neg (by omega)]
  · rw [if_neg (G h3).1, if_neg (G h3).2, if_neg (by omega), if_neg (by omega)]

/-- all bits turned -/
theorem not_word (x : Int) (h0 : 0 ≤ x) (h1 : x < 18446744073709551616) : bits .xor .u64 IntKind.u64.max x = 18446744073709551615 - x := by
  obtain ⟨X, rfl⟩ := Int.eq_ofNat_of_zero_le h0
  have hm : IntKind.u64.max = ((18446744073709551615 : Nat) : Int) := by decide
  rw [hm, u64_xor_nat _ _ (by omega) (by omega)]
  have : 18446744073709551615 ^^^ X = 18446744073709551615 - X := by
    have e := BitVec.toNat_not (x := BitVec.ofNat 64 X)
    rw [← BitVec.allOnes_xor, BitVec.toNat_xor, BitVec.toNat_allOnes, BitVec.toNat_ofNat, Nat.mod_eq_of_lt (by omega)] at e
    simpa using e
  rw [this]; omega

theorem not_words (a : Nat) (ha : a < 2 ^ 256) : nv (2 ^ 256 - 1 - a) = .agg #[.int .u64 (18446744073709551615 - lw a 0), .int .u64 (18446744073709551615 - lw a 1), .int .u64 (18446744073709551615 - lw a 2), .int .u64 (18446744073709551615 - lw a 3)] := by
  have ea := nOf_lw ha
  have x0 := lw_0 a 0; have x1 := lw_0 a 1; have x2 := lw_0 a 2; have x3 := lw_0 a 3
  have X0 := lw_m a 0; have X1 := lw_m a 1; have X2 := lw_m a 2; have X3 := lw_m a 3
  generalize lw a 0 = a0 at *; generalize lw a 1 = a1 at *; generalize lw a 2 = a2 at *; generalize lw a 3 = a3 at *
  rw [← nv_mk (by omega) (by omega) (by omega) (by omega) (by omega) (by omega) (by omega) (by omega)]
  have : 2 ^ 256 - 1 - a = nOf (18446744073709551615 - a0) (18446744073709551615 - a1) (18446744073709551615 - a2) (18446744073709551615 - a3) := by unfold nOf at *; omega
  rw [this]

/-- how many bits -/
theorem libLen (x : Nat) (h : x < 2 ^ 64) : Lib.bitLen x = bitLen x := by
  induction x using Nat.strongRecOn with
  | _ x ih =>
    by_cases h0 : x = 0
    · subst h0; decide
    · rw [Lib.bitLen_half x h0 h, ih (x / 2) (by omega) (by omega)]
      by_cases h1 : x / 2 ^ 1 = 0
      · have : x = 1 := by omega
        subst this; decide
      · rw [bitLen_shift x 1 h1]
theorem len_words (a : Nat) (ha : a < 2 ^ 256) :
    (lw a 3 ≠ 0 → bitLen a = 192 + bitLen (lw a 3).toNat) ∧ (lw a 3 = 0 → lw a 2 ≠ 0 → bitLen a = 128 + bitLen (lw a 2).toNat) ∧
    (lw a 3 = 0 → lw a 2 = 0 → lw a 1 ≠ 0 → bitLen a = 64 + bitLen (lw a 1).toNat) ∧ (lw a 3 = 0 → lw a 2 = 0 → lw a 1 = 0 → bitLen a = bitLen (lw a 0).toNat) := by
  rw [lw_at0, lw_at1, lw_at2, lw_at3]
  refine ⟨fun h => ?_, fun h3 h => ?_, fun h3 h2 h => ?_, fun h3 h2 h1 => ?_⟩
  · have e : a / 2 ^ 192 ≠ 0 := by omega
    rw [bitLen_shift a 192 e]; congr 2; omega
  · have e : a / 2 ^ 128 ≠ 0 := by omega
    rw [bitLen_shift a 128 e]; congr 2; omega
  · have e : a / 2 ^ 64 ≠ 0 := by omega
    rw [bitLen_shift a 64 e]; congr 2; omega
  · congr 1; omega

/-- '==' of two numbers -/
theorem eq_num (a b : Nat) (ha : a < 2 ^ 256) (hb : b < 2 ^ 256) (w : World) : (Op.equalIn 10000 47 (nv a) (nv b)).run Try.prog w = .ok (decide (a = b)) w := by
  have h := run_equalIn_ints (P := Try.prog) w 9998 47 45 4 .u64 (by kernel_rfl) (by kernel_rfl) (fun _ => by kernel_rfl) [lw a 0, lw a 1, lw a 2, lw a 3] [lw b 0, lw b 1, lw b 2, lw b 3] rfl rfl
  have e : ([lw a 0, lw a 1, lw a 2, lw a 3] == [lw b 0, lw b 1, lw b 2, lw b 3]) = decide (a = b) := by
    rw [Bool.eq_iff_iff, beq_iff_eq, decide_eq_true_iff, ← nv_inj ha hb]
    simp
  rw [e] at h
  exact h
theorem nv_zero : nv 0 = .agg #[.int .u64 0, .int .u64 0, .int .u64 0, .int .u64 0] := rfl
theorem eq_num0 (a : Nat) (ha : a < 2 ^ 256) (w : World) : (Op.equalIn 10000 47 (nv a) (.agg #[.int .u64 0, .int .u64 0, .int .u64 0, .int .u64 0])).run Try.prog w = .ok (decide (a = 0)) w :=
  eq_num a 0 ha (by omega) w
end Go.Proofs.Ytnbppbnjkmopeaa
