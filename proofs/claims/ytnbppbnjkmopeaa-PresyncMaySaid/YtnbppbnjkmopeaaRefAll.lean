/- Plain laws of bits: sums, differences, order, shifts, words. No program in sight. No condition. tallystickref02.at, Of: bits of a number. No condition. tallystickref02.Add, Sub: sums and differences of bits. No condition. tallystickref02.Shift, Less. No condition. tallystickref02.Words: bits as four words. No condition. tallystickref02.Mul. No condition. tallystickref02.Div. No condition. The document's calls over numbers' own bits. No condition. -/
import Derived.Test.YtnbppbnjkmopeaaNumPlain
import Derived.Test.YtnbppbnjkmopeaaRefBase
import Derived.Test.YtnbppbnjkmopeaaIdPlain
import Derived.Test.YtnbppbnjkmopeaaNumAr
namespace Go.Proofs.Ytnbppbnjkmopeaa

/-- bit k as a number -/
theorem bit01 (n k : Nat) : (n.testBit k = true ∧ n / 2 ^ k % 2 = 1) ∨ (n.testBit k = false ∧ n / 2 ^ k % 2 = 0) := by
  rw [Nat.testBit_eq_decide_div_mod_eq]
  rcases Nat.mod_two_eq_zero_or_one (n / 2 ^ k) with h | h <;> rw [h] <;> simp
theorem mod_next (n k : Nat) : n % 2 ^ (k + 1) = n % 2 ^ k + 2 ^ k * (n / 2 ^ k % 2) := by rw [Nat.pow_succ, Nat.mod_mul]
theorem add_over (n m P : Nat) (hP : 0 < P) : (n + m) / P = n / P + m / P + if P ≤ n % P + m % P then 1 else 0 := by
  have h1 := Nat.div_add_mod n P
  have h2 := Nat.div_add_mod m P
  have ha := Nat.mod_lt n hP
  have hb := Nat.mod_lt m hP
  have e : n + m = (n % P + m % P) + P * (n / P + m / P) := by rw [Nat.mul_add]; omega
  rw [e, Nat.add_mul_div_left _ _ hP]
  split
  · rename_i h
    have : (n % P + m % P) / P = 1 := by rw [Nat.div_eq_sub_div hP h, Nat.div_eq_of_lt (by omega)]
    omega
  · rename_i h
    rw [Nat.div_eq_of_lt (by omega)]; omega
theorem add_bit (n m k : Nat) : (n + m).testBit k = ((n.testBit k != m.testBit k) != decide (2 ^ k ≤ n % 2 ^ k + m % 2 ^ k)) := by
  have h := add_over n m (2 ^ k) (Nat.two_pow_pos k)
  have h0 := bit01 (n + m) k
  have h1 := bit01 n k
  have h2 := bit01 m k
  by_cases hc : 2 ^ k ≤ n % 2 ^ k + m % 2 ^ k
  · rw [if_pos hc] at h
    rw [decide_eq_true hc]
    rcases h0 with ⟨e0, f0⟩ | ⟨e0, f0⟩ <;> rcases h1 with ⟨e1, f1⟩ | ⟨e1, f1⟩ <;> rcases h2 with ⟨e2, f2⟩ | ⟨e2, f2⟩ <;> rw [e0, e1, e2] <;> first | rfl | omega
  · rw [if_neg hc] at h
    rw [decide_eq_false hc]
    rcases h0 with ⟨e0, f0⟩ | ⟨e0, f0⟩ <;> rcases h1 with ⟨e1, f1⟩ | ⟨e1, f1⟩ <;> rcases h2 with ⟨e2, f2⟩ | ⟨e2, f2⟩ <;> rw [e0, e1, e2] <;> first | rfl | omega
theorem carry_step (n m k : Nat) : decide (2 ^ (k + 1) ≤ n % 2 ^ (k + 1) + m % 2 ^ (k + 1)) =
    (n.testBit k && m.testBit k || decide (2 ^ k ≤ n % 2 ^ k + m % 2 ^ k) && (n.testBit k || m.testBit k)) := by
  rw [mod_next, mod_next, Nat.pow_succ]
  have h1 := bit01 n k
  have h2 := bit01 m k
  have ha := Nat.mod_lt n (Nat.two_pow_pos k)
  have hb := Nat.mod_lt m (Nat.two_pow_pos k)
  generalize 2 ^ k = P at *
  by_cases hc : P ≤ n % P + m % P
  · rw [decide_eq_true hc]
    rcases h1 with ⟨e1, f1⟩ | ⟨e1, f1⟩ <;> rcases h2 with ⟨e2, f2⟩ | ⟨e2, f2⟩ <;> rw [e1, e2, f1, f2] <;> simp <;> omega
  · rw [decide_eq_false hc]
    rcases h1 with ⟨e1, f1⟩ | ⟨e1, f1⟩ <;> rcases h2 with ⟨e2, f2⟩ | ⟨e2, f2⟩ <;> rw [e1, e2, f1, f2] <;> simp <;> omega

/-- n less m, in 256 bits, and 2^256 more -/
def subz (n m : Nat) : Nat := n + (2 ^ 256 - m % 2 ^ 256)
theorem subz_borrow (n m k : Nat) (hk : k ≤ 256) : decide (2 ^ k ≤ subz n m % 2 ^ k + (m % 2 ^ 256) % 2 ^ k) = decide (n % 2 ^ k < m % 2 ^ k) := by
  have hd : 2 ^ k ∣ 2 ^ 256 := Nat.pow_dvd_pow 2 hk
  have e : subz n m + m % 2 ^ 256 = n + 2 ^ 256 := by unfold subz; have := Nat.mod_lt m (Nat.two_pow_pos 256); omega
  have e2 : (m % 2 ^ 256) % 2 ^ k = m % 2 ^ k := Nat.mod_mod_of_dvd _ hd
  have e3 : (subz n m + m % 2 ^ 256) % 2 ^ k = n % 2 ^ k := by
    rw [e]
    obtain ⟨c, hc⟩ := hd
    rw [hc, Nat.add_mul_mod_self_left]
  rw [Nat.add_mod, e2] at e3
  rw [e2]
  have hz := Nat.mod_lt (subz n m) (Nat.two_pow_pos k)
  have hm := Nat.mod_lt m (Nat.two_pow_pos k)
  generalize subz n m % 2 ^ k = z at *
  generalize m % 2 ^ k = y at *
  generalize n % 2 ^ k = x at *
  generalize 2 ^ k = P at *
  by_cases h : P ≤ z + y
  · rw [decide_eq_true h, decide_eq_true]
    have : (z + y) % P = z + y - P := by rw [Nat.mod_eq_sub_mod h, Nat.mod_eq_of_lt (by omega)]
    omega
  · rw [decide_eq_false h, decide_eq_false]
    rw [Nat.mod_eq_of_lt (by omega)] at e3
    omega
theorem sub_bit (n m k : Nat) (hk : k < 256) : (subz n m).testBit k = ((n.testBit k != m.testBit k) != decide (n % 2 ^ k < m % 2 ^ k)) := by
  have e : subz n m + m % 2 ^ 256 = n + 2 ^ 256 := by unfold subz; have := Nat.mod_lt m (Nat.two_pow_pos 256); omega
  have h1 := add_bit (subz n m) (m % 2 ^ 256) k
  rw [e, subz_borrow n m k (by omega)] at h1
  have h2 : (n + 2 ^ 256).testBit k = n.testBit k := by
    rw [Nat.add_comm, Nat.testBit_two_pow_add_gt hk]
  have h3 : (m % 2 ^ 256).testBit k = m.testBit k := by rw [Nat.testBit_mod_two_pow]; simp [hk]
  rw [h2, h3] at h1
  rw [h1]
  cases (subz n m).testBit k <;> cases m.testBit k <;> cases decide (n % 2 ^ k < m % 2 ^ k) <;> rfl
theorem borrow_step (n m k : Nat) : decide (n % 2 ^ (k + 1) < m % 2 ^ (k + 1)) =
    ((!n.testBit k) && (m.testBit k || decide (n % 2 ^ k < m % 2 ^ k)) || m.testBit k && decide (n % 2 ^ k < m % 2 ^ k)) := by
  rw [mod_next, mod_next]
  have h1 := bit01 n k
  have h2 := bit01 m k
  have ha := Nat.mod_lt n (Nat.two_pow_pos k)
  have hb := Nat.mod_lt m (Nat.two_pow_pos k)
  generalize 2 ^ k = P at *
  by_cases hc : n % P < m % P
  · rw [decide_eq_true hc]
    rcases h1 with ⟨e1, f1⟩ | ⟨e1, f1⟩ <;> rcases h2 with ⟨e2, f2⟩ | ⟨e2, f2⟩ <;> rw [e1, e2, f1, f2] <;> simp <;> omega
  · rw [decide_eq_false hc]
    rcases h1 with ⟨e1, f1⟩ | ⟨e1, f1⟩ <;> rcases h2 with ⟨e2, f2⟩ | ⟨e2, f2⟩ <;> rw [e1, e2, f1, f2] <;> simp <;> omega

theorem div_next (n k : Nat) : n / 2 ^ k = 2 * (n / 2 ^ (k + 1)) + n / 2 ^ k % 2 := by
  rw [Nat.pow_succ, ← Nat.div_div_eq_div_mul]; omega
theorem less_here (n m k : Nat) (h : n / 2 ^ (k + 1) = m / 2 ^ (k + 1)) (hne : n.testBit k ≠ m.testBit k) : m.testBit k = decide (n < m) := by
  have h1 := bit01 n k
  have h2 := bit01 m k
  have e1 := div_next n k
  have e2 := div_next m k
  rw [h] at e1
  rcases h1 with ⟨b1, f1⟩ | ⟨b1, f1⟩ <;> rcases h2 with ⟨b2, f2⟩ | ⟨b2, f2⟩
  · rw [b1, b2] at hne; exact absurd rfl hne
  · rw [b2]
    symm; apply decide_eq_false
    intro hlt
    have := Nat.div_le_div_right (c := 2 ^ k) (Nat.le_of_lt hlt)
    omega
  · rw [b2]
    symm; apply decide_eq_true
    have : n / 2 ^ k < m / 2 ^ k := by omega
    exact Nat.lt_of_not_le fun hle => by have := Nat.div_le_div_right (c := 2 ^ k) hle; omega
  · rw [b1, b2] at hne; exact absurd rfl hne
theorem less_same (n m k : Nat) (h : n / 2 ^ (k + 1) = m / 2 ^ (k + 1)) (he : n.testBit k = m.testBit k) : n / 2 ^ k = m / 2 ^ k := by
  have h1 := bit01 n k
  have h2 := bit01 m k
  have e1 := div_next n k
  have e2 := div_next m k
  rcases h1 with ⟨b1, f1⟩ | ⟨b1, f1⟩ <;> rcases h2 with ⟨b2, f2⟩ | ⟨b2, f2⟩ <;> first | omega | (rw [b1, b2] at he; cases he)

theorem shl_bit (n s i : Nat) : (n * 2 ^ s).testBit i = (decide (0 ≤ (i : Int) - s) && n.testBit ((i : Int) - s).toNat) := by
  rw [← Nat.shiftLeft_eq, Nat.testBit_shiftLeft]
  by_cases h : s ≤ i
  · rw [show ((i : Int) - s).toNat = i - s by omega]
    simp only [ge_iff_le, h, decide_true, Bool.true_and]
    rw [decide_eq_true (by omega), Bool.true_and]
  · rw [decide_eq_false (show ¬ (0 : Int) ≤ (i : Int) - s by omega)]
    simp [h]
theorem shr_bit (n s i : Nat) : (n / 2 ^ s).testBit i = (decide (0 ≤ (i : Int) - -(s : Int)) && n.testBit ((i : Int) - -(s : Int)).toNat) := by
  rw [Nat.testBit_div_two_pow, decide_eq_true (by omega), Bool.true_and, show ((i : Int) - -(s : Int)).toNat = s + i by omega, Nat.add_comm]

/-- word j of the document's Words, the bits from k on being in -/
def wk (n k j : Nat) : Nat := if 64 * (j + 1) ≤ k then 0 else n / 2 ^ max (64 * j) k % 2 ^ (64 * (j + 1) - max (64 * j) k)
theorem wkk_lt (n k j : Nat) : wk n k j < 18446744073709551616 := by
  unfold wk
  split
  · omega
  · exact Nat.lt_of_lt_of_le (Nat.mod_lt _ (Nat.two_pow_pos _)) (by rw [show (18446744073709551616 : Nat) = 2 ^ 64 from rfl]; exact Nat.pow_le_pow_right (by omega) (by omega))
theorem wk_start (n j : Nat) (hj : j < 4) : wk n 256 j = 0 := by unfold wk; rw [if_pos (by omega)]
theorem wk_end (n j : Nat) : (wk n 0 j : Int) = lw n j := by
  unfold wk lw
  rw [if_neg (by omega), show max (64 * j) 0 = 64 * j by omega, show 64 * (j + 1) - 64 * j = 64 by omega]
theorem wk_other (n k j : Nat) (h : j ≠ k / 64) : wk n k j = wk n (k + 1) j := by
  unfold wk
  by_cases h1 : 64 * (j + 1) ≤ k
  · rw [if_pos h1, if_pos (by omega)]
  · rw [if_neg h1, if_neg (by omega), show max (64 * j) k = 64 * j by omega, show max (64 * j) (k + 1) = 64 * j by omega]
theorem wk_step (n k : Nat) : wk n k (k / 64) = wk n (k + 1) (k / 64) * 2 + n / 2 ^ k % 2 ∧ wk n (k + 1) (k / 64) < 9223372036854775808 := by
  obtain ⟨j, hj⟩ : ∃ j, j = k / 64 := ⟨_, rfl⟩
  rw [← hj]
  unfold wk
  rw [if_neg (by omega), show max (64 * j) k = k by omega]
  by_cases h : 64 * (j + 1) ≤ k + 1
  · rw [if_pos h, show 64 * (j + 1) - k = 1 by omega]; omega
  · rw [if_neg h, show max (64 * j) (k + 1) = k + 1 by omega]
    obtain ⟨d, hd⟩ := Nat.exists_eq_add_of_le (show k + 1 ≤ 64 * (j + 1) by omega)
    rw [show 64 * (j + 1) - k = d + 1 by omega, show 64 * (j + 1) - (k + 1) = d by omega]
    have hd63 : d ≤ 63 := by omega
    refine ⟨?_, Nat.lt_of_lt_of_le (Nat.mod_lt _ (Nat.two_pow_pos _)) (by rw [show (9223372036854775808 : Nat) = 2 ^ 63 from rfl]; exact Nat.pow_le_pow_right (by omega) hd63)⟩
    rw [Nat.pow_succ 2 k, ← Nat.div_div_eq_div_mul, Nat.pow_succ, Nat.mul_comm (2 ^ d), Nat.mod_mul]
    omega
end Go.Proofs.Ytnbppbnjkmopeaa
namespace Go.Proofs.Ytnbppbnjkmopeaa
open Go.RowKit

theorem bit_out {n L i : Nat} (h : n < 2 ^ L) (hi : L ≤ i) : n.testBit i = false := Nat.testBit_lt_two_pow (Nat.lt_of_lt_of_le h (Nat.pow_le_pow_right (by omega) hi))

set_option maxRecDepth 100000 in
set_option maxHeartbeats 1000000 in
theorem at_any (base : Nat) (v : Value) (n L : Nat) (hn : n < 2 ^ L) (i : Int) (w : World) (h : BitsIs w base v n L) :
    Calls Try.prog 119 #[v, .int .i64 i] w fun e w' => e = .returned (.bool (decide (0 ≤ i) && n.testBit i.toNat)) ∧ Below w.heap.size w w' := by
  by_cases h0 : i < 0
  · obtain ⟨x, cap, rfl⟩ := h.shape
    rw [decide_eq_false (by omega), Bool.false_and]
    clear h hn
    go_enter Try.func119, Try.ntmps119
    go_wp2_with fail
    go_ret
    exact ⟨rfl, (by repeat' (first | (with_reducible exact Below.refl _ _) | (with_reducible assumption) | (with_reducible refine below_alloc ?_ _) | (with_reducible refine Below.drew ?_) | (with_reducible refine below_drewN ?_ _) | (with_reducible refine Below.setCell ?_ ?_ _) | go_size))⟩
  · obtain ⟨k, rfl⟩ := Int.eq_ofNat_of_zero_le (show 0 ≤ i by omega)
    rw [decide_eq_true (by omega), Bool.true_and, Int.toNat_natCast]
    by_cases hk : k < L
    · obtain ⟨g, cap, rfl, hb, hg, hc, hf⟩ := h.at k hk
      have hk' : (k : Int) < (L : Int) := by omega
      clear h hn h0
      generalize n.testBit k = b at *
      go_enter Try.func119, Try.ntmps119
      go_wp2_with fail
      go_ret
      exact ⟨rfl, (by repeat' (first | (with_reducible exact Below.refl _ _) | (with_reducible assumption) | (with_reducible refine below_alloc ?_ _) | (with_reducible refine Below.drew ?_) | (with_reducible refine below_drewN ?_ _) | (with_reducible refine Below.setCell ?_ ?_ _) | go_size))⟩
    · obtain ⟨x, cap, rfl⟩ := h.shape
      have hk' : ¬ (k : Int) < (L : Int) := by omega
      rw [bit_out hn (by omega)]
      clear h hn h0
      go_enter Try.func119, Try.ntmps119
      go_wp2_with fail
      go_ret
      exact ⟨rfl, (by repeat' (first | (with_reducible exact Below.refl _ _) | (with_reducible assumption) | (with_reducible refine below_alloc ?_ _) | (with_reducible refine Below.drew ?_) | (with_reducible refine below_drewN ?_ _) | (with_reducible refine Below.setCell ?_ ?_ _) | go_size))⟩

theorem of_bit (a i k : Nat) (hk : k < 64) : (a / 2 ^ (64 * i) % 2 ^ 64 / 2 ^ k % 2 = 1) ↔ a.testBit (64 * i + k) = true := by
  rw [Nat.testBit_eq_decide_div_mod_eq, decide_eq_true_iff, Nat.pow_add, ← Nat.div_div_eq_div_mul]
  generalize a / 2 ^ (64 * i) = x
  obtain ⟨d, hd⟩ := Nat.exists_eq_add_of_le (show k + 1 ≤ 64 by omega)
  rw [hd, Nat.add_assoc, Nat.pow_add 2 k, Nat.mod_mul_right_div_self, Nat.pow_add, Nat.pow_one, Nat.mod_mul_right_mod]
/-- what is left of a word -/
def wrest (a i k : Nat) : Nat := a / 2 ^ (64 * i) % 2 ^ 64 / 2 ^ k
theorem wrest_lt (a i k : Nat) : wrest a i k < 18446744073709551616 := by
  unfold wrest
  exact Nat.lt_of_le_of_lt (Nat.div_le_self _ _) (Nat.mod_lt _ (by omega))
theorem wrest_succ (a i k : Nat) : wrest a i (k + 1) = wrest a i k / 2 := by unfold wrest; generalize a / 2 ^ (64 * i) % 2 ^ 64 = y; rw [Nat.pow_succ, Nat.div_div_eq_div_mul]
theorem wrest_zero (a i : Nat) : (wrest a i 0 : Int) = lw a i := by unfold wrest lw; rw [Nat.pow_zero, Nat.div_one]

theorem wrest_bit (a i k : Nat) (hk : k < 64) : a.testBit (64 * i + k) = (((wrest a i k : Nat) : Int) % 2 == 1) := by
  have h := of_bit a i k hk
  have e : wrest a i k = a / 2 ^ (64 * i) % 2 ^ 64 / 2 ^ k := rfl
  rw [← e] at h
  rw [Bool.eq_iff_iff, ← h, beq_iff_eq]
  omega

attribute [local irreducible] wrest
set_option maxRecDepth 100000 in
set_option maxHeartbeats 4000000 in
theorem refof_any (a : Nat) (w : World) :
    Calls Try.prog 94 #[nv a] w fun e w' => ∃ v, e = .returned v ∧ BitsIs w' w.heap.size v a 256 ∧ Below w.heap.size w w' := by
  have B : Below w.heap.size w w := Below.refl _ _
  have K0 := Lib.hid (heap_new w (.cells #[.int .u64 (lw a 0), .int .u64 (lw a 1), .int .u64 (lw a 2), .int .u64 (lw a 3)] 46 (0, 0)))
  go_enter Try.func94, Try.ntmps94
  go_wp2_with fail
  go_loopw [3, 4] (fun v ix wr => ∃ i : Nat, i ≤ 4 ∧ ix = .int .i64 i ∧ BitsIs wr (w.heap.size + 1) v a (64 * i) ∧ (∀ j, j < 4 → wr.cell? ⟨w.heap.size, j, none⟩ = some (.int .u64 (lw a j))) ∧ w.heap.size + 1 ≤ wr.heap.size ∧ Below w.heap.size w wr) (fun _ ix _ => 4 - (intOf ix).toNat)
  case atStart =>
    refine ⟨0, by omega, rfl, BitsIs.nil _ _ _, ?_, by simp, (by repeat' (first | (with_reducible exact Below.refl _ _) | (with_reducible assumption) | (with_reducible refine below_alloc ?_ _) | (with_reducible refine Below.drew ?_) | (with_reducible refine below_drewN ?_ _) | (with_reducible refine Below.setCell ?_ ?_ _) | go_size))⟩
    intro j hj
    have hj' : j = 0 ∨ j = 1 ∨ j = 2 ∨ j = 3 := by omega
    rw [cell_of_row _ _ _ _ _ _ K0.out]
    rcases hj' with rfl | rfl | rfl | rfl <;> rfl
  case round =>
    obtain ⟨i, hi, rfl, hO, hC, hz, B⟩ := hrel
    by_cases hlt : i < 4
    · have hc := hC i hlt
      have HC := Lib.hid hC
      have HO := Lib.hid hO
      clear hC hO K0
      have hx0 := wrest_zero a i
      rw [← hx0] at hc
      clear hx0
      go_wp2_with fail
      rw [show decide ((i : Int) < 4) = true from decide_eq_true (by omega)]
      go_loopw [3, 5, 6] (fun v xv ix wr2 => ∃ k : Nat, k ≤ 64 ∧ ix = .int .i64 k ∧ xv = .int .u64 (wrest a i k) ∧ BitsIs wr2 (w.heap.size + 1) v a (64 * i + k) ∧ w.heap.size + 1 ≤ wr2.heap.size ∧ Below (w.heap.size + 1) wr wr2) (fun _ _ ix _ => 64 - (intOf ix).toNat)
      case atStart => exact ⟨0, by omega, rfl, rfl, HO.out, hz, Below.refl _ _⟩
      case round =>
        obtain ⟨k, hk, rfl, rfl, hO, hz2, B2⟩ := hrel
        have HO2 := Lib.hid hO
        clear hO HO hc
        have hxl := wrest_lt a i k
        by_cases hlt2 : k < 64
        · have hbit := Lib.hid (wrest_bit a i k hlt2)
          have hws := wrest_succ a i k
          go_wp2_with (at_builtin; refine wpList_append_bit rfl (.tmp 18) (.tmp 22) rfl (w.heap.size + 1) _ a a (64 * i + k) rfl (HO2.out.alloc _) _ _ rfl (cell_new _ _ _) (fun _ _ => rfl) hbit.out (by omega) (by simp; omega) (fun v' w1 hown' hbel => ?_))
          have B3 := hbel (w.heap.size + 1) _ (Nat.le_refl _) (B2.alloc hz2 _)
          have hz3 := B3.size
          have HO3 := Lib.hid hown'
          clear hbel hown'
          go_wp2_with fail
          go_roundw
          case rel =>
            exact ⟨k + 1, by omega, by go_num, by rw [hws]; go_num, by rw [show 64 * i + (k + 1) = 64 * i + k + 1 by omega]; exact HO3.out, by omega, B3⟩
          case measure => simp [intOf]; omega
        · obtain rfl : k = 64 := by omega
          go_wp2_with fail
          go_roundw
          case rel =>
            refine ⟨i + 1, by omega, by go_num, by rw [show 64 * (i + 1) = 64 * i + 64 by omega]; exact HO2.out, fun j hj => ?_, hz2, B.trans (B2.mono (by omega))⟩
            rw [B2.cell (p := ⟨w.heap.size, j, none⟩) (by simp)]
            exact HC.out j hj
          case measure => simp [intOf]; omega
    · obtain rfl : i = 4 := by omega
      have HO := Lib.hid hO
      clear hO hC
      go_wp2_with fail
      go_ret
      exact ⟨_, rfl, HO.out.mono (by omega), B⟩
end Go.Proofs.Ytnbppbnjkmopeaa
namespace Go.Proofs.Ytnbppbnjkmopeaa
open Go.RowKit

/-- 'at' of a row that lies in an old world -/
theorem at_old {base : Nat} {v : Value} {n L : Nat} {w : World} (hn : n < 2 ^ L) (h : BitsIs w base v n L) : ∀ (k : Nat) (w1 : World), Below w.heap.size w w1 →
    Calls Try.prog 119 #[v, .int .i64 k] w1 fun e w' => e = .returned (.bool (n.testBit k)) ∧ Below w1.heap.size w1 w' := fun k w1 hb => by
  have := at_any base v n L hn (k : Int) w1 (h.keep hb)
  rwa [decide_eq_true (show (0 : Int) ≤ (k : Int) by omega), Bool.true_and, Int.toNat_natCast] at this

def carry (n m k : Nat) : Bool := decide (2 ^ k ≤ n % 2 ^ k + m % 2 ^ k)
def borrow (n m k : Nat) : Bool := decide (n % 2 ^ k < m % 2 ^ k)
theorem carry_zero (n m : Nat) : carry n m 0 = false := by unfold carry; simp [Nat.mod_one]
theorem borrow_zero (n m : Nat) : borrow n m 0 = false := by unfold borrow; simp [Nat.mod_one]
theorem carry_next (n m k : Nat) : carry n m (k + 1) = (n.testBit k && m.testBit k || carry n m k && (n.testBit k || m.testBit k)) := carry_step n m k
theorem borrow_next (n m k : Nat) : borrow n m (k + 1) = ((!n.testBit k) && (m.testBit k || borrow n m k) || m.testBit k && borrow n m k) := borrow_step n m k
theorem sum_bit (n m k : Nat) : (n + m).testBit k = ((n.testBit k != m.testBit k) != carry n m k) := add_bit n m k
theorem diff_bit (n m k : Nat) (hk : k < 256) : (subz n m).testBit k = ((n.testBit k != m.testBit k) != borrow n m k) := sub_bit n m k hk

attribute [local irreducible] carry borrow subz
set_option maxRecDepth 100000 in
set_option maxHeartbeats 4000000 in
theorem refadd_any (b1 : Nat) (v : Value) (n L : Nat) (hn : n < 2 ^ L) (b2 : Nat) (u : Value) (m K : Nat) (hm : m < 2 ^ K) (hL : L ≤ 100000) (hK : K ≤ 100000) (w : World) (h1 : BitsIs w b1 v n L) (h2 : BitsIs w b2 u m K) :
    Calls Try.prog 125 #[v, u] w fun e w' => ∃ x, e = .returned x ∧ BitsIs w' w.heap.size x (n + m) (max L K + 1) ∧ Below w.heap.size w w' := by
  have cx := Lib.hid (at_old hn h1)
  have cy := Lib.hid (at_old hm h2)
  obtain ⟨xv, capv, rfl⟩ := h1.shape
  obtain ⟨xu, capu, rfl⟩ := h2.shape
  obtain ⟨M, hM⟩ : ∃ M, M = max L K := ⟨_, rfl⟩
  have em : max (L : Int) (K : Int) = (M : Int) := by omega
  have hM2 : M ≤ 100000 := by omega
  rw [← hM]
  clear hn hm h1 h2 hM hL hK
  have B : Below w.heap.size w w := Below.refl _ _
  go_enter Try.func125, Try.ntmps125
  go_wp2_with fail
  go_loopw [6, 7, 8] (fun ov cv ix wr => ∃ k : Nat, k ≤ M + 1 ∧ ix = .int .i64 k ∧ cv = .bool (carry n m k) ∧ BitsIs wr w.heap.size ov (n + m) k ∧ Below w.heap.size w wr) (fun _ _ ix _ => M + 1 - (intOf ix).toNat)
  case atStart => exact ⟨0, by omega, rfl, by rw [carry_zero], BitsIs.nil _ _ _, B⟩
  case round =>
    obtain ⟨k, hk, rfl, rfl, hO, B⟩ := hrel
    have HO := Lib.hid hO
    clear hO em
    by_cases hlt : k < M + 1
    · have hlt' : (k : Int) < (M : Int) + 1 := by omega
      have HB := Lib.hid (sum_bit n m k)
      have HC := Lib.hid (carry_next n m k)
      have cx := Lib.hid fun w1 hb => cx.out k w1 hb
      have cy := Lib.hid fun w1 hb => cy.out k w1 hb
      generalize n.testBit k = X at *
      generalize m.testBit k = Y at *
      generalize hcc : carry n m k = C at *
      have HCC := Lib.hid hcc
      clear hcc
      go_wp2_with fail
      refine (cx.out _ B).mono ?_
      rintro e w2 ⟨rfl, hb2⟩
      have HO2 := Lib.hid (HO.out.keep hb2)
      have B2 := below_next B hb2
      clear hb2 cx HO B
      go_wp2_with fail
      refine (cy.out _ B2).mono ?_
      rintro e w3 ⟨rfl, hb3⟩
      have HO3 := Lib.hid (HO2.out.keep hb3)
      have B3 := below_next B2 hb3
      clear hb3 cy HO2 B2
      cases X <;> cases Y <;> cases C
      all_goals
        go_wp2_with (at_builtin; refine wpList_append_bit rfl (.tmp 28) (.tmp 34) rfl w.heap.size _ (n + m) (n + m) k rfl (HO3.out.alloc _) _ _ rfl (cell_new _ _ _) (fun _ _ => rfl) (by rw [HB.out]; rfl) (by omega) (by have := B3.size; simp; omega) (fun v' w4 hown' hbel => ?_))
        have B4 := hbel w.heap.size w (Nat.le_refl _) (below_alloc B3 _)
        have HO4 := Lib.hid hown'
        clear hbel hown' HO3 B3
        go_wp2_with fail
        go_roundw
        case rel => exact ⟨k + 1, by omega, by go_num, by rw [HC.out]; rfl, HO4.out, B4⟩
        case measure => simp [intOf]; omega
    · obtain rfl : k = M + 1 := by omega
      go_wp2_with fail
      go_ret
      exact ⟨_, rfl, HO.out, B⟩

set_option maxRecDepth 100000 in
set_option maxHeartbeats 4000000 in
theorem refsub_any (b1 : Nat) (v : Value) (n L : Nat) (hn : n < 2 ^ L) (b2 : Nat) (u : Value) (m K : Nat) (hm : m < 2 ^ K) (w : World) (h1 : BitsIs w b1 v n L) (h2 : BitsIs w b2 u m K) :
    Calls Try.prog 133 #[v, u] w fun e w' => ∃ x, e = .returned (.tuple #[x, .bool (borrow n m 256)]) ∧ BitsIs w' w.heap.size x (subz n m) 256 ∧ Below w.heap.size w w' := by
  have cx := Lib.hid (at_old hn h1)
  have cy := Lib.hid (at_old hm h2)
  obtain ⟨xv, capv, rfl⟩ := h1.shape
  obtain ⟨xu, capu, rfl⟩ := h2.shape
  clear hn hm h1 h2
  have B : Below w.heap.size w w := Below.refl _ _
  go_enter Try.func133, Try.ntmps133
  go_wp2_with fail
  go_loopw [6, 7, 8] (fun ov cv ix wr => ∃ k : Nat, k ≤ 256 ∧ ix = .int .i64 k ∧ cv = .bool (borrow n m k) ∧ BitsIs wr w.heap.size ov (subz n m) k ∧ Below w.heap.size w wr) (fun _ _ ix _ => 256 - (intOf ix).toNat)
  case atStart => exact ⟨0, by omega, rfl, by rw [borrow_zero], BitsIs.nil _ _ _, B⟩
  case round =>
    obtain ⟨k, hk, rfl, rfl, hO, B⟩ := hrel
    have HO := Lib.hid hO
    clear hO
    by_cases hlt : k < 256
    · have hlt' : (k : Int) < 256 := by omega
      have HB := Lib.hid (diff_bit n m k hlt)
      have HC := Lib.hid (borrow_next n m k)
      have cx := Lib.hid fun w1 hb => cx.out k w1 hb
      have cy := Lib.hid fun w1 hb => cy.out k w1 hb
      generalize n.testBit k = X at *
      generalize m.testBit k = Y at *
      generalize hcc : borrow n m k = C at *
      clear hcc
      go_wp2_with fail
      refine (cx.out _ B).mono ?_
      rintro e w2 ⟨rfl, hb2⟩
      have HO2 := Lib.hid (HO.out.keep hb2)
      have B2 := below_next B hb2
      clear hb2 cx HO B
      go_wp2_with fail
      refine (cy.out _ B2).mono ?_
      rintro e w3 ⟨rfl, hb3⟩
      have HO3 := Lib.hid (HO2.out.keep hb3)
      have B3 := below_next B2 hb3
      clear hb3 cy HO2 B2
      cases X <;> cases Y <;> cases C
      all_goals
        go_wp2_with (at_builtin; refine wpList_append_bit rfl (.tmp 21) (.tmp 27) rfl w.heap.size _ (subz n m) (subz n m) k rfl (HO3.out.alloc _) _ _ rfl (cell_new _ _ _) (fun _ _ => rfl) (by rw [HB.out]; rfl) (by omega) (by have := B3.size; simp; omega) (fun v' w4 hown' hbel => ?_))
        have B4 := hbel w.heap.size w (Nat.le_refl _) (below_alloc B3 _)
        have HO4 := Lib.hid hown'
        clear hbel hown' HO3 B3
        go_wp2_with fail
        go_roundw
        case rel => exact ⟨k + 1, by omega, by go_num, by rw [HC.out]; rfl, HO4.out, B4⟩
        case measure => simp [intOf]; omega
    · obtain rfl : k = 256 := by omega
      go_wp2_with fail
      exact bodyPost_ret (by simp [results, Try.results133, go_sem]) rfl ⟨_, rfl, HO.out, B⟩
end Go.Proofs.Ytnbppbnjkmopeaa
namespace Go.Proofs.Ytnbppbnjkmopeaa
open Go.RowKit

set_option maxRecDepth 100000 in
set_option maxHeartbeats 4000000 in
theorem shift_gen (b1 : Nat) (v : Value) (n L : Nat) (hn : n < 2 ^ L) (s : Int) (R T : Nat) (hT : ((L : Int) + s).toNat = T) (hT2 : T ≤ 1000000) (hs : -1000000 ≤ s ∧ s ≤ 1000000) (hL : L ≤ 1000000)
    (hR : ∀ i : Nat, R.testBit i = (decide (0 ≤ (i : Int) - s) && n.testBit ((i : Int) - s).toNat)) (w : World) (h1 : BitsIs w b1 v n L) :
    Calls Try.prog 116 #[v, .int .i64 s] w fun e w' => ∃ x, e = .returned x ∧ BitsIs w' w.heap.size x R T ∧ Below w.heap.size w w' := by
  have cx := Lib.hid fun (i : Nat) w1 (hb : Below w.heap.size w w1) => by
    have := at_any b1 v n L hn ((i : Int) - s) w1 (h1.keep hb)
    rwa [← hR i] at this
  obtain ⟨xv, capv, rfl⟩ := h1.shape
  have HTT := Lib.hid hT
  clear hn h1 hR hT
  have B : Below w.heap.size w w := Below.refl _ _
  go_enter Try.func116, Try.ntmps116
  go_wp2_with fail
  go_loopw [5, 6] (fun ov ix wr => ∃ k : Nat, k ≤ T ∧ ix = .int .i64 k ∧ BitsIs wr w.heap.size ov R k ∧ Below w.heap.size w wr) (fun _ ix _ => T - (intOf ix).toNat)
  case atStart => exact ⟨0, by omega, rfl, BitsIs.nil _ _ _, B⟩
  case round =>
    obtain ⟨k, hk, rfl, hO, B⟩ := hrel
    have HO := Lib.hid hO
    clear hO
    by_cases hlt : k < T
    · have hlt' : (k : Int) < (L : Int) + s := by have := HTT.out; omega
      have cx := Lib.hid fun w1 hb => cx.out k w1 hb
      have HB := Lib.hid (rfl : R.testBit k = R.testBit k)
      generalize hX : R.testBit k = X at *
      have HX := Lib.hid hX
      clear hX
      go_wp2_with fail
      refine (cx.out _ B).mono ?_
      rintro e w2 ⟨rfl, hb2⟩
      have HO2 := Lib.hid (HO.out.keep hb2)
      have B2 := below_next B hb2
      clear hb2 cx HO B
      go_wp2_with (at_builtin; refine wpList_append_bit rfl (.tmp 15) (.tmp 21) rfl w.heap.size _ R R k rfl (HO2.out.alloc _) _ _ rfl (cell_new _ _ _) (fun _ _ => rfl) HX.out (by omega) (by have := B2.size; simp; omega) (fun v' w4 hown' hbel => ?_))
      have B4 := hbel w.heap.size w (Nat.le_refl _) (below_alloc B2 _)
      have HO4 := Lib.hid hown'
      clear hbel hown' HO2 B2
      go_wp2_with fail
      go_roundw
      case rel => exact ⟨k + 1, by omega, by go_num, HO4.out, B4⟩
      case measure => simp [intOf]; omega
    · obtain rfl : k = T := by omega
      have hlt' : ¬ (k : Int) < (L : Int) + s := by have := HTT.out; omega
      go_wp2_with fail
      go_ret
      exact ⟨_, rfl, HO.out, B⟩

theorem shiftl_any (b1 : Nat) (v : Value) (n L : Nat) (hn : n < 2 ^ L) (s : Nat) (hL : L ≤ 100000) (hs : s ≤ 100000) (w : World) (h1 : BitsIs w b1 v n L) :
    Calls Try.prog 116 #[v, .int .i64 s] w fun e w' => ∃ x, e = .returned x ∧ BitsIs w' w.heap.size x (n * 2 ^ s) (L + s) ∧ Below w.heap.size w w' :=
  shift_gen b1 v n L hn s (n * 2 ^ s) (L + s) (by omega) (by omega) (by omega) (by omega) (shl_bit n s) w h1
theorem shiftr_any (b1 : Nat) (v : Value) (n L : Nat) (hn : n < 2 ^ L) (s : Nat) (hL : L ≤ 100000) (hs : s ≤ 100000) (w : World) (h1 : BitsIs w b1 v n L) :
    Calls Try.prog 116 #[v, .int .i64 (-(s : Int))] w fun e w' => ∃ x, e = .returned x ∧ BitsIs w' w.heap.size x (n / 2 ^ s) (L - s) ∧ Below w.heap.size w w' :=
  shift_gen b1 v n L hn (-(s : Int)) (n / 2 ^ s) (L - s) (by omega) (by omega) (by omega) (by omega) (shr_bit n s) w h1

set_option maxRecDepth 100000 in
set_option maxHeartbeats 4000000 in
theorem less_any (b1 : Nat) (v : Value) (n L : Nat) (hn : n < 2 ^ L) (b2 : Nat) (u : Value) (m K : Nat) (hm : m < 2 ^ K) (hL : L ≤ 100000) (hK : K ≤ 100000) (w : World) (h1 : BitsIs w b1 v n L) (h2 : BitsIs w b2 u m K) :
    Calls Try.prog 80 #[v, u] w fun e w' => e = .returned (.bool (decide (n < m))) ∧ Below w.heap.size w w' := by
  have cx := Lib.hid (at_old hn h1)
  have cy := Lib.hid (at_old hm h2)
  obtain ⟨xv, capv, rfl⟩ := h1.shape
  obtain ⟨xu, capu, rfl⟩ := h2.shape
  obtain ⟨M, hM⟩ : ∃ M, M = max L K := ⟨_, rfl⟩
  have em : max (L : Int) (K : Int) = (M : Int) := by omega
  have hM2 : M ≤ 100000 := by omega
  have H0 := Lib.hid (show n / 2 ^ M = m / 2 ^ M by
    rw [Nat.div_eq_of_lt (Nat.lt_of_lt_of_le hn (Nat.pow_le_pow_right (by omega) (by omega))), Nat.div_eq_of_lt (Nat.lt_of_lt_of_le hm (Nat.pow_le_pow_right (by omega) (by omega)))])
  clear hn hm h1 h2 hM hL hK
  have B : Below w.heap.size w w := Below.refl _ _
  go_enter Try.func80, Try.ntmps80
  go_wp2_with fail
  go_loopw [5] (fun ix wr => ∃ j : Nat, j ≤ M ∧ ix = .int .i64 ((j : Int) - 1) ∧ n / 2 ^ j = m / 2 ^ j ∧ Below w.heap.size w wr) (fun ix _ => (intOf ix + 1).toNat)
  case atStart => exact ⟨M, Nat.le_refl _, rfl, H0.out, B⟩
  case round =>
    obtain ⟨j, hj, rfl, he, B⟩ := hrel
    have HE := Lib.hid he
    clear he em H0
    by_cases h0 : j = 0
    · subst h0
      have : n = m := by have := HE.out; simpa using this
      have HNM := Lib.hid this
      clear this
      go_wp2_with fail
      go_ret
      exact ⟨by rw [decide_eq_false (show ¬ n < m by have := HNM.out; omega)]; rfl, B⟩
    · obtain ⟨k, rfl⟩ : ∃ k, j = k + 1 := ⟨j - 1, by omega⟩
      rw [show ((k + 1 : Nat) : Int) - 1 = (k : Int) by omega]
      have hl := less_here n m k HE.out
      have hs := less_same n m k HE.out
      have HL := Lib.hid hl; have HS := Lib.hid hs
      clear hl hs
      have cx := Lib.hid fun w1 hb => cx.out k w1 hb
      have cy := Lib.hid fun w1 hb => cy.out k w1 hb
      generalize n.testBit k = X at *
      generalize m.testBit k = Y at *
      go_wp2_with fail
      refine (cx.out _ B).mono ?_
      rintro e w2 ⟨rfl, hb2⟩
      have B2 := below_next B hb2
      clear hb2 cx B
      go_wp2_with fail
      refine (cy.out _ B2).mono ?_
      rintro e w3 ⟨rfl, hb3⟩
      have B3 := below_next B2 hb3
      clear hb3 B2
      cases X <;> cases Y
      · have h := HS.out rfl
        clear HL HS
        go_wp2_with fail
        go_roundw
        case rel => exact ⟨k, by omega, by go_num, h, B3⟩
        case measure => simp [intOf]
      · have HH := Lib.hid (HL.out (by simp))
        clear HL HS
        go_wp2_with fail
        refine (cy.out _ B3).mono ?_
        rintro e w4 ⟨rfl, hb4⟩
        have B4 := below_next B3 hb4
        clear hb4 B3
        go_wp2_with fail
        go_ret
        exact ⟨by rw [← HH.out]; rfl, B4⟩
      · have HH := Lib.hid (HL.out (by simp))
        clear HL HS
        go_wp2_with fail
        refine (cy.out _ B3).mono ?_
        rintro e w4 ⟨rfl, hb4⟩
        have B4 := below_next B3 hb4
        clear hb4 B3
        go_wp2_with fail
        go_ret
        exact ⟨by rw [← HH.out]; rfl, B4⟩
      · have h := HS.out rfl
        clear HL HS
        go_wp2_with fail
        go_roundw
        case rel => exact ⟨k, by omega, by go_num, h, B3⟩
        case measure => simp [intOf]
end Go.Proofs.Ytnbppbnjkmopeaa
namespace Go.Proofs.Ytnbppbnjkmopeaa
open Go.RowKit

def vblk (n k : Nat) : Obj := .cells #[.int .u64 (wk n k 0), .int .u64 (wk n k 1), .int .u64 (wk n k 2), .int .u64 (wk n k 3)] 46 (0, 0)
def ovr (n k : Nat) : Bool := !decide (n / 2 ^ max k 256 = 0)
theorem ovr_start {n L : Nat} (h : n < 2 ^ L) : ovr n L = false := by
  unfold ovr
  rw [Nat.div_eq_of_lt (Nat.lt_of_lt_of_le h (Nat.pow_le_pow_right (by omega) (by omega)))]; rfl
theorem ovr_end (n : Nat) : ovr n 0 = decide (2 ^ 256 ≤ n) := by
  unfold ovr
  rw [show max 0 256 = 256 by omega]
  by_cases h : 2 ^ 256 ≤ n
  · rw [decide_eq_true h, decide_eq_false (by have := Nat.div_pos h (by omega); omega)]; rfl
  · rw [decide_eq_false h, decide_eq_true (Nat.div_eq_of_lt (by omega))]; rfl
theorem ovr_low (n k : Nat) (h : k < 256) : ovr n k = ovr n (k + 1) := by unfold ovr; rw [show max k 256 = 256 by omega, show max (k + 1) 256 = 256 by omega]
theorem ovr_high (n k : Nat) (h : 256 ≤ k) : ovr n k = (ovr n (k + 1) || n.testBit k) := by
  unfold ovr
  rw [show max k 256 = k by omega, show max (k + 1) 256 = k + 1 by omega]
  have e := div_next n k
  rcases bit01 n k with ⟨b, f⟩ | ⟨b, f⟩
  · rw [b, Bool.or_true, decide_eq_false (by omega)]; rfl
  · rw [b, Bool.or_false]
    by_cases h0 : n / 2 ^ (k + 1) = 0
    · rw [decide_eq_true h0, decide_eq_true (by omega)]
    · rw [decide_eq_false h0, decide_eq_false (by omega)]
theorem wk_top {n L : Nat} (h : n < 2 ^ L) (j : Nat) : wk n L j = 0 := by
  unfold wk
  split
  · rfl
  · rw [Nat.div_eq_of_lt (Nat.lt_of_lt_of_le h (Nat.pow_le_pow_right (by omega) (by omega))), Nat.zero_mod]
theorem wk_high (n k j : Nat) (hj : j < 4) (h : 256 ≤ k) : wk n k j = 0 := by unfold wk; rw [if_pos (by omega)]
theorem vblk_cell {w : World} {g n k j : Nat} (h : w.heap[g]? = some (vblk n k)) (hj : j < 4) : w.cell? ⟨g, j, none⟩ = some (.int .u64 (wk n k j)) ∧ w.frozen? ⟨g, j, none⟩ = false := by
  refine ⟨?_, frozen_of_row _ _ _ _ _ h⟩
  rw [cell_of_row _ _ _ _ _ _ h]
  have hj' : j = 0 ∨ j = 1 ∨ j = 2 ∨ j = 3 := by omega
  rcases hj' with rfl | rfl | rfl | rfl <;> rfl
theorem vblk_step {w : World} {g n k : Nat} (h : w.heap[g]? = some (vblk n (k + 1))) (hk : k < 256) (x : Int) (hx : x = (wk n k (k / 64) : Nat)) : (w.setCell ⟨g, k / 64, none⟩ (.int .u64 x)).heap[g]? = some (vblk n k) := by
  rw [heap_setCell_same w g (k / 64) _ _ _ h, hx]
  have hc : k / 64 = 0 ∨ k / 64 = 1 ∨ k / 64 = 2 ∨ k / 64 = 3 := by omega
  have ho := wk_other n k
  rcases hc with e | e | e | e <;> rw [e] at ho ⊢ <;> unfold vblk
  · rw [ho 1 (by omega), ho 2 (by omega), ho 3 (by omega)]; rfl
  · rw [ho 0 (by omega), ho 2 (by omega), ho 3 (by omega)]; rfl
  · rw [ho 0 (by omega), ho 1 (by omega), ho 3 (by omega)]; rfl
  · rw [ho 0 (by omega), ho 1 (by omega), ho 2 (by omega)]; rfl
theorem vblk_step2 {w : World} {g n k : Nat} (h : w.heap[g]? = some (vblk n (k + 1))) (hk : k < 256) (u : Value) (x : Int) (hx : x = (wk n k (k / 64) : Nat)) :
    ((w.setCell ⟨g, k / 64, none⟩ u).setCell ⟨g, k / 64, none⟩ (.int .u64 x)).heap[g]? = some (vblk n k) := by
  have h1 := heap_setCell_same w g (k / 64) _ _ u h
  rw [heap_setCell_same _ g (k / 64) _ _ _ h1, hx]
  have hc : k / 64 = 0 ∨ k / 64 = 1 ∨ k / 64 = 2 ∨ k / 64 = 3 := by omega
  have ho := wk_other n k
  rcases hc with e | e | e | e <;> rw [e] at ho ⊢ <;> unfold vblk
  · rw [ho 1 (by omega), ho 2 (by omega), ho 3 (by omega)]; rfl
  · rw [ho 0 (by omega), ho 2 (by omega), ho 3 (by omega)]; rfl
  · rw [ho 0 (by omega), ho 1 (by omega), ho 3 (by omega)]; rfl
  · rw [ho 0 (by omega), ho 1 (by omega), ho 2 (by omega)]; rfl
theorem nv_low (n : Nat) : nv (n % 2 ^ 256) = .agg #[.int .u64 (lw n 0), .int .u64 (lw n 1), .int .u64 (lw n 2), .int .u64 (lw n 3)] := by
  unfold nv
  rw [lw_low n 256 0 (by omega), lw_low n 256 1 (by omega), lw_low n 256 2 (by omega), lw_low n 256 3 (by omega)]

attribute [local irreducible] wk ovr
set_option maxRecDepth 100000 in
set_option maxHeartbeats 4000000 in
theorem words_any (b1 : Nat) (v : Value) (n L : Nat) (hn : n < 2 ^ L) (hL : L ≤ 100000) (w : World) (h1 : BitsIs w b1 v n L) :
    Calls Try.prog 46 #[v] w fun e w' => e = .returned (.tuple #[nv (n % 2 ^ 256), .bool (decide (2 ^ 256 ≤ n))]) ∧ Below w.heap.size w w' := by
  have HA := Lib.hid h1
  obtain ⟨xv, capv, rfl⟩ := h1.shape
  have HT := Lib.hid (wk_top hn)
  have HOS := Lib.hid (ovr_start hn)
  clear h1 hn
  have B : Below w.heap.size w w := Below.refl _ _
  have A := alloc2 w (.cells #[.int .u64 0, .int .u64 0, .int .u64 0, .int .u64 0] 46 (0, 0)) (.cells #[.int .u64 0, .int .u64 0, .int .u64 0, .int .u64 0] 46 (0, 0))
  have K0 := Lib.hid A.1; have K1 := Lib.hid A.2
  clear A
  go_enter Try.func46, Try.ntmps46
  go_wp2_with fail
  go_loopw [5, 6] (fun ov ix wr => ∃ k : Nat, k ≤ L ∧ ix = .int .i64 ((k : Int) - 1) ∧ ov = .bool (ovr n k) ∧ wr.heap[w.heap.size]? = some (.cells #[.int .u64 0, .int .u64 0, .int .u64 0, .int .u64 0] 46 (0, 0)) ∧ wr.heap[w.heap.size + 1]? = some (vblk n k) ∧ Below w.heap.size w wr) (fun _ ix _ => (intOf ix + 1).toNat)
  case atStart =>
    refine ⟨L, Nat.le_refl _, rfl, by rw [HOS.out], K0.out, ?_, (by repeat' (first | (with_reducible exact Below.refl _ _) | (with_reducible assumption) | (with_reducible refine below_alloc ?_ _) | (with_reducible refine Below.drew ?_) | (with_reducible refine below_drewN ?_ _) | (with_reducible refine Below.setCell ?_ ?_ _) | go_size))⟩
    unfold vblk
    rw [HT.out, HT.out, HT.out, HT.out]
    exact K1.out
  case round =>
    obtain ⟨k1, hk, rfl, rfl, hr0, hr1, B⟩ := hrel
    have K0' := Lib.hid hr0; have K1' := Lib.hid hr1
    clear hr0 hr1 K0 K1
    have K0 := K0'; have K1 := K1'
    clear K0' K1'
    by_cases h0 : k1 = 0
    · subst h0
      obtain ⟨c0, f0⟩ := vblk_cell K1.out (show 0 < 4 by omega)
      obtain ⟨c1, f1⟩ := vblk_cell K1.out (show 1 < 4 by omega)
      obtain ⟨c2, f2⟩ := vblk_cell K1.out (show 2 < 4 by omega)
      obtain ⟨c3, f3⟩ := vblk_cell K1.out (show 3 < 4 by omega)
      rw [wk_end] at c0 c1 c2 c3
      obtain ⟨d0, d1, d2, d3, df, dz⟩ := cells4 K0.out
      rw [ovr_end n]
      generalize hoo : decide (2 ^ 256 ≤ n) = oo at *
      have HOO := Lib.hid hoo
      clear hoo
      go_wp2_with fail
      obtain ⟨r0, r1, r2, r3, rf, rz⟩ := cells4 (set4 (.int .u64 (lw n 0)) (.int .u64 (lw n 1)) (.int .u64 (lw n 2)) (.int .u64 (lw n 3)) K0.out)
      exact bodyPost_ret (v := .tuple #[.agg #[.int .u64 (lw n 0), .int .u64 (lw n 1), .int .u64 (lw n 2), .int .u64 (lw n 3)], .bool oo]) (by simp [results, Try.results46, go_sem, r0, r1, r2, r3]) rfl ⟨by rw [nv_low, HOO.out], (by repeat' (first | (with_reducible exact Below.refl _ _) | (with_reducible assumption) | (with_reducible refine below_alloc ?_ _) | (with_reducible refine Below.drew ?_) | (with_reducible refine below_drewN ?_ _) | (with_reducible refine Below.setCell ?_ ?_ _) | go_size))⟩
    · obtain ⟨k, rfl⟩ : ∃ k, k1 = k + 1 := ⟨k1 - 1, by omega⟩
      rw [show ((k + 1 : Nat) : Int) - 1 = (k : Int) by omega]
      have hbit := HA.out.at k (by omega)
      obtain ⟨g, cap, hgv, -, hg, hcb0, hfb0⟩ := hbit
      have hcb := (B.cell (p := ⟨g, k, none⟩) hg).trans hcb0
      have hfb := (B.frozen (p := ⟨g, k, none⟩) hg).trans hfb0
      have hgn : g ≠ w.heap.size + 1 := by omega
      have hgn2 : w.heap.size + 1 ≠ g := by omega
      clear hcb0 hfb0
      simp only [Value.slice.injEq, true_and] at hgv
      obtain ⟨rfl, rfl⟩ := hgv
      have HW := Lib.hid (wk_step n k)
      rcases bit01 n k with ⟨bt, bf⟩ | ⟨bt, bf⟩
      all_goals
        rw [bt] at hcb
        have HBT := Lib.hid bt; have HBF := Lib.hid bf
        clear bt bf h0
        by_cases h256 : 256 ≤ k
        · have hov := Lib.hid (ovr_high n k h256)
          have K1z : wr.heap[w.heap.size + 1]? = some (vblk n k) := by
            have := K1.out
            unfold vblk at this ⊢
            rw [wk_high n k 0 (by omega) h256, wk_high n k 1 (by omega) h256, wk_high n k 2 (by omega) h256, wk_high n k 3 (by omega) h256]
            rwa [wk_high n (k + 1) 0 (by omega) (by omega), wk_high n (k + 1) 1 (by omega) (by omega), wk_high n (k + 1) 2 (by omega) (by omega), wk_high n (k + 1) 3 (by omega) (by omega)] at this
          have KZ := Lib.hid K1z
          clear K1z
          have h256' : (256 : Int) ≤ (k : Int) := by omega
          generalize hO : ovr n (k + 1) = O at *
          cases O
          all_goals
            go_wp2_with fail
            go_roundw
            case rel => exact ⟨k, by omega, by go_num, by rw [hov.out, HBT.out]; rfl, K0.out, KZ.out, B⟩
            case measure => simp [intOf]
        · have hov := Lib.hid (ovr_low n k (by omega))
          have h256' : ¬ (256 : Int) ≤ (k : Int) := by omega
          have hj : k / 64 < 4 := by omega
          obtain ⟨hc, hf⟩ := vblk_cell K1.out hj
          have e1 : Int.tdiv (k : Int) 64 = ((k / 64 : Nat) : Int) := by rw [Int.tdiv_eq_ediv_of_nonneg (by omega)]; omega
          have hy := HW.out.2
          obtain ⟨y, hyy⟩ : ∃ y, y = wk n (k + 1) (k / 64) := ⟨_, rfl⟩
          rw [← hyy] at hc hy
          have HY := Lib.hid hyy
          have HK := Lib.hid (show k < 256 by omega)
          clear hyy
          go_wp2_with fail
          go_roundw
          case rel =>
            refine ⟨k, by omega, by go_num, by rw [hov.out], (heap_setCell_other _ _ _ _ (show w.heap.size ≠ w.heap.size + 1 by omega)).trans ?_, ?_, (by repeat' (first | (with_reducible exact Below.refl _ _) | (with_reducible assumption) | (with_reducible refine below_alloc ?_ _) | (with_reducible refine Below.drew ?_) | (with_reducible refine below_drewN ?_ _) | (with_reducible refine Below.setCell ?_ ?_ _) | go_size))⟩
            · first
                | exact K0.out
                | exact (heap_setCell_other _ _ _ _ (show w.heap.size ≠ w.heap.size + 1 by omega)).trans K0.out
            · have hs := HW.out.1
              have hyv := HY.out
              have hbf := HBF.out
              first
                | exact vblk_step K1.out HK.out _ (by omega)
                | exact vblk_step2 K1.out HK.out _ _ (by omega)
          case measure => simp [intOf]
end Go.Proofs.Ytnbppbnjkmopeaa
namespace Go.Proofs.Ytnbppbnjkmopeaa
open Go.RowKit

/-- the product with the lowest k bits -/
def pro (n m k : Nat) : Nat := n * (m % 2 ^ k)
theorem pro_zero (n m : Nat) : pro n m 0 = 0 := by unfold pro; rw [Nat.pow_zero, Nat.mod_one, Nat.mul_zero]
theorem pro_all (n m K : Nat) (h : m < 2 ^ K) : pro n m K = n * m := by unfold pro; rw [Nat.mod_eq_of_lt h]
theorem pro_yes (n m k : Nat) (h : m.testBit k = true) : pro n m (k + 1) = pro n m k + n * 2 ^ k := by
  unfold pro
  rcases bit01 m k with ⟨b, f⟩ | ⟨b, f⟩
  · rw [mod_next, f, Nat.mul_one, Nat.mul_add]
  · rw [b] at h; cases h
theorem pro_no (n m k : Nat) (h : m.testBit k = false) : pro n m (k + 1) = pro n m k := by
  unfold pro
  rcases bit01 m k with ⟨b, f⟩ | ⟨b, f⟩
  · rw [b] at h; cases h
  · rw [mod_next, f, Nat.mul_zero, Nat.add_zero]
theorem shl_lt {n L k : Nat} (h : n < 2 ^ L) : n * 2 ^ k < 2 ^ (L + k) := by
  rw [Nat.pow_add]; exact Nat.mul_lt_mul_of_pos_right h (Nat.two_pow_pos k)
theorem sum_lt {x y T : Nat} (h1 : x < 2 ^ T) (h2 : y < 2 ^ T) : x + y < 2 ^ (T + 1) := by rw [Nat.pow_succ]; omega

attribute [local irreducible] pro
set_option maxRecDepth 100000 in
set_option maxHeartbeats 4000000 in
theorem refmul_any (b1 : Nat) (v : Value) (n L : Nat) (hn : n < 2 ^ L) (b2 : Nat) (u : Value) (m K : Nat) (hm : m < 2 ^ K) (hL : L ≤ 10000) (hK : K ≤ 10000) (w : World) (h1 : BitsIs w b1 v n L) (h2 : BitsIs w b2 u m K) :
    Calls Try.prog 92 #[v, u] w fun e w' => ∃ x T, e = .returned x ∧ T ≤ L + K ∧ n * m < 2 ^ T ∧ BitsIs w' w.heap.size x (n * m) T ∧ Below w.heap.size w w' := by
  have HA := Lib.hid h1; have HB := Lib.hid h2
  have HN := Lib.hid hn
  have HE := Lib.hid (pro_all n m K hm)
  obtain ⟨xv, capv, rfl⟩ := h1.shape
  obtain ⟨xu, capu, rfl⟩ := h2.shape
  clear h1 h2 hn hm
  have B : Below w.heap.size w w := Below.refl _ _
  go_enter Try.func92, Try.ntmps92
  go_wp2_with fail
  go_loopw [5, 6] (fun ov ix wr => ∃ k T : Nat, k ≤ K ∧ T ≤ L + k ∧ pro n m k < 2 ^ T ∧ ix = .int .i64 k ∧ BitsIs wr w.heap.size ov (pro n m k) T ∧ Below w.heap.size w wr) (fun _ ix _ => K - (intOf ix).toNat)
  case atStart => exact ⟨0, 0, by omega, by omega, by rw [pro_zero]; decide, rfl, BitsIs.nil _ _ _, B⟩
  case round =>
    obtain ⟨k, T, hk, hT, hp, rfl, hO, B⟩ := hrel
    have HO := Lib.hid hO; have HP := Lib.hid hp
    clear hO hp
    by_cases hlt : k < K
    · have hlt' : (k : Int) < (K : Int) := by omega
      obtain ⟨g, cap, hgv, -, hg, hcb0, hfb0⟩ := HB.out.at k hlt
      simp only [Value.slice.injEq, true_and] at hgv
      obtain ⟨rfl, rfl⟩ := hgv
      have hcb := (B.cell (p := ⟨g, k, none⟩) hg).trans hcb0
      have hfb := (B.frozen (p := ⟨g, k, none⟩) hg).trans hfb0
      clear hcb0 hfb0
      rcases Bool.eq_false_or_eq_true (m.testBit k) with hbt | hbt
      · have HY := Lib.hid (pro_yes n m k hbt)
        rw [hbt] at hcb
        clear hbt
        go_wp2_with fail
        refine (shiftl_any b1 _ n L HN.out k (by omega) (by omega) _ (HA.out.keep B)).mono ?_
        rintro e w2 ⟨y, rfl, hy, hb2⟩
        have HO2 := Lib.hid (HO.out.keep hb2)
        have HYY := Lib.hid hy
        have B2 := below_next B hb2
        clear hb2 hy hcb hfb
        go_wp2_with fail
        refine (refadd_any _ _ (pro n m k) T HP.out _ _ (n * 2 ^ k) (L + k) (shl_lt HN.out) (by omega) (by omega) _ HO2.out HYY.out).mono ?_
        rintro e w3 ⟨x, rfl, hx, hb3⟩
        have B3 := below_next B2 hb3
        have HX := Lib.hid (hx.mono (base' := w.heap.size) B2.size)
        have hTm : max T (L + k) + 1 = L + k + 1 := by omega
        have HP3 := Lib.hid (show pro n m (k + 1) < 2 ^ (L + k + 1) by
          rw [HY.out]
          exact sum_lt (Nat.lt_of_lt_of_le HP.out (Nat.pow_le_pow_right (by omega) hT)) (shl_lt HN.out))
        rw [← HY.out, hTm] at HX
        clear hx hb3 HO2 HYY B2 hTm
        go_wp2_with fail
        go_roundw
        case rel => exact ⟨k + 1, L + k + 1, by omega, by omega, HP3.out, by go_num, HX.out, B3⟩
        case measure => simp [intOf]; omega
      · have HY := Lib.hid (pro_no n m k hbt)
        rw [hbt] at hcb
        clear hbt
        go_wp2_with fail
        go_roundw
        case rel => exact ⟨k + 1, T, by omega, by omega, by rw [HY.out]; exact HP.out, by go_num, by rw [HY.out]; exact HO.out, B⟩
        case measure => simp [intOf]; omega
    · obtain rfl : k = K := by omega
      go_wp2_with fail
      go_ret
      refine ⟨_, T, rfl, hT, ?_, ?_, B⟩
      · rw [← HE.out]; exact HP.out
      · rw [← HE.out]; exact HO.out
end Go.Proofs.Ytnbppbnjkmopeaa
namespace Go.Proofs.Ytnbppbnjkmopeaa
open Go.RowKit

/-- the quotient's bits from j on, and what is left of the bits from j on -/
def quo (n m j : Nat) : Nat := n / 2 ^ j / m * 2 ^ j
def rem (n m j : Nat) : Nat := n / 2 ^ j % m
theorem quo_start {n L : Nat} (m : Nat) (h : n < 2 ^ L) : quo n m L = 0 := by unfold quo; rw [Nat.div_eq_of_lt h, Nat.zero_div, Nat.zero_mul]
theorem rem_start {n L : Nat} (m : Nat) (h : n < 2 ^ L) : rem n m L = 0 := by unfold rem; rw [Nat.div_eq_of_lt h, Nat.zero_mod]
theorem quo_end (n m : Nat) : quo n m 0 = n / m := by unfold quo; rw [Nat.pow_zero, Nat.div_one, Nat.mul_one]
theorem rem_end (n m : Nat) : rem n m 0 = n % m := by unfold rem; rw [Nat.pow_zero, Nat.div_one]
theorem rem_lt (n m j : Nat) (hm : 0 < m) : rem n m j < m := Nat.mod_lt _ hm
/-- bit k comes down -/
def down (n m k : Nat) : Nat := 2 * rem n m (k + 1) + n / 2 ^ k % 2
theorem down_lt (n m k : Nat) (hm : 0 < m) : down n m k < 2 * m := by have := rem_lt n m (k + 1) hm; unfold down; omega
theorem div_facts (n m k : Nat) : n / 2 ^ k = m * (2 * (n / 2 ^ (k + 1) / m)) + down n m k := by
  have e := div_next n k
  have h := Nat.div_add_mod (n / 2 ^ (k + 1)) m
  unfold down rem
  rw [Nat.mul_left_comm]
  omega
theorem div_small (n m k : Nat) (hm : 0 < m) (h : down n m k < m) : quo n m k = quo n m (k + 1) ∧ rem n m k = down n m k := by
  have e := div_facts n m k
  have hq : n / 2 ^ k / m = 2 * (n / 2 ^ (k + 1) / m) := by
    rw [e, Nat.mul_add_div hm, Nat.div_eq_of_lt h, Nat.add_zero]
  have hr : n / 2 ^ k % m = down n m k := by rw [e, Nat.mul_add_mod, Nat.mod_eq_of_lt h]
  refine ⟨?_, hr⟩
  unfold quo
  rw [hq, Nat.pow_succ, Nat.mul_comm 2, Nat.mul_assoc, Nat.mul_comm 2]
theorem div_great (n m k : Nat) (hm : 0 < m) (h : m ≤ down n m k) : quo n m k = quo n m (k + 1) + 2 ^ k ∧ rem n m k = down n m k - m := by
  have e := div_facts n m k
  have hl := down_lt n m k hm
  have hd : down n m k / m = 1 := by rw [Nat.div_eq_sub_div hm h, Nat.div_eq_of_lt (by omega)]
  have hq : n / 2 ^ k / m = 2 * (n / 2 ^ (k + 1) / m) + 1 := by rw [e, Nat.mul_add_div hm, hd]
  have hr : n / 2 ^ k % m = down n m k - m := by rw [e, Nat.mul_add_mod, Nat.mod_eq_sub_mod h, Nat.mod_eq_of_lt (by omega)]
  refine ⟨?_, hr⟩
  unfold quo
  rw [hq, Nat.add_mul, Nat.one_mul, Nat.pow_succ, Nat.mul_comm 2, Nat.mul_assoc, Nat.mul_comm 2]
theorem quob (n m k i : Nat) : (quo n m (k + 1) + 2 ^ k).testBit i = if i = k then true else (quo n m (k + 1)).testBit i := by
  unfold quo
  generalize n / 2 ^ (k + 1) / m = q
  have e : q * 2 ^ (k + 1) + 2 ^ k = 2 ^ (k + 1) * q + 2 ^ k := by rw [Nat.mul_comm]
  rw [e, Nat.testBit_two_pow_mul_add _ (Nat.pow_lt_pow_right (by omega) (by omega)), Nat.mul_comm, Nat.testBit_two_pow_mul]
  by_cases h : i < k + 1
  · rw [if_pos h, Nat.testBit_two_pow]
    by_cases h2 : i = k
    · subst h2; simp
    · rw [if_neg h2]
      have : ¬ k + 1 ≤ i := by omega
      simp [this, Ne.symm h2]
  · rw [if_neg h, if_neg (by omega)]
    simp [show k + 1 ≤ i by omega]
/-- a bit of a row of one's own is set -/
theorem bbs_set (n m L k : Nat) (b : Bool) (h : ∀ i, i < L → m.testBit i = if i = k then b else n.testBit i) : (bbs n L).set k (.bool b) = bbs m L := by
  apply List.ext_getElem?
  intro i
  by_cases hi : i < L
  · rw [List.getElem?_set, bbs_get m L i hi, h i hi]
    by_cases hk : k = i
    · subst hk; simp [bbs_len, hi]
    · rw [if_neg hk, bbs_get n L i hi, if_neg (Ne.symm hk)]
  · rw [List.getElem?_eq_none (by simp [bbs_len]; omega), List.getElem?_eq_none (by simp [bbs_len]; omega)]
theorem BitsIs.set {w : World} {base g n m L cap k : Nat} {b : Bool} (h : BitsIs w base (.slice (some ⟨g, 0, none⟩) L cap) n L) (hb : ∀ i, i < L → m.testBit i = if i = k then b else n.testBit i) :
    BitsIs (w.setCell ⟨g, k, none⟩ (.bool b)) base (.slice (some ⟨g, 0, none⟩) L cap) m L := by
  have := (World.ownsRow.stored h k (.bool b)).1
  rw [bbs_set n m L k b hb] at this
  exact this
theorem BitsIs.setOther {w : World} {base g n L : Nat} {v : Value} (h : BitsIs w base v n L) (hne : v.ownBlock ≠ some g) (k : Nat) (x : Value) : BitsIs (w.setCell ⟨g, k, none⟩ x) base v n L := by
  refine ⟨h.1, ?_⟩
  rcases h.2 with h' | ⟨g', cap, cur, rfl, h1, h2, h3⟩
  · exact .inl h'
  · refine .inr ⟨g', cap, cur, rfl, h1, ?_, h3⟩
    rw [heap_setCell_other _ _ _ _ (fun e => hne (by simp [Value.ownBlock]; exact e))]
    exact h2
theorem low_bit (r : Nat) (b : Bool) (x : Nat) (hb : (b = true ∧ x = 1) ∨ (b = false ∧ x = 0)) (i : Nat) : (2 * r + x).testBit i = if i = 0 then b else (r * 2 ^ 1).testBit i := by
  by_cases h : i = 0
  · subst h
    rw [if_pos rfl, Nat.testBit_zero]
    rcases hb with ⟨rfl, rfl⟩ | ⟨rfl, rfl⟩ <;> simp
  · rw [if_neg h]
    obtain ⟨k, rfl⟩ : ∃ k, i = k + 1 := ⟨i - 1, by omega⟩
    rw [Nat.testBit_succ, Nat.testBit_succ]
    congr 1
    omega
theorem subz_mod (n m : Nat) (h : m ≤ n) (i : Nat) (hi : i < 256) : (subz n m).testBit i = (n - m).testBit i := by
  have e : subz n m % 2 ^ 256 = (n - m) % 2 ^ 256 := by unfold subz; omega
  have h1 : (subz n m % 2 ^ 256).testBit i = (subz n m).testBit i := by rw [Nat.testBit_mod_two_pow]; simp [hi]
  have h3 : ((n - m) % 2 ^ 256).testBit i = (n - m).testBit i := by rw [Nat.testBit_mod_two_pow]; simp [hi]
  rw [← h1, e, h3]
theorem made_bits (L : Nat) : (madeCells (Value.bool false).cells (L * 1)).toList = bbs 0 L := by
  unfold madeCells bbs
  simp [Value.cells, Nat.mod_one]

attribute [local irreducible] quo rem down
set_option maxRecDepth 100000 in
set_option maxHeartbeats 8000000 in
theorem refdiv_any (b1 : Nat) (v : Value) (n L : Nat) (hn : n < 2 ^ L) (b2 : Nat) (u : Value) (m K : Nat) (hm : m < 2 ^ K) (hm0 : 0 < m) (hm1 : m ≤ 2 ^ 256) (hL : L ≤ 10000) (hK : K ≤ 10000) (w : World) (h1 : BitsIs w b1 v n L) (h2 : BitsIs w b2 u m K) :
    Calls Try.prog 123 #[v, u] w fun e w' => ∃ x y T, e = .returned (.tuple #[x, y]) ∧ BitsIs w' w.heap.size x (n / m) L ∧ BitsIs w' w.heap.size y (n % m) T ∧ T ≤ 257 + L ∧ n % m < 2 ^ T ∧ Below w.heap.size w w' := by
  have HA := Lib.hid h1; have HB := Lib.hid h2
  have HM := Lib.hid hm
  have HS := Lib.hid (show quo n m L = 0 ∧ rem n m L = 0 from ⟨quo_start m hn, rem_start m hn⟩)
  have HM0 := Lib.hid (show 0 < m ∧ m ≤ 2 ^ 256 from ⟨hm0, hm1⟩)
  obtain ⟨xv, capv, rfl⟩ := h1.shape
  obtain ⟨i0, hi, hz0, hz1, hz2⟩ := info_parts info_bool
  clear h1 h2 hn hm hm0 hm1
  have B : Below w.heap.size w w := Below.refl _ _
  go_enter Try.func123, Try.ntmps123
  go_wp2_with (refine wpList_make_full w rfl (.tmp 10) (.tmp 10) 82 rfl w.heap.size 4 i0 (.bool false) 1 underlying_bits hi hz0 hz1 .i64 .i64 (L : Int) (L : Int) L rfl rfl rfl rfl (by rw [hz2]; omega) (by unfold maxLen; omega) (Nat.le_refl _) (fun w1 hown hgrow => ?_))
  have hq0 : BitsIs w1 w.heap.size (.slice (some ⟨w.heap.size, 0, none⟩) L L) 0 L := by
    rw [made_bits] at hown; exact hown
  have hz1 := (World.ownsRow.lt hown w.heap.size rfl).2
  have B1 := B.grown hgrow (Nat.le_refl _) (fun k h => by cases h)
  have HQ := Lib.hid hq0
  clear hown hgrow hq0 hi hz0 hz1 hz2 B
  have B := B1
  clear B1
  go_loopw [7, 8] (fun lv ix wr => ∃ j T : Nat, j ≤ L ∧ T ≤ 257 + (L - j) ∧ rem n m j < 2 ^ T ∧ ix = .int .i64 ((j : Int) - 1) ∧ BitsIs wr (w.heap.size + 1) lv (rem n m j) T ∧ BitsIs wr w.heap.size (.slice (some ⟨w.heap.size, 0, none⟩) L L) (quo n m j) L ∧ w.heap.size + 1 ≤ wr.heap.size ∧ Below w.heap.size w wr) (fun _ ix _ => (intOf ix + 1).toNat)
  case atStart =>
    refine ⟨L, 0, Nat.le_refl _, by omega, by rw [HS.out.2]; decide, rfl, BitsIs.nil _ _ _, by rw [HS.out.1]; exact HQ.out, ?_, B⟩
    exact (World.ownsRow.lt HQ.out w.heap.size rfl).2
  case round =>
    obtain ⟨j, T, hj, hT, hr, rfl, hLv, hQv, hsz, B⟩ := hrel
    have HLv := Lib.hid hLv; have HQv := Lib.hid hQv; have HR := Lib.hid hr
    clear hLv hQv hr HQ HS
    by_cases h0 : j = 0
    · subst h0
      go_wp2_with fail
      exact bodyPost_ret (v := .tuple #[.slice (some ⟨w.heap.size, 0, none⟩) L L, u7]) (by simp [results, Try.results123, go_sem]) rfl ⟨_, _, T, rfl, by rw [← quo_end]; exact HQv.out, by rw [← rem_end]; exact HLv.out.mono (by omega), by omega, by rw [← rem_end]; exact HR.out, B⟩
    · obtain ⟨k, rfl⟩ : ∃ k, j = k + 1 := ⟨j - 1, by omega⟩
      rw [show ((k + 1 : Nat) : Int) - 1 = (k : Int) by omega]
      obtain ⟨ga, capa, hav, -, hga, hca0, hfa0⟩ := HA.out.at k (by omega)
      simp only [Value.slice.injEq, true_and] at hav
      obtain ⟨rfl, rfl⟩ := hav
      have HD := Lib.hid (show down n m k < 2 ^ (T + 1) by
        have := HR.out
        unfold down
        rw [Nat.pow_succ]; omega)
      have hkL : k < L := by omega
      go_wp2_with fail
      refine (shiftl_any _ _ (rem n m (k + 1)) T HR.out 1 (by omega) (by omega) _ HLv.out).mono ?_
      rintro e w2 ⟨x, rfl, hx, hb2⟩
      obtain ⟨g, cap, rfl, hge, hglt, hcx, hfx⟩ := hx.at 0 (by omega)
      have HX := Lib.hid hx
      have HQ2 := Lib.hid (HQv.out.keep hb2)
      have B2 := below_next B hb2
      have hca := (B2.cell (p := ⟨ga, k, none⟩) hga).trans hca0
      have hfa := (B2.frozen (p := ⟨ga, k, none⟩) hga).trans hfa0
      have hgw : w.heap.size < g := by omega
      clear hb2 hx hca0 hfa0 HLv HQv B hge
      have hgne : g ≠ ga := by omega
      have hgne2 : ga ≠ g := by omega
      have hsz2 : w.heap.size + 1 ≤ w2.heap.size := by omega
      have HBX := Lib.hid (bit01 n k)
      have HDn := Lib.hid (show down n m k = 2 * rem n m (k + 1) + n / 2 ^ k % 2 by unfold down; rfl)
      generalize n.testBit k = bb at *
      go_wp2_with fail
      have HX3 := Lib.hid (HX.out.set (k := 0) (b := bb) (m := down n m k) (fun i hi => by rw [HDn.out]; exact low_bit (rem n m (k + 1)) bb _ HBX.out i))
      have HQ3 := Lib.hid (HQ2.out.setOther (g := g) (by simp [Value.ownBlock]; omega) 0 (.bool bb))
      have B3 : Below w.heap.size w (w2.setCell ⟨g, 0, none⟩ (.bool bb)) := Below.setCell B2 (by show w.heap.size ≤ g; omega) (.bool bb)
      refine (less_any _ _ (down n m k) (T + 1) HD.out _ _ m K HM.out (by omega) (by omega) _ HX3.out (HB.out.keep B3)).mono ?_
      rintro e w4 ⟨rfl, hb4⟩
      have HX4 := Lib.hid (HX3.out.keep hb4)
      have HQ4 := Lib.hid (HQ3.out.keep hb4)
      have B4 := below_next B3 hb4
      have hsz4 : w.heap.size + 1 ≤ w4.heap.size := by have := hb4.size; simp at this; omega
      clear hb4 HX HX3 HQ2 HQ3 B2 B3 hca hfa hcx hfx
      by_cases hlt : down n m k < m
      · rw [decide_eq_true hlt]
        have HE := Lib.hid (div_small n m k HM0.out.1 hlt)
        clear hlt
        go_wp2_with fail
        go_roundw
        case rel => exact ⟨k, T + 1, by omega, by omega, by rw [HE.out.2]; exact HD.out, by go_num, by rw [HE.out.2]; exact HX4.out.mono (by omega), by rw [HE.out.1]; exact HQ4.out, hsz4, B4⟩
        case measure => simp [intOf]
      · rw [decide_eq_false hlt]
        have HE := Lib.hid (div_great n m k HM0.out.1 (by omega))
        have HLE := Lib.hid (show m ≤ down n m k by omega)
        have HRL := Lib.hid (show rem n m k < 2 ^ 256 by have := rem_lt n m k HM0.out.1; have := HM0.out.2; omega)
        clear hlt
        obtain ⟨gq, capq, hqv, -, hgq, hcq, hfq⟩ := HQ4.out.at k hkL
        simp only [Value.slice.injEq, Option.some.injEq, Addr.mk.injEq, and_true, true_and] at hqv
        obtain ⟨rfl, rfl⟩ := hqv
        go_wp2_with fail
        have HQ5 := Lib.hid (HQ4.out.set (k := k) (b := true) (m := quo n m (k + 1) + 2 ^ k) (fun i hi => quob n m k i))
        have HX5 := Lib.hid (HX4.out.setOther (g := w.heap.size) (by simp [Value.ownBlock]; omega) k (.bool true))
        have B5 : Below w.heap.size w (w4.setCell ⟨w.heap.size, k, none⟩ (.bool true)) := Below.setCell B4 (Nat.le_refl _) (.bool true)
        refine (refsub_any _ _ (down n m k) (T + 1) HD.out _ _ m K HM.out _ HX5.out (HB.out.keep B5)).mono ?_
        rintro e w6 ⟨y, rfl, hy, hb6⟩
        have HQ6 := Lib.hid (HQ5.out.keep hb6)
        have HY := Lib.hid ((hy.congr (m := rem n m k) (fun i hi => by rw [HE.out.2]; exact subz_mod _ _ HLE.out i hi)).mono (base' := w.heap.size + 1) (by simp; omega))
        have B6 := below_next B5 hb6
        have hsz6 : w.heap.size + 1 ≤ w6.heap.size := by have := hb6.size; simp at this; omega
        clear hb6 hy HX5 HQ5 B5 HX4 HQ4 B4 hcq hfq
        go_wp2_with fail
        go_roundw
        case rel => exact ⟨k, 256, by omega, by omega, HRL.out, by go_num, HY.out, by rw [HE.out.1]; exact HQ6.out, hsz6, B6⟩
        case measure => simp [intOf]
end Go.Proofs.Ytnbppbnjkmopeaa
namespace Go.Proofs.Ytnbppbnjkmopeaa
open Go.RowKit

theorem borrow_lt (a b : Nat) (ha : a < 2 ^ 256) (hb : b < 2 ^ 256) : borrow a b 256 = decide (a < b) := by
  unfold borrow; rw [Nat.mod_eq_of_lt ha, Nat.mod_eq_of_lt hb]
theorem subz_lt (a b : Nat) : subz a b < 2 ^ 258 ∨ 2 ^ 256 ≤ a := by unfold subz; omega
theorem BitsIs.low {w : World} {base : Nat} {v : Value} {n : Nat} (h : BitsIs w base v n 256) : BitsIs w base v (n % 2 ^ 256) 256 :=
  h.congr fun i hi => by rw [Nat.testBit_mod_two_pow]; simp [hi]
/-- the calls as the laws make them: over numbers' own bits -/
theorem numsub_any {w : World} {b1 b2 : Nat} {v u : Value} {a b : Nat} (h1 : BitsIs w b1 v a 256) (h2 : BitsIs w b2 u b 256) (ha : a < 2 ^ 256) (hb : b < 2 ^ 256) :
    Calls Try.prog 133 #[v, u] w fun e w' => ∃ x, e = .returned (.tuple #[x, .bool (decide (a < b))]) ∧ BitsIs w' w.heap.size x ((a + 2 ^ 256 - b) % 2 ^ 256) 256 ∧ Below w.heap.size w w' := by
  refine (refsub_any b1 v a 256 ha b2 u b 256 hb w h1 h2).mono fun e w' ⟨x, he, hx, hbl⟩ => ⟨x, by rw [he, borrow_lt a b ha hb], ?_, hbl⟩
  have e2 : (a + 2 ^ 256 - b) % 2 ^ 256 = subz a b % 2 ^ 256 := by unfold subz; rw [Nat.mod_eq_of_lt hb]; congr 1; omega
  rw [e2]
  exact hx.low
theorem numadd_any {w : World} {b1 b2 : Nat} {v u : Value} {a b : Nat} (h1 : BitsIs w b1 v a 256) (h2 : BitsIs w b2 u b 256) (ha : a < 2 ^ 256) (hb : b < 2 ^ 256) :
    Calls Try.prog 125 #[v, u] w fun e w' => ∃ x, e = .returned x ∧ BitsIs w' w.heap.size x (a + b) 257 ∧ Below w.heap.size w w' :=
  refadd_any b1 v a 256 ha b2 u b 256 hb (by omega) (by omega) w h1 h2
theorem numless_any {w : World} {b1 b2 : Nat} {v u : Value} {a b : Nat} (h1 : BitsIs w b1 v a 256) (h2 : BitsIs w b2 u b 256) (ha : a < 2 ^ 256) (hb : b < 2 ^ 256) :
    Calls Try.prog 80 #[v, u] w fun e w' => e = .returned (.bool (decide (a < b))) ∧ Below w.heap.size w w' :=
  less_any b1 v a 256 ha b2 u b 256 hb (by omega) (by omega) w h1 h2
theorem numwords_any {w : World} {b1 : Nat} {v : Value} {n : Nat} (h1 : BitsIs w b1 v n 256) (hn : n < 2 ^ 256) :
    Calls Try.prog 46 #[v] w fun e w' => e = .returned (.tuple #[nv n, .bool false]) ∧ Below w.heap.size w w' := by
  have := words_any b1 v n 256 hn (by omega) w h1
  rwa [Nat.mod_eq_of_lt hn, decide_eq_false (by omega)] at this
end Go.Proofs.Ytnbppbnjkmopeaa
