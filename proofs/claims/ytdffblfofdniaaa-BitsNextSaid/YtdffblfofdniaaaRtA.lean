/- tallystickref03: small, length, Target; law03.is. No condition. -/
import Derived.Test.YtdffblfofdniaaaBtRound
import Derived.Test.YtdffblfofdniaaaRefLaw
import Derived.Test.YtdffblfofdniaaaRefDiv
namespace Go.Proofs.Ytdffblfofdniaaa
open Go.RowKit

set_option maxRecDepth 100000 in
set_option maxHeartbeats 1000000 in
theorem small_any (x : Nat) (hx : x < 18446744073709551616) (w : World) :
    Calls Try.prog 62 #[.int .u64 x] w fun e w' => ∃ v, e = .returned v ∧ BitsIs w' w.heap.size v x 256 ∧ Below w.heap.size w w' := by
  have co : Hid (∀ w : World, Calls Try.prog 51 #[.agg #[.int .u64 (x : Int), .int .u64 0, .int .u64 0, .int .u64 0]] w fun e w' => ∃ v, e = .returned v ∧ BitsIs w' w.heap.size v x 256 ∧ Below w.heap.size w w') := Lib.hid fun w => by
    have := refof_any x w
    have e := of_small (n := (x : Int)) (by omega) (by omega)
    rw [Int.toNat_natCast] at e
    rwa [e] at this
  have B : Below w.heap.size w w := Below.refl _ _
  go_enter Try.func62, Try.ntmps62
  go_wp2_with fail
  refine (co.out _).mono ?_
  rintro e w1 ⟨v, rfl, hv, hb⟩
  have B1 := below_next B hb
  have HV := Lib.hid hv
  clear hv hb co
  go_wp2_with fail
  go_ret
  exact ⟨_, rfl, HV.out, B1⟩

theorem len_here {n k : Nat} (h : n < 2 ^ (k + 1)) (hb : n.testBit k = true) : bitLen n = k + 1 := by
  refine bitLen_of ?_ h
  rcases bit01 n k with ⟨b, f⟩ | ⟨b, f⟩
  · have h1 : 1 ≤ n / 2 ^ k := by
      revert f; generalize n / 2 ^ k = y; intro f; omega
    rwa [Nat.le_div_iff_mul_le (Nat.two_pow_pos _), Nat.one_mul] at h1
  · rw [b] at hb; cases hb
theorem len_less {n k : Nat} (h : n < 2 ^ (k + 1)) (hb : n.testBit k = false) : n < 2 ^ k := by
  rcases bit01 n k with ⟨b, f⟩ | ⟨b, f⟩
  · rw [b] at hb; cases hb
  · have h1 : n / 2 ^ k < 2 := by rw [Nat.div_lt_iff_lt_mul (Nat.two_pow_pos _), Nat.mul_comm, ← Nat.pow_succ]; exact h
    have h2 : n / 2 ^ k = 0 := by
      revert f h1; generalize n / 2 ^ k = y; intro f h1; omega
    rwa [Nat.div_eq_zero_iff_lt (Nat.two_pow_pos _)] at h2

set_option maxRecDepth 100000 in
set_option maxHeartbeats 1000000 in
theorem length_any (b1 : Nat) (v : Value) (n L : Nat) (hn : n < 2 ^ L) (hL : L ≤ 100000) (w : World) (h1 : BitsIs w b1 v n L) :
    Calls Try.prog 63 #[v] w fun e w' => e = .returned (.int .i64 (bitLen n)) ∧ Below w.heap.size w w' := by
  have HA := Lib.hid h1
  obtain ⟨xv, capv, rfl⟩ := h1.shape
  have HN := Lib.hid hn
  clear h1 hn
  have B : Below w.heap.size w w := Below.refl _ _
  go_enter Try.func63, Try.ntmps63
  go_wp2_with fail
  go_loopw [3] (fun ix wr => ∃ k : Nat, k ≤ L ∧ n < 2 ^ k ∧ ix = .int .i64 k ∧ wr = w) (fun ix _ => (intOf ix).toNat)
  case atStart => exact ⟨L, Nat.le_refl _, HN.out, rfl, rfl⟩
  case round =>
    obtain ⟨k1, hk, hnk, rfl, rfl⟩ := hrel
    have HNK := Lib.hid hnk
    clear hnk HN
    by_cases h0 : k1 = 0
    · subst h0
      have hn0 : n = 0 := by have := HNK.out; simpa using this
      have hb0 : bitLen n = 0 := by rw [hn0]; rfl
      have HB0 := Lib.hid hb0
      clear hn0 hb0
      go_wp2_with fail
      go_ret
      exact ⟨by rw [HB0.out]; rfl, B⟩
    · obtain ⟨k, rfl⟩ : ∃ k, k1 = k + 1 := ⟨k1 - 1, by omega⟩
      obtain ⟨g, cap, hgv, -, hg, hc, hf⟩ := HA.out.at k (by omega)
      simp only [Value.slice.injEq, true_and] at hgv
      obtain ⟨rfl, rfl⟩ := hgv
      have hkL : k < L := by omega
      have hk0 : (0 : Int) < (k : Int) + 1 := by omega
      rcases Bool.eq_false_or_eq_true (n.testBit k) with hb | hb
      · have HE := Lib.hid (len_here HNK.out hb)
        rw [hb] at hc
        clear hb h0
        go_wp2_with fail
        go_ret
        exact ⟨by rw [HE.out]; first | rfl | simp, B⟩
      · have HE := Lib.hid (len_less HNK.out hb)
        rw [hb] at hc
        clear hb h0
        go_wp2_with fail
        go_roundw
        case rel => exact ⟨k, by omega, HE.out, by go_num, by first | rfl | trivial⟩
        case measure => simp [intOf]

set_option maxRecDepth 100000 in
set_option maxHeartbeats 1000000 in
theorem is3_any (s : Nat) (hs : s < 2 ^ 256) (b1 : Nat) (v : Value) (n L : Nat) (hn : n < 2 ^ L) (hL : L ≤ 100000) (hsn : s = n % 2 ^ 256) (w : World) (h1 : BitsIs w b1 v n L) :
    Calls Try.prog 46 #[nv s, v] w fun e w' => e = .returned (.bool true) ∧ Below w.heap.size w w' := by
  have cw := Lib.hid fun w1 (hb : Below w.heap.size w w1) => words_any b1 v n L hn hL w1 (h1.keep hb)
  obtain ⟨oo, hoo⟩ : ∃ oo, oo = decide (2 ^ 256 ≤ n) := ⟨_, rfl⟩
  rw [← hsn, ← hoo] at cw
  obtain ⟨xv, capv, rfl⟩ := h1.shape
  clear hsn hoo h1 hn
  have hq : ∀ w : World, (Op.equalIn 10000 24 (nv s) (nv s)).run Try.prog w = .ok true w := fun w => by rw [eq_num s s hs hs w, decide_eq_true rfl]
  clear hs
  have B : Below w.heap.size w w := Below.refl _ _
  have K0 := Lib.hid (heap_new w (nblk s))
  go_enter Try.func46, Try.ntmps46
  go_wp2_with fail
  refine (cw.out _ (by repeat' (first | (with_reducible exact Below.refl _ _) | (with_reducible assumption) | (with_reducible refine below_alloc ?_ _) | (with_reducible refine Below.drew ?_) | (with_reducible refine below_drewN ?_ _) | (with_reducible refine Below.setCell ?_ ?_ _) | go_size))).mono ?_
  rintro e w1 ⟨rfl, hb⟩
  have K1 := Lib.hid (below_keep hb K0.out)
  have B1 := below_next (w := w) (by repeat' (first | (with_reducible exact Below.refl _ _) | (with_reducible assumption) | (with_reducible refine below_alloc ?_ _) | (with_reducible refine Below.drew ?_) | (with_reducible refine below_drewN ?_ _) | (with_reducible refine Below.setCell ?_ ?_ _) | go_size)) hb
  clear hb K0 cw
  obtain ⟨K1_0, K1_1, K1_2, K1_3, K1_f, K1_z⟩ := cells4 K1.out
  go_wp2_with fail
  go_ret
  exact ⟨rfl, (by repeat' (first | (with_reducible exact Below.refl _ _) | (with_reducible assumption) | (with_reducible refine below_alloc ?_ _) | (with_reducible refine Below.drew ?_) | (with_reducible refine below_drewN ?_ _) | (with_reducible refine Below.setCell ?_ ?_ _) | go_size))⟩
end Go.Proofs.Ytdffblfofdniaaa
