/- tallystickref02.Words: bits as four words. No condition. -/
import Derived.Test.YtdffblfofdniaaaRefAdd
import Derived.Test.YtdffblfofdniaaaIdPlain
namespace Go.Proofs.Ytdffblfofdniaaa
open Go.RowKit

def wblk (n k : Nat) : Obj := .cells #[.int .u64 (wk n k 0), .int .u64 (wk n k 1), .int .u64 (wk n k 2), .int .u64 (wk n k 3)] 23 (0, 0)
def ovr (n k : Nat) : Bool := !decide (n / 2 ^ max k 256 = 0)
theorem ovr_start {n L : Nat} (h : n < 2 ^ L) : ovr n L = false := by
  unfold ovr
  rw [Nat.div_eq_of_lt (Nat.lt_of_lt_of_le h (Nat.pow_le_pow_right (by omega) (by omega)))]; rfl
theorem ovr_end (n : Nat) : ovr n 0 = decide (2 ^ 256 ≤ n) := by
  unfold ovr
  rw [show max 0 256 = 256 by omega]
  by_cases h : 2 ^ 256 ≤ n
  · rw [decide_eq_true h, decide_eq_false (by have := Nat.div_pos h (by omega); omega)]; rfl
  · rw [decide_eq_false h, decide_eq_true (Nat.div_eq_of_lt (by omega))]; rfl
theorem ovr_low (n k : Nat) (h : k < 256) : ovr n k = ovr n (k + 1) := by unfold ovr; rw [show max k 256 = 256 by omega, show max (k + 1) 256 = 256 by omega]
theorem ovr_high (n k : Nat) (h : 256 ≤ k) : ovr n k = (ovr n (k + 1) || n.testBit k) := by
  unfold ovr
  rw [show max k 256 = k by omega, show max (k + 1) 256 = k + 1 by omega]
  have e := div_next n k
  rcases bit01 n k with ⟨b, f⟩ | ⟨b, f⟩
  · rw [b, Bool.or_true, decide_eq_false (by omega)]; rfl
  · rw [b, Bool.or_false]
    by_cases h0 : n / 2 ^ (k + 1) = 0
    · rw [decide_eq_true h0, decide_eq_true (by omega)]
    · rw [decide_eq_false h0, decide_eq_false (by omega)]
theorem wk_top {n L : Nat} (h : n < 2 ^ L) (j : Nat) : wk n L j = 0 := by
  unfold wk
  split
  · rfl
  · rw [Nat.div_eq_of_lt (Nat.lt_of_lt_of_le h (Nat.pow_le_pow_right (by omega) (by omega))), Nat.zero_mod]
theorem wk_high (n k j : Nat) (hj : j < 4) (h : 256 ≤ k) : wk n k j = 0 := by unfold wk; rw [if_pos (by omega)]
theorem wblk_cell {w : World} {g n k j : Nat} (h : w.heap[g]? = some (wblk n k)) (hj : j < 4) : w.cell? ⟨g, j, none⟩ = some (.int .u64 (wk n k j)) ∧ w.frozen? ⟨g, j, none⟩ = false := by
  refine ⟨?_, frozen_of_row _ _ _ _ _ h⟩
  rw [cell_of_row _ _ _ _ _ _ h]
  have hj' : j = 0 ∨ j = 1 ∨ j = 2 ∨ j = 3 := by omega
  rcases hj' with rfl | rfl | rfl | rfl <;> rfl
theorem wblk_step {w : World} {g n k : Nat} (h : w.heap[g]? = some (wblk n (k + 1))) (hk : k < 256) (x : Int) (hx : x = (wk n k (k / 64) : Nat)) : (w.setCell ⟨g, k / 64, none⟩ (.int .u64 x)).heap[g]? = some (wblk n k) := by
  rw [heap_setCell_same w g (k / 64) _ _ _ h, hx]
  have hc : k / 64 = 0 ∨ k / 64 = 1 ∨ k / 64 = 2 ∨ k / 64 = 3 := by omega
  have ho := wk_other n k
  rcases hc with e | e | e | e <;> rw [e] at ho ⊢ <;> unfold wblk
  · rw [ho 1 (by omega), ho 2 (by omega), ho 3 (by omega)]; rfl
  · rw [ho 0 (by omega), ho 2 (by omega), ho 3 (by omega)]; rfl
  · rw [ho 0 (by omega), ho 1 (by omega), ho 3 (by omega)]; rfl
  · rw [ho 0 (by omega), ho 1 (by omega), ho 2 (by omega)]; rfl
theorem wblk_step2 {w : World} {g n k : Nat} (h : w.heap[g]? = some (wblk n (k + 1))) (hk : k < 256) (u : Value) (x : Int) (hx : x = (wk n k (k / 64) : Nat)) :
    ((w.setCell ⟨g, k / 64, none⟩ u).setCell ⟨g, k / 64, none⟩ (.int .u64 x)).heap[g]? = some (wblk n k) := by
  have h1 := heap_setCell_same w g (k / 64) _ _ u h
  rw [heap_setCell_same _ g (k / 64) _ _ _ h1, hx]
  have hc : k / 64 = 0 ∨ k / 64 = 1 ∨ k / 64 = 2 ∨ k / 64 = 3 := by omega
  have ho := wk_other n k
  rcases hc with e | e | e | e <;> rw [e] at ho ⊢ <;> unfold wblk
  · rw [ho 1 (by omega), ho 2 (by omega), ho 3 (by omega)]; rfl
  · rw [ho 0 (by omega), ho 2 (by omega), ho 3 (by omega)]; rfl
  · rw [ho 0 (by omega), ho 1 (by omega), ho 3 (by omega)]; rfl
  · rw [ho 0 (by omega), ho 1 (by omega), ho 2 (by omega)]; rfl
theorem nv_low (n : Nat) : nv (n % 2 ^ 256) = .agg #[.int .u64 (lw n 0), .int .u64 (lw n 1), .int .u64 (lw n 2), .int .u64 (lw n 3)] := by
  unfold nv
  rw [lw_low n 256 0 (by omega), lw_low n 256 1 (by omega), lw_low n 256 2 (by omega), lw_low n 256 3 (by omega)]

attribute [local irreducible] wk ovr
set_option maxRecDepth 100000 in
set_option maxHeartbeats 4000000 in
theorem words_any (b1 : Nat) (v : Value) (n L : Nat) (hn : n < 2 ^ L) (hL : L ≤ 100000) (w : World) (h1 : BitsIs w b1 v n L) :
    Calls Try.prog 25 #[v] w fun e w' => e = .returned (.tuple #[nv (n % 2 ^ 256), .bool (decide (2 ^ 256 ≤ n))]) ∧ Below w.heap.size w w' := by
  have HA := Lib.hid h1
  obtain ⟨xv, capv, rfl⟩ := h1.shape
  have HT := Lib.hid (wk_top hn)
  have HOS := Lib.hid (ovr_start hn)
  clear h1 hn
  have B : Below w.heap.size w w := Below.refl _ _
  have A := alloc2 w (.cells #[.int .u64 0, .int .u64 0, .int .u64 0, .int .u64 0] 23 (0, 0)) (.cells #[.int .u64 0, .int .u64 0, .int .u64 0, .int .u64 0] 23 (0, 0))
  have K0 := Lib.hid A.1; have K1 := Lib.hid A.2
  clear A
  go_enter Try.func25, Try.ntmps25
  go_wp2_with fail
  go_loopw [5, 6] (fun ov ix wr => ∃ k : Nat, k ≤ L ∧ ix = .int .i64 ((k : Int) - 1) ∧ ov = .bool (ovr n k) ∧ wr.heap[w.heap.size]? = some (.cells #[.int .u64 0, .int .u64 0, .int .u64 0, .int .u64 0] 23 (0, 0)) ∧ wr.heap[w.heap.size + 1]? = some (wblk n k) ∧ Below w.heap.size w wr) (fun _ ix _ => (intOf ix + 1).toNat)
  case atStart =>
    refine ⟨L, Nat.le_refl _, rfl, by rw [HOS.out], K0.out, ?_, (by repeat' (first | (with_reducible exact Below.refl _ _) | (with_reducible assumption) | (with_reducible refine below_alloc ?_ _) | (with_reducible refine Below.drew ?_) | (with_reducible refine below_drewN ?_ _) | (with_reducible refine Below.setCell ?_ ?_ _) | go_size))⟩
    unfold wblk
    rw [HT.out, HT.out, HT.out, HT.out]
    exact K1.out
  case round =>
    obtain ⟨k1, hk, rfl, rfl, hr0, hr1, B⟩ := hrel
    have K0' := Lib.hid hr0; have K1' := Lib.hid hr1
    clear hr0 hr1 K0 K1
    have K0 := K0'; have K1 := K1'
    clear K0' K1'
    by_cases h0 : k1 = 0
    · subst h0
      obtain ⟨c0, f0⟩ := wblk_cell K1.out (show 0 < 4 by omega)
      obtain ⟨c1, f1⟩ := wblk_cell K1.out (show 1 < 4 by omega)
      obtain ⟨c2, f2⟩ := wblk_cell K1.out (show 2 < 4 by omega)
      obtain ⟨c3, f3⟩ := wblk_cell K1.out (show 3 < 4 by omega)
      rw [wk_end] at c0 c1 c2 c3
      obtain ⟨d0, d1, d2, d3, df, dz⟩ := cells4 K0.out
      rw [ovr_end n]
      generalize hoo : decide (2 ^ 256 ≤ n) = oo at *
      have HOO := Lib.hid hoo
      clear hoo
      go_wp2_with fail
      obtain ⟨r0, r1, r2, r3, rf, rz⟩ := cells4 (set4 (.int .u64 (lw n 0)) (.int .u64 (lw n 1)) (.int .u64 (lw n 2)) (.int .u64 (lw n 3)) K0.out)
      exact bodyPost_ret (v := .tuple #[.agg #[.int .u64 (lw n 0), .int .u64 (lw n 1), .int .u64 (lw n 2), .int .u64 (lw n 3)], .bool oo]) (by simp [results, Try.results25, go_sem, r0, r1, r2, r3]) rfl ⟨by rw [nv_low, HOO.out], (by repeat' (first | (with_reducible exact Below.refl _ _) | (with_reducible assumption) | (with_reducible refine below_alloc ?_ _) | (with_reducible refine Below.drew ?_) | (with_reducible refine below_drewN ?_ _) | (with_reducible refine Below.setCell ?_ ?_ _) | go_size))⟩
    · obtain ⟨k, rfl⟩ : ∃ k, k1 = k + 1 := ⟨k1 - 1, by omega⟩
      rw [show ((k + 1 : Nat) : Int) - 1 = (k : Int) by omega]
      have hbit := HA.out.at k (by omega)
      obtain ⟨g, cap, hgv, -, hg, hcb0, hfb0⟩ := hbit
      have hcb := (B.cell (p := ⟨g, k, none⟩) hg).trans hcb0
      have hfb := (B.frozen (p := ⟨g, k, none⟩) hg).trans hfb0
      have hgn : g ≠ w.heap.size + 1 := by omega
      have hgn2 : w.heap.size + 1 ≠ g := by omega
      clear hcb0 hfb0
      simp only [Value.slice.injEq, true_and] at hgv
      obtain ⟨rfl, rfl⟩ := hgv
      have HW := Lib.hid (wk_step n k)
      rcases bit01 n k with ⟨bt, bf⟩ | ⟨bt, bf⟩
      all_goals
        rw [bt] at hcb
        have HBT := Lib.hid bt; have HBF := Lib.hid bf
        clear bt bf h0
        by_cases h256 : 256 ≤ k
        · have hov := Lib.hid (ovr_high n k h256)
          have K1z : wr.heap[w.heap.size + 1]? = some (wblk n k) := by
            have := K1.out
            unfold wblk at this ⊢
            rw [wk_high n k 0 (by omega) h256, wk_high n k 1 (by omega) h256, wk_high n k 2 (by omega) h256, wk_high n k 3 (by omega) h256]
            rwa [wk_high n (k + 1) 0 (by omega) (by omega), wk_high n (k + 1) 1 (by omega) (by omega), wk_high n (k + 1) 2 (by omega) (by omega), wk_high n (k + 1) 3 (by omega) (by omega)] at this
          have KZ := Lib.hid K1z
          clear K1z
          have h256' : (256 : Int) ≤ (k : Int) := by omega
          generalize hO : ovr n (k + 1) = O at *
          cases O
          all_goals
            go_wp2_with fail
            go_roundw
            case rel => exact ⟨k, by omega, by go_num, by rw [hov.out, HBT.out]; rfl, K0.out, KZ.out, B⟩
            case measure => simp [intOf]
        · have hov := Lib.hid (ovr_low n k (by omega))
          have h256' : ¬ (256 : Int) ≤ (k : Int) := by omega
          have hj : k / 64 < 4 := by omega
          obtain ⟨hc, hf⟩ := wblk_cell K1.out hj
          have e1 : Int.tdiv (k : Int) 64 = ((k / 64 : Nat) : Int) := by rw [Int.tdiv_eq_ediv_of_nonneg (by omega)]; omega
          have hy := HW.out.2
          obtain ⟨y, hyy⟩ : ∃ y, y = wk n (k + 1) (k / 64) := ⟨_, rfl⟩
          rw [← hyy] at hc hy
          have HY := Lib.hid hyy
          have HK := Lib.hid (show k < 256 by omega)
          clear hyy
          go_wp2_with fail
          go_roundw
          case rel =>
            refine ⟨k, by omega, by go_num, by rw [hov.out], (heap_setCell_other _ _ _ _ (show w.heap.size ≠ w.heap.size + 1 by omega)).trans ?_, ?_, (by repeat' (first | (with_reducible exact Below.refl _ _) | (with_reducible assumption) | (with_reducible refine below_alloc ?_ _) | (with_reducible refine Below.drew ?_) | (with_reducible refine below_drewN ?_ _) | (with_reducible refine Below.setCell ?_ ?_ _) | go_size))⟩
            · first
                | exact K0.out
                | exact (heap_setCell_other _ _ _ _ (show w.heap.size ≠ w.heap.size + 1 by omega)).trans K0.out
            · have hs := HW.out.1
              have hyv := HY.out
              have hbf := HBF.out
              first
                | exact wblk_step K1.out HK.out _ (by omega)
                | exact wblk_step2 K1.out HK.out _ _ (by omega)
          case measure => simp [intOf]
end Go.Proofs.Ytdffblfofdniaaa
