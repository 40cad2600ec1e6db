/- tallystickref02.Div. No condition. -/
import Derived.Test.YtdffblfofdniaaaRefMul
import Derived.Test.YtdffblfofdniaaaRefLaw
namespace Go.Proofs.Ytdffblfofdniaaa
open Go.RowKit

/-- the quotient's bits from j on, and what is left of the bits from j on -/
def quo (n m j : Nat) : Nat := n / 2 ^ j / m * 2 ^ j
def rem (n m j : Nat) : Nat := n / 2 ^ j % m
theorem quo_start {n L : Nat} (m : Nat) (h : n < 2 ^ L) : quo n m L = 0 := by unfold quo; rw [Nat.div_eq_of_lt h, Nat.zero_div, Nat.zero_mul]
theorem rem_start {n L : Nat} (m : Nat) (h : n < 2 ^ L) : rem n m L = 0 := by unfold rem; rw [Nat.div_eq_of_lt h, Nat.zero_mod]
theorem quo_end (n m : Nat) : quo n m 0 = n / m := by unfold quo; rw [Nat.pow_zero, Nat.div_one, Nat.mul_one]
theorem rem_end (n m : Nat) : rem n m 0 = n % m := by unfold rem; rw [Nat.pow_zero, Nat.div_one]
theorem rem_lt (n m j : Nat) (hm : 0 < m) : rem n m j < m := Nat.mod_lt _ hm
/-- bit k comes down -/
def down (n m k : Nat) : Nat := 2 * rem n m (k + 1) + n / 2 ^ k % 2
theorem down_lt (n m k : Nat) (hm : 0 < m) : down n m k < 2 * m := by have := rem_lt n m (k + 1) hm; unfold down; omega
theorem div_facts (n m k : Nat) : n / 2 ^ k = m * (2 * (n / 2 ^ (k + 1) / m)) + down n m k := by
  have e := div_next n k
  have h := Nat.div_add_mod (n / 2 ^ (k + 1)) m
  unfold down rem
  rw [Nat.mul_left_comm]
  omega
theorem div_small (n m k : Nat) (hm : 0 < m) (h : down n m k < m) : quo n m k = quo n m (k + 1) ∧ rem n m k = down n m k := by
  have e := div_facts n m k
  have hq : n / 2 ^ k / m = 2 * (n / 2 ^ (k + 1) / m) := by
    rw [e, Nat.mul_add_div hm, Nat.div_eq_of_lt h, Nat.add_zero]
  have hr : n / 2 ^ k % m = down n m k := by rw [e, Nat.mul_add_mod, Nat.mod_eq_of_lt h]
  refine ⟨?_, hr⟩
  unfold quo
  rw [hq, Nat.pow_succ, Nat.mul_comm 2, Nat.mul_assoc, Nat.mul_comm 2]
theorem div_great (n m k : Nat) (hm : 0 < m) (h : m ≤ down n m k) : quo n m k = quo n m (k + 1) + 2 ^ k ∧ rem n m k = down n m k - m := by
  have e := div_facts n m k
  have hl := down_lt n m k hm
  have hd : down n m k / m = 1 := by rw [Nat.div_eq_sub_div hm h, Nat.div_eq_of_lt (by omega)]
  have hq : n / 2 ^ k / m = 2 * (n / 2 ^ (k + 1) / m) + 1 := by rw [e, Nat.mul_add_div hm, hd]
  have hr : n / 2 ^ k % m = down n m k - m := by rw [e, Nat.mul_add_mod, Nat.mod_eq_sub_mod h, Nat.mod_eq_of_lt (by omega)]
  refine ⟨?_, hr⟩
  unfold quo
  rw [hq, Nat.add_mul, Nat.one_mul, Nat.pow_succ, Nat.mul_comm 2, Nat.mul_assoc, Nat.mul_comm 2]
theorem quob (n m k i : Nat) : (quo n m (k + 1) + 2 ^ k).testBit i = if i = k then true else (quo n m (k + 1)).testBit i := by
  unfold quo
  generalize n / 2 ^ (k + 1) / m = q
  have e : q * 2 ^ (k + 1) + 2 ^ k = 2 ^ (k + 1) * q + 2 ^ k := by rw [Nat.mul_comm]
  rw [e, Nat.testBit_two_pow_mul_add _ (Nat.pow_lt_pow_right (by omega) (by omega)), Nat.mul_comm, Nat.testBit_two_pow_mul]
  by_cases h : i < k + 1
  · rw [if_pos h, Nat.testBit_two_pow]
    by_cases h2 : i = k
    · subst h2; simp
    · rw [if_neg h2]
      have : ¬ k + 1 ≤ i := by omega
      simp [this, Ne.symm h2]
  · rw [if_neg h, if_neg (by omega)]
    simp [show k + 1 ≤ i by omega]
/-- a bit of a row of one's own is set -/
theorem bbs_set (n m L k : Nat) (b : Bool) (h : ∀ i, i < L → m.testBit i = if i = k then b else n.testBit i) : (bbs n L).set k (.bool b) = bbs m L := by
  apply List.ext_getElem?
  intro i
  by_cases hi : i < L
  · rw [List.getElem?_set, bbs_get m L i hi, h i hi]
    by_cases hk : k = i
    · subst hk; simp [bbs_len, hi]
    · rw [if_neg hk, bbs_get n L i hi, if_neg (Ne.symm hk)]
  · rw [List.getElem?_eq_none (by simp [bbs_len]; omega), List.getElem?_eq_none (by simp [bbs_len]; omega)]
theorem BitsIs.set {w : World} {base g n m L cap k : Nat} {b : Bool} (h : BitsIs w base (.slice (some ⟨g, 0, none⟩) L cap) n L) (hb : ∀ i, i < L → m.testBit i = if i = k then b else n.testBit i) :
    BitsIs (w.setCell ⟨g, k, none⟩ (.bool b)) base (.slice (some ⟨g, 0, none⟩) L cap) m L := by
  have := (World.ownsRow.stored h k (.bool b)).1
  rw [bbs_set n m L k b hb] at this
  exact this
theorem BitsIs.setOther {w : World} {base g n L : Nat} {v : Value} (h : BitsIs w base v n L) (hne : v.ownBlock ≠ some g) (k : Nat) (x : Value) : BitsIs (w.setCell ⟨g, k, none⟩ x) base v n L := by
  refine ⟨h.1, ?_⟩
  rcases h.2 with h' | ⟨g', cap, cur, rfl, h1, h2, h3⟩
  · exact .inl h'
  · refine .inr ⟨g', cap, cur, rfl, h1, ?_, h3⟩
    rw [heap_setCell_other _ _ _ _ (fun e => hne (by simp [Value.ownBlock]; exact e))]
    exact h2
theorem low_bit (r : Nat) (b : Bool) (x : Nat) (hb : (b = true ∧ x = 1) ∨ (b = false ∧ x = 0)) (i : Nat) : (2 * r + x).testBit i = if i = 0 then b else (r * 2 ^ 1).testBit i := by
  by_cases h : i = 0
  · subst h
    rw [if_pos rfl, Nat.testBit_zero]
    rcases hb with ⟨rfl, rfl⟩ | ⟨rfl, rfl⟩ <;> simp
  · rw [if_neg h]
    obtain ⟨k, rfl⟩ : ∃ k, i = k + 1 := ⟨i - 1, by omega⟩
    rw [Nat.testBit_succ, Nat.testBit_succ]
    congr 1
    omega
theorem subz_mod (n m : Nat) (h : m ≤ n) (i : Nat) (hi : i < 256) : (subz n m).testBit i = (n - m).testBit i := by
  have e : subz n m % 2 ^ 256 = (n - m) % 2 ^ 256 := by unfold subz; omega
  have h1 : (subz n m % 2 ^ 256).testBit i = (subz n m).testBit i := by rw [Nat.testBit_mod_two_pow]; simp [hi]
  have h3 : ((n - m) % 2 ^ 256).testBit i = (n - m).testBit i := by rw [Nat.testBit_mod_two_pow]; simp [hi]
  rw [← h1, e, h3]
theorem made_bits (L : Nat) : (madeCells (Value.bool false).cells (L * 1)).toList = bbs 0 L := by
  unfold madeCells bbs
  simp [Value.cells, Nat.mod_one]

attribute [local irreducible] quo rem down
set_option maxRecDepth 100000 in
set_option maxHeartbeats 8000000 in
theorem refdiv_any (b1 : Nat) (v : Value) (n L : Nat) (hn : n < 2 ^ L) (b2 : Nat) (u : Value) (m K : Nat) (hm : m < 2 ^ K) (hm0 : 0 < m) (hm1 : m ≤ 2 ^ 256) (hL : L ≤ 10000) (hK : K ≤ 10000) (w : World) (h1 : BitsIs w b1 v n L) (h2 : BitsIs w b2 u m K) :
    Calls Try.prog 41 #[v, u] w fun e w' => ∃ x y T, e = .returned (.tuple #[x, y]) ∧ BitsIs w' w.heap.size x (n / m) L ∧ BitsIs w' w.heap.size y (n % m) T ∧ T ≤ 257 + L ∧ n % m < 2 ^ T ∧ Below w.heap.size w w' := by
  have HA := Lib.hid h1; have HB := Lib.hid h2
  have HM := Lib.hid hm
  have HS := Lib.hid (show quo n m L = 0 ∧ rem n m L = 0 from ⟨quo_start m hn, rem_start m hn⟩)
  have HM0 := Lib.hid (show 0 < m ∧ m ≤ 2 ^ 256 from ⟨hm0, hm1⟩)
  obtain ⟨xv, capv, rfl⟩ := h1.shape
  obtain ⟨i0, hi, hz0, hz1, hz2⟩ := info_parts info_bool
  clear h1 h2 hn hm hm0 hm1
  have B : Below w.heap.size w w := Below.refl _ _
  go_enter Try.func41, Try.ntmps41
  go_wp2_with (refine wpList_make_full w rfl (.tmp 10) (.tmp 10) 30 rfl w.heap.size 4 i0 (.bool false) 1 underlying_bits hi hz0 hz1 .i64 .i64 (L : Int) (L : Int) L rfl rfl rfl rfl (by rw [hz2]; omega) (by unfold maxLen; omega) (Nat.le_refl _) (fun w1 hown hgrow => ?_))
  have hq0 : BitsIs w1 w.heap.size (.slice (some ⟨w.heap.size, 0, none⟩) L L) 0 L := by
    rw [made_bits] at hown; exact hown
  have hz1 := (World.ownsRow.lt hown w.heap.size rfl).2
  have B1 := B.grown hgrow (Nat.le_refl _) (fun k h => by cases h)
  have HQ := Lib.hid hq0
  clear hown hgrow hq0 hi hz0 hz1 hz2 B
  have B := B1
  clear B1
  go_loopw [7, 8] (fun lv ix wr => ∃ j T : Nat, j ≤ L ∧ T ≤ 257 + (L - j) ∧ rem n m j < 2 ^ T ∧ ix = .int .i64 ((j : Int) - 1) ∧ BitsIs wr (w.heap.size + 1) lv (rem n m j) T ∧ BitsIs wr w.heap.size (.slice (some ⟨w.heap.size, 0, none⟩) L L) (quo n m j) L ∧ w.heap.size + 1 ≤ wr.heap.size ∧ Below w.heap.size w wr) (fun _ ix _ => (intOf ix + 1).toNat)
  case atStart =>
    refine ⟨L, 0, Nat.le_refl _, by omega, by rw [HS.out.2]; decide, rfl, BitsIs.nil _ _ _, by rw [HS.out.1]; exact HQ.out, ?_, B⟩
    exact (World.ownsRow.lt HQ.out w.heap.size rfl).2
  case round =>
    obtain ⟨j, T, hj, hT, hr, rfl, hLv, hQv, hsz, B⟩ := hrel
    have HLv := Lib.hid hLv; have HQv := Lib.hid hQv; have HR := Lib.hid hr
    clear hLv hQv hr HQ HS
    by_cases h0 : j = 0
    · subst h0
      go_wp2_with fail
      exact bodyPost_ret (v := .tuple #[.slice (some ⟨w.heap.size, 0, none⟩) L L, u7]) (by simp [results, Try.results41, go_sem]) rfl ⟨_, _, T, rfl, by rw [← quo_end]; exact HQv.out, by rw [← rem_end]; exact HLv.out.mono (by omega), by omega, by rw [← rem_end]; exact HR.out, B⟩
    · obtain ⟨k, rfl⟩ : ∃ k, j = k + 1 := ⟨j - 1, by omega⟩
      rw [show ((k + 1 : Nat) : Int) - 1 = (k : Int) by omega]
      obtain ⟨ga, capa, hav, -, hga, hca0, hfa0⟩ := HA.out.at k (by omega)
      simp only [Value.slice.injEq, true_and] at hav
      obtain ⟨rfl, rfl⟩ := hav
      have HD := Lib.hid (show down n m k < 2 ^ (T + 1) by
        have := HR.out
        unfold down
        rw [Nat.pow_succ]; omega)
      have hkL : k < L := by omega
      go_wp2_with fail
      refine (shiftl_any _ _ (rem n m (k + 1)) T HR.out 1 (by omega) (by omega) _ HLv.out).mono ?_
      rintro e w2 ⟨x, rfl, hx, hb2⟩
      obtain ⟨g, cap, rfl, hge, hglt, hcx, hfx⟩ := hx.at 0 (by omega)
      have HX := Lib.hid hx
      have HQ2 := Lib.hid (HQv.out.keep hb2)
      have B2 := below_next B hb2
      have hca := (B2.cell (p := ⟨ga, k, none⟩) hga).trans hca0
      have hfa := (B2.frozen (p := ⟨ga, k, none⟩) hga).trans hfa0
      have hgw : w.heap.size < g := by omega
      clear hb2 hx hca0 hfa0 HLv HQv B hge
      have hgne : g ≠ ga := by omega
      have hgne2 : ga ≠ g := by omega
      have hsz2 : w.heap.size + 1 ≤ w2.heap.size := by omega
      have HBX := Lib.hid (bit01 n k)
      have HDn := Lib.hid (show down n m k = 2 * rem n m (k + 1) + n / 2 ^ k % 2 by unfold down; rfl)
      generalize n.testBit k = bb at *
      go_wp2_with fail
      have HX3 := Lib.hid (HX.out.set (k := 0) (b := bb) (m := down n m k) (fun i hi => by rw [HDn.out]; exact low_bit (rem n m (k + 1)) bb _ HBX.out i))
      have HQ3 := Lib.hid (HQ2.out.setOther (g := g) (by simp [Value.ownBlock]; omega) 0 (.bool bb))
      have B3 : Below w.heap.size w (w2.setCell ⟨g, 0, none⟩ (.bool bb)) := Below.setCell B2 (by show w.heap.size ≤ g; omega) (.bool bb)
      refine (less_any _ _ (down n m k) (T + 1) HD.out _ _ m K HM.out (by omega) (by omega) _ HX3.out (HB.out.keep B3)).mono ?_
      rintro e w4 ⟨rfl, hb4⟩
      have HX4 := Lib.hid (HX3.out.keep hb4)
      have HQ4 := Lib.hid (HQ3.out.keep hb4)
      have B4 := below_next B3 hb4
      have hsz4 : w.heap.size + 1 ≤ w4.heap.size := by have := hb4.size; simp at this; omega
      clear hb4 HX HX3 HQ2 HQ3 B2 B3 hca hfa hcx hfx
      by_cases hlt : down n m k < m
      · rw [decide_eq_true hlt]
        have HE := Lib.hid (div_small n m k HM0.out.1 hlt)
        clear hlt
        go_wp2_with fail
        go_roundw
        case rel => exact ⟨k, T + 1, by omega, by omega, by rw [HE.out.2]; exact HD.out, by go_num, by rw [HE.out.2]; exact HX4.out.mono (by omega), by rw [HE.out.1]; exact HQ4.out, hsz4, B4⟩
        case measure => simp [intOf]
      · rw [decide_eq_false hlt]
        have HE := Lib.hid (div_great n m k HM0.out.1 (by omega))
        have HLE := Lib.hid (show m ≤ down n m k by omega)
        have HRL := Lib.hid (show rem n m k < 2 ^ 256 by have := rem_lt n m k HM0.out.1; have := HM0.out.2; omega)
        clear hlt
        obtain ⟨gq, capq, hqv, -, hgq, hcq, hfq⟩ := HQ4.out.at k hkL
        simp only [Value.slice.injEq, Option.some.injEq, Addr.mk.injEq, and_true, true_and] at hqv
        obtain ⟨rfl, rfl⟩ := hqv
        go_wp2_with fail
        have HQ5 := Lib.hid (HQ4.out.set (k := k) (b := true) (m := quo n m (k + 1) + 2 ^ k) (fun i hi => quob n m k i))
        have HX5 := Lib.hid (HX4.out.setOther (g := w.heap.size) (by simp [Value.ownBlock]; omega) k (.bool true))
        have B5 : Below w.heap.size w (w4.setCell ⟨w.heap.size, k, none⟩ (.bool true)) := Below.setCell B4 (Nat.le_refl _) (.bool true)
        refine (refsub_any _ _ (down n m k) (T + 1) HD.out _ _ m K HM.out _ HX5.out (HB.out.keep B5)).mono ?_
        rintro e w6 ⟨y, rfl, hy, hb6⟩
        have HQ6 := Lib.hid (HQ5.out.keep hb6)
        have HY := Lib.hid ((hy.congr (m := rem n m k) (fun i hi => by rw [HE.out.2]; exact subz_mod _ _ HLE.out i hi)).mono (base' := w.heap.size + 1) (by simp; omega))
        have B6 := below_next B5 hb6
        have hsz6 : w.heap.size + 1 ≤ w6.heap.size := by have := hb6.size; simp at this; omega
        clear hb6 hy HX5 HQ5 B5 HX4 HQ4 B4 hcq hfq
        go_wp2_with fail
        go_roundw
        case rel => exact ⟨k, 256, by omega, by omega, HRL.out, by go_num, HY.out, by rw [HE.out.1]; exact HQ6.out, hsz6, B6⟩
        case measure => simp [intOf]
end Go.Proofs.Ytdffblfofdniaaa
