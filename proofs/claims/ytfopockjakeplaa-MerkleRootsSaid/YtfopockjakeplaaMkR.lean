/- tallystickref04: pair, count, at. No condition. -/
import Derived.Test.YtfopockjakeplaaMkJ
import Derived.Test.YtfopockjakeplaaTwPlain
import Derived.Test.YtfopockjakeplaaRs3
namespace Go.Proofs.Ytfopockjakeplaa
open Go.RowKit

/-- how many sums a level has -/
def cntL : Nat → Nat → Nat
  | n, 0 => n
  | n, k + 1 => (cntL n k + 1) / 2
/-- a level -/
def lvl : List Nat → Nat → List Nat
  | l, 0 => l
  | l, k + 1 => upl (lvl l k)
theorem lvl_len (l : List Nat) : ∀ k, (lvl l k).length = cntL l.length k
  | 0 => rfl
  | k + 1 => by rw [lvl, upl_len, lvl_len l k, cntL]
theorem cntL_le (n : Nat) : ∀ k, cntL n k ≤ n
  | 0 => Nat.le_refl _
  | k + 1 => by have := cntL_le n k; rw [cntL]; omega
theorem lvl_lt {l : List Nat} (hl : ∀ x ∈ l, x < 2 ^ 256) : ∀ k, ∀ x ∈ lvl l k, x < 2 ^ 256
  | 0 => hl
  | k + 1 => upl_lt (lvl_lt hl k)
theorem upl_getD (l : List Nat) : ∀ i, i < (l.length + 1) / 2 → (upl l).getD i 0 = if 2 * i + 1 = l.length then prs (l.getD (2 * i) 0) (l.getD (2 * i) 0) else prs (l.getD (2 * i) 0) (l.getD (2 * i + 1) 0) := by
  induction l using upl.induct with
  | case1 => intro i h; simp at h
  | case2 a =>
    intro i h
    have : i = 0 := by simp at h; omega
    subst this
    rw [upl, if_pos (by simp), List.getD_cons_zero, Nat.mul_zero, List.getD_cons_zero]
  | case3 a b l ih =>
    intro i h
    cases i with
    | zero => rw [upl, if_neg (by simp), List.getD_cons_zero, Nat.mul_zero, List.getD_cons_zero, List.getD_cons_succ, List.getD_cons_zero]
    | succ i =>
      have e0 := ih i (by simp at h; omega)
      have e1 : 2 * (i + 1) = 2 * i + 1 + 1 := by omega
      rw [upl, List.getD_cons_succ, e0, e1, List.getD_cons_succ, List.getD_cons_succ, List.getD_cons_succ, List.getD_cons_succ, List.length_cons, List.length_cons]
      by_cases e : 2 * i + 1 = l.length
      · rw [if_pos e, if_pos (by omega)]
      · rw [if_neg e, if_neg (by omega)]

set_option maxRecDepth 100000 in
set_option maxHeartbeats 4000000 in
theorem rpair_any (a b : Nat) (w : World) : Calls Try.prog 43 #[iv a, iv b] w fun e w' => e = .returned (iv (prs a b)) ∧ Below w.heap.size w w' := by
  obtain ⟨X, hX⟩ : ∃ X, X = prs a b := ⟨_, rfl⟩
  have ct := Lib.hid fun (V : World) => reftwice_any (idb a ++ idb b) (by intro y hy; exact (List.mem_append.1 hy).elim (idb_byte a y) (idb_byte b y)) (by rw [List.length_append, idb_len, idb_len]; omega) V
  rw [show tw (idb a ++ idb b) = X from hX.symm] at ct
  obtain ⟨sa, hsa⟩ : ∃ s, s = str (idb a) := ⟨_, rfl⟩
  obtain ⟨sb, hsb⟩ : ∃ s, s = str (idb b) := ⟨_, rfl⟩
  obtain ⟨sc, hsc⟩ : ∃ s, s = str (idb a ++ idb b) := ⟨_, rfl⟩
  have eab : sa ++ sb = sc := by rw [hsa, hsb, hsc]; exact str_app _ _
  have hza : sa.size ≤ 32 := by rw [hsa, str_size, idb_len]; omega
  have hzb : sb.size ≤ 32 := by rw [hsb, str_size, idb_len]; omega
  rw [← hsc] at ct
  rw [← hX]
  have HX := Lib.hid hX; have HSA := Lib.hid hsa; have HSB := Lib.hid hsb
  clear hX hsa hsb hsc
  go_enter Try.func43, Try.ntmps43
  go_wp2_with fail
  rw [rblk_lit]
  obtain ⟨h1, h2, h3⟩ := alloc3 w (rblk a) (rblk b) (rblk 0)
  have hB0 : Below w.heap.size w (((w.alloc (rblk a)).alloc (rblk b)).alloc (rblk 0)) := below_alloc (below_alloc (below_alloc (Below.refl _ _) _) _) _
  refine wp_abs (fun W => W.heap[w.heap.size]? = some (rblk a) ∧ W.heap[w.heap.size + 1]? = some (rblk b) ∧ W.heap[w.heap.size + 2]? = some (rblk 0) ∧ Below w.heap.size w W) (by exact ⟨h1, h2, h3, hB0⟩) ?_
  clear h1 h2 h3 hB0
  rintro W ⟨k1, k2, k3, B⟩
  have K1 := Lib.hid k1; have K2 := Lib.hid k2; have K3 := Lib.hid k3; have BF := Lib.hid B
  obtain ⟨g, hg⟩ : ∃ g, g = w.heap.size := ⟨_, rfl⟩
  have HG := Lib.hid hg
  rw [← hg] at K1 K2 K3
  rw [← hg]
  clear k1 k2 k3 B hg
  refine wp_region_tail 6 [Is (.slice (some ⟨g, 0, none⟩) 32 32), Is (.string sa), Is (.slice (some ⟨g + 1, 0, none⟩) 32 32), Is (.string sb), Is (.string sc), Is (iv X)] [[], [(0, some 5)], [], [(2, some 7)], [(1, some 6), (3, some 8)], [(4, some 9)], [(5, some 10)]] [(0, some 5), (1, some 6), (2, some 7), (3, some 8), (4, some 9), (5, some 10)] [0, 1, 0, 4, 15, 31, 63]
    (by kernel_rfl) (by kernel_rfl) (by kernel_rfl) (by kernel_rfl) (by kernel_rfl) ⟨Is.kept _, Is.kept _, Is.kept _, Is.kept _, Is.kept _, Is.kept _, trivial⟩ ⟨?_, ?_, ?_, ?_, ?_, ?_, trivial⟩ ?_
  · as_aux_lemma =>
    refine fun w' hB => ?_
    show wpList _ _ _ _ _ _
    go_wp2_with fail
    exact ⟨.slice (some ⟨g, 0, none⟩) 32 32, by first | rfl | (go_simp; done), rfl, Below.refl _ _⟩
  · as_aux_lemma =>
    refine fun w' hB v0 h0 => ?_
    obtain rfl := h0
    show wpList _ _ _ _ _ _
    have hcv := run_str_at (idb_rat (block_keep hB K1.out) 32)
    rw [← HSA.out] at hcv
    go_wp2_with fail
    exact ⟨_, rfl, rfl, Below.refl _ _⟩
  · as_aux_lemma =>
    refine fun w' hB => ?_
    show wpList _ _ _ _ _ _
    go_wp2_with fail
    exact ⟨.slice (some ⟨g + 1, 0, none⟩) 32 32, by first | rfl | (go_simp; done), rfl, Below.refl _ _⟩
  · as_aux_lemma =>
    refine fun w' hB v2 h2 => ?_
    obtain rfl := h2
    show wpList _ _ _ _ _ _
    have hcv := run_str_at (idb_rat (block_keep hB K2.out) 32)
    rw [← HSB.out] at hcv
    go_wp2_with fail
    exact ⟨_, rfl, rfl, Below.refl _ _⟩
  · as_aux_lemma =>
    refine fun w' hB v1 h1 v3 h3 => ?_
    obtain rfl := h1
    obtain rfl := h3
    show wpList _ _ _ _ _ _
    go_wp2_with fail
    exact ⟨.string sc, by first | rfl | (go_simp; done), rfl, Below.refl _ _⟩
  · as_aux_lemma =>
    refine fun w' hB v4 h4 => ?_
    obtain rfl := h4
    show wpList _ _ _ _ _ _
    go_wp2_with fail
    refine (ct.out w').mono ?_
    rintro e w2 ⟨rfl, hb2⟩
    go_wp2_with fail
    exact ⟨iv X, by first | rfl | (go_simp; done), rfl, hb2⟩
  · refine fun w' hB v0 h0 v1 h1 v2 h2 v3 h3 v4 h4 v5 h5 => ?_
    obtain rfl := h5
    simp only [onP, List.drop_succ_cons, List.drop_zero]
    go_simp
    clear h0 h1 h2 h3 h4
    have K3' := Lib.hid (block_keep hB K3.out)
    have B2 := Lib.hid (below_next BF.out hB)
    have hgw : w.heap.size ≤ g + 2 := by rw [HG.out]; omega
    clear hB
    go_wp2_with (first | (refine wpList_store_rid rfl (.tmp 4) (.tmp 10) rfl (g + 2) 0 X rfl rfl K3'.out (fun w3 h1 h2 h3 h4 => ?_)))
    have hl := loadVar_rid h1
    exact bodyPost_ret (v := iv X) (by simp [results, Try.results43, Act.put, asAddr, hl]) rfl ⟨rfl, h4 _ _ hgw B2.out⟩

set_option maxRecDepth 100000 in
set_option maxHeartbeats 4000000 in
theorem count_any (n k : Nat) (hn : n ≤ 1000000) (hk : k ≤ 1000000) (w : World) : Calls Try.prog 36 #[.int .i64 n, .int .i64 k] w fun e w' => e = .returned (.int .i64 (cntL n k : Nat)) ∧ w = w' := by
  have HL := Lib.hid fun j => cntL_le n j
  have HS := Lib.hid fun j => show cntL n (j + 1) = (cntL n j + 1) / 2 from rfl
  have H0 : Hid (cntL n 0 = n) := Lib.hid rfl
  go_enter Try.func36, Try.ntmps36
  go_wp2_with fail
  go_loopg [0, 5] k (fun g nv iv' wr => ∃ j : Nat, g = k - j ∧ j ≤ k ∧ iv' = .int .i64 j ∧ nv = .int .i64 (cntL n j : Nat) ∧ w = wr)
  case atStart => exact ⟨0, rfl, by omega, rfl, by rw [H0.out], rfl⟩
  case round =>
    obtain ⟨j, hg, hj, rfl, rfl, rfl⟩ := hrel
    have HG := Lib.hid hg
    clear hg
    have hl := HL.out j
    have hs := HS.out j
    obtain ⟨x, hx⟩ : ∃ x, x = cntL n j := ⟨_, rfl⟩
    rw [← hx] at hl hs
    rw [← hx]
    by_cases hlt : j < k
    · obtain ⟨y, hy⟩ : ∃ y, y = (x + 1) / 2 := ⟨_, rfl⟩
      have ey : ((x : Int) + 1) / 2 = (y : Int) := by omega
      have ey2 : Int.tdiv ((x : Int) + 1) 2 = (y : Int) := by rw [Int.tdiv_eq_ediv_of_nonneg (by omega)]; exact ey
      have HY : Hid (cntL n (j + 1) = y) := Lib.hid (by rw [hs, hy])
      clear hx hy hs
      go_wp2_with fail
      go_roundg (k - (j + 1))
      case measure => have := HG.out; omega
      case rel => exact ⟨j + 1, rfl, by omega, by go_num, by rw [HY.out], rfl⟩
    · obtain rfl : j = k := by omega
      have HX := Lib.hid hx
      clear hx hs
      go_wp2_with fail
      go_ret
      exact ⟨by rw [← HX.out]; rfl, rfl⟩

/-- rows of arrays of 32 bytes -/
theorem wpList_load_r32 {ops : Array Oper} {rest : List Oper} {op : Oper} {a : Act} {w : World} {Q : Exit → Act → World → Prop} (hgd : op.guard = none) (x : Operand) (ho : op.op = .load 24 x)
    (g o n : Nat) (hx : a.eval x = .pointer (some ⟨g, o, none⟩)) (hr : w.rangeAt g o (ids n)) (h : wpList Try.prog ops Q rest (a.put op.dst (iv n)) w) : wpList Try.prog ops Q (op :: rest) a w :=
  wpList_load_mid hgd 24 x ho g o hx (ids n) (.array 32 5) hr (by kernel_rfl) rfl (by rw [ids_len]; kernel_rfl) h
set_option maxRecDepth 100000 in
set_option maxHeartbeats 4000000 in
theorem rat_any (l : List Nat) (hn : l.length ≤ 1000) (b o n c : Nat) (hln : l.length = n) : ∀ (k : Nat) (_hk : k ≤ 1000) (i : Nat) (_hi : i < cntL n k) (w : World) (_hI : IdsAt w b o l),
    Calls Try.prog 37 #[.slice (some ⟨b, o, none⟩) n c, .int .i64 k, .int .i64 i] w fun e w' => e = .returned (iv ((lvl l k).getD i 0)) ∧ Below w.heap.size w w' := by
  intro k
  induction k with
  | zero =>
    intro _ i hi w hI
    have hi' : i < n := hi
    have hr := hI.range (i := i) (by rw [hln]; exact hi')
    obtain ⟨x, hx⟩ : ∃ x, x = l.getD i 0 := ⟨_, rfl⟩
    have e0 : (lvl l 0).getD i 0 = x := hx.symm
    rw [← hx] at hr
    rw [e0]
    have HR := Lib.hid fun V (hb : Below w.heap.size w V) => (show V.rangeAt b (o + i * 32) (ids x) by rw [hx]; exact (hI.keep hb).range (by rw [hln]; exact hi'))
    clear hi hI hr hx e0
    have B : Below w.heap.size w (w.alloc (rblk 0)) := below_alloc (Below.refl _ _) _
    have ez := rblk_lit
    go_enter Try.func37, Try.ntmps37
    go_wp2_with (first | refine wpList_load_r32 rfl (.tmp 13) rfl b (o + i * 32) x rfl (HR.out _ B) ?_ | (refine wpList_store_rid rfl (.tmp 6) (.tmp 14) rfl w.heap.size 0 x rfl rfl (heap_new w _) (fun w3 h1 h2 h3 h4 => ?_)))
    have hl := loadVar_rid h1
    exact bodyPost_ret (v := iv x) (by simp [results, Try.results37, Act.put, asAddr, hl]) rfl ⟨rfl, h4 _ _ (Nat.le_refl _) B⟩
  | succ k ih =>
    intro hk i hi w hI
    obtain ⟨m, hm⟩ : ∃ m, m = cntL n k := ⟨_, rfl⟩
    have him : i < (m + 1) / 2 := by rw [hm]; exact hi
    have hmn : m ≤ n := by rw [hm]; exact cntL_le n k
    have hR := upl_getD (lvl l k) i (by rw [lvl_len, hln, ← hm]; exact him)
    rw [lvl_len, hln, ← hm] at hR
    have cc := Lib.hid fun W => count_any n k (by omega) (by omega) W
    rw [← hm] at cc ih
    obtain ⟨i2, hi2⟩ : ∃ i2, i2 = 2 * i := ⟨_, rfl⟩
    obtain ⟨i3, hi3⟩ : ∃ i3, i3 = i2 + 1 := ⟨_, rfl⟩
    rw [← hi2, ← hi3] at hR
    have ca := Lib.hid fun W (hb : Below w.heap.size w W) => ih (by omega) i2 (by omega) W (hI.keep hb)
    have cb := Lib.hid fun (h : i3 < m) W (hb : Below w.heap.size w W) => ih (by omega) i3 h W (hI.keep hb)
    obtain ⟨x, hx⟩ : ∃ x, x = (lvl l k).getD i2 0 := ⟨_, rfl⟩
    obtain ⟨y, hy⟩ : ∃ y, y = (lvl l k).getD i3 0 := ⟨_, rfl⟩
    rw [← hx] at hR ca
    rw [← hy] at hR cb
    obtain ⟨R, hRR⟩ : ∃ R, R = (lvl l (k + 1)).getD i 0 := ⟨_, rfl⟩
    have HR : Hid (R = if i3 = m then prs x x else prs x y) := Lib.hid (by rw [hRR]; exact hR)
    rw [← hRR]
    obtain ⟨k1, hk1⟩ : ∃ k1, k1 = k + 1 := ⟨_, rfl⟩
    rw [← hk1]
    have ek : (k1 : Int) - 1 = (k : Int) := by omega
    have ei2 : 2 * (i : Int) = (i2 : Int) := by omega
    have ei3 : (i2 : Int) + 1 = (i3 : Int) := by omega
    have hk0 : ¬ (k1 : Int) = 0 := by omega
    have hi3m : i3 ≤ m := by omega
    have hk1l : k1 ≤ 1000 := by omega
    have hil : i < 1000 := by omega
    have HN : Hid (n ≤ 1000) := Lib.hid (by omega)
    have hn1 : n ≤ 1000 := by omega
    clear hm him hR hi2 hi3 hx hy hRR hk1 hi hI ih hk hln hn
    have B : Below w.heap.size w (w.alloc (rblk 0)) := below_alloc (Below.refl _ _) _
    have K0 := Lib.hid (heap_new w (rblk 0))
    have ez := rblk_lit
    go_enter Try.func37, Try.ntmps37
    go_wp2_with fail
    refine (cc.out _).mono ?_
    rintro e w1 ⟨rfl, rfl⟩
    go_wp2_with fail
    refine (ca.out _ B).mono ?_
    rintro e w2 ⟨rfl, hb⟩
    have K2 := Lib.hid (keep_alloc (rblk 0) (below_keep hb K0.out))
    have B2 := Lib.hid (below_alloc (below_next B hb) (rblk 0))
    have h02 : w.heap.size < w2.heap.size := block_lt (below_keep hb K0.out)
    clear hb K0 B ca cc
    by_cases h3 : i3 = m
    · have hr := HR.out
      rw [if_pos h3] at hr
      have cp := Lib.hid fun W => rpair_any x x W
      rw [← hr] at cp
      have h3' : (i3 : Int) = (m : Int) := by omega
      clear hr HR h3
      go_wp2_with (first | (refine wpList_store_rid rfl (.tmp 8) (.tmp 25) rfl w2.heap.size 0 x rfl rfl (heap_new w2 _) (fun w3 h1 h2 h3 h4 => ?_); have K8 := Lib.hid h1; have K6 := Lib.hid ((h2 w.heap.size (by omega)).trans K2.out); have B3 := Lib.hid (h4 w.heap.size w (by omega) B2.out); clear h1 h2 h3 h4) | refine wpList_load_rid rfl (.tmp 8) rfl w2.heap.size x rfl K8.out ?_)
      refine (cp.out _).mono ?_
      rintro e w4 ⟨rfl, hb⟩
      have K7 := Lib.hid (below_keep hb K6.out); have B4 := Lib.hid (below_next B3.out hb)
      clear hb K6 B3 K8
      go_wp2_with (first | (refine wpList_store_rid rfl (.tmp 6) (.tmp 33) rfl w.heap.size 0 R rfl rfl K7.out (fun w5 h1 h2 h3 h4 => ?_)))
      have hl := loadVar_rid h1
      exact bodyPost_ret (v := iv R) (by simp [results, Try.results37, Act.put, asAddr, hl]) rfl ⟨rfl, h4 _ _ (Nat.le_refl _) B4.out⟩
    · have hr := HR.out
      rw [if_neg h3] at hr
      have cp := Lib.hid fun W => rpair_any x y W
      rw [← hr] at cp
      have h3' : ¬ (i3 : Int) = (m : Int) := by omega
      have hi3m' : i3 < m := by omega
      clear hr HR h3
      go_wp2_with (first | (refine wpList_store_rid rfl (.tmp 8) (.tmp 25) rfl w2.heap.size 0 x rfl rfl (heap_new w2 _) (fun w3 h1 h2 h3 h4 => ?_); have K8 := Lib.hid h1; have K6 := Lib.hid ((h2 w.heap.size (by omega)).trans K2.out); have B3 := Lib.hid (h4 w.heap.size w (by omega) B2.out); clear h1 h2 h3 h4))
      refine wp_region_tail 9 [Is (iv x), Is (.slice (some ⟨b, o, none⟩) n c), Is (.int .i64 (k1 : Int)), Is (.int .i64 (k : Int)), Is (.int .i64 (i : Int)), Is (.int .i64 (i2 : Int)), Is (.int .i64 (i3 : Int)), Is (iv y), Is (iv R)] [[], [], [], [(2, some 36)], [], [(4, some 38)], [(5, some 39)], [(1, some 35), (3, some 37), (6, some 40)], [(0, some 34), (7, some 41)], [(8, some 42)]] [(0, some 34), (1, some 35), (2, some 36), (3, some 37), (4, some 38), (5, some 39), (6, some 40), (7, some 41), (8, some 42)] [0, 0, 0, 4, 0, 16, 48, 126, 255, 511]
        (by kernel_rfl) (by kernel_rfl) (by kernel_rfl) (by kernel_rfl) (by kernel_rfl) ⟨Is.kept _, Is.kept _, Is.kept _, Is.kept _, Is.kept _, Is.kept _, Is.kept _, Is.kept _, Is.kept _, trivial⟩ ⟨?_, ?_, ?_, ?_, ?_, ?_, ?_, ?_, ?_, trivial⟩ ?_
      · as_aux_lemma =>
        refine fun w' hB => ?_
        show wpList _ _ _ _ _ _
        go_wp2_with (first | refine wpList_load_rid rfl (.tmp 8) rfl w2.heap.size x rfl (block_keep hB K8.out) ?_)
        exact ⟨_, rfl, rfl, Below.refl _ _⟩
      · as_aux_lemma =>
        refine fun w' hB => ?_
        show wpList _ _ _ _ _ _
        go_wp2_with fail
        exact ⟨.slice (some ⟨b, o, none⟩) n c, by first | rfl | (go_simp; done), rfl, Below.refl _ _⟩
      · as_aux_lemma =>
        refine fun w' hB => ?_
        show wpList _ _ _ _ _ _
        go_wp2_with fail
        exact ⟨.int .i64 (k1 : Int), by first | rfl | (go_simp; done), rfl, Below.refl _ _⟩
      · as_aux_lemma =>
        refine fun w' hB v2 h2 => ?_
        obtain rfl := h2
        show wpList _ _ _ _ _ _
        go_wp2_with fail
        exact ⟨.int .i64 (k : Int), by first | rfl | (go_simp; done), rfl, Below.refl _ _⟩
      · as_aux_lemma =>
        refine fun w' hB => ?_
        show wpList _ _ _ _ _ _
        go_wp2_with fail
        exact ⟨.int .i64 (i : Int), by first | rfl | (go_simp; done), rfl, Below.refl _ _⟩
      · as_aux_lemma =>
        refine fun w' hB v4 h4 => ?_
        obtain rfl := h4
        show wpList _ _ _ _ _ _
        go_wp2_with fail
        exact ⟨.int .i64 (i2 : Int), by first | rfl | (go_simp; done), rfl, Below.refl _ _⟩
      · as_aux_lemma =>
        refine fun w' hB v5 h5 => ?_
        obtain rfl := h5
        show wpList _ _ _ _ _ _
        go_wp2_with fail
        exact ⟨.int .i64 (i3 : Int), by first | rfl | (go_simp; done), rfl, Below.refl _ _⟩
      · as_aux_lemma =>
        refine fun w' hB v1 h1 v3 h3 v6 h6 => ?_
        obtain rfl := h1
        obtain rfl := h3
        obtain rfl := h6
        show wpList _ _ _ _ _ _
        go_wp2_with fail
        refine (cb.out hi3m' _ (below_next B3.out hB)).mono ?_
        rintro e w2 ⟨rfl, hb2⟩
        go_wp2_with fail
        exact ⟨iv y, by first | rfl | (go_simp; done), rfl, hb2⟩
      · as_aux_lemma =>
        refine fun w' hB v0 h0 v7 h7 => ?_
        obtain rfl := h0
        obtain rfl := h7
        show wpList _ _ _ _ _ _
        go_wp2_with fail
        refine (cp.out w').mono ?_
        rintro e w2 ⟨rfl, hb2⟩
        go_wp2_with fail
        exact ⟨iv R, by first | rfl | (go_simp; done), rfl, hb2⟩
      · refine fun w' hB v0 h0 v1 h1 v2 h2 v3 h3 v4 h4 v5 h5 v6 h6 v7 h7 v8 h8 => ?_
        obtain rfl := h8
        simp only [onP, List.drop_succ_cons, List.drop_zero]
        go_simp
        clear h0 h1 h2 h3 h4 h5 h6 h7
        have K7 := Lib.hid (block_keep hB K6.out); have B4 := Lib.hid (below_next B3.out hB)
        clear hB K6 B3 K8
        go_wp2_with (first | (refine wpList_store_rid rfl (.tmp 6) (.tmp 42) rfl w.heap.size 0 R rfl rfl K7.out (fun w5 h1 h2 h3 h4 => ?_)))
        have hl := loadVar_rid h1
        exact bodyPost_ret (v := iv R) (by simp [results, Try.results37, Act.put, asAddr, hl]) rfl ⟨rfl, h4 _ _ (Nat.le_refl _) B4.out⟩
end Go.Proofs.Ytfopockjakeplaa
