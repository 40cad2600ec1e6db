/- tallystickref01.mul. No condition. -/
import Derived.Test.YtfopockjakeplaaPrB
namespace Go.Proofs.Ytfopockjakeplaa
open Go.RowKit

def drow (l : List Nat) : Obj := .cells (d64 l).toArray 53 (0, 0)
theorem drow_cell {w : World} {g : Nat} {l : List Nat} (h : w.heap[g]? = some (drow l)) (j : Nat) (hj : j < l.length) : w.cell? ⟨g, j, none⟩ = some (.int .u64 (l.getD j 0 : Nat)) := by
  rw [cell_of_row _ _ _ _ _ _ h, List.getElem?_toArray, d64_get l j hj]
theorem drow_set {w : World} {g : Nat} {l : List Nat} (p v : Nat) (h : w.heap[g]? = some (drow l)) : (w.setCell ⟨g, p, none⟩ (.int .u64 (v : Int))).heap[g]? = some (drow (l.set p v)) := by
  rw [heap_setCell_same w g p _ _ _ h]
  unfold drow
  rw [List.setIfInBounds_toArray]
  congr 2
  unfold d64
  rw [List.map_set]
theorem wpList_make_u64 {ops : Array Oper} {rest : List Oper} {o : Oper} {a : Act} {w : World} {Q : Exit → Act → World → Prop} (hgd : o.guard = none) (l c : Operand) (ho : o.op = Op.makeSlice 64 l c) (n : Nat) (hl : a.eval l = .int .i64 n) (hc : a.eval c = .int .i64 n) (hn : n ≤ 1000000)
    (h : ∀ w', w'.heap[w.heap.size]? = some (drow (List.replicate n 0)) → Below w.heap.size w w' → wpList Try.prog ops Q rest (a.put o.dst (.slice (some ⟨w.heap.size, 0, none⟩) n n)) w') : wpList Try.prog ops Q (o :: rest) a w := by
  obtain ⟨i0, hi, hz0, hz1, hz2⟩ := info_parts info_u64
  refine wpList_make_full w hgd l c 64 ho w.heap.size 53 i0 (.int .u64 0) 1 underlying_u64s hi hz0 hz1 .i64 .i64 n n n hl hc rfl rfl (by rw [hz2]; omega) (by unfold maxLen; omega) (Nat.le_refl _) fun w' h1 h2 => ?_
  refine h w' ?_ ((Below.refl _ _).grown h2 (Nat.le_refl _) (fun j hj => by cases hj))
  rcases h1.2 with ⟨e, _⟩ | ⟨g, cap, cur, e, k1, k2, k3, k4, k5, k6⟩
  · cases e
  · obtain ⟨e1, -, rfl⟩ := Value.slice.inj e
    obtain rfl : w.heap.size = g := by injection e1 with e2; injection e2
    rw [k2]
    unfold drow
    congr 2
    have h3 : cur.toList = d64 (List.replicate n 0) := by
      rw [List.take_of_length_le (by rw [Array.length_toList, k5]; exact Nat.le_refl _)] at k6
      rw [k6]
      apply List.ext_getElem?
      intro j
      by_cases hj : j < n
      · simp [madeCells, d64, hj, Value.cells, Nat.mod_one]
      · rw [List.getElem?_eq_none (by simp [madeCells]; omega), List.getElem?_eq_none (by simp [d64]; omega)]
    rw [← h3]

theorem val_snoc : ∀ (l : List Nat) (x : Nat), val (l ++ [x]) = val l + 16777216 ^ l.length * x
  | [], x => by simp [val]
  | d :: l, x => by rw [List.cons_append, val, val, val_snoc l x, List.length_cons, Nat.pow_succ, Nat.mul_add, ← Nat.mul_assoc, Nat.mul_comm 16777216 (16777216 ^ l.length)]; omega
theorem val_next {l : List Nat} {k : Nat} (h : k < l.length) : val (l.take (k + 1)) = val (l.take k) + 16777216 ^ k * l.getD k 0 := by
  have e : l.take (k + 1) = l.take k ++ [l.getD k 0] := by rw [List.take_add_one]; simp [List.getElem?_eq_getElem h]
  rw [e, val_snoc, List.length_take, Nat.min_eq_left (by omega)]
theorem mul_step {b : List Nat} {i k : Nat} (hk : k < b.length) (V ai : Nat) : V + ai * 16777216 ^ i * val (b.take k) + ai * b.getD k 0 * 16777216 ^ (i + k) = V + ai * 16777216 ^ i * val (b.take (k + 1)) := by
  rw [val_next hk, Nat.mul_add, Nat.add_assoc]
  congr 2
  rw [Nat.pow_add, Nat.mul_assoc ai, Nat.mul_assoc ai, Nat.mul_left_comm (b.getD k 0), Nat.mul_comm (b.getD k 0)]
theorem mul_row {a b : List Nat} {i : Nat} (hi : i < a.length) : val (a.take i) * val b + a.getD i 0 * 16777216 ^ i * val b = val (a.take (i + 1)) * val b := by
  rw [val_next hi, Nat.add_mul, Nat.mul_comm (a.getD i 0)]
theorem carry_zero {l : List Nat} {p : Nat} (h : p < l.length) : carry l p 0 = (l.set (p + 1) (l.getD (p + 1) 0 + l.getD p 0 / 16777216)).set p (l.getD p 0 % 16777216) := by
  unfold carry
  have e : l.set p (l.getD p 0) = l := by
    apply List.ext_getElem?
    intro j
    rw [List.getElem?_set]
    split
    · rename_i e; subst e
      simp [h]
    · rfl
  rw [Nat.add_zero, e]
theorem getD_dig {l : List Nat} (h : ∀ x ∈ l, x < 16777216) (j : Nat) : l.getD j 0 < 16777216 := by
  rw [List.getD_eq_getElem?_getD]
  rcases e : l[j]? with _ | y
  · simp
  · exact h y (List.mem_of_getElem? e)

set_option maxRecDepth 100000 in
set_option maxHeartbeats 4000000 in
theorem mulr_any (a b : List Nat) (ha : ∀ x ∈ a, x < 16777216) (hb : ∀ x ∈ b, x < 16777216) (hal : a.length ≤ 8) (hbl : b.length ≤ 8) (va vb : Value) (w : World) (hva : DAt w va a) (hvb : DAt w vb b) :
    Calls Try.prog 40 #[va, vb] w fun e w' => ∃ v, e = .returned v ∧ DAt w' v (cdg (val a * val b)) ∧ Below w.heap.size w w' := by
  obtain ⟨R, hR⟩ : ∃ R, R = cdg (val a * val b) := ⟨_, rfl⟩
  rw [← hR]
  have HR := Lib.hid hR; have HA := Lib.hid ha; have HB := Lib.hid hb
  obtain ⟨x, c, rfl, hx⟩ := hva
  obtain ⟨y, d, rfl, hy⟩ := hvb
  have HX := Lib.hid hx; have HY := Lib.hid hy
  obtain ⟨n, hn⟩ : ∃ n, n = a.length := ⟨_, rfl⟩
  obtain ⟨m, hm⟩ : ∃ m, m = b.length := ⟨_, rfl⟩
  rw [← hn] at hal
  rw [← hm] at hbl
  rw [← hn, ← hm]
  have HN := Lib.hid hn; have HM := Lib.hid hm
  obtain ⟨N, hNN⟩ : ∃ N, N = n + m + 1 := ⟨_, rfl⟩
  have eN : (n : Int) + (m : Int) + 1 = (N : Int) := by omega
  have hNl : N ≤ 17 := by omega
  have HNN := Lib.hid hNN
  clear hR ha hb hx hy hn hm hNN
  go_enter Try.func40, Try.ntmps40
  go_wp2_with (at_make; refine wpList_make_u64 rfl _ _ rfl N rfl rfl (by omega) (fun w1 h1 h2 => ?_))
  have HK := Lib.hid h1; have HBW := Lib.hid h2
  clear h1 h2
  go_loopg [6] n (fun g ix wr => ∃ (i : Nat) (L : List Nat), g = n - i ∧ i ≤ n ∧ ix = .int .i64 i ∧ L.length = N ∧ val L = val (a.take i) * val b ∧ (∀ j, L.getD j 0 ≤ i * m * 33554432) ∧ wr.heap[w.heap.size]? = some (drow L) ∧ Below w.heap.size w wr)
  case atStart => exact ⟨0, List.replicate N 0, rfl, by omega, rfl, by simp, by rw [val_zero]; simp [val], fun j => by simp [List.getD_eq_getElem?_getD, List.getElem?_replicate]; split <;> rfl, HK.out, HBW.out⟩
  case round =>
    clear HK HBW
    obtain ⟨i, L, hg, hi, rfl, hL, hV, hbd, hK, hBB⟩ := hrel
    have HG := Lib.hid hg; have HLL := Lib.hid hL; have HV := Lib.hid hV; have HBD := Lib.hid hbd; have HK := Lib.hid hK; have HBB := Lib.hid hBB
    clear hg hL hV hbd hK hBB
    by_cases hlt : i < n
    · have hia : i < a.length := by rw [← HN.out]; exact hlt
      obtain ⟨ga, rfl, hca0⟩ := HX.out (by intro e; rw [e] at hia; simp at hia)
      have hca := hca0 i hia
      have HAI : Hid (a.getD i 0 < 16777216) := Lib.hid (getD_dig HA.out i)
      have HROW := Lib.hid (mul_row (b := b) hia)
      obtain ⟨ai, hai⟩ : ∃ ai, ai = a.getD i 0 := ⟨_, rfl⟩
      rw [← hai] at HAI HROW
      rw [← hai] at hca
      have CA := Lib.hid fun V (hb : Below w.heap.size w V) => (hb.cell (p := ⟨ga, i, none⟩) (block_lt_of_cell hca)).trans hca
      have hne : ga ≠ w.heap.size := by
        have : ga < w.heap.size := block_lt_of_cell hca
        omega
      clear hai hca hca0 hia
      obtain ⟨wo, rfl⟩ : ∃ wo : World, wo = wr := ⟨_, rfl⟩
      go_wp2_with fail
      go_loopg [7] m (fun g kx wr2 => ∃ (k : Nat) (L2 : List Nat), g = m - k ∧ k ≤ m ∧ kx = .int .i64 k ∧ L2.length = N ∧ val L2 = val (a.take i) * val b + ai * 16777216 ^ i * val (b.take k) ∧ (∀ j, L2.getD j 0 ≤ (i * m + k) * 33554432) ∧ wr2.heap[w.heap.size]? = some (drow L2) ∧ Below w.heap.size w wr2)
      case atStart => exact ⟨0, L, rfl, by omega, rfl, HLL.out, by rw [HV.out]; simp [val], HBD.out, HK.out, HBB.out⟩
      case round =>
        clear HLL HV HBD HK HBB
        obtain ⟨k, L2, hg, hk, rfl, hL, hV, hbd, hK, hBB⟩ := hrel
        have HG2 := Lib.hid hg; have HLL := Lib.hid hL; have HV := Lib.hid hV; have HBD := Lib.hid hbd; have HK := Lib.hid hK; have HBB := Lib.hid hBB
        clear hg hL hV hbd hK hBB
        by_cases hltk : k < m
        · have hkb : k < b.length := by rw [← HM.out]; exact hltk
          obtain ⟨gb, rfl, hcb0⟩ := HY.out (by intro e; rw [e] at hkb; simp at hkb)
          have hcb := hcb0 k hkb
          have HBK : Hid (b.getD k 0 < 16777216) := Lib.hid (getD_dig HB.out k)
          have HSTEP := Lib.hid (mul_step (i := i) hkb (val (a.take i) * val b) ai)
          obtain ⟨bk, hbk⟩ : ∃ bk, bk = b.getD k 0 := ⟨_, rfl⟩
          rw [← hbk] at HBK HSTEP
          rw [← hbk] at hcb
          have CB := Lib.hid fun V (hb : Below w.heap.size w V) => (hb.cell (p := ⟨gb, k, none⟩) (block_lt_of_cell hcb)).trans hcb
          clear hbk hcb hcb0 hkb
          obtain ⟨p, hp⟩ : ∃ p, p = i + k := ⟨_, rfl⟩
          have ep : (i : Int) + (k : Int) = (p : Int) := by omega
          have hpN : p + 1 < N := by have := HNN.out; omega
          obtain ⟨p1, hp1⟩ : ∃ p1, p1 = p + 1 := ⟨_, rfl⟩
          have ep1 : (p : Int) + 1 = (p1 : Int) := by omega
          have hp1N : p1 < N := by omega
          have hpN0 : p < N := by omega
          obtain ⟨z, hz⟩ : ∃ z, z = ai * bk := ⟨_, rfl⟩
          have ez : (ai : Int) * (bk : Int) = (z : Int) := by rw [hz, Int.natCast_mul]
          have hzl : z ≤ 281474976710656 := by
            rw [hz]
            have h1 := HAI.out; have h2 := HBK.out
            exact Nat.le_trans (Nat.mul_le_mul (show ai ≤ 16777216 by omega) (show bk ≤ 16777216 by omega)) (by omega)
          have him : i * m ≤ 64 := Nat.le_trans (Nat.mul_le_mul (show i ≤ 8 by omega) hbl) (by omega)
          obtain ⟨t, ht⟩ : ∃ t, t = i * m + k := ⟨_, rfl⟩
          have htl : t ≤ 72 := by omega
          rw [← ht] at HBD
          have HT := Lib.hid ht
          obtain ⟨q0, hq0⟩ : ∃ q, q = L2.getD p 0 := ⟨_, rfl⟩
          obtain ⟨q1, hq1⟩ : ∃ q, q = L2.getD p1 0 := ⟨_, rfl⟩
          have hb0 : q0 ≤ t * 33554432 := by rw [hq0]; exact HBD.out p
          have hb1 : q1 ≤ t * 33554432 := by rw [hq1]; exact HBD.out p1
          have c0 := drow_cell HK.out p (by rw [HLL.out]; exact hpN0)
          rw [← hq0] at c0
          have ca := CA.out _ HBB.out; have cb := CB.out _ HBB.out
          have fz : wr.frozen? ⟨w.heap.size, p, none⟩ = false := frozen_of_row _ _ _ _ _ HK.out
          obtain ⟨x0, hx0⟩ : ∃ x, x = q0 + z := ⟨_, rfl⟩
          have ex0 : (q0 : Int) + (z : Int) = (x0 : Int) := by omega
          have hx0l : x0 ≤ 562949953421312 := by omega
          have K1 := Lib.hid (drow_set p x0 HK.out)
          have BB1 := Lib.hid (HBB.out.setCell (p := ⟨w.heap.size, p, none⟩) (Nat.le_refl _) (.int .u64 (x0 : Int)))
          have HP := Lib.hid hp; have HP1 := Lib.hid hp1; have HZ := Lib.hid hz; have HQ0 := Lib.hid hq0; have HQ1 := Lib.hid hq1; have HX0 := Lib.hid hx0
          clear him ht hp hp1 hz hx0
          have LC := Lib.hid fun V (hb : Below wr.heap.size wr V) => drow_cell (block_keep hb HK.out) p (by rw [HLL.out]; exact hpN0)
          rw [← hq0] at LC
          clear hq0 hq1
          have LA := Lib.hid fun V (hb : Below wr.heap.size wr V) => CA.out V (HBB.out.trans (hb.mono HBB.out.size))
          have LB := Lib.hid fun V (hb : Below wr.heap.size wr V) => CB.out V (HBB.out.trans (hb.mono HBB.out.size))
          clear c0 ca cb fz K1 BB1
          go_wp2_with fail
          refine wp_region_tail 17 [Is (.slice (some ⟨w.heap.size, 0, none⟩) N N), Is (.int .i64 (i : Int)), Is (.int .i64 (k : Int)), Is (.int .i64 (p : Int)), Is (.pointer (some ⟨w.heap.size, p, none⟩)), Is (.int .u64 (q0 : Int)), Is (.slice (some ⟨ga, 0, none⟩) n c), Is (.int .i64 (i : Int)), Is (.pointer (some ⟨ga, i, none⟩)), Is (.int .u64 (ai : Int)), Is (.slice (some ⟨gb, 0, none⟩) m d), Is (.int .i64 (k : Int)), Is (.pointer (some ⟨gb, k, none⟩)), Is (.int .u64 (bk : Int)), Is (.int .u64 (z : Int)), Is (.int .u64 (x0 : Int)), Is (.pointer (some ⟨w.heap.size, p, none⟩))] [[], [], [], [(1, some 30), (2, some 31)], [(0, some 29), (3, some 32)], [(4, some 33)], [], [], [(6, some 35), (7, some 36)], [(8, some 37)], [], [], [(10, some 39), (11, some 40)], [(12, some 41)], [(9, some 38), (13, some 42)], [(5, some 34), (14, some 43)], [(0, some 29), (3, some 32)], [(15, some 44), (16, some 45)]] [(0, some 29), (1, some 30), (2, some 31), (3, some 32), (4, some 33), (5, some 34), (6, some 35), (7, some 36), (8, some 37), (9, some 38), (10, some 39), (11, some 40), (12, some 41), (13, some 42), (14, some 43), (15, some 44), (16, some 45)] [0, 0, 0, 6, 15, 31, 0, 0, 192, 448, 0, 0, 3072, 7168, 16320, 32767, 65535, 131071]
            (by kernel_rfl) (by kernel_rfl) (by kernel_rfl) (by kernel_rfl) (by kernel_rfl) ⟨Is.kept _, Is.kept _, Is.kept _, Is.kept _, Is.kept _, Is.kept _, Is.kept _, Is.kept _, Is.kept _, Is.kept _, Is.kept _, Is.kept _, Is.kept _, Is.kept _, Is.kept _, Is.kept _, Is.kept _, trivial⟩ ⟨?_, ?_, ?_, ?_, ?_, ?_, ?_, ?_, ?_, ?_, ?_, ?_, ?_, ?_, ?_, ?_, ?_, trivial⟩ ?_
          · as_aux_lemma =>
            refine fun w' hB => ?_
            show wpList _ _ _ _ _ _
            go_wp2_with fail
            exact ⟨.slice (some ⟨w.heap.size, 0, none⟩) N N, by first | rfl | (go_simp; done), rfl, Below.refl _ _⟩
          · as_aux_lemma =>
            refine fun w' hB => ?_
            show wpList _ _ _ _ _ _
            go_wp2_with fail
            exact ⟨.int .i64 (i : Int), by first | rfl | (go_simp; done), rfl, Below.refl _ _⟩
          · as_aux_lemma =>
            refine fun w' hB => ?_
            show wpList _ _ _ _ _ _
            go_wp2_with fail
            exact ⟨.int .i64 (k : Int), by first | rfl | (go_simp; done), rfl, Below.refl _ _⟩
          · as_aux_lemma =>
            refine fun w' hB v1 h1 v2 h2 => ?_
            obtain rfl := h1
            obtain rfl := h2
            show wpList _ _ _ _ _ _
            go_wp2_with fail
            exact ⟨.int .i64 (p : Int), by first | rfl | (go_simp; done), rfl, Below.refl _ _⟩
          · as_aux_lemma =>
            refine fun w' hB v0 h0 v3 h3 => ?_
            obtain rfl := h0
            obtain rfl := h3
            show wpList _ _ _ _ _ _
            go_wp2_with fail
            exact ⟨.pointer (some ⟨w.heap.size, p, none⟩), by first | rfl | (go_simp; done), rfl, Below.refl _ _⟩
          · as_aux_lemma =>
            refine fun w' hB v4 h4 => ?_
            obtain rfl := h4
            show wpList _ _ _ _ _ _
            have c := LC.out w' hB
            go_wp2_with fail
            exact ⟨_, rfl, rfl, Below.refl _ _⟩
          · as_aux_lemma =>
            refine fun w' hB => ?_
            show wpList _ _ _ _ _ _
            go_wp2_with fail
            exact ⟨.slice (some ⟨ga, 0, none⟩) n c, by first | rfl | (go_simp; done), rfl, Below.refl _ _⟩
          · as_aux_lemma =>
            refine fun w' hB => ?_
            show wpList _ _ _ _ _ _
            go_wp2_with fail
            exact ⟨.int .i64 (i : Int), by first | rfl | (go_simp; done), rfl, Below.refl _ _⟩
          · as_aux_lemma =>
            refine fun w' hB v6 h6 v7 h7 => ?_
            obtain rfl := h6
            obtain rfl := h7
            show wpList _ _ _ _ _ _
            go_wp2_with fail
            exact ⟨.pointer (some ⟨ga, i, none⟩), by first | rfl | (go_simp; done), rfl, Below.refl _ _⟩
          · as_aux_lemma =>
            refine fun w' hB v8 h8 => ?_
            obtain rfl := h8
            show wpList _ _ _ _ _ _
            have c := LA.out w' hB
            go_wp2_with fail
            exact ⟨_, rfl, rfl, Below.refl _ _⟩
          · as_aux_lemma =>
            refine fun w' hB => ?_
            show wpList _ _ _ _ _ _
            go_wp2_with fail
            exact ⟨.slice (some ⟨gb, 0, none⟩) m d, by first | rfl | (go_simp; done), rfl, Below.refl _ _⟩
          · as_aux_lemma =>
            refine fun w' hB => ?_
            show wpList _ _ _ _ _ _
            go_wp2_with fail
            exact ⟨.int .i64 (k : Int), by first | rfl | (go_simp; done), rfl, Below.refl _ _⟩
          · as_aux_lemma =>
            refine fun w' hB v10 h10 v11 h11 => ?_
            obtain rfl := h10
            obtain rfl := h11
            show wpList _ _ _ _ _ _
            go_wp2_with fail
            exact ⟨.pointer (some ⟨gb, k, none⟩), by first | rfl | (go_simp; done), rfl, Below.refl _ _⟩
          · as_aux_lemma =>
            refine fun w' hB v12 h12 => ?_
            obtain rfl := h12
            show wpList _ _ _ _ _ _
            have c := LB.out w' hB
            go_wp2_with fail
            exact ⟨_, rfl, rfl, Below.refl _ _⟩
          · as_aux_lemma =>
            refine fun w' hB v9 h9 v13 h13 => ?_
            obtain rfl := h9
            obtain rfl := h13
            show wpList _ _ _ _ _ _
            go_wp2_with fail
            exact ⟨.int .u64 (z : Int), by first | rfl | (go_simp; done), rfl, Below.refl _ _⟩
          · as_aux_lemma =>
            refine fun w' hB v5 h5 v14 h14 => ?_
            obtain rfl := h5
            obtain rfl := h14
            show wpList _ _ _ _ _ _
            go_wp2_with fail
            exact ⟨.int .u64 (x0 : Int), by first | rfl | (go_simp; done), rfl, Below.refl _ _⟩
          · as_aux_lemma =>
            refine fun w' hB v0 h0 v3 h3 => ?_
            obtain rfl := h0
            obtain rfl := h3
            show wpList _ _ _ _ _ _
            go_wp2_with fail
            exact ⟨.pointer (some ⟨w.heap.size, p, none⟩), by first | rfl | (go_simp; done), rfl, Below.refl _ _⟩
          · refine fun w' hB v0 h0 v1 h1 v2 h2 v3 h3 v4 h4 v5 h5 v6 h6 v7 h7 v8 h8 v9 h9 v10 h10 v11 h11 v12 h12 v13 h13 v14 h14 v15 h15 v16 h16 => ?_
            obtain rfl := h15
            obtain rfl := h16
            simp only [onP, List.drop_succ_cons, List.drop_zero]
            go_simp
            clear h0 h1 h2 h3 h4 h5 h6 h7 h8 h9 h10 h11 h12 h13 h14
            have K0' := Lib.hid (block_keep hB HK.out)
            have B0' := Lib.hid (HBB.out.trans (hB.mono HBB.out.size))
            have c0 := LC.out w' hB
            have fz : w'.frozen? ⟨w.heap.size, p, none⟩ = false := frozen_of_row _ _ _ _ _ K0'.out
            have K1 := Lib.hid (drow_set p x0 K0'.out)
            have BB1 := Lib.hid (B0'.out.setCell (p := ⟨w.heap.size, p, none⟩) (Nat.le_refl _) (.int .u64 (x0 : Int)))
            clear hB
            go_wp2_with fail
            refine wp_abs (fun W => W.heap[w.heap.size]? = some (drow (L2.set p x0)) ∧ Below w.heap.size w W) (by exact ⟨K1.out, BB1.out⟩) ?_
            clear c0 fz K1 BB1 HK HBB K0' B0' LC LA LB
            rintro W1 ⟨k1, hB1⟩
            have K1 := Lib.hid k1; have BB1 := Lib.hid hB1
            clear k1 hB1
            have l1 : (L2.set p x0).length = N := by rw [List.length_set]; exact HLL.out
            have LC0 := Lib.hid fun V (hb : Below W1.heap.size W1 V) => drow_cell (block_keep hb K1.out) p (by rw [l1]; exact hpN0)
            have LC1 := Lib.hid fun V (hb : Below W1.heap.size W1 V) => drow_cell (block_keep hb K1.out) p1 (by rw [l1]; exact hp1N)
            rw [getD_set_self (by rw [HLL.out]; exact hpN0)] at LC0
            rw [getD_set_other (by have := HP1.out; omega), ← HQ1.out] at LC1
            obtain ⟨y0, hy0⟩ : ∃ y, y = x0 / 16777216 := ⟨_, rfl⟩
            have ey0 : (x0 : Int) / 16777216 = (y0 : Int) := by omega
            obtain ⟨y1, hy1⟩ : ∃ y, y = q1 + y0 := ⟨_, rfl⟩
            have ey1 : (q1 : Int) + (y0 : Int) = (y1 : Int) := by omega
            have hy1l : y1 ≤ (t + 1) * 33554432 := by omega
            have HY0 := Lib.hid hy0; have HY1 := Lib.hid hy1
            clear ez ex0 l1 hy0 hy1
            go_wp2_with fail
            refine wp_region_tail 16 [Is (.slice (some ⟨w.heap.size, 0, none⟩) N N), Is (.int .i64 (i : Int)), Is (.int .i64 (k : Int)), Is (.int .i64 (p : Int)), Is (.int .i64 (p1 : Int)), Is (.pointer (some ⟨w.heap.size, p1, none⟩)), Is (.int .u64 (q1 : Int)), Is (.slice (some ⟨w.heap.size, 0, none⟩) N N), Is (.int .i64 (i : Int)), Is (.int .i64 (k : Int)), Is (.int .i64 (p : Int)), Is (.pointer (some ⟨w.heap.size, p, none⟩)), Is (.int .u64 (x0 : Int)), Is (.int .u64 (y0 : Int)), Is (.int .u64 (y1 : Int)), Is (.pointer (some ⟨w.heap.size, p1, none⟩))] [[], [], [], [(1, some 47), (2, some 48)], [(3, some 49)], [(0, some 46), (4, some 50)], [(5, some 51)], [], [], [], [(8, some 54), (9, some 55)], [(7, some 53), (10, some 56)], [(11, some 57)], [(12, some 58)], [(6, some 52), (13, some 59)], [(0, some 46), (4, some 50)], [(14, some 60), (15, some 61)]] [(0, some 46), (1, some 47), (2, some 48), (3, some 49), (4, some 50), (5, some 51), (6, some 52), (7, some 53), (8, some 54), (9, some 55), (10, some 56), (11, some 57), (12, some 58), (13, some 59), (14, some 60), (15, some 61)] [0, 0, 0, 6, 14, 31, 63, 0, 0, 0, 768, 1920, 3968, 8064, 16383, 32767, 65535]
              (by kernel_rfl) (by kernel_rfl) (by kernel_rfl) (by kernel_rfl) (by kernel_rfl) ⟨Is.kept _, Is.kept _, Is.kept _, Is.kept _, Is.kept _, Is.kept _, Is.kept _, Is.kept _, Is.kept _, Is.kept _, Is.kept _, Is.kept _, Is.kept _, Is.kept _, Is.kept _, Is.kept _, trivial⟩ ⟨?_, ?_, ?_, ?_, ?_, ?_, ?_, ?_, ?_, ?_, ?_, ?_, ?_, ?_, ?_, ?_, trivial⟩ ?_
            · as_aux_lemma =>
              refine fun w' hB => ?_
              show wpList _ _ _ _ _ _
              go_wp2_with fail
              exact ⟨.slice (some ⟨w.heap.size, 0, none⟩) N N, by first | rfl | (go_simp; done), rfl, Below.refl _ _⟩
            · as_aux_lemma =>
              refine fun w' hB => ?_
              show wpList _ _ _ _ _ _
              go_wp2_with fail
              exact ⟨.int .i64 (i : Int), by first | rfl | (go_simp; done), rfl, Below.refl _ _⟩
            · as_aux_lemma =>
              refine fun w' hB => ?_
              show wpList _ _ _ _ _ _
              go_wp2_with fail
              exact ⟨.int .i64 (k : Int), by first | rfl | (go_simp; done), rfl, Below.refl _ _⟩
            · as_aux_lemma =>
              refine fun w' hB v1 h1 v2 h2 => ?_
              obtain rfl := h1
              obtain rfl := h2
              show wpList _ _ _ _ _ _
              go_wp2_with fail
              exact ⟨.int .i64 (p : Int), by first | rfl | (go_simp; done), rfl, Below.refl _ _⟩
            · as_aux_lemma =>
              refine fun w' hB v3 h3 => ?_
              obtain rfl := h3
              show wpList _ _ _ _ _ _
              go_wp2_with fail
              exact ⟨.int .i64 (p1 : Int), by first | rfl | (go_simp; done), rfl, Below.refl _ _⟩
            · as_aux_lemma =>
              refine fun w' hB v0 h0 v4 h4 => ?_
              obtain rfl := h0
              obtain rfl := h4
              show wpList _ _ _ _ _ _
              go_wp2_with fail
              exact ⟨.pointer (some ⟨w.heap.size, p1, none⟩), by first | rfl | (go_simp; done), rfl, Below.refl _ _⟩
            · as_aux_lemma =>
              refine fun w' hB v5 h5 => ?_
              obtain rfl := h5
              show wpList _ _ _ _ _ _
              have c := LC1.out w' hB
              go_wp2_with fail
              exact ⟨_, rfl, rfl, Below.refl _ _⟩
            · as_aux_lemma =>
              refine fun w' hB => ?_
              show wpList _ _ _ _ _ _
              go_wp2_with fail
              exact ⟨.slice (some ⟨w.heap.size, 0, none⟩) N N, by first | rfl | (go_simp; done), rfl, Below.refl _ _⟩
            · as_aux_lemma =>
              refine fun w' hB => ?_
              show wpList _ _ _ _ _ _
              go_wp2_with fail
              exact ⟨.int .i64 (i : Int), by first | rfl | (go_simp; done), rfl, Below.refl _ _⟩
            · as_aux_lemma =>
              refine fun w' hB => ?_
              show wpList _ _ _ _ _ _
              go_wp2_with fail
              exact ⟨.int .i64 (k : Int), by first | rfl | (go_simp; done), rfl, Below.refl _ _⟩
            · as_aux_lemma =>
              refine fun w' hB v8 h8 v9 h9 => ?_
              obtain rfl := h8
              obtain rfl := h9
              show wpList _ _ _ _ _ _
              go_wp2_with fail
              exact ⟨.int .i64 (p : Int), by first | rfl | (go_simp; done), rfl, Below.refl _ _⟩
            · as_aux_lemma =>
              refine fun w' hB v7 h7 v10 h10 => ?_
              obtain rfl := h7
              obtain rfl := h10
              show wpList _ _ _ _ _ _
              go_wp2_with fail
              exact ⟨.pointer (some ⟨w.heap.size, p, none⟩), by first | rfl | (go_simp; done), rfl, Below.refl _ _⟩
            · as_aux_lemma =>
              refine fun w' hB v11 h11 => ?_
              obtain rfl := h11
              show wpList _ _ _ _ _ _
              have c := LC0.out w' hB
              go_wp2_with fail
              exact ⟨_, rfl, rfl, Below.refl _ _⟩
            · as_aux_lemma =>
              refine fun w' hB v12 h12 => ?_
              obtain rfl := h12
              show wpList _ _ _ _ _ _
              go_wp2_with fail
              exact ⟨.int .u64 (y0 : Int), by first | rfl | (go_simp; done), rfl, Below.refl _ _⟩
            · as_aux_lemma =>
              refine fun w' hB v6 h6 v13 h13 => ?_
              obtain rfl := h6
              obtain rfl := h13
              show wpList _ _ _ _ _ _
              go_wp2_with fail
              exact ⟨.int .u64 (y1 : Int), by first | rfl | (go_simp; done), rfl, Below.refl _ _⟩
            · as_aux_lemma =>
              refine fun w' hB v0 h0 v4 h4 => ?_
              obtain rfl := h0
              obtain rfl := h4
              show wpList _ _ _ _ _ _
              go_wp2_with fail
              exact ⟨.pointer (some ⟨w.heap.size, p1, none⟩), by first | rfl | (go_simp; done), rfl, Below.refl _ _⟩
            · refine fun w' hB v0 h0 v1 h1 v2 h2 v3 h3 v4 h4 v5 h5 v6 h6 v7 h7 v8 h8 v9 h9 v10 h10 v11 h11 v12 h12 v13 h13 v14 h14 v15 h15 => ?_
              obtain rfl := h14
              obtain rfl := h15
              simp only [onP, List.drop_succ_cons, List.drop_zero]
              go_simp
              clear h0 h1 h2 h3 h4 h5 h6 h7 h8 h9 h10 h11 h12 h13
              have K0' := Lib.hid (block_keep hB K1.out)
              have B0' := Lib.hid (BB1.out.trans (hB.mono BB1.out.size))
              have c1 := LC1.out w' hB
              have fz : w'.frozen? ⟨w.heap.size, p1, none⟩ = false := frozen_of_row _ _ _ _ _ K0'.out
              have K2 := Lib.hid (drow_set p1 y1 K0'.out)
              have BB2 := Lib.hid (B0'.out.setCell (p := ⟨w.heap.size, p1, none⟩) (Nat.le_refl _) (.int .u64 (y1 : Int)))
              have c0 := LC0.out w' hB
              have fz0 : w'.frozen? ⟨w.heap.size, p, none⟩ = false := frozen_of_row _ _ _ _ _ K0'.out
              have n01 : ¬ p = p1 := by have := HP1.out; omega
              have n10 : ¬ p1 = p := by have := HP1.out; omega
              clear hB
              obtain ⟨r0, hr0⟩ : ∃ r, r = x0 % 16777216 := ⟨_, rfl⟩
              have er0 : (x0 : Int) % 16777216 = (r0 : Int) := by omega
              have hr0l : r0 < 16777216 := by omega
              have HR0 := Lib.hid hr0
              have K3 := Lib.hid (drow_set p r0 K2.out)
              have BB3 := Lib.hid (BB2.out.setCell (p := ⟨w.heap.size, p, none⟩) (Nat.le_refl _) (.int .u64 (r0 : Int)))
              have HCY : Hid (((L2.set p x0).set p1 y1).set p r0 = carry L2 p z) := Lib.hid (by
                unfold carry
                rw [HR0.out, HY1.out, HY0.out, HP1.out, HX0.out, HQ0.out, HQ1.out, HP1.out])
              rw [HCY.out] at K3
              have hb := HBD.out
              have HBN : Hid (∀ j, (carry L2 p z).getD j 0 ≤ (t + 1) * 33554432) := Lib.hid fun j => by
                rw [carry_get _ _ _ _ (by rw [HLL.out]; exact hpN)]
                split
                · omega
                · split
                  · rw [← HP1.out, ← HQ1.out, ← HQ0.out, ← HX0.out, ← HY0.out, ← HY1.out]; exact hy1l
                  · exact Nat.le_trans (hb j) (Nat.mul_le_mul_right _ (by omega))
              clear hr0 ey0 ey1 hb hb0 hb1 hx0l hy1l hzl K1 BB1 K0' B0' LC0 LC1 K2 BB2
              go_wp2_with fail
              go_roundg (m - (k + 1))
              case measure => have := HG2.out; omega
              case rel => exact ⟨k + 1, carry L2 p z, rfl, by omega, by go_num, by rw [carry_len]; exact HLL.out, by rw [carry_val (by rw [HLL.out]; exact hpN), HV.out, HZ.out, HP.out]; exact HSTEP.out, fun j => by have := HBN.out j; rw [HT.out] at this; rw [← Nat.add_assoc]; exact this, K3.out, BB3.out⟩
        · obtain rfl : k = m := by omega
          have eb : b.take k = b := List.take_of_length_le (by rw [HM.out]; exact Nat.le_refl _)
          rw [eb] at HV
          have HV2 := Lib.hid (HV.out.trans HROW.out)
          have him : (i + 1) * k = i * k + k := Nat.succ_mul i k
          have HIM := Lib.hid him
          clear eb hltk HV him
          go_wp2_with fail
          go_roundg (n - (i + 1))
          case measure => have := HG.out; omega
          case rel => exact ⟨i + 1, L2, rfl, by omega, by go_num, HLL.out, HV2.out, fun j => by rw [HIM.out]; exact HBD.out j, HK.out, HBB.out⟩
    · obtain rfl : i = n := by omega
      have ea : a.take i = a := List.take_of_length_le (by rw [HN.out]; exact Nat.le_refl _)
      rw [ea] at HV
      obtain ⟨V, hVV⟩ : ∃ V, V = val a * val b := ⟨_, rfl⟩
      rw [← hVV] at HV HR
      have hab : val a < 16777216 ^ i := by rw [HN.out]; exact val_lt a HA.out
      have hbb : val b < 16777216 ^ m := by rw [HM.out]; exact val_lt b HB.out
      have HVL : Hid (V < 16777216 ^ (N - 1)) := Lib.hid (by
        rw [hVV, HNN.out, Nat.add_sub_cancel, Nat.pow_add]
        exact Nat.mul_lt_mul'' hab hbb)
      have HB33 : Hid (∀ j, L.getD j 0 ≤ 4294967296) := Lib.hid fun j => by
        have h1 := HBD.out j
        have h2 : i * m ≤ 64 := Nat.le_trans (Nat.mul_le_mul hal hbl) (by omega)
        omega
      clear ea hVV hab hbb hlt HX HY HBD
      go_wp2_with fail
      go_loopg [8] N (fun g ix wr2 => ∃ (j : Nat) (L2 : List Nat), g = N - j ∧ j + 1 ≤ N ∧ ix = .int .i64 j ∧ L2.length = N ∧ val L2 = V ∧ (∀ q, q < j → L2.getD q 0 < 16777216) ∧ (∀ q, j < q → L2.getD q 0 ≤ 4294967296) ∧ L2.getD j 0 ≤ 8589934592 ∧ wr2.heap[w.heap.size]? = some (drow L2) ∧ Below w.heap.size w wr2)
      case atStart => exact ⟨0, L, rfl, by have := HNN.out; omega, rfl, HLL.out, HV.out, fun q hq => by omega, fun q _ => HB33.out q, by have := HB33.out 0; omega, HK.out, HBB.out⟩
      case round =>
        clear HLL HV HK HBB HB33
        obtain ⟨j, L2, hg, hj, rfl, hL, hV, hlo, hhi, hme, hK, hBB⟩ := hrel
        have HG2 := Lib.hid hg; have HLL := Lib.hid hL; have HV := Lib.hid hV; have HLO := Lib.hid hlo; have HHI := Lib.hid hhi; have HME := Lib.hid hme; have HK := Lib.hid hK; have HBB := Lib.hid hBB
        clear hg hL hV hlo hhi hme hK hBB
        obtain ⟨i1, hi1⟩ : ∃ i1, i1 = j + 1 := ⟨_, rfl⟩
        have ei1 : (j : Int) + 1 = (i1 : Int) := by omega
        have HI1 := Lib.hid hi1
        by_cases hlt : i1 < N
        · have hjN : j < N := by omega
          obtain ⟨q0, hq0⟩ : ∃ q, q = L2.getD j 0 := ⟨_, rfl⟩
          obtain ⟨q1, hq1⟩ : ∃ q, q = L2.getD i1 0 := ⟨_, rfl⟩
          have hb0 : q0 ≤ 8589934592 := by rw [hq0]; exact HME.out
          have hb1 : q1 ≤ 4294967296 := by rw [hq1]; exact HHI.out i1 (by omega)
          have LC0 := Lib.hid fun V (hb : Below wr.heap.size wr V) => drow_cell (block_keep hb HK.out) j (by rw [HLL.out]; exact hjN)
          have LC1 := Lib.hid fun V (hb : Below wr.heap.size wr V) => drow_cell (block_keep hb HK.out) i1 (by rw [HLL.out]; exact hlt)
          rw [← hq0] at LC0
          rw [← hq1] at LC1
          obtain ⟨y0, hy0⟩ : ∃ y, y = q0 / 16777216 := ⟨_, rfl⟩
          have ey0 : (q0 : Int) / 16777216 = (y0 : Int) := by omega
          obtain ⟨y1, hy1⟩ : ∃ y, y = q1 + y0 := ⟨_, rfl⟩
          have ey1 : (q1 : Int) + (y0 : Int) = (y1 : Int) := by omega
          have hy1l : y1 ≤ 8589934592 := by omega
          have HQ0 := Lib.hid hq0; have HQ1 := Lib.hid hq1; have HY0 := Lib.hid hy0; have HY1 := Lib.hid hy1
          clear hi1 hq0 hq1 hy0 hy1
          go_wp2_with fail
          refine wp_region_tail 12 [Is (.slice (some ⟨w.heap.size, 0, none⟩) N N), Is (.int .i64 (j : Int)), Is (.int .i64 (i1 : Int)), Is (.pointer (some ⟨w.heap.size, i1, none⟩)), Is (.int .u64 (q1 : Int)), Is (.slice (some ⟨w.heap.size, 0, none⟩) N N), Is (.int .i64 (j : Int)), Is (.pointer (some ⟨w.heap.size, j, none⟩)), Is (.int .u64 (q0 : Int)), Is (.int .u64 (y0 : Int)), Is (.int .u64 (y1 : Int)), Is (.pointer (some ⟨w.heap.size, i1, none⟩))] [[], [], [(1, some 78)], [(0, some 77), (2, some 79)], [(3, some 80)], [], [], [(5, some 82), (6, some 83)], [(7, some 84)], [(8, some 85)], [(4, some 81), (9, some 86)], [(0, some 77), (2, some 79)], [(10, some 87), (11, some 88)]] [(0, some 77), (1, some 78), (2, some 79), (3, some 80), (4, some 81), (5, some 82), (6, some 83), (7, some 84), (8, some 85), (9, some 86), (10, some 87), (11, some 88)] [0, 0, 2, 7, 15, 0, 0, 96, 224, 480, 1023, 2047, 4095]
            (by kernel_rfl) (by kernel_rfl) (by kernel_rfl) (by kernel_rfl) (by kernel_rfl) ⟨Is.kept _, Is.kept _, Is.kept _, Is.kept _, Is.kept _, Is.kept _, Is.kept _, Is.kept _, Is.kept _, Is.kept _, Is.kept _, Is.kept _, trivial⟩ ⟨?_, ?_, ?_, ?_, ?_, ?_, ?_, ?_, ?_, ?_, ?_, ?_, trivial⟩ ?_
          · as_aux_lemma =>
            refine fun w' hB => ?_
            show wpList _ _ _ _ _ _
            go_wp2_with fail
            exact ⟨.slice (some ⟨w.heap.size, 0, none⟩) N N, by first | rfl | (go_simp; done), rfl, Below.refl _ _⟩
          · as_aux_lemma =>
            refine fun w' hB => ?_
            show wpList _ _ _ _ _ _
            go_wp2_with fail
            exact ⟨.int .i64 (j : Int), by first | rfl | (go_simp; done), rfl, Below.refl _ _⟩
          · as_aux_lemma =>
            refine fun w' hB v1 h1 => ?_
            obtain rfl := h1
            show wpList _ _ _ _ _ _
            go_wp2_with fail
            exact ⟨.int .i64 (i1 : Int), by first | rfl | (go_simp; done), rfl, Below.refl _ _⟩
          · as_aux_lemma =>
            refine fun w' hB v0 h0 v2 h2 => ?_
            obtain rfl := h0
            obtain rfl := h2
            show wpList _ _ _ _ _ _
            go_wp2_with fail
            exact ⟨.pointer (some ⟨w.heap.size, i1, none⟩), by first | rfl | (go_simp; done), rfl, Below.refl _ _⟩
          · as_aux_lemma =>
            refine fun w' hB v3 h3 => ?_
            obtain rfl := h3
            show wpList _ _ _ _ _ _
            have c := LC1.out w' hB
            go_wp2_with fail
            exact ⟨_, rfl, rfl, Below.refl _ _⟩
          · as_aux_lemma =>
            refine fun w' hB => ?_
            show wpList _ _ _ _ _ _
            go_wp2_with fail
            exact ⟨.slice (some ⟨w.heap.size, 0, none⟩) N N, by first | rfl | (go_simp; done), rfl, Below.refl _ _⟩
          · as_aux_lemma =>
            refine fun w' hB => ?_
            show wpList _ _ _ _ _ _
            go_wp2_with fail
            exact ⟨.int .i64 (j : Int), by first | rfl | (go_simp; done), rfl, Below.refl _ _⟩
          · as_aux_lemma =>
            refine fun w' hB v5 h5 v6 h6 => ?_
            obtain rfl := h5
            obtain rfl := h6
            show wpList _ _ _ _ _ _
            go_wp2_with fail
            exact ⟨.pointer (some ⟨w.heap.size, j, none⟩), by first | rfl | (go_simp; done), rfl, Below.refl _ _⟩
          · as_aux_lemma =>
            refine fun w' hB v7 h7 => ?_
            obtain rfl := h7
            show wpList _ _ _ _ _ _
            have c := LC0.out w' hB
            go_wp2_with fail
            exact ⟨_, rfl, rfl, Below.refl _ _⟩
          · as_aux_lemma =>
            refine fun w' hB v8 h8 => ?_
            obtain rfl := h8
            show wpList _ _ _ _ _ _
            go_wp2_with fail
            exact ⟨.int .u64 (y0 : Int), by first | rfl | (go_simp; done), rfl, Below.refl _ _⟩
          · as_aux_lemma =>
            refine fun w' hB v4 h4 v9 h9 => ?_
            obtain rfl := h4
            obtain rfl := h9
            show wpList _ _ _ _ _ _
            go_wp2_with fail
            exact ⟨.int .u64 (y1 : Int), by first | rfl | (go_simp; done), rfl, Below.refl _ _⟩
          · as_aux_lemma =>
            refine fun w' hB v0 h0 v2 h2 => ?_
            obtain rfl := h0
            obtain rfl := h2
            show wpList _ _ _ _ _ _
            go_wp2_with fail
            exact ⟨.pointer (some ⟨w.heap.size, i1, none⟩), by first | rfl | (go_simp; done), rfl, Below.refl _ _⟩
          · refine fun w' hB v0 h0 v1 h1 v2 h2 v3 h3 v4 h4 v5 h5 v6 h6 v7 h7 v8 h8 v9 h9 v10 h10 v11 h11 => ?_
            obtain rfl := h10
            obtain rfl := h11
            simp only [onP, List.drop_succ_cons, List.drop_zero]
            go_simp
            clear h0 h1 h2 h3 h4 h5 h6 h7 h8 h9
            have K0' := Lib.hid (block_keep hB HK.out)
            have B0' := Lib.hid (HBB.out.trans (hB.mono HBB.out.size))
            have c1 := LC1.out w' hB
            have fz : w'.frozen? ⟨w.heap.size, i1, none⟩ = false := frozen_of_row _ _ _ _ _ K0'.out
            have K2 := Lib.hid (drow_set i1 y1 K0'.out)
            have BB2 := Lib.hid (B0'.out.setCell (p := ⟨w.heap.size, i1, none⟩) (Nat.le_refl _) (.int .u64 (y1 : Int)))
            have c0 := LC0.out w' hB
            have fz0 : w'.frozen? ⟨w.heap.size, j, none⟩ = false := frozen_of_row _ _ _ _ _ K0'.out
            have n01 : ¬ j = i1 := by have := HI1.out; omega
            have n10 : ¬ i1 = j := by have := HI1.out; omega
            clear hB
            obtain ⟨r0, hr0⟩ : ∃ r, r = q0 % 16777216 := ⟨_, rfl⟩
            have er0 : (q0 : Int) % 16777216 = (r0 : Int) := by omega
            have hr0l : r0 < 16777216 := by omega
            have HR0 := Lib.hid hr0
            have K3 := Lib.hid (drow_set j r0 K2.out)
            have BB3 := Lib.hid (BB2.out.setCell (p := ⟨w.heap.size, j, none⟩) (Nat.le_refl _) (.int .u64 (r0 : Int)))
            have HCY : Hid ((L2.set i1 y1).set j r0 = carry L2 j 0) := Lib.hid (by
              rw [carry_zero (by rw [HLL.out]; exact hjN), HR0.out, HY1.out, HY0.out, HQ0.out, HQ1.out, HI1.out])
            rw [HCY.out] at K3
            have HCG := Lib.hid fun q => carry_get L2 j 0 q (by rw [HLL.out, ← HI1.out]; exact hlt)
            clear hr0 ey0 ey1 hb0 hb1 K0' B0' LC0 LC1 K2 BB2 HK HBB
            go_wp2_with fail
            go_roundg (N - (j + 1))
            case measure => have := HG2.out; omega
            case rel =>
              refine ⟨j + 1, carry L2 j 0, rfl, by have := HI1.out; omega, by rw [HI1.out], by rw [carry_len]; exact HLL.out, by rw [carry_val (by rw [HLL.out, ← HI1.out]; exact hlt), Nat.zero_mul, Nat.add_zero]; exact HV.out, fun q hq => ?_, fun q hq => ?_, ?_, K3.out, BB3.out⟩
              · rw [HCG.out]
                by_cases e : q = j
                · rw [if_pos e]; exact Nat.mod_lt _ (by omega)
                · rw [if_neg e, if_neg (by omega)]; exact HLO.out q (by omega)
              · rw [HCG.out, if_neg (by omega), if_neg (by omega)]; exact HHI.out q (by omega)
              · rw [HCG.out, if_neg (by omega), if_pos rfl, ← HI1.out, ← HQ1.out, ← HQ0.out, Nat.add_zero q0, ← HY0.out, ← HY1.out]; exact hy1l
        · have hj1 : j + 1 = N := by omega
          clear hi1
          have ej : j = N - 1 := by omega
          have HJ := Lib.hid ej
          have hvt := val_take L2 j (by rw [HLL.out]; omega)
          have hdr : L2.drop j = [L2.getD j 0] := by
            rw [List.drop_eq_getElem_cons (by rw [HLL.out]; omega), List.drop_of_length_le (by rw [HLL.out]; omega), List.getD_eq_getElem?_getD, List.getElem?_eq_getElem (by rw [HLL.out]; omega)]
            rfl
          rw [hdr, HV.out] at hvt
          have hz : L2.getD j 0 = 0 := by
            have h1 := HVL.out
            rw [← ej] at h1
            rcases Nat.eq_zero_or_pos (L2.getD j 0) with h | h
            · exact h
            · exfalso
              have h2 : 16777216 ^ j * 1 ≤ 16777216 ^ j * (L2.getD j 0 + 16777216 * 0) := Nat.mul_le_mul_left _ (by omega)
              have h3 : val [L2.getD j 0] = L2.getD j 0 + 16777216 * 0 := rfl
              rw [h3] at hvt
              omega
          have hall : ∀ x ∈ L2, x < 16777216 := by
            intro x hx
            obtain ⟨q, hq⟩ := List.getElem?_of_mem hx
            have hql : q < N := by rw [← HLL.out]; exact (List.getElem?_eq_some_iff.1 hq).1
            have hxe : L2.getD q 0 = x := by rw [List.getD_eq_getElem?_getD, hq]; rfl
            by_cases e : q = j
            · rw [← hxe, e, hz]; omega
            · rw [← hxe]; exact HLO.out q (by omega)
          have HALL := Lib.hid hall
          have HVB : Hid (V < 16777216 ^ 32) := Lib.hid (Nat.lt_of_lt_of_le HVL.out (Nat.pow_le_pow_right (by omega) (by omega)))
          have HT : Hid (val (L2.take N) = V) := Lib.hid (by rw [List.take_of_length_le (by rw [HLL.out]; exact Nat.le_refl _)]; exact HV.out)
          have hNj : ¬ (i1 : Int) < (N : Int) := by omega
          clear ej hvt hdr hz hall HLO HHI HME HVL hlt HJ
          go_wp2_with fail
          go_loopg [9] N (fun g nv wr3 => ∃ k : Nat, g = k ∧ k ≤ N ∧ nv = .int .i64 k ∧ val (L2.take k) = V ∧ wr = wr3)
          case atStart => exact ⟨N, rfl, Nat.le_refl _, rfl, HT.out, rfl⟩
          case round =>
            clear HT
            obtain ⟨k, hg, hk, rfl, hT, rfl⟩ := hrel
            have HG3 := Lib.hid hg; have HT := Lib.hid hT
            clear hg hT
            by_cases h0 : k = 0
            · subst h0
              have HD : Hid (R = []) := Lib.hid (by
                have hv := HT.out
                rw [List.take_zero] at hv
                rw [HR.out, ← hv]; rfl)
              clear HT
              go_wp2_with fail
              go_ret
              exact ⟨_, rfl, ⟨some ⟨w.heap.size, 0, none⟩, N, by rw [HD.out]; rfl, fun h => absurd HD.out h⟩, HBB.out⟩
            · obtain ⟨m0, hm0⟩ : ∃ m0, m0 = k - 1 := ⟨_, rfl⟩
              have em : (k : Int) - 1 = (m0 : Int) := by omega
              have hpos : (0 : Int) < (k : Int) := by omega
              have hmN : m0 < N := by omega
              have HM0 : Hid (k = m0 + 1) := Lib.hid (by omega)
              have c0 := drow_cell HK.out m0 (by rw [HLL.out]; exact hmN)
              obtain ⟨q0, hq0⟩ : ∃ q, q = L2.getD m0 0 := ⟨_, rfl⟩
              rw [← hq0] at c0
              have HQ0 := Lib.hid hq0
              clear hq0 hm0 h0
              by_cases hz : q0 = 0
              · have hz' : (q0 : Int) = 0 := by omega
                have hv := HT.out
                rw [HM0.out, val_strip (by rw [HLL.out]; exact hmN) (by rw [← HQ0.out]; exact hz)] at hv
                have HV2 := Lib.hid hv
                clear hv hz
                go_wp2_with fail
                go_roundg m0
                case measure => have := HG3.out; have := HM0.out; omega
                case rel => exact ⟨m0, rfl, by omega, rfl, HV2.out, rfl⟩
              · have hz' : ¬ (q0 : Int) = 0 := by omega
                have hkl : (L2.take k).length = k := by rw [List.length_take, HLL.out]; omega
                have hcan : canon (L2.take k) := canon_of _ (fun x hx => HALL.out x (List.mem_of_mem_take hx)) (.inr (by
                  rw [hkl, List.getD_eq_getElem?_getD, List.getElem?_take_of_lt (by omega), ← List.getD_eq_getElem?_getD, show k - 1 = m0 by have := HM0.out; omega, ← HQ0.out]
                  exact hz))
                have hRl : R = L2.take k := by
                  have h1 := cdg_of hcan (by rw [HT.out]; exact HVB.out)
                  rw [HT.out] at h1
                  rw [HR.out]; exact h1.symm
                have HRL := Lib.hid hRl
                have HKL := Lib.hid hkl
                have hkN : k ≤ N := hk
                clear hcan hRl hkl hz
                go_wp2_with fail
                go_ret
                refine ⟨_, rfl, ⟨some ⟨w.heap.size, 0, none⟩, N, by rw [HRL.out, HKL.out]; rfl, fun _ => ⟨w.heap.size, rfl, fun q hq => ?_⟩⟩, HBB.out⟩
                rw [HRL.out, HKL.out] at hq
                rw [drow_cell HK.out q (by rw [HLL.out]; omega), HRL.out, List.getD_eq_getElem?_getD, List.getD_eq_getElem?_getD, List.getElem?_take_of_lt hq]
end Go.Proofs.Ytfopockjakeplaa
