/- The law HashBlocks: cut into parts at any place bytes have the same sums. No condition. -/
import Derived.Test.YtfopockjakeplaaHashK
import Derived.Test.YtfopockjakeplaaRegInv
import Derived.Test.YtfopockjakeplaaHead
namespace Go.Proofs.Ytfopockjakeplaa
open Go.ChangeShapes Go.WideShapes Go.ChangeAt Go.RowKit

/-- where b[k:] begins -/
def fromAt (x : Option Addr) (c k : Nat) : Option Addr := if c = k then x else x.map (·.add k)
theorem BytesIn.front {w : World} {x : Option Addr} {c k : Nat} {l : List Nat} (h : BytesIn w (.slice x l.length c) l) (hk : k ≤ l.length) : BytesAt w (.slice x k c) (l.take k) := by
  rcases h with ⟨e, rfl⟩ | ⟨a, c', e, h1, h2, h⟩
  · obtain ⟨rfl, -, rfl⟩ := Value.slice.inj e
    obtain rfl : k = 0 := by simpa using hk
    exact .inl ⟨rfl, rfl⟩
  · obtain ⟨rfl, -, rfl⟩ := Value.slice.inj e
    refine .inr ⟨a, c, by rw [List.length_take, Nat.min_eq_left hk], fun j hj => ?_⟩
    rw [List.length_take, Nat.min_eq_left hk] at hj
    rw [h j (by omega)]
    simp [List.getD, List.getElem?_take_of_lt hj]
theorem BytesIn.back {w : World} {x : Option Addr} {c k : Nat} {l : List Nat} (h : BytesIn w (.slice x l.length c) l) (hk : k ≤ l.length) : BytesAt w (.slice (fromAt x c k) (l.length - k) (c - k)) (l.drop k) := by
  rcases h with ⟨e, rfl⟩ | ⟨a, c', e, h1, h2, h⟩
  · obtain ⟨rfl, -, rfl⟩ := Value.slice.inj e
    obtain rfl : k = 0 := by simpa using hk
    exact .inl ⟨rfl, rfl⟩
  · obtain ⟨rfl, -, rfl⟩ := Value.slice.inj e
    unfold fromAt
    by_cases hck : c = k
    · subst hck
      rw [if_pos rfl]
      exact .inr ⟨a, c - c, by rw [List.length_drop], fun j hj => by rw [List.length_drop] at hj; omega⟩
    · rw [if_neg hck]
      refine .inr ⟨a.add k, c - k, by rw [List.length_drop]; rfl, fun j hj => ?_⟩
      rw [List.length_drop] at hj
      have := h (k + j) (by omega)
      rw [Addr.add_add]
      rw [this]
      simp [List.getD]
theorem run_from (x : Option Addr) (n c k : Nat) (hk : k ≤ n) (w : World) : (Instr.slice 22 (.slice x n c) (some (.int .i64 (k : Int))) none none).run Try.prog w = .ok (.slice (fromAt x c k) (n - k) (c - k)) w := by
  rw [run_slice_l w 22 x n c (by kernel_rfl) .i64 k (by omega) (by omega)]
  have : (sizeOf (Try.prog.elem 22)).run Try.prog w = .ok 1 w := by kernel_rfl
  rw [this]
  simp [Result.andThen, sliced, fromAt]
theorem run_upto (x : Option Addr) (n c k : Nat) (hk : k ≤ c) (w : World) : (Instr.slice 22 (.slice x n c) none (some (.int .i64 (k : Int))) none).run Try.prog w = .ok (.slice x k c) w := by
  rw [run_slice_h w 22 x n c (by kernel_rfl) .i64 k (by omega) (by omega)]
  have : (sizeOf (Try.prog.elem 22)).run Try.prog w = .ok 1 w := by kernel_rfl
  rw [this]
  have e : (if c = 0 then x else x.map (·.add (0 * 1))) = x := by
    split
    · rfl
    · cases x <;> simp [Addr.add]
  simp only [Result.andThen, sliced, Int.toNat_natCast, Nat.sub_zero, e]

set_option maxRecDepth 100000 in
set_option maxHeartbeats 4000000 in
theorem HashBlocks_walk (v : Value) (l : List Nat) (hl : ∀ y ∈ l, y < 256) (i : Int) (_ : (Lit.int .i64 i).wf = true) (w : World) (hv : BytesIn w v l) :
    Calls Try.prog 8 #[v, .int .i64 i] w fun e w' => e = .returned (.bool true) ∧ Below w.heap.size w w' := by
  have HV := Lib.hid hv
  obtain ⟨x, c, rfl⟩ := hv.shape
  clear hv
  obtain ⟨n, hn⟩ : ∃ n, n = l.length := ⟨_, rfl⟩
  rw [← hn]
  have HN := Lib.hid hn
  rw [← hn] at HV
  clear hn
  have B : Below w.heap.size w w := Below.refl _ _
  by_cases h3 : 2000 < n
  · have h3' : (2000 : Int) < (n : Int) := by omega
    go_enter Try.func8, Try.ntmps8
    go_wp2_with fail
    refine (known_any _).mono ?_
    rintro e w1 ⟨rfl, hb1⟩
    have B1 := below_next (w := w) (by repeat' (first | (with_reducible exact Below.refl _ _) | (with_reducible assumption) | (with_reducible refine below_alloc ?_ _) | (with_reducible refine Below.drew ?_) | (with_reducible refine below_drewN ?_ _) | (with_reducible refine Below.setCell ?_ ?_ _) | go_size)) hb1
    clear hb1 B
    go_wp2_with fail
    go_ret
    exact ⟨rfl, B1⟩
  · have h3' : ¬ (2000 : Int) < (n : Int) := by omega
    by_cases h0 : i < 0
    · go_enter Try.func8, Try.ntmps8
      go_wp2_with fail
      refine (known_any _).mono ?_
      rintro e w1 ⟨rfl, hb1⟩
      have B1 := below_next (w := w) (by repeat' (first | (with_reducible exact Below.refl _ _) | (with_reducible assumption) | (with_reducible refine below_alloc ?_ _) | (with_reducible refine Below.drew ?_) | (with_reducible refine below_drewN ?_ _) | (with_reducible refine Below.setCell ?_ ?_ _) | go_size)) hb1
      clear hb1 B
      go_wp2_with fail
      go_ret
      exact ⟨rfl, B1⟩
    · by_cases hc : (n : Int) < i
      · go_enter Try.func8, Try.ntmps8
        go_wp2_with fail
        refine (known_any _).mono ?_
        rintro e w1 ⟨rfl, hb1⟩
        have B1 := below_next (w := w) (by repeat' (first | (with_reducible exact Below.refl _ _) | (with_reducible assumption) | (with_reducible refine below_alloc ?_ _) | (with_reducible refine Below.drew ?_) | (with_reducible refine below_drewN ?_ _) | (with_reducible refine Below.setCell ?_ ?_ _) | go_size)) hb1
        clear hb1 B
        go_wp2_with fail
        go_ret
        exact ⟨rfl, B1⟩
      · obtain ⟨k, rfl⟩ := Int.eq_ofNat_of_zero_le (show 0 ≤ i by omega)
        have hk : k ≤ n := by omega
        go_enter Try.func8, Try.ntmps8
        go_wp2_with fail
        refine (known_any _).mono ?_
        rintro e w1 ⟨rfl, hb1⟩
        have B1 := below_next (w := w) (by repeat' (first | (with_reducible exact Below.refl _ _) | (with_reducible assumption) | (with_reducible refine below_alloc ?_ _) | (with_reducible refine Below.drew ?_) | (with_reducible refine below_drewN ?_ _) | (with_reducible refine Below.setCell ?_ ?_ _) | go_size)) hb1
        clear hb1 B
        go_wp2_with fail
        have HK := Lib.hid hk
        have HLL : Hid (l.length ≤ 100000) := Lib.hid (by have := HN.out; omega)
        have HC : Hid (k ≤ c) := Lib.hid (by
          rcases HV.out with ⟨e, rfl⟩ | ⟨a, c', e, h1, h2, h⟩
          · obtain ⟨rfl, rfl, rfl⟩ := Value.slice.inj e; omega
          · obtain ⟨rfl, e2, rfl⟩ := Value.slice.inj e; omega)
        have rf := run_from x n c k hk
        have ru := run_upto x n c k HC.out
        have HV1 := Lib.hid (HV.out.keep B1)
        have hkl : k ≤ l.length := by rw [← HN.out]; exact hk
        have V0 := Lib.hid (HV1.out.at)
        rw [HN.out] at HV1
        have Va := Lib.hid (HV1.out.front hkl)
        have Vb := Lib.hid (HV1.out.back hkl)
        rw [← HN.out] at Vb
        obtain ⟨x2, hx2⟩ : ∃ x2, x2 = fromAt x c k := ⟨_, rfl⟩
        rw [← hx2] at Vb rf
        clear hx2 HV1 HV HC
        obtain ⟨la, hla⟩ : ∃ la, la = l.take k := ⟨_, rfl⟩
        obtain ⟨lb, hlb⟩ : ∃ lb, lb = l.drop k := ⟨_, rfl⟩
        rw [← hla] at Va
        rw [← hlb] at Vb
        have el : la ++ lb = l := by rw [hla, hlb, List.take_append_drop]
        have hba : ∀ y ∈ la, y < 256 := fun y hy => hl y (by rw [← el]; exact List.mem_append_left _ hy)
        have hbb : ∀ y ∈ lb, y < 256 := fun y hy => hl y (by rw [← el]; exact List.mem_append_right _ hy)
        have hab : la.length + lb.length ≤ 100000 := by rw [← List.length_append, el]; exact HLL.out
        obtain ⟨c1, hc1⟩ : ∃ c1, c1 = c - k := ⟨_, rfl⟩
        obtain ⟨n1, hn1⟩ : ∃ n1, n1 = n - k := ⟨_, rfl⟩
        rw [← hc1, ← hn1] at Vb rf
        clear hla hlb hc1 hn1
        obtain ⟨X, hX⟩ : ∃ X, X = sha l := ⟨_, rfl⟩
        obtain ⟨Y, hY⟩ : ∃ Y, Y = tw l := ⟨_, rfl⟩
        have qx : ∀ W, (Op.equalIn 10000 25 (iv X) (iv X)).run Try.prog W = .ok true W := by rw [hX]; exact eq_self _ (sha_lt l)
        have qy : ∀ W, (Op.equalIn 10000 25 (iv Y) (iv Y)).run Try.prog W = .ok true W := by rw [hY]; exact eq_self _ (tw_lt l)
        have cs3 := Lib.hid fun (W : World) g (hg : W.heap[g]? = some (.cells #[.slice x k c, .slice none 0 0, .slice x2 n1 c1] 22 (0, 0))) (hb : Below w1.heap.size w1 W) => sum_three g 22 3 W hg (Va.out.keep hb) (.inl ⟨rfl, rfl⟩) (Vb.out.keep hb) hba (by simp) hbb (by simpa using hab)
        have cs1 := Lib.hid fun (W : World) g (hg : W.heap[g]? = some (.cells #[.slice x n c] 22 (0, 0))) (hb : Below w1.heap.size w1 W) => sum_one _ l g 22 1 W hg (V0.out.keep hb) hl HLL.out
        have ct2 := Lib.hid fun (W : World) g (hg : W.heap[g]? = some (.cells #[.slice x k c, .slice x2 n1 c1] 22 (0, 0))) (hb : Below w1.heap.size w1 W) => twice_two _ _ la lb g 22 2 W hg (Va.out.keep hb) (Vb.out.keep hb) hba hbb hab
        have ct1 := Lib.hid fun (W : World) g (hg : W.heap[g]? = some (.cells #[.slice x n c] 22 (0, 0))) (hb : Below w1.heap.size w1 W) => twice_one _ l g 22 1 W hg (V0.out.keep hb) hl HLL.out
        rw [List.nil_append, el, ← hX] at cs3
        rw [← hX] at cs1
        rw [el, ← hY] at ct2
        rw [← hY] at ct1
        clear hX hY el hba hbb hab Va Vb V0 hl hkl HLL HN
        have BF := Lib.hid B1
        clear B1 hk HK
        obtain ⟨W, hW⟩ : ∃ W, W = w1 := ⟨_, rfl⟩
        rw [← hW] at BF cs3 cs1 ct2 ct1
        rw [← hW]
        clear hW
        have B : Below W.heap.size W W := Below.refl _ _
        clear B
        have d1 : decide (n < k) = false := decide_eq_false (by omega)
        have d2 : decide ((2000 : Int) < (n : Int)) = false := decide_eq_false (by omega)
        have d3 : decide ((k : Int) < 0) = false := decide_eq_false (by omega)
        simp only [d1, d2, d3, Bool.or_false]
        clear d1 d2 d3
        refine wp_region_by [Is (.slice x n c), Is (.int .i64 k), Is (.slice x k c), Is (.slice x n c), Is (.int .i64 k), Is (.slice x2 n1 c1), RowOf #[.slice x k c, .slice none 0 0, .slice x2 n1 c1] 22 3 3, Is (iv X), Is (.slice x n c), RowOf #[.slice x n c] 22 1 1, Is (iv X), Is (.bool true), Is (.bool true), Is (.slice x n c), Is (.int .i64 k), Is (.slice x k c), Is (.slice x n c), Is (.int .i64 k), Is (.slice x2 n1 c1), RowOf #[.slice x k c, .slice x2 n1 c1] 22 2 2, Is (iv Y), Is (.slice x n c), RowOf #[.slice x n c] 22 1 1, Is (iv Y), Is (.bool true), Is (.bool true), Is (.bool true)] [[], [], [(0, some 20), (1, some 21)], [], [], [(3, some 23), (4, some 24)], [(2, some 22), (5, some 25)], [(6, some 26)], [], [(8, some 28)], [(9, some 29)], [(7, some 27), (10, some 30)], [(11, some 31)], [(12, some 32)], [(12, some 32)], [(12, some 32), (13, some 33), (14, some 34)], [(12, some 32)], [(12, some 32)], [(12, some 32), (16, some 36), (17, some 37)], [(12, some 32), (15, some 35), (18, some 38)], [(12, some 32), (19, some 39)], [(12, some 32)], [(12, some 32), (21, some 41)], [(12, some 32), (22, some 42)], [(12, some 32), (20, some 40), (23, some 43)], [(12, some 32), (24, some 44)], [(25, some 45)]] [(0, some 20), (1, some 21), (2, some 22), (3, some 23), (4, some 24), (5, some 25), (6, some 26), (7, some 27), (8, some 28), (9, some 29), (10, some 30), (11, some 31), (12, some 32), (13, some 33), (14, some 34), (15, some 35), (16, some 36), (17, some 37), (18, some 38), (19, some 39), (20, some 40), (21, some 41), (22, some 42), (23, some 43), (24, some 44), (25, some 45), (26, some 4)] [0, 0, 3, 0, 0, 24, 63, 127, 0, 256, 1023, 2047, 4095, 8191, 8191, 32767, 8191, 8191, 204799, 524287, 1048575, 8191, 2105343, 8388607, 16777215, 33554431, 67108863]
          (by kernel_rfl) (by kernel_rfl) (by kernel_rfl) (by kernel_rfl) ⟨Is.kept _, Is.kept _, Is.kept _, Is.kept _, Is.kept _, Is.kept _, RowOf.kept _ _ _ _, Is.kept _, Is.kept _, RowOf.kept _ _ _ _, Is.kept _, Is.kept _, Is.kept _, Is.kept _, Is.kept _, Is.kept _, Is.kept _, Is.kept _, Is.kept _, RowOf.kept _ _ _ _, Is.kept _, Is.kept _, RowOf.kept _ _ _ _, Is.kept _, Is.kept _, Is.kept _, Is.kept _, trivial⟩ ⟨?_, ?_, ?_, ?_, ?_, ?_, ?_, ?_, ?_, ?_, ?_, ?_, ?_, ?_, ?_, ?_, ?_, ?_, ?_, ?_, ?_, ?_, ?_, ?_, ?_, ?_, ?_, trivial⟩ ?_
        · as_aux_lemma =>
          refine fun w' hB => ?_
          show wpList _ _ _ _ _ _
          go_wp2_with fail
          exact ⟨.slice x n c, rfl, rfl, Below.refl _ _⟩
        · as_aux_lemma =>
          refine fun w' hB => ?_
          show wpList _ _ _ _ _ _
          go_wp2_with fail
          exact ⟨.int .i64 k, rfl, rfl, Below.refl _ _⟩
        · as_aux_lemma =>
          refine fun w' hB v0 h0 v1 h1 => ?_
          obtain rfl := h0
          obtain rfl := h1
          show wpList _ _ _ _ _ _
          go_wp2_with fail
          exact ⟨.slice x k c, rfl, rfl, Below.refl _ _⟩
        · as_aux_lemma =>
          refine fun w' hB => ?_
          show wpList _ _ _ _ _ _
          go_wp2_with fail
          exact ⟨.slice x n c, rfl, rfl, Below.refl _ _⟩
        · as_aux_lemma =>
          refine fun w' hB => ?_
          show wpList _ _ _ _ _ _
          go_wp2_with fail
          exact ⟨.int .i64 k, rfl, rfl, Below.refl _ _⟩
        · as_aux_lemma =>
          refine fun w' hB v3 h3 v4 h4 => ?_
          obtain rfl := h3
          obtain rfl := h4
          show wpList _ _ _ _ _ _
          go_wp2_with fail
          exact ⟨.slice x2 n1 c1, rfl, rfl, Below.refl _ _⟩
        · as_aux_lemma =>
          refine fun w' hB v2 h2 v5 h5 => ?_
          obtain rfl := h2
          obtain rfl := h5
          show wpList _ _ _ _ _ _
          go_wp2_with fail
          exact ⟨_, rfl, ⟨_, rfl, heap_new _ _⟩, below_alloc (Below.refl _ _) _⟩
        · as_aux_lemma =>
          refine fun w' hB v6 h6 => ?_
          obtain ⟨g6, rfl, hg6⟩ := h6
          show wpList _ _ _ _ _ _
          go_wp2_with fail
          refine (cs3.out _ _ hg6 hB).mono ?_
          rintro e w2 ⟨rfl, hb2⟩
          go_wp2_with fail
          exact ⟨iv X, rfl, rfl, hb2⟩
        · as_aux_lemma =>
          refine fun w' hB => ?_
          show wpList _ _ _ _ _ _
          go_wp2_with fail
          exact ⟨.slice x n c, rfl, rfl, Below.refl _ _⟩
        · as_aux_lemma =>
          refine fun w' hB v8 h8 => ?_
          obtain rfl := h8
          show wpList _ _ _ _ _ _
          go_wp2_with fail
          exact ⟨_, rfl, ⟨_, rfl, heap_new _ _⟩, below_alloc (Below.refl _ _) _⟩
        · as_aux_lemma =>
          refine fun w' hB v9 h9 => ?_
          obtain ⟨g9, rfl, hg9⟩ := h9
          show wpList _ _ _ _ _ _
          go_wp2_with fail
          refine (cs1.out _ _ hg9 hB).mono ?_
          rintro e w2 ⟨rfl, hb2⟩
          go_wp2_with fail
          exact ⟨iv X, rfl, rfl, hb2⟩
        · as_aux_lemma =>
          refine fun w' hB v7 h7 v10 h10 => ?_
          obtain rfl := h7
          obtain rfl := h10
          show wpList _ _ _ _ _ _
          go_wp2_with fail
          exact ⟨.bool true, rfl, rfl, Below.refl _ _⟩
        · as_aux_lemma =>
          refine fun w' hB v11 h11 => ?_
          obtain rfl := h11
          show wpList _ _ _ _ _ _
          go_wp2_with fail
          exact ⟨.bool true, rfl, rfl, Below.refl _ _⟩
        · as_aux_lemma =>
          refine fun w' hB v12 h12 => ?_
          obtain rfl := h12
          show wpList _ _ _ _ _ _
          go_wp2_with fail
          exact ⟨.slice x n c, rfl, rfl, Below.refl _ _⟩
        · as_aux_lemma =>
          refine fun w' hB v12 h12 => ?_
          obtain rfl := h12
          show wpList _ _ _ _ _ _
          go_wp2_with fail
          exact ⟨.int .i64 k, rfl, rfl, Below.refl _ _⟩
        · as_aux_lemma =>
          refine fun w' hB v12 h12 v13 h13 v14 h14 => ?_
          obtain rfl := h12
          obtain rfl := h13
          obtain rfl := h14
          show wpList _ _ _ _ _ _
          go_wp2_with fail
          exact ⟨.slice x k c, rfl, rfl, Below.refl _ _⟩
        · as_aux_lemma =>
          refine fun w' hB v12 h12 => ?_
          obtain rfl := h12
          show wpList _ _ _ _ _ _
          go_wp2_with fail
          exact ⟨.slice x n c, rfl, rfl, Below.refl _ _⟩
        · as_aux_lemma =>
          refine fun w' hB v12 h12 => ?_
          obtain rfl := h12
          show wpList _ _ _ _ _ _
          go_wp2_with fail
          exact ⟨.int .i64 k, rfl, rfl, Below.refl _ _⟩
        · as_aux_lemma =>
          refine fun w' hB v12 h12 v16 h16 v17 h17 => ?_
          obtain rfl := h12
          obtain rfl := h16
          obtain rfl := h17
          show wpList _ _ _ _ _ _
          go_wp2_with fail
          exact ⟨.slice x2 n1 c1, rfl, rfl, Below.refl _ _⟩
        · as_aux_lemma =>
          refine fun w' hB v12 h12 v15 h15 v18 h18 => ?_
          obtain rfl := h12
          obtain rfl := h15
          obtain rfl := h18
          show wpList _ _ _ _ _ _
          go_wp2_with fail
          exact ⟨_, rfl, ⟨_, rfl, heap_new _ _⟩, below_alloc (Below.refl _ _) _⟩
        · as_aux_lemma =>
          refine fun w' hB v12 h12 v19 h19 => ?_
          obtain rfl := h12
          obtain ⟨g19, rfl, hg19⟩ := h19
          show wpList _ _ _ _ _ _
          go_wp2_with fail
          refine (ct2.out _ _ hg19 hB).mono ?_
          rintro e w2 ⟨rfl, hb2⟩
          go_wp2_with fail
          exact ⟨iv Y, rfl, rfl, hb2⟩
        · as_aux_lemma =>
          refine fun w' hB v12 h12 => ?_
          obtain rfl := h12
          show wpList _ _ _ _ _ _
          go_wp2_with fail
          exact ⟨.slice x n c, rfl, rfl, Below.refl _ _⟩
        · as_aux_lemma =>
          refine fun w' hB v12 h12 v21 h21 => ?_
          obtain rfl := h12
          obtain rfl := h21
          show wpList _ _ _ _ _ _
          go_wp2_with fail
          exact ⟨_, rfl, ⟨_, rfl, heap_new _ _⟩, below_alloc (Below.refl _ _) _⟩
        · as_aux_lemma =>
          refine fun w' hB v12 h12 v22 h22 => ?_
          obtain rfl := h12
          obtain ⟨g22, rfl, hg22⟩ := h22
          show wpList _ _ _ _ _ _
          go_wp2_with fail
          refine (ct1.out _ _ hg22 hB).mono ?_
          rintro e w2 ⟨rfl, hb2⟩
          go_wp2_with fail
          exact ⟨iv Y, rfl, rfl, hb2⟩
        · as_aux_lemma =>
          refine fun w' hB v12 h12 v20 h20 v23 h23 => ?_
          obtain rfl := h12
          obtain rfl := h20
          obtain rfl := h23
          show wpList _ _ _ _ _ _
          go_wp2_with fail
          exact ⟨.bool true, rfl, rfl, Below.refl _ _⟩
        · as_aux_lemma =>
          refine fun w' hB v12 h12 v24 h24 => ?_
          obtain rfl := h12
          obtain rfl := h24
          show wpList _ _ _ _ _ _
          go_wp2_with fail
          exact ⟨.bool true, rfl, rfl, Below.refl _ _⟩
        · as_aux_lemma =>
          refine fun w' hB v25 h25 => ?_
          obtain rfl := h25
          show wpList _ _ _ _ _ _
          go_wp2_with fail
          exact ⟨.bool true, rfl, rfl, Below.refl _ _⟩
        · refine fun w' hB v0 h0 v1 h1 v2 h2 v3 h3 v4 h4 v5 h5 v6 h6 v7 h7 v8 h8 v9 h9 v10 h10 v11 h11 v12 h12 v13 h13 v14 h14 v15 h15 v16 h16 v17 h17 v18 h18 v19 h19 v20 h20 v21 h21 v22 h22 v23 h23 v24 h24 v25 h25 v26 h26 => ?_
          obtain rfl := h26
          simp only [onP]
          go_simp
          clear h0 h1 h2 h3 h4 h5 h6 h7 h8 h9 h10 h11 h12 h13 h14 h15 h16 h17 h18 h19 h20 h21 h22 h23 h24 h25
          go_wp2_with fail
          go_ret
          exact ⟨rfl, below_next BF.out hB⟩

set_option maxRecDepth 100000 in
theorem HashBlocks_lifted (os : Os) (started : os.Started) (H : Type) (enc : TypeId × Value → H) :
    ReturnsInHanded {} Try.checked os 8 .any (Rows.hashBlocksSpec.pre6 enc Try.prog Try.f8 Rows.hashBlocksRow.domain false) (Rows.hashBlocksSpec.post enc Try.prog Try.f8 false true false false) := by
  refine returnsInHanded_of_change (C := Try.checked) own started (by kernel_rfl) Try.func8
    (ChangeSpec.witness6 (enc := enc) (C := Try.checked) false ⟨#[], #[.slice none 0 0, .int .i64 0], []⟩ 8 (by kernel_rfl) (by kernel_rfl) (by kernel_rfl) (by kernel_rfl)) ?_
  intro W base args ds gs before hval0 hW hcnd _
  have hval : ∀ (j : Nat) t v, Try.f8.params[j]? = some t → args[j]? = some v → Value.okWide Try.prog W .any base t v := hval0
  have hW' := hW
  obtain ⟨p, q, hA0, hV, rfl, hfz, hnd⟩ := hW
  have hA : DataW.TrodAll enc Try.prog W 0 (fun _ => true) true Try.f8.params.toList args.toList ds p := hA0
  rw [Try.params8] at hA hval
  obtain ⟨v0, vs0, d0, ds0, p0, q0, hargs, rfl, rfl, h0, r0⟩ := trodAll_cons hA
  obtain ⟨v1, vs1, d1, ds1, p1, q1, rfl, rfl, rfl, h1, r1⟩ := trodAll_cons r0
  obtain ⟨rfl, rfl, rfl⟩ := trodAll_nil r1
  obtain rfl : args = #[v0, v1] := by cases args; simp_all
  obtain ⟨rfl, rfl⟩ := trodVars_none hV
  have k0 := h0
  have lt0 := trod_lt_of h0
  obtain ⟨l0, b0, c0⟩ := open_bytes (hval 0 22 v0 rfl rfl) h0
  have k1 := h1
  have lt1 := trod_lt_of h1
  obtain ⟨a1, rfl, rfl, rfl, b1⟩ := open_int Try.underlying3 (hval 1 3 v1 rfl rfl) h1
  clear hA0 hval0
  refine (HashBlocks_walk v0 l0 b0 a1 b1 W c0).mono fun e W' ⟨he, bel⟩ => ?_
  subst he
  exact ⟨_, rfl, _, _, _, [], _, [], hW', trodAll_mk1 (shut_bool (by kernel_rfl) _), (trodAll_cons_mk (Below.trod laidOut (by kernel_rfl) (of_decide_eq_true (by kernel_rfl)) k0 bel lt0) (trodAll_cons_mk (Below.trod laidOut (by kernel_rfl) (of_decide_eq_true (by kernel_rfl)) k1 bel lt1) trodAll_mk0)), rfl, bel.frame _, fun h => by cases h⟩

theorem HashBlocks_closed : joinedFacts Try.prog 8 Try.f8 Rows.hashBlocksSpec Rows.hashBlocksRow = true := by
  simp only [joinedFacts, Bool.and_eq_true]
  repeat' apply And.intro
  all_goals first
    | (with_reducible exact head_enter)
    | (rw [head_make]; kernel_rfl)
    | (rw [head_lift]; kernel_rfl)
    | kernel_rfl

theorem HashBlocks_holds : Rows.HashBlocksSaid :=
  OpenClaim.holds_of_wide 8 Try.f8 rfl rfl rfl rfl rfl rfl rfl ⟨rfl, rfl, rfl, rfl, rfl⟩ rfl rfl rfl rfl rfl (by kernel_rfl) Try.func8 HashBlocks_closed
    (of_decide_eq_true (by kernel_rfl)) (by unfold Func.isWrapper; rw [if_neg (of_decide_eq_false (by kernel_rfl))]; exact ⟨rfl, rfl⟩)
    (fun os started H enc _ => HashBlocks_lifted os started H enc)
end Go.Proofs.Ytfopockjakeplaa
