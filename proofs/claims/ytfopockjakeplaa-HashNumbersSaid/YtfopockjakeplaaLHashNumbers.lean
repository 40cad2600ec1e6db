/- The law HashNumbers: the numbers that the sums are reckoned with are of the cube roots of the first primes. No condition. -/
import Derived.Test.YtfopockjakeplaaPrD
import Derived.Test.YtfopockjakeplaaRs3
import Derived.Test.YtfopockjakeplaaHashK
import Derived.Test.YtfopockjakeplaaHead
namespace Go.Proofs.Ytfopockjakeplaa
open Go.ChangeShapes Go.WideShapes Go.ChangeAt Go.RowKit

/-- a row of one row of one byte -/
def RowRow (i : Nat) (v : Value) (V : World) : Prop := ∃ g g2, v = .slice (some ⟨g, 0, none⟩) 1 1 ∧ V.heap[g]? = some (.cells #[.slice (some ⟨g2, 0, none⟩) 1 1] 22 (0, 0)) ∧ V.heap[g2]? = some (.cells #[.int .u8 (i : Int)] 5 (0, 0))
theorem RowRow.kept (i : Nat) : Kept (RowRow i) := fun _ _ _ hb ⟨g, g2, e, h1, h2⟩ => ⟨g, g2, e, block_keep hb h1, block_keep hb h2⟩

set_option maxRecDepth 100000 in
set_option maxHeartbeats 4000000 in
theorem HashNumbers_walk (k : Int) (_hwf : (Lit.int .i64 k).wf = true) (w : World) :
    Calls Try.prog 7 #[.int .i64 k] w fun e w' => e = .returned (.bool true) ∧ Below w.heap.size w w' := by
  have B : Below w.heap.size w w := Below.refl _ _
  go_enter Try.func7, Try.ntmps7
  go_wp2_with fail
  refine (known_any _).mono ?_
  rintro e w1 ⟨rfl, hb1⟩
  have B1 := below_next (w := w) (by repeat' (first | (with_reducible exact Below.refl _ _) | (with_reducible assumption) | (with_reducible refine below_alloc ?_ _) | (with_reducible refine Below.drew ?_) | (with_reducible refine below_drewN ?_ _) | (with_reducible refine Below.setCell ?_ ?_ _) | go_size)) hb1
  clear hb1 B
  by_cases h0 : k < 0
  · go_wp2_with fail
    go_ret
    exact ⟨rfl, B1⟩
  by_cases h63 : 63 < k
  · go_wp2_with fail
    go_ret
    exact ⟨rfl, B1⟩
  obtain ⟨i, rfl⟩ : ∃ i : Nat, k = (i : Int) := ⟨k.toNat, by omega⟩
  have hi : i < 64 := by omega
  have h0' : (0 : Int) ≤ (i : Int) := by omega
  have h63' : ¬ (63 : Int) < (i : Int) := by omega
  have hil : (i : Int) < 64 := by omega
  clear h0 h63
  go_wp2_with fail
  refine (list_any _).mono ?_
  rintro e w2 ⟨ga, rfl, hk, _, hb2⟩
  have K := Lib.hid hk; have B2 := Lib.hid (below_next B1 hb2)
  clear hk hb2 B1
  go_wp2_with fail
  refine (rounds_any _).mono ?_
  rintro e w3 ⟨v, rfl, hO, hb3⟩
  have K3 := Lib.hid (below_keep hb3 K.out); have B3 := Lib.hid (below_next B2.out hb3)
  obtain ⟨gb, cb, rfl, _, _, hcell⟩ := hO.at ks_len64 (by omega)
  have LA := Lib.hid fun V (hb : Below w3.heap.size w3 V) => (show V.cell? ⟨ga, i, none⟩ = some (.int .u32 (ks.getD i 0 : Nat)) by rw [cell_of_row _ _ _ _ _ _ (block_keep hb K3.out), List.getElem?_toArray, us_get ks i (by rw [ks_len64]; exact hi)])
  have LB := Lib.hid fun V (hb : Below w3.heap.size w3 V) => (hb.cell (p := ⟨gb, i, none⟩) (block_lt_of_cell (hcell i hi))).trans (hcell i hi)
  obtain ⟨x, hx⟩ : ∃ x, x = ks.getD i 0 := ⟨_, rfl⟩
  rw [← hx] at LA LB
  obtain ⟨X, hX⟩ : ∃ X, X = sha [i] := ⟨_, rfl⟩
  have q1 : ∀ W, (Op.equalIn 10000 25 (iv X) (iv X)).run Try.prog W = .ok true W := fun W => by rw [hX]; exact eq_self _ (sha_lt _) W
  have hb1 : ∀ y ∈ [i], y < 256 := by simp; omega
  have cs := Lib.hid fun (V : World) g g2 (hg : V.heap[g]? = some (.cells #[.slice (some ⟨g2, 0, none⟩) 1 1] 22 (0, 0))) (hg2 : V.heap[g2]? = some (.cells #[.int .u8 (i : Int)] 5 (0, 0))) =>
    sum_one (.slice (some ⟨g2, 0, none⟩) 1 1) [i] g 22 1 V hg (.inr ⟨_, _, rfl, fun j hj => by
      obtain rfl : j = 0 := by simpa using hj
      rw [Addr.add_lit, cell_of_row _ _ _ _ _ _ hg2]; rfl⟩) hb1 (by simp)
  obtain ⟨sy, hsy⟩ : ∃ sy, sy = str [i] := ⟨_, rfl⟩
  have cr := Lib.hid fun (V : World) => refsum_any [i] hb1 (by simp) V
  have cv := Lib.hid fun (V : World) g (hg : V.heap[g]? = some (.cells #[.int .u8 (i : Int)] 5 (0, 0))) => run_str_at (w := V) (v := .slice (some ⟨g, 0, none⟩) 1 1) (q := [i]) (.inr ⟨_, _, rfl, fun j hj => by
      obtain rfl : j = 0 := by simpa using hj
      rw [Addr.add_lit, cell_of_row _ _ _ _ _ _ hg]; rfl⟩)
  rw [← hX] at cs cr
  rw [← hsy] at cr cv
  clear hx hX hb1 hsy hO hcell hb3 K B2 K3
  go_wp2_with fail
  refine wp_region_by [Is (.slice (some ⟨ga, 0, none⟩) 64 64), Is (.int .i64 64), Is (.bool true), Is (.bool true), Is (.slice (some ⟨gb, 0, none⟩) 64 cb), Is (.int .i64 64), Is (.bool true), Is (.bool true), Is (.bool true), Is (.slice (some ⟨ga, 0, none⟩) 64 64), Is (.int .i64 (i : Int)), Is (.pointer (some ⟨ga, i, none⟩)), Is (.int .u32 (x : Int)), Is (.slice (some ⟨gb, 0, none⟩) 64 cb), Is (.int .i64 (i : Int)), Is (.pointer (some ⟨gb, i, none⟩)), Is (.int .u32 (x : Int)), Is (.bool true), Is (.bool true), Is (.bool true), Is (.int .i64 (i : Int)), Is (.int .u8 (i : Int)), RowOf #[.int .u8 (i : Int)] 5 1 1, (RowRow i), Is (iv X), Is (.int .i64 (i : Int)), Is (.int .u8 (i : Int)), RowOf #[.int .u8 (i : Int)] 5 1 1, Is (.string sy), Is (iv X), Is (.bool true), Is (.bool true), Is (.bool true)] [[], [(0, some 15)], [(1, some 16)], [(2, some 17)], [(3, some 18)], [(3, some 18), (4, some 19)], [(3, some 18), (5, some 20)], [(3, some 18), (6, some 21)], [(7, some 22)], [(8, some 23)], [(8, some 23)], [(8, some 23), (9, some 24), (10, some 25)], [(8, some 23), (11, some 26)], [(8, some 23)], [(8, some 23)], [(8, some 23), (13, some 28), (14, some 29)], [(8, some 23), (15, some 30)], [(8, some 23), (12, some 27), (16, some 31)], [(8, some 23), (17, some 32)], [(18, some 33)], [(19, some 34)], [(19, some 34), (20, some 35)], [(19, some 34), (21, some 36)], [(19, some 34), (22, some 37)], [(19, some 34), (23, some 38)], [(19, some 34)], [(19, some 34), (25, some 40)], [(19, some 34), (26, some 41)], [(19, some 34), (27, some 42)], [(19, some 34), (28, some 43)], [(19, some 34), (24, some 39), (29, some 44)], [(19, some 34), (30, some 45)], [(31, some 46)]] [(0, some 15), (1, some 16), (2, some 17), (3, some 18), (4, some 19), (5, some 20), (6, some 21), (7, some 22), (8, some 23), (9, some 24), (10, some 25), (11, some 26), (12, some 27), (13, some 28), (14, some 29), (15, some 30), (16, some 31), (17, some 32), (18, some 33), (19, some 34), (20, some 35), (21, some 36), (22, some 37), (23, some 38), (24, some 39), (25, some 40), (26, some 41), (27, some 42), (28, some 43), (29, some 44), (30, some 45), (31, some 46), (32, some 2)] [0, 1, 3, 7, 15, 31, 63, 127, 255, 511, 511, 2047, 4095, 511, 511, 25087, 57855, 131071, 262143, 524287, 1048575, 2097151, 4194303, 8388607, 16777215, 1048575, 34603007, 101711871, 235929599, 536870911, 1073741823, 2147483647, 4294967295]
    (by kernel_rfl) (by kernel_rfl) (by kernel_rfl) (by kernel_rfl) ⟨Is.kept _, Is.kept _, Is.kept _, Is.kept _, Is.kept _, Is.kept _, Is.kept _, Is.kept _, Is.kept _, Is.kept _, Is.kept _, Is.kept _, Is.kept _, Is.kept _, Is.kept _, Is.kept _, Is.kept _, Is.kept _, Is.kept _, Is.kept _, Is.kept _, Is.kept _, RowOf.kept _ _ _ _, (RowRow.kept i), Is.kept _, Is.kept _, Is.kept _, RowOf.kept _ _ _ _, Is.kept _, Is.kept _, Is.kept _, Is.kept _, Is.kept _, trivial⟩ ⟨?_, ?_, ?_, ?_, ?_, ?_, ?_, ?_, ?_, ?_, ?_, ?_, ?_, ?_, ?_, ?_, ?_, ?_, ?_, ?_, ?_, ?_, ?_, ?_, ?_, ?_, ?_, ?_, ?_, ?_, ?_, ?_, ?_, trivial⟩ ?_
  · as_aux_lemma =>
    refine fun w' hB => ?_
    show wpList _ _ _ _ _ _
    go_wp2_with fail
    exact ⟨.slice (some ⟨ga, 0, none⟩) 64 64, by first | rfl | (go_simp; done), rfl, Below.refl _ _⟩
  · as_aux_lemma =>
    refine fun w' hB v0 h0 => ?_
    obtain rfl := h0
    show wpList _ _ _ _ _ _
    go_wp2_with fail
    exact ⟨.int .i64 64, by first | rfl | (go_simp; done), rfl, Below.refl _ _⟩
  · as_aux_lemma =>
    refine fun w' hB v1 h1 => ?_
    obtain rfl := h1
    show wpList _ _ _ _ _ _
    go_wp2_with fail
    exact ⟨.bool true, by first | rfl | (go_simp; done), rfl, Below.refl _ _⟩
  · as_aux_lemma =>
    refine fun w' hB v2 h2 => ?_
    obtain rfl := h2
    show wpList _ _ _ _ _ _
    go_wp2_with fail
    exact ⟨.bool true, by first | rfl | (go_simp; done), rfl, Below.refl _ _⟩
  · as_aux_lemma =>
    refine fun w' hB v3 h3 => ?_
    obtain rfl := h3
    show wpList _ _ _ _ _ _
    go_wp2_with fail
    exact ⟨.slice (some ⟨gb, 0, none⟩) 64 cb, by first | rfl | (go_simp; done), rfl, Below.refl _ _⟩
  · as_aux_lemma =>
    refine fun w' hB v3 h3 v4 h4 => ?_
    obtain rfl := h3
    obtain rfl := h4
    show wpList _ _ _ _ _ _
    go_wp2_with fail
    exact ⟨.int .i64 64, by first | rfl | (go_simp; done), rfl, Below.refl _ _⟩
  · as_aux_lemma =>
    refine fun w' hB v3 h3 v5 h5 => ?_
    obtain rfl := h3
    obtain rfl := h5
    show wpList _ _ _ _ _ _
    go_wp2_with fail
    exact ⟨.bool true, by first | rfl | (go_simp; done), rfl, Below.refl _ _⟩
  · as_aux_lemma =>
    refine fun w' hB v3 h3 v6 h6 => ?_
    obtain rfl := h3
    obtain rfl := h6
    show wpList _ _ _ _ _ _
    go_wp2_with fail
    exact ⟨.bool true, by first | rfl | (go_simp; done), rfl, Below.refl _ _⟩
  · as_aux_lemma =>
    refine fun w' hB v7 h7 => ?_
    obtain rfl := h7
    show wpList _ _ _ _ _ _
    go_wp2_with fail
    exact ⟨.bool true, by first | rfl | (go_simp; done), rfl, Below.refl _ _⟩
  · as_aux_lemma =>
    refine fun w' hB v8 h8 => ?_
    obtain rfl := h8
    show wpList _ _ _ _ _ _
    go_wp2_with fail
    exact ⟨.slice (some ⟨ga, 0, none⟩) 64 64, by first | rfl | (go_simp; done), rfl, Below.refl _ _⟩
  · as_aux_lemma =>
    refine fun w' hB v8 h8 => ?_
    obtain rfl := h8
    show wpList _ _ _ _ _ _
    go_wp2_with fail
    exact ⟨.int .i64 (i : Int), by first | rfl | (go_simp; done), rfl, Below.refl _ _⟩
  · as_aux_lemma =>
    refine fun w' hB v8 h8 v9 h9 v10 h10 => ?_
    obtain rfl := h8
    obtain rfl := h9
    obtain rfl := h10
    show wpList _ _ _ _ _ _
    go_wp2_with fail
    exact ⟨.pointer (some ⟨ga, i, none⟩), by first | rfl | (go_simp; done), rfl, Below.refl _ _⟩
  · as_aux_lemma =>
    refine fun w' hB v8 h8 v11 h11 => ?_
    obtain rfl := h8
    obtain rfl := h11
    show wpList _ _ _ _ _ _
    refine wpList_unguard rfl ?_
    have c := LA.out w' hB
    go_wp2_with fail
    exact ⟨_, rfl, rfl, Below.refl _ _⟩
  · as_aux_lemma =>
    refine fun w' hB v8 h8 => ?_
    obtain rfl := h8
    show wpList _ _ _ _ _ _
    go_wp2_with fail
    exact ⟨.slice (some ⟨gb, 0, none⟩) 64 cb, by first | rfl | (go_simp; done), rfl, Below.refl _ _⟩
  · as_aux_lemma =>
    refine fun w' hB v8 h8 => ?_
    obtain rfl := h8
    show wpList _ _ _ _ _ _
    go_wp2_with fail
    exact ⟨.int .i64 (i : Int), by first | rfl | (go_simp; done), rfl, Below.refl _ _⟩
  · as_aux_lemma =>
    refine fun w' hB v8 h8 v13 h13 v14 h14 => ?_
    obtain rfl := h8
    obtain rfl := h13
    obtain rfl := h14
    show wpList _ _ _ _ _ _
    go_wp2_with fail
    exact ⟨.pointer (some ⟨gb, i, none⟩), by first | rfl | (go_simp; done), rfl, Below.refl _ _⟩
  · as_aux_lemma =>
    refine fun w' hB v8 h8 v15 h15 => ?_
    obtain rfl := h8
    obtain rfl := h15
    show wpList _ _ _ _ _ _
    refine wpList_unguard rfl ?_
    have c := LB.out w' hB
    go_wp2_with fail
    exact ⟨_, rfl, rfl, Below.refl _ _⟩
  · as_aux_lemma =>
    refine fun w' hB v8 h8 v12 h12 v16 h16 => ?_
    obtain rfl := h8
    obtain rfl := h12
    obtain rfl := h16
    show wpList _ _ _ _ _ _
    go_wp2_with fail
    exact ⟨.bool true, by first | rfl | (go_simp; done), rfl, Below.refl _ _⟩
  · as_aux_lemma =>
    refine fun w' hB v8 h8 v17 h17 => ?_
    obtain rfl := h8
    obtain rfl := h17
    show wpList _ _ _ _ _ _
    go_wp2_with fail
    exact ⟨.bool true, by first | rfl | (go_simp; done), rfl, Below.refl _ _⟩
  · as_aux_lemma =>
    refine fun w' hB v18 h18 => ?_
    obtain rfl := h18
    show wpList _ _ _ _ _ _
    go_wp2_with fail
    exact ⟨.bool true, by first | rfl | (go_simp; done), rfl, Below.refl _ _⟩
  · as_aux_lemma =>
    refine fun w' hB v19 h19 => ?_
    obtain rfl := h19
    show wpList _ _ _ _ _ _
    go_wp2_with fail
    exact ⟨.int .i64 (i : Int), by first | rfl | (go_simp; done), rfl, Below.refl _ _⟩
  · as_aux_lemma =>
    refine fun w' hB v19 h19 v20 h20 => ?_
    obtain rfl := h19
    obtain rfl := h20
    show wpList _ _ _ _ _ _
    go_wp2_with fail
    exact ⟨.int .u8 (i : Int), by first | rfl | (go_simp; done), rfl, Below.refl _ _⟩
  · as_aux_lemma =>
    refine fun w' hB v19 h19 v21 h21 => ?_
    obtain rfl := h19
    obtain rfl := h21
    show wpList _ _ _ _ _ _
    go_wp2_with fail
    exact ⟨_, rfl, ⟨_, rfl, heap_new _ _⟩, below_alloc (Below.refl _ _) _⟩
  · as_aux_lemma =>
    refine fun w' hB v19 h19 v22 h22 => ?_
    obtain rfl := h19
    obtain ⟨g22, rfl, hg22⟩ := h22
    show wpList _ _ _ _ _ _
    go_wp2_with fail
    exact ⟨_, rfl, ⟨w'.heap.size, g22, rfl, heap_new _ _, keep_alloc _ hg22⟩, below_alloc (Below.refl _ _) _⟩
  · as_aux_lemma =>
    refine fun w' hB v19 h19 v23 h23 => ?_
    obtain rfl := h19
    show wpList _ _ _ _ _ _
    obtain ⟨g, g2, rfl, k1, k2⟩ := h23
    go_wp2_with fail
    refine (cs.out w' g g2 k1 k2).mono ?_
    rintro e w2 ⟨rfl, hb2⟩
    go_wp2_with fail
    exact ⟨_, rfl, rfl, hb2⟩
  · as_aux_lemma =>
    refine fun w' hB v19 h19 => ?_
    obtain rfl := h19
    show wpList _ _ _ _ _ _
    go_wp2_with fail
    exact ⟨.int .i64 (i : Int), by first | rfl | (go_simp; done), rfl, Below.refl _ _⟩
  · as_aux_lemma =>
    refine fun w' hB v19 h19 v25 h25 => ?_
    obtain rfl := h19
    obtain rfl := h25
    show wpList _ _ _ _ _ _
    go_wp2_with fail
    exact ⟨.int .u8 (i : Int), by first | rfl | (go_simp; done), rfl, Below.refl _ _⟩
  · as_aux_lemma =>
    refine fun w' hB v19 h19 v26 h26 => ?_
    obtain rfl := h19
    obtain rfl := h26
    show wpList _ _ _ _ _ _
    go_wp2_with fail
    exact ⟨_, rfl, ⟨_, rfl, heap_new _ _⟩, below_alloc (Below.refl _ _) _⟩
  · as_aux_lemma =>
    refine fun w' hB v19 h19 v27 h27 => ?_
    obtain rfl := h19
    obtain ⟨g27, rfl, hg27⟩ := h27
    show wpList _ _ _ _ _ _
    have hcv := cv.out w' _ hg27
    go_wp2_with fail
    exact ⟨_, rfl, rfl, Below.refl _ _⟩
  · as_aux_lemma =>
    refine fun w' hB v19 h19 v28 h28 => ?_
    obtain rfl := h19
    obtain rfl := h28
    show wpList _ _ _ _ _ _
    go_wp2_with fail
    refine (cr.out w').mono ?_
    rintro e w2 ⟨rfl, hb2⟩
    go_wp2_with fail
    exact ⟨iv X, by first | rfl | (go_simp; done), rfl, hb2⟩
  · as_aux_lemma =>
    refine fun w' hB v19 h19 v24 h24 v29 h29 => ?_
    obtain rfl := h19
    obtain rfl := h24
    obtain rfl := h29
    show wpList _ _ _ _ _ _
    go_wp2_with fail
    exact ⟨.bool true, by first | rfl | (go_simp; done), rfl, Below.refl _ _⟩
  · as_aux_lemma =>
    refine fun w' hB v19 h19 v30 h30 => ?_
    obtain rfl := h19
    obtain rfl := h30
    show wpList _ _ _ _ _ _
    go_wp2_with fail
    exact ⟨.bool true, by first | rfl | (go_simp; done), rfl, Below.refl _ _⟩
  · as_aux_lemma =>
    refine fun w' hB v31 h31 => ?_
    obtain rfl := h31
    show wpList _ _ _ _ _ _
    go_wp2_with fail
    exact ⟨.bool true, by first | rfl | (go_simp; done), rfl, Below.refl _ _⟩
  · refine fun w' hB v0 h0 v1 h1 v2 h2 v3 h3 v4 h4 v5 h5 v6 h6 v7 h7 v8 h8 v9 h9 v10 h10 v11 h11 v12 h12 v13 h13 v14 h14 v15 h15 v16 h16 v17 h17 v18 h18 v19 h19 v20 h20 v21 h21 v22 h22 v23 h23 v24 h24 v25 h25 v26 h26 v27 h27 v28 h28 v29 h29 v30 h30 v31 h31 v32 h32 => ?_
    obtain rfl := h32
    simp only [onP]
    go_simp
    clear h0 h1 h2 h3 h4 h5 h6 h7 h8 h9 h10 h11 h12 h13 h14 h15 h16 h17 h18 h19 h20 h21 h22 h23 h24 h25 h26 h27 h28 h29 h30 h31
    have BZ := Lib.hid (below_next B3.out hB)
    clear hB
    go_wp2_with fail
    go_ret
    exact ⟨rfl, BZ.out⟩

set_option maxRecDepth 100000 in
theorem HashNumbers_lifted (os : Os) (started : os.Started) (H : Type) (enc : TypeId × Value → H) :
    ReturnsInHanded {} Try.checked os 7 .any (Rows.hashNumbersSpec.pre6 enc Try.prog Try.f7 Rows.hashNumbersRow.domain false) (Rows.hashNumbersSpec.post enc Try.prog Try.f7 false true false false) := by
  refine returnsInHanded_of_change (C := Try.checked) own started (by kernel_rfl) Try.func7
    (ChangeSpec.witness6 (enc := enc) (C := Try.checked) false ⟨#[], #[.int .i64 0], []⟩ 8 (by kernel_rfl) (by kernel_rfl) (by kernel_rfl) (by kernel_rfl)) ?_
  intro W base args ds gs before hval0 hW hcnd _
  have hval : ∀ (j : Nat) t v, Try.f7.params[j]? = some t → args[j]? = some v → Value.okWide Try.prog W .any base t v := hval0
  have hW' := hW
  obtain ⟨p, q, hA0, hV, rfl, hfz, hnd⟩ := hW
  have hA : DataW.TrodAll enc Try.prog W 0 (fun _ => true) true Try.f7.params.toList args.toList ds p := hA0
  rw [Try.params7] at hA hval
  obtain ⟨v0, vs0, d0, ds0, p0, q0, hargs, rfl, rfl, h0, r0⟩ := trodAll_cons hA
  obtain ⟨rfl, rfl, rfl⟩ := trodAll_nil r0
  obtain rfl : args = #[v0] := by cases args; simp_all
  obtain ⟨rfl, rfl⟩ := trodVars_none hV
  have k0 := h0
  have lt0 := trod_lt_of h0
  obtain ⟨a0, rfl, rfl, rfl, b0⟩ := open_int Try.underlying3 (hval 0 3 v0 rfl rfl) h0
  clear hA0 hval0
  refine (HashNumbers_walk a0 b0 W).mono fun e W' ⟨he, bel⟩ => ?_
  subst he
  exact ⟨_, rfl, _, _, _, [], _, [], hW', trodAll_mk1 (shut_bool (by kernel_rfl) _), (trodAll_cons_mk (Below.trod laidOut (by kernel_rfl) (of_decide_eq_true (by kernel_rfl)) k0 bel lt0) trodAll_mk0), rfl, bel.frame _, fun h => by cases h⟩

theorem HashNumbers_closed : joinedFacts Try.prog 7 Try.f7 Rows.hashNumbersSpec Rows.hashNumbersRow = true := by
  simp only [joinedFacts, Bool.and_eq_true]
  repeat' apply And.intro
  all_goals first
    | (with_reducible exact head_enter)
    | (rw [head_make]; kernel_rfl)
    | (rw [head_lift]; kernel_rfl)
    | kernel_rfl

theorem HashNumbers_holds : Rows.HashNumbersSaid :=
  OpenClaim.holds_of_wide 7 Try.f7 rfl rfl rfl rfl rfl rfl rfl ⟨rfl, rfl, rfl, rfl, rfl⟩ rfl rfl rfl rfl rfl (by kernel_rfl) Try.func7 HashNumbers_closed
    (of_decide_eq_true (by kernel_rfl)) (by unfold Func.isWrapper; rw [if_neg (of_decide_eq_false (by kernel_rfl))]; exact ⟨rfl, rfl⟩)
    (fun os started H enc _ => HashNumbers_lifted os started H enc)
end Go.Proofs.Ytfopockjakeplaa
