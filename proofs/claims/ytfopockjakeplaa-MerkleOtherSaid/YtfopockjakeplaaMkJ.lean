/- law04: two sums are one. No condition. -/
import Derived.Test.YtfopockjakeplaaMkD
import Derived.KernelRfl
namespace Go.Proofs.Ytfopockjakeplaa
open Go.RowKit

theorem id_one : Value.agg #[.int .u8 1, .int .u8 0, .int .u8 0, .int .u8 0, .int .u8 0, .int .u8 0, .int .u8 0, .int .u8 0, .int .u8 0, .int .u8 0, .int .u8 0, .int .u8 0, .int .u8 0, .int .u8 0, .int .u8 0, .int .u8 0, .int .u8 0, .int .u8 0, .int .u8 0, .int .u8 0, .int .u8 0, .int .u8 0, .int .u8 0, .int .u8 0, .int .u8 0, .int .u8 0, .int .u8 0, .int .u8 0, .int .u8 0, .int .u8 0, .int .u8 0, .int .u8 0] = iv 1 := by kernel_rfl
theorem id_two : Value.agg #[.int .u8 2, .int .u8 0, .int .u8 0, .int .u8 0, .int .u8 0, .int .u8 0, .int .u8 0, .int .u8 0, .int .u8 0, .int .u8 0, .int .u8 0, .int .u8 0, .int .u8 0, .int .u8 0, .int .u8 0, .int .u8 0, .int .u8 0, .int .u8 0, .int .u8 0, .int .u8 0, .int .u8 0, .int .u8 0, .int .u8 0, .int .u8 0, .int .u8 0, .int .u8 0, .int .u8 0, .int .u8 0, .int .u8 0, .int .u8 0, .int .u8 0, .int .u8 0] = iv 2 := by kernel_rfl
theorem prs_12 : lb (prs 1 2) 0 = 75 := by kernel_rfl
theorem prs_12_ne : prs 1 2 ≠ 0 := by
  intro h
  have := prs_12
  rw [h] at this
  exact absurd this (by decide)
/-- a root of IDs in a new row -/
theorem root_row (l : List Nat) (hl : ∀ y ∈ l, y < 2 ^ 256) (hn : l.length ≤ 1000) (g : Nat) (t : TypeId) (fr : Nat × Nat) (n : Nat) (hln : l.length = n) (cap : Nat) (w : World) (h : w.heap[g]? = some (.cells (idsL l).toArray t fr)) :
    Calls Try.prog 24 #[.slice (some ⟨g, 0, none⟩) n cap] w fun e w' => e = .returned (.tuple #[iv (Mroot l).1, .bool (Mroot l).2]) ∧ Below w.heap.size w w' := by
  rw [← hln]
  exact root_any _ _ l hl hn w (fun e => by cases e) (fun _ => ⟨g, 0, rfl, IdsAt.row h⟩)

set_option maxRecDepth 100000 in
set_option maxHeartbeats 8000000 in
theorem joins_any (w : World) : Calls Try.prog 23 #[] w fun e w' => e = .returned (.bool true) ∧ Below w.heap.size w w' := by
  have M12 : Mroot [1, 2] = (prs 1 2, false) := by simp [Mroot, mroot, upl, twn]
  have M1 : Mroot [1] = (1, false) := by simp [Mroot, mroot]
  have M11 : (Mroot [1, 1]).2 = true := by simp [Mroot, mroot, upl, twn]
  have c12 := Lib.hid fun (W : World) g (h : W.heap[g]? = some (.cells (idsL [1, 2]).toArray 25 (0, 0))) => root_row [1, 2] (by simp) (by simp) g _ _ 2 rfl 2 W h
  have c1 := Lib.hid fun (W : World) g (h : W.heap[g]? = some (.cells (idsL [1]).toArray 25 (0, 0))) => root_row [1] (by simp) (by simp) g _ _ 1 rfl 1 W h
  have c11 := Lib.hid fun (W : World) g (h : W.heap[g]? = some (.cells (idsL [1, 1]).toArray 25 (0, 0))) => root_row [1, 1] (by simp) (by simp) g _ _ 2 rfl 2 W h
  rw [M12] at c12
  rw [M1] at c1
  rw [M11] at c11
  have cl : Hid (∀ (W : World) g (h : W.heap[g]? = some (.cells (idsL [2]).toArray 25 (0, 0))), Calls Try.prog 28 #[iv 1, .int .i64 0, .slice (some ⟨g, 0, none⟩) 1 1] W fun e w' => e = .returned (iv (prs 1 2)) ∧ Below W.heap.size W w') := Lib.hid fun W g h =>
    leads_any 1 0 (by omega) (some ⟨g, 0, none⟩) 1 [2] (by simp) W (fun _ => ⟨g, 0, rfl, IdsAt.row h⟩)
  have hne := prs_12_ne
  obtain ⟨R, hR⟩ : ∃ R, R = prs 1 2 := ⟨_, rfl⟩
  have hRl : R < 2 ^ 256 := by rw [hR]; exact prs_lt _ _
  have hEq : prs 1 2 = tw (idb 1 ++ idb 2) := rfl
  rw [← hR] at c12 cl hne
  obtain ⟨X, hX⟩ : ∃ X, X = (Mroot [1, 1]).1 := ⟨_, rfl⟩
  rw [← hX] at c11
  have HT : Hid (tw (idb 1 ++ idb 2) = R) := Lib.hid (by rw [hR]; exact hEq.symm)
  have q1 : ∀ W, (Op.equalIn 10000 25 (iv R) (iv R)).run Try.prog W = .ok true W := eq_self R hRl
  have q2 : ∀ W, (Op.equalIn 10000 25 (iv 1) (iv 1)).run Try.prog W = .ok true W := eq_self 1 (by omega)
  have q0 : ∀ W, (Op.equalIn 10000 25 (iv R) (iv 0)).run Try.prog W = .ok false W := fun W => by rw [eq_id R 0 hRl (by omega) W, decide_eq_false hne]
  have Q1 := Lib.hid q1; have Q2 := Lib.hid q2; have Q0 := Lib.hid q0
  clear hR hRl hEq hX hne q1 q2 q0 M12 M1 M11
  have B : Below w.heap.size w w := Below.refl _ _
  have ez := iblk_lit
  have e1 := id_one; have e2 := id_two
  have A := alloc2 w (iblk 0) (iblk 0)
  have A1 := Lib.hid A.1; have A2 := Lib.hid A.2
  have BA : Hid (Below w.heap.size w ((w.alloc (iblk 0)).alloc (iblk 0))) := Lib.hid (below_alloc (below_alloc B _) _)
  clear A B
  go_enter Try.func23, Try.ntmps23
  go_wp2_with (first | (refine wpList_store_id rfl (.tmp 1) (.tmp 9) rfl w.heap.size 0 1 rfl rfl A1.out (fun w1 h1 h2 h3 h4 => ?_); have K1 := Lib.hid h1; have K2a := Lib.hid ((h2 (w.heap.size + 1) (by omega)).trans A2.out); have B1 := Lib.hid (h4 w.heap.size w (Nat.le_refl _) BA.out); clear h1 h2 h3 h4) | (refine wpList_store_id rfl (.tmp 2) (.tmp 10) rfl (w.heap.size + 1) 0 2 rfl rfl K2a.out (fun w2 h1 h2 h3 h4 => ?_); have K2 := Lib.hid h1; have K1b := Lib.hid ((h2 w.heap.size (by omega)).trans K1.out); have B2 := Lib.hid (h4 w.heap.size w (by omega) B1.out); clear h1 h2 h3 h4) | refine wpList_load_id rfl (.tmp 1) rfl w.heap.size 1 rfl K1b.out ?_ | refine wpList_load_id rfl (.tmp 2) rfl (w.heap.size + 1) 2 rfl K2.out ?_ | refine wpList_build_2 rfl (.tmp 12) (.tmp 13) 1 2 rfl rfl rfl ?_)
  refine (c12.out _ _ (heap_new _ _)).mono ?_
  rintro e w3 ⟨rfl, hb⟩
  have K1c := Lib.hid (keep_alloc (iblk 0) (below_keep hb (keep_alloc _ K1b.out)))
  have K2c := Lib.hid (keep_alloc (iblk 0) (below_keep hb (keep_alloc _ K2.out)))
  have B3 : Hid (Below w.heap.size w (w3.alloc (iblk 0))) := Lib.hid (below_alloc (below_next (below_alloc B2.out _) hb) _)
  have h23 : w.heap.size + 1 < w3.heap.size := block_lt (below_keep hb (keep_alloc _ K2.out))
  clear hb K1b K2 B2 K1 K2a B1 A1 A2 BA
  go_wp2_with (first | (refine wpList_store_id rfl (.tmp 3) (.tmp 16) rfl w3.heap.size 0 R rfl rfl (heap_new _ _) (fun w4 h1 h2 h3 h4 => ?_); have K3 := Lib.hid h1; have K1d := Lib.hid ((h2 w.heap.size (by omega)).trans K1c.out); have K2d := Lib.hid ((h2 (w.heap.size + 1) (by omega)).trans K2c.out); have B4 := Lib.hid (h4 w.heap.size w (by omega) B3.out); clear h1 h2 h3 h4) | refine wpList_load_id rfl (.tmp 1) rfl w.heap.size 1 rfl K1d.out ?_ | refine wpList_build_1 rfl (.tmp 19) 1 rfl rfl ?_)
  refine (c1.out _ _ (heap_new _ _)).mono ?_
  rintro e w5 ⟨rfl, hb⟩
  have K1e := Lib.hid (keep_alloc (iblk 0) (below_keep hb (keep_alloc _ K1d.out)))
  have K2e := Lib.hid (keep_alloc (iblk 0) (below_keep hb (keep_alloc _ K2d.out)))
  have K3e := Lib.hid (keep_alloc (iblk 0) (below_keep hb (keep_alloc _ K3.out)))
  have B5 : Hid (Below w.heap.size w (w5.alloc (iblk 0))) := Lib.hid (below_alloc (below_next (below_alloc B4.out _) hb) _)
  have h35 : w3.heap.size < w5.heap.size := block_lt (below_keep hb (keep_alloc _ K3.out))
  clear hb K1c K2c K1d K2d K3 B3 B4
  go_wp2_with (first | (refine wpList_store_id rfl (.tmp 5) (.tmp 22) rfl w5.heap.size 0 1 rfl rfl (heap_new _ _) (fun w6 h1 h2 h3 h4 => ?_); have K5 := Lib.hid h1; have K1f := Lib.hid ((h2 w.heap.size (by omega)).trans K1e.out); have K2f := Lib.hid ((h2 (w.heap.size + 1) (by omega)).trans K2e.out); have K3f := Lib.hid ((h2 w3.heap.size (by omega)).trans K3e.out); have B6 := Lib.hid (h4 w.heap.size w (by omega) B5.out); clear h1 h2 h3 h4) | refine wpList_load_id rfl (.tmp 1) rfl w.heap.size 1 rfl K1f.out ?_ | refine wpList_build_2 rfl (.tmp 25) (.tmp 26) 1 1 rfl rfl rfl ?_)
  refine (c11.out _ _ (heap_new _ _)).mono ?_
  rintro e w7 ⟨rfl, hb⟩
  have K1g := Lib.hid (keep_alloc (iblk 0) (below_keep hb (keep_alloc _ K1f.out)))
  have K2g := Lib.hid (keep_alloc (iblk 0) (below_keep hb (keep_alloc _ K2f.out)))
  have K3g := Lib.hid (keep_alloc (iblk 0) (below_keep hb (keep_alloc _ K3f.out)))
  have K5g := Lib.hid (keep_alloc (iblk 0) (below_keep hb (keep_alloc _ K5.out)))
  have B7 : Hid (Below w.heap.size w (w7.alloc (iblk 0))) := Lib.hid (below_alloc (below_next (below_alloc B6.out _) hb) _)
  have h57 : w5.heap.size < w7.heap.size := block_lt (below_keep hb (keep_alloc _ K5.out))
  clear hb K1e K2e K3e K1f K2f K3f K5 B5 B6
  go_wp2_with (first | (refine wpList_store_id rfl (.tmp 7) (.tmp 29) rfl w7.heap.size 0 X rfl rfl (heap_new _ _) (fun w8 h1 h2 h3 h4 => ?_); have K1 := Lib.hid ((h2 w.heap.size (by omega)).trans K1g.out); have K2 := Lib.hid ((h2 (w.heap.size + 1) (by omega)).trans K2g.out); have K3 := Lib.hid ((h2 w3.heap.size (by omega)).trans K3g.out); have K5 := Lib.hid ((h2 w5.heap.size (by omega)).trans K5g.out); have B8 := Lib.hid (h4 w.heap.size w (by omega) B7.out); clear h1 h2 h3 h4))
  clear K1g K2g K3g K5g B7
  obtain ⟨g1, hg1⟩ : ∃ g, g = w.heap.size := ⟨_, rfl⟩
  obtain ⟨g3, hg3'⟩ : ∃ g, g = w3.heap.size := ⟨_, rfl⟩
  obtain ⟨g5, hg5⟩ : ∃ g, g = w5.heap.size := ⟨_, rfl⟩
  obtain ⟨g7, hg7⟩ : ∃ g, g = w7.heap.size := ⟨_, rfl⟩
  have HG := Lib.hid hg1
  rw [← hg1] at K1 K2 h23
  rw [← hg3'] at K3
  rw [← hg5] at K5
  simp only [← hg1, ← hg3', ← hg5, ← hg7]
  obtain ⟨g2, hg2⟩ : ∃ g, g = g1 + 1 := ⟨_, rfl⟩
  rw [← hg2] at K2
  simp only [← hg2]
  clear h23 h35 h57 hg1 hg2 hg3' hg5 hg7 c12 c1 c11
  have ct := Lib.hid fun (V : World) g (hg : V.heap[g]? = some (.cells #[.slice (some ⟨g1, 0, none⟩) 32 32, .slice (some ⟨g2, 0, none⟩) 32 32] 22 (0, 0))) (hb : Below w8.heap.size w8 V) =>
    twice_two _ _ (idb 1) (idb 2) g 22 2 V hg (idb_at (block_keep hb K1.out) 32) (idb_at (block_keep hb K2.out) 32) (idb_byte 1) (idb_byte 2) (by rw [idb_len, idb_len]; omega)
  rw [HT.out] at ct
  have q1 := Q1.out; have q2 := Q2.out; have q0 := Q0.out
  refine wp_region_by [Is (iv R), Is (.slice (some ⟨g1, 0, none⟩) 32 32), Is (.slice (some ⟨g2, 0, none⟩) 32 32), RowOf #[.slice (some ⟨g1, 0, none⟩) 32 32, .slice (some ⟨g2, 0, none⟩) 32 32] 22 2 2, Is (iv R), Is (.bool true), Is (.bool true), Is (iv R), Is (iv 0), Is (.bool true), Is (.bool true), Is (.bool true), Is (.bool false), Is (.bool true), Is (.bool true), Is (.bool true), Is (iv 1), Is (iv 1), Is (.bool true), Is (.bool true), Is (.bool true), Is (.bool true), Is (.bool true), Is (.bool true), Is (iv 1), Is (iv 2), RowOf (idsL [2]).toArray 25 1 1, Is (iv R), Is (iv R), Is (.bool true), Is (.bool true), Is (.bool true)] [[], [], [], [(1, some 32), (2, some 33)], [(3, some 34)], [(0, some 31), (4, some 35)], [(5, some 36)], [(6, some 37)], [(6, some 37)], [(6, some 37), (7, some 38), (8, some 39)], [(6, some 37), (9, some 40)], [(10, some 41)], [(11, some 42)], [(11, some 42), (12, some 43)], [(11, some 42), (13, some 44)], [(14, some 45)], [(15, some 46)], [(15, some 46)], [(15, some 46), (16, some 47), (17, some 48)], [(15, some 46), (18, some 49)], [(19, some 50)], [(20, some 51)], [(20, some 51), (21, some 52)], [(22, some 53)], [(23, some 54)], [(23, some 54)], [(23, some 54), (25, some 56)], [(23, some 54), (24, some 55), (26, some 57)], [(23, some 54)], [(23, some 54), (27, some 58), (28, some 59)], [(23, some 54), (29, some 60)], [(30, some 61)]] [(0, some 31), (1, some 32), (2, some 33), (3, some 34), (4, some 35), (5, some 36), (6, some 37), (7, some 38), (8, some 39), (9, some 40), (10, some 41), (11, some 42), (12, some 43), (13, some 44), (14, some 45), (15, some 46), (16, some 47), (17, some 48), (18, some 49), (19, some 50), (20, some 51), (21, some 52), (22, some 53), (23, some 54), (24, some 55), (25, some 56), (26, some 57), (27, some 58), (28, some 59), (29, some 60), (30, some 61), (31, some 0)] [0, 0, 0, 6, 14, 31, 63, 127, 127, 511, 1023, 2047, 4095, 8191, 16383, 32767, 65535, 65535, 262143, 524287, 1048575, 2097151, 4194303, 8388607, 16777215, 16777215, 50331647, 134217727, 16777215, 536870911, 1073741823, 2147483647]
    (by kernel_rfl) (by kernel_rfl) (by kernel_rfl) (by kernel_rfl) ⟨Is.kept _, Is.kept _, Is.kept _, RowOf.kept _ _ _ _, Is.kept _, Is.kept _, Is.kept _, Is.kept _, Is.kept _, Is.kept _, Is.kept _, Is.kept _, Is.kept _, Is.kept _, Is.kept _, Is.kept _, Is.kept _, Is.kept _, Is.kept _, Is.kept _, Is.kept _, Is.kept _, Is.kept _, Is.kept _, Is.kept _, Is.kept _, RowOf.kept _ _ _ _, Is.kept _, Is.kept _, Is.kept _, Is.kept _, Is.kept _, trivial⟩ ⟨?_, ?_, ?_, ?_, ?_, ?_, ?_, ?_, ?_, ?_, ?_, ?_, ?_, ?_, ?_, ?_, ?_, ?_, ?_, ?_, ?_, ?_, ?_, ?_, ?_, ?_, ?_, ?_, ?_, ?_, ?_, ?_, trivial⟩ ?_
  · as_aux_lemma =>
    refine fun w' hB => ?_
    show wpList _ _ _ _ _ _
    go_wp2_with (first | refine wpList_load_id rfl (.tmp 3) rfl (g3) R rfl (block_keep hB K3.out) ?_)
    exact ⟨iv R, rfl, rfl, Below.refl _ _⟩
  · as_aux_lemma =>
    refine fun w' hB => ?_
    show wpList _ _ _ _ _ _
    go_wp2_with fail
    exact ⟨.slice (some ⟨g1, 0, none⟩) 32 32, by first | rfl | (go_simp; done), rfl, Below.refl _ _⟩
  · as_aux_lemma =>
    refine fun w' hB => ?_
    show wpList _ _ _ _ _ _
    go_wp2_with fail
    exact ⟨.slice (some ⟨g2, 0, none⟩) 32 32, by first | rfl | (go_simp; done), rfl, Below.refl _ _⟩
  · as_aux_lemma =>
    refine fun w' hB v1 h1 v2 h2 => ?_
    obtain rfl := h1
    obtain rfl := h2
    show wpList _ _ _ _ _ _
    go_wp2_with fail
    exact ⟨_, rfl, ⟨_, rfl, heap_new _ _⟩, below_alloc (Below.refl _ _) _⟩
  · as_aux_lemma =>
    refine fun w' hB v3 h3 => ?_
    obtain ⟨g3, rfl, hg3⟩ := h3
    show wpList _ _ _ _ _ _
    go_wp2_with fail
    refine (ct.out _ _ hg3 hB).mono ?_
    rintro e w2 ⟨rfl, hb2⟩
    go_wp2_with fail
    exact ⟨iv R, by first | rfl | (go_simp; done), rfl, hb2⟩
  · as_aux_lemma =>
    refine fun w' hB v0 h0 v4 h4 => ?_
    obtain rfl := h0
    obtain rfl := h4
    show wpList _ _ _ _ _ _
    go_wp2_with fail
    exact ⟨.bool true, by first | rfl | (go_simp; done), rfl, Below.refl _ _⟩
  · as_aux_lemma =>
    refine fun w' hB v5 h5 => ?_
    obtain rfl := h5
    show wpList _ _ _ _ _ _
    go_wp2_with fail
    exact ⟨.bool true, by first | rfl | (go_simp; done), rfl, Below.refl _ _⟩
  · as_aux_lemma =>
    refine fun w' hB v6 h6 => ?_
    obtain rfl := h6
    show wpList _ _ _ _ _ _
    refine wpList_unguard rfl ?_
    go_wp2_with (first | refine wpList_load_id rfl (.tmp 3) rfl (g3) R rfl (block_keep hB K3.out) ?_)
    exact ⟨iv R, rfl, rfl, Below.refl _ _⟩
  · as_aux_lemma =>
    refine fun w' hB v6 h6 => ?_
    obtain rfl := h6
    show wpList _ _ _ _ _ _
    go_wp2_with fail
    exact ⟨iv 0, by first | rfl | (go_simp; done), rfl, Below.refl _ _⟩
  · as_aux_lemma =>
    refine fun w' hB v6 h6 v7 h7 v8 h8 => ?_
    obtain rfl := h6
    obtain rfl := h7
    obtain rfl := h8
    show wpList _ _ _ _ _ _
    go_wp2_with fail
    exact ⟨.bool true, by first | rfl | (go_simp; done), rfl, Below.refl _ _⟩
  · as_aux_lemma =>
    refine fun w' hB v6 h6 v9 h9 => ?_
    obtain rfl := h6
    obtain rfl := h9
    show wpList _ _ _ _ _ _
    go_wp2_with fail
    exact ⟨.bool true, by first | rfl | (go_simp; done), rfl, Below.refl _ _⟩
  · as_aux_lemma =>
    refine fun w' hB v10 h10 => ?_
    obtain rfl := h10
    show wpList _ _ _ _ _ _
    go_wp2_with fail
    exact ⟨.bool true, by first | rfl | (go_simp; done), rfl, Below.refl _ _⟩
  · as_aux_lemma =>
    refine fun w' hB v11 h11 => ?_
    obtain rfl := h11
    show wpList _ _ _ _ _ _
    go_wp2_with fail
    exact ⟨.bool false, by first | rfl | (go_simp; done), rfl, Below.refl _ _⟩
  · as_aux_lemma =>
    refine fun w' hB v11 h11 v12 h12 => ?_
    obtain rfl := h11
    obtain rfl := h12
    show wpList _ _ _ _ _ _
    go_wp2_with fail
    exact ⟨.bool true, by first | rfl | (go_simp; done), rfl, Below.refl _ _⟩
  · as_aux_lemma =>
    refine fun w' hB v11 h11 v13 h13 => ?_
    obtain rfl := h11
    obtain rfl := h13
    show wpList _ _ _ _ _ _
    go_wp2_with fail
    exact ⟨.bool true, by first | rfl | (go_simp; done), rfl, Below.refl _ _⟩
  · as_aux_lemma =>
    refine fun w' hB v14 h14 => ?_
    obtain rfl := h14
    show wpList _ _ _ _ _ _
    go_wp2_with fail
    exact ⟨.bool true, by first | rfl | (go_simp; done), rfl, Below.refl _ _⟩
  · as_aux_lemma =>
    refine fun w' hB v15 h15 => ?_
    obtain rfl := h15
    show wpList _ _ _ _ _ _
    refine wpList_unguard rfl ?_
    go_wp2_with (first | refine wpList_load_id rfl (.tmp 5) rfl (g5) 1 rfl (block_keep hB K5.out) ?_)
    exact ⟨iv 1, rfl, rfl, Below.refl _ _⟩
  · as_aux_lemma =>
    refine fun w' hB v15 h15 => ?_
    obtain rfl := h15
    show wpList _ _ _ _ _ _
    refine wpList_unguard rfl ?_
    go_wp2_with (first | refine wpList_load_id rfl (.tmp 1) rfl (g1) 1 rfl (block_keep hB K1.out) ?_)
    exact ⟨iv 1, rfl, rfl, Below.refl _ _⟩
  · as_aux_lemma =>
    refine fun w' hB v15 h15 v16 h16 v17 h17 => ?_
    obtain rfl := h15
    obtain rfl := h16
    obtain rfl := h17
    show wpList _ _ _ _ _ _
    go_wp2_with fail
    exact ⟨.bool true, by first | rfl | (go_simp; done), rfl, Below.refl _ _⟩
  · as_aux_lemma =>
    refine fun w' hB v15 h15 v18 h18 => ?_
    obtain rfl := h15
    obtain rfl := h18
    show wpList _ _ _ _ _ _
    go_wp2_with fail
    exact ⟨.bool true, by first | rfl | (go_simp; done), rfl, Below.refl _ _⟩
  · as_aux_lemma =>
    refine fun w' hB v19 h19 => ?_
    obtain rfl := h19
    show wpList _ _ _ _ _ _
    go_wp2_with fail
    exact ⟨.bool true, by first | rfl | (go_simp; done), rfl, Below.refl _ _⟩
  · as_aux_lemma =>
    refine fun w' hB v20 h20 => ?_
    obtain rfl := h20
    show wpList _ _ _ _ _ _
    go_wp2_with fail
    exact ⟨.bool true, by first | rfl | (go_simp; done), rfl, Below.refl _ _⟩
  · as_aux_lemma =>
    refine fun w' hB v20 h20 v21 h21 => ?_
    obtain rfl := h20
    obtain rfl := h21
    show wpList _ _ _ _ _ _
    go_wp2_with fail
    exact ⟨.bool true, by first | rfl | (go_simp; done), rfl, Below.refl _ _⟩
  · as_aux_lemma =>
    refine fun w' hB v22 h22 => ?_
    obtain rfl := h22
    show wpList _ _ _ _ _ _
    go_wp2_with fail
    exact ⟨.bool true, by first | rfl | (go_simp; done), rfl, Below.refl _ _⟩
  · as_aux_lemma =>
    refine fun w' hB v23 h23 => ?_
    obtain rfl := h23
    show wpList _ _ _ _ _ _
    refine wpList_unguard rfl ?_
    go_wp2_with (first | refine wpList_load_id rfl (.tmp 1) rfl (g1) 1 rfl (block_keep hB K1.out) ?_)
    exact ⟨iv 1, rfl, rfl, Below.refl _ _⟩
  · as_aux_lemma =>
    refine fun w' hB v23 h23 => ?_
    obtain rfl := h23
    show wpList _ _ _ _ _ _
    refine wpList_unguard rfl ?_
    go_wp2_with (first | refine wpList_load_id rfl (.tmp 2) rfl (g2) 2 rfl (block_keep hB K2.out) ?_)
    exact ⟨iv 2, rfl, rfl, Below.refl _ _⟩
  · as_aux_lemma =>
    refine fun w' hB v23 h23 v25 h25 => ?_
    obtain rfl := h23
    obtain rfl := h25
    show wpList _ _ _ _ _ _
    refine wpList_unguard rfl ?_
    go_wp2_with (first | refine wpList_build_1 rfl (.tmp 56) 2 rfl rfl ?_)
    exact ⟨_, rfl, ⟨_, rfl, heap_new _ _⟩, below_alloc (Below.refl _ _) _⟩
  · as_aux_lemma =>
    refine fun w' hB v23 h23 v24 h24 v26 h26 => ?_
    obtain rfl := h23
    obtain rfl := h24
    obtain ⟨g26, rfl, hg26⟩ := h26
    show wpList _ _ _ _ _ _
    go_wp2_with fail
    refine (cl.out _ _ hg26).mono ?_
    rintro e w2 ⟨rfl, hb2⟩
    go_wp2_with fail
    exact ⟨iv R, by first | rfl | (go_simp; done), rfl, hb2⟩
  · as_aux_lemma =>
    refine fun w' hB v23 h23 => ?_
    obtain rfl := h23
    show wpList _ _ _ _ _ _
    refine wpList_unguard rfl ?_
    go_wp2_with (first | refine wpList_load_id rfl (.tmp 3) rfl (g3) R rfl (block_keep hB K3.out) ?_)
    exact ⟨iv R, rfl, rfl, Below.refl _ _⟩
  · as_aux_lemma =>
    refine fun w' hB v23 h23 v27 h27 v28 h28 => ?_
    obtain rfl := h23
    obtain rfl := h27
    obtain rfl := h28
    show wpList _ _ _ _ _ _
    go_wp2_with fail
    exact ⟨.bool true, by first | rfl | (go_simp; done), rfl, Below.refl _ _⟩
  · as_aux_lemma =>
    refine fun w' hB v23 h23 v29 h29 => ?_
    obtain rfl := h23
    obtain rfl := h29
    show wpList _ _ _ _ _ _
    go_wp2_with fail
    exact ⟨.bool true, by first | rfl | (go_simp; done), rfl, Below.refl _ _⟩
  · as_aux_lemma =>
    refine fun w' hB v30 h30 => ?_
    obtain rfl := h30
    show wpList _ _ _ _ _ _
    go_wp2_with fail
    exact ⟨.bool true, by first | rfl | (go_simp; done), rfl, Below.refl _ _⟩
  · refine fun w' hB v0 h0 v1 h1 v2 h2 v3 h3 v4 h4 v5 h5 v6 h6 v7 h7 v8 h8 v9 h9 v10 h10 v11 h11 v12 h12 v13 h13 v14 h14 v15 h15 v16 h16 v17 h17 v18 h18 v19 h19 v20 h20 v21 h21 v22 h22 v23 h23 v24 h24 v25 h25 v26 h26 v27 h27 v28 h28 v29 h29 v30 h30 v31 h31 => ?_
    obtain rfl := h31
    simp only [onP]
    go_simp
    clear h0 h1 h2 h3 h4 h5 h6 h7 h8 h9 h10 h11 h12 h13 h14 h15 h16 h17 h18 h19 h20 h21 h22 h23 h24 h25 h26 h27 h28 h29 h30
    have BZ : Below w.heap.size w w' := below_next B8.out hB
    go_wp2_with fail
    exact bodyPost_ret (v := .bool true) (by simp [results, Try.results23, asAddr]) rfl ⟨rfl, BZ⟩
end Go.Proofs.Ytfopockjakeplaa
