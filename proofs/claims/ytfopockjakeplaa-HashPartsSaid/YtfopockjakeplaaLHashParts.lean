/- The law HashParts: bytes in parts have the sum of them all, one behind the other; the parts stay. No condition. -/
import Derived.Test.YtfopockjakeplaaHashK
import Derived.Test.YtfopockjakeplaaRegInv
import Derived.Test.YtfopockjakeplaaHead
namespace Go.Proofs.Ytfopockjakeplaa
open Go.ChangeShapes Go.WideShapes Go.ChangeAt Go.RowKit

theorem flat_bound : ∀ (ls : List (List Nat)) (M : Nat), (∀ l ∈ ls, l.length ≤ M) → ls.flatten.length ≤ M * ls.length
  | [], M, _ => by simp
  | l :: ls, M, h => by
    have := flat_bound ls M fun x hx => h x (by simp [hx])
    have := h l (by simp)
    rw [List.flatten_cons, List.length_append, List.length_cons, Nat.mul_succ]; omega
theorem getD_byte {ls : List (List Nat)} (hb : ∀ l ∈ ls, ∀ y ∈ l, y < 256) (k : Nat) : ∀ y ∈ ls.getD k [], y < 256 := by
  rw [List.getD_eq_getElem?_getD]
  rcases h : ls[k]? with _ | l
  · simp
  · exact hb l (List.mem_of_getElem? h)
theorem take_short {ls : List (List Nat)} {k M : Nat} (hk : k < ls.length) (h : ∀ l ∈ ls.take k, l.length ≤ M) (h2 : (ls.getD k []).length ≤ M) : ∀ l ∈ ls.take (k + 1), l.length ≤ M := by
  intro l hl
  rw [List.take_add_one, List.mem_append] at hl
  rcases hl with hl | hl
  · exact h l hl
  · rw [List.getElem?_eq_getElem hk] at hl
    simp at hl
    subst hl
    simpa [List.getD, List.getElem?_eq_getElem hk] using h2

set_option maxRecDepth 100000 in
set_option maxHeartbeats 4000000 in
theorem HashParts_walk (x : Option Addr) (cap : Nat) (ls : List (List Nat)) (hb : ∀ l ∈ ls, ∀ y ∈ l, y < 256) (w : World) (hp : PartsAt w x ls) :
    Calls Try.prog 4 #[.slice x ls.length cap] w fun e w' => e = .returned (.bool true) ∧ Below w.heap.size w w' := by
  have HB := Lib.hid hb; have HP := Lib.hid hp
  clear hb hp
  obtain ⟨n, hn⟩ : ∃ n, n = ls.length := ⟨_, rfl⟩
  rw [← hn]
  have HN := Lib.hid hn
  clear hn
  have B : Below w.heap.size w w := Below.refl _ _
  go_enter Try.func4, Try.ntmps4
  go_wp2_with fail
  refine (known_any _).mono ?_
  rintro e w1 ⟨rfl, hb1⟩
  have B1 := below_next (w := w) (by repeat' (first | (with_reducible exact Below.refl _ _) | (with_reducible assumption) | (with_reducible refine below_alloc ?_ _) | (with_reducible refine Below.drew ?_) | (with_reducible refine below_drewN ?_ _) | (with_reducible refine Below.setCell ?_ ?_ _) | go_size)) hb1
  clear hb1 B
  by_cases h3 : 20 < n
  · have h3' : (20 : Int) < (n : Int) := by omega
    go_wp2_with fail
    go_ret
    exact ⟨rfl, B1⟩
  · have h3' : ¬ (20 : Int) < (n : Int) := by omega
    have HP1 := Lib.hid (HP.out.keep B1)
    have BZ := Lib.hid B1
    have HW := Lib.hid B1.size
    clear HP B1
    go_wp2_with fail
    go_loopg [3, 19] n (fun g sv ix wr => ∃ k : Nat, g = n - k ∧ k ≤ n ∧ ix = .int .i64 k ∧ (∀ l ∈ ls.take k, l.length ≤ 300) ∧ Owns wr w1.heap.size sv (ls.take k).flatten ∧ Below w1.heap.size w1 wr)
    case atStart => exact ⟨0, rfl, by omega, rfl, by simp, by rw [List.take_zero, List.flatten_nil]; exact Owns.nil _ _, Below.refl _ _⟩
    case round =>
      obtain ⟨k, hg, hk, rfl, hsh, hO, B⟩ := hrel
      have HG := Lib.hid hg; have HO := Lib.hid hO; have HSH := Lib.hid hsh; have HBB := Lib.hid B
      clear hg hO hsh B
      by_cases hlt : k < n
      · have hkl : k < ls.length := by rw [← HN.out]; exact hlt
        obtain ⟨b, o, rfl, hc⟩ := HP1.out (by intro e; rw [e] at hkl; simp at hkl)
        obtain ⟨u, hu, hU⟩ := hc k hkl
        have hu1 : wr.cell? ⟨b, o + k, none⟩ = some u := (HBB.out.cell (p := ⟨b, o + k, none⟩) (block_lt_of_cell hu)).trans hu
        have hU1 := Lib.hid (hU.keep HBB.out)
        have hLF := Lib.hid (flat_bound _ _ HSH.out)
        have hTL : Hid ((ls.take k).length ≤ 20) := Lib.hid (by rw [List.length_take]; omega)
        have hstep := Lib.hid (flat_step hkl)
        have htk := Lib.hid (@take_short ls k 300 hkl HSH.out)
        obtain ⟨lk, hlk⟩ : ∃ lk, lk = ls.getD k [] := ⟨_, rfl⟩
        rw [← hlk] at hU1 hstep htk
        clear hlk hc hu hU hkl
        have hsh := (BytesAt.shape hU1.out)
        obtain ⟨xu, cu, rfl⟩ := hsh
        by_cases hL : 300 < lk.length
        · have hL' : (300 : Int) < (lk.length : Int) := by omega
          go_wp2_with fail
          go_ret
          exact ⟨rfl, below_next BZ.out HBB.out⟩
        · have hL' : ¬ (300 : Int) < (lk.length : Int) := by omega
          go_wp2_with (at_builtin; refine wpList_append_u8 rfl (.tmp 26) (.tmp 27) rfl w1.heap.size _ (ls.take k).flatten rfl HO.out _ lk rfl hU1.out (by have := hLF.out; have := hTL.out; omega) (HBB.out.size) (fun v' w4 hown' hbel => ?_))
          go_roundg (n - (k + 1))
          case measure => have := HG.out; omega
          case rel => exact ⟨k + 1, rfl, by omega, by go_num, htk.out (by omega), by rw [hstep.out]; exact hown', hbel _ _ (Nat.le_refl _) HBB.out⟩
      · obtain rfl : k = n := by omega
        have et : ls.take k = ls := List.take_of_length_le (by rw [HN.out]; exact Nat.le_refl _)
        rw [et] at HO HSH
        clear et hlt HG hk
        have hLF := Lib.hid (flat_bound _ _ HSH.out)
        have HLL : Hid (ls.flatten.length ≤ 6000) := Lib.hid (by have := hLF.out; have := HN.out; omega)
        have HFB : Hid (∀ y ∈ ls.flatten, y < 256) := Lib.hid fun y hy => by
          obtain ⟨l, hl, hyl⟩ := List.mem_flatten.1 hy
          exact HB.out l hl y hyl
        clear hLF HSH
        obtain ⟨q, hq⟩ : ∃ q, q = ls.flatten := ⟨_, rfl⟩
        rw [← hq] at HO HLL HFB
        have c1 := Lib.hid fun (V : World) (hb : Below w1.heap.size w1 V) => sum_any x cap ls (by rw [← hq]; exact HFB.out) (by rw [← hq]; have := HLL.out; omega) (by have := HN.out; omega) V (HP1.out.keep hb)
        have c2 := Lib.hid fun (V : World) (hb : Below w1.heap.size w1 V) => twice_any x cap ls (by rw [← hq]; exact HFB.out) (by rw [← hq]; have := HLL.out; omega) (by have := HN.out; omega) V (HP1.out.keep hb)
        rw [← hq, ← HN.out] at c1 c2
        have HQ := Lib.hid hq
        clear hq
        obtain ⟨X, hX⟩ : ∃ X, X = sha q := ⟨_, rfl⟩
        obtain ⟨Y, hY⟩ : ∃ Y, Y = tw q := ⟨_, rfl⟩
        have QX : Hid (∀ W, (Op.equalIn 10000 25 (iv X) (iv X)).run Try.prog W = .ok true W) := Lib.hid (by rw [hX]; exact eq_self _ (sha_lt q))
        have QY : Hid (∀ W, (Op.equalIn 10000 25 (iv Y) (iv Y)).run Try.prog W = .ok true W) := Lib.hid (by rw [hY]; exact eq_self _ (tw_lt q))
        rw [← hX] at c1
        rw [← hY] at c2
        have HX := Lib.hid hX; have HY := Lib.hid hY
        clear hX hY
        obtain ⟨x3, c3, rfl⟩ := HO.out.shape
        obtain ⟨m, hm⟩ : ∃ m, m = q.length := ⟨_, rfl⟩
        rw [← hm] at HO
        rw [← hm]
        have HM := Lib.hid hm
        clear hm
        obtain ⟨sq, hsq⟩ : ∃ sq, sq = str q := ⟨_, rfl⟩
        have hcv := run_str_own HO.out
        rw [← hsq] at hcv
        have HSQ := Lib.hid hsq
        clear hsq
        go_wp2_with fail
        clear hcv
        refine (c1.out _ HBB.out).mono ?_
        rintro e w2 ⟨rfl, hb2⟩
        have B2 := below_next HBB.out hb2
        have HO2 := Lib.hid (HO.out.keep hb2)
        clear hb2 HBB HO c1
        go_wp2_with fail
        refine (c2.out _ B2).mono ?_
        rintro e w4 ⟨rfl, hb4⟩
        have B4 := below_next B2 hb4
        have HO4 := Lib.hid (HO2.out.keep hb4)
        clear hb4 B2 HO2 c2
        have ei := iblk_lit
        have A2 := Lib.hid (alloc2 w4 (iblk 0) (iblk 0))
        have BB : Below w1.heap.size w1 ((w4.alloc (iblk 0)).alloc (iblk 0)) := below_alloc (below_alloc B4 _) _
        go_wp2_with (first | (refine wpList_store_id rfl (.tmp 7) (.tmp 33) rfl w4.heap.size 0 X rfl rfl A2.out.1 (fun w5 h1 h2 h3 h4 => ?_); have K4 := Lib.hid h1; have K5 := Lib.hid ((h2 (w4.heap.size + 1) (by omega)).trans A2.out.2); have B5 := h4 w1.heap.size w1 B4.size BB; have H2 := Lib.hid h2; clear h1 h2 h3 h4) | (refine wpList_store_id rfl (.tmp 8) (.tmp 35) rfl (w4.heap.size + 1) 0 Y rfl rfl K5.out (fun w6 h1 h2 h3 h4 => ?_); have K6 := Lib.hid h1; have K4' := Lib.hid ((h2 w4.heap.size (by omega)).trans K4.out); have B6 := h4 w1.heap.size w1 (by have := B4.size; omega) B5; have H6 := Lib.hid h2; clear h1 h2 h3 h4))
        have HO6 := Lib.hid (HO4.out.keepB (w' := w6) fun b hb => by
          rw [H6.out b (by omega), H2.out b (by omega), Below.heap_alloc _ _ b (by simp; omega), Below.heap_alloc _ _ b hb])
        obtain ⟨ga, hga⟩ : ∃ ga, ga = w4.heap.size := ⟨_, rfl⟩
        rw [← hga] at K6 K4'
        rw [← hga]
        clear hga H6 H2 HO4 B5 BB A2 ei B4 K4 K5
        obtain ⟨W, hW⟩ : ∃ W, W = w6 := ⟨_, rfl⟩
        rw [← hW] at K6 K4' B6 HO6
        rw [← hW]
        clear hW
        have KA := K4'; have KC := K6; have HO3 := HO6
        clear K4' K6 HO6
        have HPW := Lib.hid (HP1.out.keep B6)
        have BF := Lib.hid (below_next BZ.out B6)
        clear HP1 BZ B6
        go_loopg [9, 38] k (fun g sv ix wr => ∃ j : Nat, g = k - j ∧ j ≤ k ∧ ix = .int .i64 j ∧ Owns wr W.heap.size sv (ls.take j).flatten ∧ Below W.heap.size W wr)
        case atStart => exact ⟨0, rfl, by omega, rfl, by rw [List.take_zero, List.flatten_nil]; exact Owns.nil _ _, Below.refl _ _⟩
        case round =>
          obtain ⟨j, hg, hj, rfl, hO, B⟩ := hrel
          have HG := Lib.hid hg; have HO := Lib.hid hO; have HBB := Lib.hid B
          clear hg hO B
          by_cases hlt : j < k
          · have hkl : j < ls.length := by rw [← HN.out]; exact hlt
            obtain ⟨b, o, rfl, hc⟩ := HPW.out (by intro e; rw [e] at hkl; simp at hkl)
            obtain ⟨u, hu, hU⟩ := hc j hkl
            have hu1 : wr.cell? ⟨b, o + j, none⟩ = some u := (HBB.out.cell (p := ⟨b, o + j, none⟩) (block_lt_of_cell hu)).trans hu
            have hU1 := Lib.hid (hU.keep HBB.out)
            have hstep := Lib.hid (flat_step hkl)
            have hle : Hid ((ls.take j).flatten.length + (ls.getD j []).length ≤ 1000000) := Lib.hid (by
              have h1 := flat_le ls (j + 1); have h2 := HLL.out
              rw [HQ.out] at h2
              rw [hstep.out, List.length_append] at h1; omega)
            obtain ⟨lk, hlk⟩ : ∃ lk, lk = ls.getD j [] := ⟨_, rfl⟩
            rw [← hlk] at hU1 hstep hle
            clear hlk hc hu hU hkl
            obtain ⟨xu, cu, rfl⟩ := (BytesAt.shape hU1.out)
            go_wp2_with (at_builtin; refine wpList_append_u8 rfl (.tmp 42) (.tmp 43) rfl W.heap.size _ (ls.take j).flatten rfl HO.out _ lk rfl hU1.out hle.out (HBB.out.size) (fun v' w4 hown' hbel => ?_))
            go_roundg (k - (j + 1))
            case measure => have := HG.out; omega
            case rel => exact ⟨j + 1, rfl, by omega, by go_num, by rw [hstep.out]; exact hown', hbel _ _ (Nat.le_refl _) HBB.out⟩
          · obtain rfl : j = k := by omega
            have et : ls.take j = ls := List.take_of_length_le (by rw [HN.out]; exact Nat.le_refl _)
            rw [et, ← HQ.out] at HO
            clear et hlt HG hj
            obtain ⟨x9, c9, rfl⟩ := HO.out.shape
            rw [← HM.out] at HO
            rw [← HM.out]
            have HO3' := Lib.hid (HO3.out.keep HBB.out)
            have KA' := Lib.hid (below_keep HBB.out KA.out); have KC' := Lib.hid (below_keep HBB.out KC.out)
            have BF' := Lib.hid (below_next BF.out HBB.out)
            clear HO3 KA KC BF HBB
            obtain ⟨V, hV⟩ : ∃ V, V = wr := ⟨_, rfl⟩
            rw [← hV] at HO HO3' KA' KC' BF'
            rw [← hV]
            clear hV
            have KA := KA'; have KC := KC'; have BF := BF'
            clear KA' KC' BF'
            have cs1 := Lib.hid fun (V1 : World) g (hg : V1.heap[g]? = some (.cells #[.slice x3 m c3] 22 (0, 0))) (hb : Below V.heap.size V V1) => sum_one _ q g 22 1 V1 hg (HO3'.out.bytes' HM.out.symm hb) HFB.out (by have := HLL.out; omega)
            have ct1 := Lib.hid fun (V1 : World) g (hg : V1.heap[g]? = some (.cells #[.slice x3 m c3] 22 (0, 0))) (hb : Below V.heap.size V V1) => twice_one _ q g 22 1 V1 hg (HO3'.out.bytes' HM.out.symm hb) HFB.out (by have := HLL.out; omega)
            have cv := Lib.hid fun (V1 : World) (hb : Below V.heap.size V V1) => run_str_own (HO.out.keep hb)
            rw [← HX.out] at cs1
            rw [← HY.out] at ct1
            rw [← HSQ.out] at cv
            have qx := QX.out; have qy := QY.out
            go_wp2_with fail
            clear HX HY HSQ HO HO3' HFB HLL HM HQ HN HB HPW h3 h3' HW QX QY
            refine wp_region_by [Is (iv X), Is (.slice x3 m c3), RowOf #[.slice x3 m c3] 22 1 1, Is (iv X), Is (.bool true), Is (.bool true), Is (iv Y), Is (.slice x3 m c3), RowOf #[.slice x3 m c3] 22 1 1, Is (iv Y), Is (.bool true), Is (.bool true), Is (.bool true), Is (.slice x9 m c9), Is (.string sq), Is (.string sq), Is (.bool true), Is (.bool true), Is (.bool true)] [[], [], [(1, some 47)], [(2, some 48)], [(0, some 46), (3, some 49)], [(4, some 50)], [(5, some 51)], [(5, some 51)], [(5, some 51), (7, some 53)], [(5, some 51), (8, some 54)], [(5, some 51), (6, some 52), (9, some 55)], [(5, some 51), (10, some 56)], [(11, some 57)], [(12, some 58)], [(12, some 58), (13, some 59)], [(12, some 58)], [(12, some 58), (14, some 60), (15, some 61)], [(12, some 58), (16, some 62)], [(17, some 63)]] [(0, some 46), (1, some 47), (2, some 48), (3, some 49), (4, some 50), (5, some 51), (6, some 52), (7, some 53), (8, some 54), (9, some 55), (10, some 56), (11, some 57), (12, some 58), (13, some 59), (14, some 60), (15, some 61), (16, some 62), (17, some 63), (18, some 2)] [0, 0, 2, 6, 15, 31, 63, 63, 191, 447, 1023, 2047, 4095, 8191, 16383, 8191, 65535, 131071, 262143]
              (by kernel_rfl) (by kernel_rfl) (by kernel_rfl) (by kernel_rfl) ⟨Is.kept _, Is.kept _, RowOf.kept _ _ _ _, Is.kept _, Is.kept _, Is.kept _, Is.kept _, Is.kept _, RowOf.kept _ _ _ _, Is.kept _, Is.kept _, Is.kept _, Is.kept _, Is.kept _, Is.kept _, Is.kept _, Is.kept _, Is.kept _, Is.kept _, trivial⟩ ⟨?_, ?_, ?_, ?_, ?_, ?_, ?_, ?_, ?_, ?_, ?_, ?_, ?_, ?_, ?_, ?_, ?_, ?_, ?_, trivial⟩ ?_
            · as_aux_lemma =>
              refine fun w' hB => ?_
              show wpList _ _ _ _ _ _
              go_wp2_with (first | refine wpList_load_id rfl (.tmp 7) rfl ga X rfl (block_keep hB KA.out) ?_)
              exact ⟨iv X, rfl, rfl, Below.refl _ _⟩
            · as_aux_lemma =>
              refine fun w' hB => ?_
              show wpList _ _ _ _ _ _
              go_wp2_with fail
              exact ⟨.slice x3 m c3, rfl, rfl, Below.refl _ _⟩
            · as_aux_lemma =>
              refine fun w' hB v1 h1 => ?_
              obtain rfl := h1
              show wpList _ _ _ _ _ _
              go_wp2_with fail
              exact ⟨_, rfl, ⟨_, rfl, heap_new _ _⟩, below_alloc (Below.refl _ _) _⟩
            · as_aux_lemma =>
              refine fun w' hB v2 h2 => ?_
              obtain ⟨g2, rfl, hg2⟩ := h2
              show wpList _ _ _ _ _ _
              go_wp2_with fail
              refine (cs1.out _ _ hg2 hB).mono ?_
              rintro e w2 ⟨rfl, hb2⟩
              go_wp2_with fail
              exact ⟨iv X, rfl, rfl, hb2⟩
            · as_aux_lemma =>
              refine fun w' hB v0 h0 v3 h3 => ?_
              obtain rfl := h0
              obtain rfl := h3
              show wpList _ _ _ _ _ _
              go_wp2_with fail
              exact ⟨.bool true, rfl, rfl, Below.refl _ _⟩
            · as_aux_lemma =>
              refine fun w' hB v4 h4 => ?_
              obtain rfl := h4
              show wpList _ _ _ _ _ _
              go_wp2_with fail
              exact ⟨.bool true, rfl, rfl, Below.refl _ _⟩
            · as_aux_lemma =>
              refine fun w' hB v5 h5 => ?_
              obtain rfl := h5
              show wpList _ _ _ _ _ _
              refine wpList_unguard rfl ?_
              go_wp2_with (first | refine wpList_load_id rfl (.tmp 8) rfl (ga + 1) Y rfl (block_keep hB KC.out) ?_)
              exact ⟨iv Y, rfl, rfl, Below.refl _ _⟩
            · as_aux_lemma =>
              refine fun w' hB v5 h5 => ?_
              obtain rfl := h5
              show wpList _ _ _ _ _ _
              go_wp2_with fail
              exact ⟨.slice x3 m c3, rfl, rfl, Below.refl _ _⟩
            · as_aux_lemma =>
              refine fun w' hB v5 h5 v7 h7 => ?_
              obtain rfl := h5
              obtain rfl := h7
              show wpList _ _ _ _ _ _
              go_wp2_with fail
              exact ⟨_, rfl, ⟨_, rfl, heap_new _ _⟩, below_alloc (Below.refl _ _) _⟩
            · as_aux_lemma =>
              refine fun w' hB v5 h5 v8 h8 => ?_
              obtain rfl := h5
              obtain ⟨g8, rfl, hg8⟩ := h8
              show wpList _ _ _ _ _ _
              go_wp2_with fail
              refine (ct1.out _ _ hg8 hB).mono ?_
              rintro e w2 ⟨rfl, hb2⟩
              go_wp2_with fail
              exact ⟨iv Y, rfl, rfl, hb2⟩
            · as_aux_lemma =>
              refine fun w' hB v5 h5 v6 h6 v9 h9 => ?_
              obtain rfl := h5
              obtain rfl := h6
              obtain rfl := h9
              show wpList _ _ _ _ _ _
              go_wp2_with fail
              exact ⟨.bool true, rfl, rfl, Below.refl _ _⟩
            · as_aux_lemma =>
              refine fun w' hB v5 h5 v10 h10 => ?_
              obtain rfl := h5
              obtain rfl := h10
              show wpList _ _ _ _ _ _
              go_wp2_with fail
              exact ⟨.bool true, rfl, rfl, Below.refl _ _⟩
            · as_aux_lemma =>
              refine fun w' hB v11 h11 => ?_
              obtain rfl := h11
              show wpList _ _ _ _ _ _
              go_wp2_with fail
              exact ⟨.bool true, rfl, rfl, Below.refl _ _⟩
            · as_aux_lemma =>
              refine fun w' hB v12 h12 => ?_
              obtain rfl := h12
              show wpList _ _ _ _ _ _
              go_wp2_with fail
              exact ⟨.slice x9 m c9, rfl, rfl, Below.refl _ _⟩
            · as_aux_lemma =>
              refine fun w' hB v12 h12 v13 h13 => ?_
              obtain rfl := h12
              obtain rfl := h13
              show wpList _ _ _ _ _ _
              have hcv := cv.out w' hB
              go_wp2_with fail
              exact ⟨.string sq, rfl, rfl, Below.refl _ _⟩
            · as_aux_lemma =>
              refine fun w' hB v12 h12 => ?_
              obtain rfl := h12
              show wpList _ _ _ _ _ _
              go_wp2_with fail
              exact ⟨.string sq, rfl, rfl, Below.refl _ _⟩
            · as_aux_lemma =>
              refine fun w' hB v12 h12 v14 h14 v15 h15 => ?_
              obtain rfl := h12
              obtain rfl := h14
              obtain rfl := h15
              show wpList _ _ _ _ _ _
              go_wp2_with fail
              exact ⟨.bool true, rfl, rfl, Below.refl _ _⟩
            · as_aux_lemma =>
              refine fun w' hB v12 h12 v16 h16 => ?_
              obtain rfl := h12
              obtain rfl := h16
              show wpList _ _ _ _ _ _
              go_wp2_with fail
              exact ⟨.bool true, rfl, rfl, Below.refl _ _⟩
            · as_aux_lemma =>
              refine fun w' hB v17 h17 => ?_
              obtain rfl := h17
              show wpList _ _ _ _ _ _
              go_wp2_with fail
              exact ⟨.bool true, rfl, rfl, Below.refl _ _⟩
            · refine fun w' hB v0 h0 v1 h1 v2 h2 v3 h3 v4 h4 v5 h5 v6 h6 v7 h7 v8 h8 v9 h9 v10 h10 v11 h11 v12 h12 v13 h13 v14 h14 v15 h15 v16 h16 v17 h17 v18 h18 => ?_
              obtain rfl := h18
              simp only [onP]
              go_simp
              clear h0 h1 h2 h3 h4 h5 h6 h7 h8 h9 h10 h11 h12 h13 h14 h15 h16 h17
              go_wp2_with fail
              go_ret
              exact ⟨rfl, below_next BF.out hB⟩

set_option maxRecDepth 100000 in
theorem HashParts_lifted (os : Os) (started : os.Started) (H : Type) (enc : TypeId × Value → H) :
    ReturnsInHanded {} Try.checked os 4 .any (Rows.hashPartsSpec.pre6 enc Try.prog Try.f4 Rows.hashPartsRow.domain false) (Rows.hashPartsSpec.post enc Try.prog Try.f4 false true false false) := by
  refine returnsInHanded_of_change (C := Try.checked) own started (by kernel_rfl) Try.func4
    (ChangeSpec.witness6 (enc := enc) (C := Try.checked) false ⟨#[], #[.slice none 0 0], []⟩ 8 (by kernel_rfl) (by kernel_rfl) (by kernel_rfl) (by kernel_rfl)) ?_
  intro W base args ds gs before hval0 hW hcnd _
  have hval : ∀ (j : Nat) t v, Try.f4.params[j]? = some t → args[j]? = some v → Value.okWide Try.prog W .any base t v := hval0
  have hW' := hW
  obtain ⟨p, q, hA0, hV, rfl, hfz, hnd⟩ := hW
  have hA : DataW.TrodAll enc Try.prog W 0 (fun _ => true) true Try.f4.params.toList args.toList ds p := hA0
  rw [Try.params4] at hA hval
  obtain ⟨v0, vs0, d0, ds0, p0, q0, hargs, rfl, rfl, h0, r0⟩ := trodAll_cons hA
  obtain ⟨rfl, rfl, rfl⟩ := trodAll_nil r0
  obtain rfl : args = #[v0] := by cases args; simp_all
  obtain ⟨rfl, rfl⟩ := trodVars_none hV
  have k0 := h0
  have lt0 := trod_lt_of h0
  obtain ⟨a0, cap0, l0, b0, rfl, c0⟩ := open_parts (hval 0 29 v0 rfl rfl) h0
  clear hA0 hval0
  refine (HashParts_walk a0 cap0 l0 b0 W c0).mono fun e W' ⟨he, bel⟩ => ?_
  subst he
  exact ⟨_, rfl, _, _, _, [], _, [], hW', trodAll_mk1 (shut_bool (by kernel_rfl) _), (trodAll_cons_mk (Below.trod laidOut (by kernel_rfl) (of_decide_eq_true (by kernel_rfl)) k0 bel lt0) trodAll_mk0), rfl, bel.frame _, fun h => by cases h⟩

theorem HashParts_closed : joinedFacts Try.prog 4 Try.f4 Rows.hashPartsSpec Rows.hashPartsRow = true := by
  simp only [joinedFacts, Bool.and_eq_true]
  repeat' apply And.intro
  all_goals first
    | (with_reducible exact head_enter)
    | (rw [head_make]; kernel_rfl)
    | (rw [head_lift]; kernel_rfl)
    | kernel_rfl

theorem HashParts_holds : Rows.HashPartsSaid :=
  OpenClaim.holds_of_wide 4 Try.f4 rfl rfl rfl rfl rfl rfl rfl ⟨rfl, rfl, rfl, rfl, rfl⟩ rfl rfl rfl rfl rfl (by kernel_rfl) Try.func4 HashParts_closed
    (of_decide_eq_true (by kernel_rfl)) (by unfold Func.isWrapper; rw [if_neg (of_decide_eq_false (by kernel_rfl))]; exact ⟨rfl, rfl⟩)
    (fun os started H enc _ => HashParts_lifted os started H enc)
end Go.Proofs.Ytfopockjakeplaa
