/- The law HeadBytes: any header's bytes and its name are the document's; read they are that header; bytes of another length are none. No condition. -/
import Derived.Test.YtnbppbnjkmopeaaHr1
import Derived.Test.YtnbppbnjkmopeaaHdM
import Derived.Test.YtnbppbnjkmopeaaHdB
import Derived.Test.YtnbppbnjkmopeaaOpenBytes
import Derived.Test.YtnbppbnjkmopeaaHead
namespace Go.Proofs.Ytnbppbnjkmopeaa
open Go.ChangeShapes Go.WideShapes Go.ChangeAt Go.RowKit

set_option maxRecDepth 100000 in
set_option maxHeartbeats 4000000 in
theorem HeadBytes_walk (h : Hd) (hk : h.ok) (v : Value) (l : List Nat) (hl : ∀ y ∈ l, y < 256) (w : World) (hv : BytesIn w v l) :
    Calls Try.prog 3 #[hdv h, v] w fun e w' => e = .returned (.bool true) ∧ Below w.heap.size w w' := by
  have HV0 := Lib.hid hv
  have HL := Lib.hid hl
  have HK := Lib.hid hk
  obtain ⟨x, c, rfl⟩ := hv.shape
  clear hv hl hk
  obtain ⟨n, hn⟩ : ∃ n, n = l.length := ⟨_, rfl⟩
  rw [← hn]
  have HN := Lib.hid hn
  rw [← hn] at HV0
  clear hn
  have K := Lib.hid (heap_new w (hdblk h))
  have B : Hid (Below w.heap.size w (w.alloc (hdblk h))) := Lib.hid (below_alloc (Below.refl _ _) _)
  have ez : Try.zeroCells26 = (hdcs hd0).toArray := hdz
  go_enter Try.func3, Try.ntmps3
  go_wp2_with fail
  refine (reads_any _).mono ?_
  rintro e w1 ⟨rfl, hb⟩
  have K1 := Lib.hid (block_keep hb K.out); have B1 := Lib.hid (below_next B.out hb)
  clear hb K B
  by_cases h5 : 500 < n
  · have h5' : (500 : Int) < (n : Int) := by omega
    go_wp2_with fail
    go_ret
    exact ⟨rfl, B1.out⟩
  have h5' : ¬ (500 : Int) < (n : Int) := by omega
  have hn5 : n ≤ 500 := by omega
  clear h5
  have c1 := Lib.hid fun W => bytes_any h HK.out W
  go_wp2_with (first | refine wpList_load_hd rfl (.tmp 2) rfl w.heap.size h rfl K1.out ?_)
  refine (c1.out _).mono ?_
  rintro e w2 ⟨gb, rfl, hgb, hO, hb⟩
  have cr := Lib.hid (read_own h HK.out gb w2 hO)
  have OB2 := Lib.hid hO
  have K2a := Lib.hid (block_keep hb K1.out); have B2 := Lib.hid (below_next B1.out hb)
  clear hb hO K1 B1 c1
  go_wp2_with fail
  refine cr.out.mono ?_
  rintro e w3 ⟨rfl, hb⟩
  have K3 := Lib.hid (keep_alloc (hdblk hd0) (block_keep hb K2a.out)); have B3 := Lib.hid (below_alloc (below_next B2.out hb) (hdblk hd0)); have B23 := Lib.hid (below_alloc hb (hdblk hd0))
  have hw0 : w.heap.size < w3.heap.size := block_lt (block_keep hb K2a.out)
  have hw2 : w2.heap.size ≤ w3.heap.size := hb.size
  clear hb K2a B2 cr
  go_wp2_with (first | (refine wpList_store_hd rfl (.tmp 6) (.tmp 20) rfl w3.heap.size hd0 h rfl rfl (heap_new w3 _) (fun w4 h1 h2 h3 h4 => ?_); have K6 := Lib.hid h1; have K2 := Lib.hid ((h2 w.heap.size (by omega)).trans K3.out); have B4 := Lib.hid (h4 w.heap.size w (by omega) B3.out); have B24 := Lib.hid (h4 w2.heap.size w2 hw2 B23.out); clear h1 h2 h3 h4))
  obtain ⟨g6, hg6⟩ : ∃ g, g = w3.heap.size := ⟨_, rfl⟩
  rw [← hg6] at K6
  rw [← hg6]
  have OB := Lib.hid (OB2.out.keep B24.out)
  have cb := Lib.hid fun W => rbytes_any h HK.out W
  have ci := Lib.hid fun W => hid_any h HK.out W
  have ct := Lib.hid fun W => reftwice_any (hby h) (hby_byte h) (by rw [hby_len]; omega) W
  rw [show tw (hby h) = hdid h from rfl] at ct
  obtain ⟨D, hD⟩ : ∃ D, D = hdid h := ⟨_, rfl⟩
  have hDl : D < 2 ^ 256 := by rw [hD]; exact hdid_lt h
  have qD := eq_self D hDl
  have qh := eq_hd h h HK.out HK.out
  rw [hdeq_self] at qh
  rw [← hD] at ci ct
  obtain ⟨R, hR⟩ : ∃ R, R = str (hby h) := ⟨_, rfl⟩
  rw [← hR] at cb ct
  have HR := Lib.hid hR
  clear hg6 hD hDl hR OB2 K3 B3 B23 B24 hw0 hw2
  refine wp_region_by [Is (.slice (some ⟨gb, 0, none⟩) 80 80), Is (.string R), Is (hdv h), Is (.string R), Is (.bool false), Is (.bool false), Is (.int .i64 0), Is (.bool false), Is (.bool false), Is (.bool false), Is (hdv h), Is (hdv h), Is (.bool false), Is (.bool false), Is (.bool false), Is (hdv h), Is (iv D), Is (.slice (some ⟨gb, 0, none⟩) 80 80), Is (.string R), Is (iv D), Is (.bool false), Is (.bool false)] [[], [(0, some 22)], [], [(2, some 24)], [(1, some 23), (3, some 25)], [(4, some 26)], [(5, some 27)], [(5, some 27), (6, some 28)], [(5, some 27), (7, some 29)], [(8, some 30)], [(9, some 31)], [(9, some 31)], [(9, some 31), (10, some 32), (11, some 33)], [(9, some 31), (12, some 34)], [(13, some 35)], [(14, some 36)], [(14, some 36), (15, some 37)], [(14, some 36)], [(14, some 36), (17, some 39)], [(14, some 36), (18, some 40)], [(14, some 36), (16, some 38), (19, some 41)], [(14, some 36), (20, some 42)]] [(0, some 22), (1, some 23), (2, some 24), (3, some 25), (4, some 26), (5, some 27), (6, some 28), (7, some 29), (8, some 30), (9, some 31), (10, some 32), (11, some 33), (12, some 34), (13, some 35), (14, some 36), (15, some 37), (16, some 38), (17, some 39), (18, some 40), (19, some 41), (20, some 42), (21, some 43)] [0, 1, 0, 4, 15, 31, 63, 127, 255, 511, 1023, 1023, 4095, 8191, 16383, 32767, 65535, 32767, 163839, 524287, 1048575, 2097151]
    (by kernel_rfl) (by kernel_rfl) (by kernel_rfl) (by kernel_rfl) ⟨Is.kept _, Is.kept _, Is.kept _, Is.kept _, Is.kept _, Is.kept _, Is.kept _, Is.kept _, Is.kept _, Is.kept _, Is.kept _, Is.kept _, Is.kept _, Is.kept _, Is.kept _, Is.kept _, Is.kept _, Is.kept _, Is.kept _, Is.kept _, Is.kept _, Is.kept _, trivial⟩ ⟨?_, ?_, ?_, ?_, ?_, ?_, ?_, ?_, ?_, ?_, ?_, ?_, ?_, ?_, ?_, ?_, ?_, ?_, ?_, ?_, ?_, ?_, trivial⟩ ?_
  · as_aux_lemma =>
    refine fun w' hB => ?_
    show wpList _ _ _ _ _ _
    go_wp2_with fail
    exact ⟨.slice (some ⟨gb, 0, none⟩) 80 80, by first | rfl | (go_simp; done), rfl, Below.refl _ _⟩
  · as_aux_lemma =>
    refine fun w' hB v0 h0 => ?_
    obtain rfl := h0
    show wpList _ _ _ _ _ _
    have hcv := run_str_own (OB.out.keep hB)
    rw [← HR.out] at hcv
    go_wp2_with fail
    exact ⟨_, rfl, rfl, Below.refl _ _⟩
  · as_aux_lemma =>
    refine fun w' hB => ?_
    show wpList _ _ _ _ _ _
    go_wp2_with (first | refine wpList_load_hd rfl (.tmp 2) rfl w.heap.size h rfl (block_keep hB K2.out) ?_)
    exact ⟨_, rfl, rfl, Below.refl _ _⟩
  · as_aux_lemma =>
    refine fun w' hB v2 h2 => ?_
    obtain rfl := h2
    show wpList _ _ _ _ _ _
    go_wp2_with fail
    refine (cb.out w').mono ?_
    rintro e w2 ⟨rfl, hb2⟩
    go_wp2_with fail
    exact ⟨.string R, by first | rfl | (go_simp; done), rfl, hb2⟩
  · as_aux_lemma =>
    refine fun w' hB v1 h1 v3 h3 => ?_
    obtain rfl := h1
    obtain rfl := h3
    show wpList _ _ _ _ _ _
    go_wp2_with fail
    exact ⟨.bool false, by first | rfl | (go_simp; done), rfl, Below.refl _ _⟩
  · as_aux_lemma =>
    refine fun w' hB v4 h4 => ?_
    obtain rfl := h4
    show wpList _ _ _ _ _ _
    go_wp2_with fail
    exact ⟨.bool false, by first | rfl | (go_simp; done), rfl, Below.refl _ _⟩
  · as_aux_lemma =>
    refine fun w' hB v5 h5 => ?_
    obtain rfl := h5
    show wpList _ _ _ _ _ _
    go_wp2_with fail
    exact ⟨.int .i64 0, by first | rfl | (go_simp; done), rfl, Below.refl _ _⟩
  · as_aux_lemma =>
    refine fun w' hB v5 h5 v6 h6 => ?_
    obtain rfl := h5
    obtain rfl := h6
    show wpList _ _ _ _ _ _
    go_wp2_with fail
    exact ⟨.bool false, by first | rfl | (go_simp; done), rfl, Below.refl _ _⟩
  · as_aux_lemma =>
    refine fun w' hB v5 h5 v7 h7 => ?_
    obtain rfl := h5
    obtain rfl := h7
    show wpList _ _ _ _ _ _
    go_wp2_with fail
    exact ⟨.bool false, by first | rfl | (go_simp; done), rfl, Below.refl _ _⟩
  · as_aux_lemma =>
    refine fun w' hB v8 h8 => ?_
    obtain rfl := h8
    show wpList _ _ _ _ _ _
    go_wp2_with fail
    exact ⟨.bool false, by first | rfl | (go_simp; done), rfl, Below.refl _ _⟩
  · as_aux_lemma =>
    refine fun w' hB v9 h9 => ?_
    obtain rfl := h9
    show wpList _ _ _ _ _ _
    refine wpList_unguard rfl ?_
    go_wp2_with (first | refine wpList_load_hd rfl (.tmp 6) rfl g6 h rfl (block_keep hB K6.out) ?_)
    exact ⟨_, rfl, rfl, Below.refl _ _⟩
  · as_aux_lemma =>
    refine fun w' hB v9 h9 => ?_
    obtain rfl := h9
    show wpList _ _ _ _ _ _
    refine wpList_unguard rfl ?_
    go_wp2_with (first | refine wpList_load_hd rfl (.tmp 2) rfl w.heap.size h rfl (block_keep hB K2.out) ?_)
    exact ⟨_, rfl, rfl, Below.refl _ _⟩
  · as_aux_lemma =>
    refine fun w' hB v9 h9 v10 h10 v11 h11 => ?_
    obtain rfl := h9
    obtain rfl := h10
    obtain rfl := h11
    show wpList _ _ _ _ _ _
    go_wp2_with fail
    exact ⟨.bool false, by first | rfl | (go_simp; done), rfl, Below.refl _ _⟩
  · as_aux_lemma =>
    refine fun w' hB v9 h9 v12 h12 => ?_
    obtain rfl := h9
    obtain rfl := h12
    show wpList _ _ _ _ _ _
    go_wp2_with fail
    exact ⟨.bool false, by first | rfl | (go_simp; done), rfl, Below.refl _ _⟩
  · as_aux_lemma =>
    refine fun w' hB v13 h13 => ?_
    obtain rfl := h13
    show wpList _ _ _ _ _ _
    go_wp2_with fail
    exact ⟨.bool false, by first | rfl | (go_simp; done), rfl, Below.refl _ _⟩
  · as_aux_lemma =>
    refine fun w' hB v14 h14 => ?_
    obtain rfl := h14
    show wpList _ _ _ _ _ _
    refine wpList_unguard rfl ?_
    go_wp2_with (first | refine wpList_load_hd rfl (.tmp 2) rfl w.heap.size h rfl (block_keep hB K2.out) ?_)
    exact ⟨_, rfl, rfl, Below.refl _ _⟩
  · as_aux_lemma =>
    refine fun w' hB v14 h14 v15 h15 => ?_
    obtain rfl := h14
    obtain rfl := h15
    show wpList _ _ _ _ _ _
    go_wp2_with fail
    refine (ci.out w').mono ?_
    rintro e w2 ⟨rfl, hb2⟩
    go_wp2_with fail
    exact ⟨iv D, by first | rfl | (go_simp; done), rfl, hb2⟩
  · as_aux_lemma =>
    refine fun w' hB v14 h14 => ?_
    obtain rfl := h14
    show wpList _ _ _ _ _ _
    go_wp2_with fail
    exact ⟨.slice (some ⟨gb, 0, none⟩) 80 80, by first | rfl | (go_simp; done), rfl, Below.refl _ _⟩
  · as_aux_lemma =>
    refine fun w' hB v14 h14 v17 h17 => ?_
    obtain rfl := h14
    obtain rfl := h17
    show wpList _ _ _ _ _ _
    have hcv := run_str_own (OB.out.keep hB)
    rw [← HR.out] at hcv
    go_wp2_with fail
    exact ⟨_, rfl, rfl, Below.refl _ _⟩
  · as_aux_lemma =>
    refine fun w' hB v14 h14 v18 h18 => ?_
    obtain rfl := h14
    obtain rfl := h18
    show wpList _ _ _ _ _ _
    go_wp2_with fail
    refine (ct.out w').mono ?_
    rintro e w2 ⟨rfl, hb2⟩
    go_wp2_with fail
    exact ⟨iv D, by first | rfl | (go_simp; done), rfl, hb2⟩
  · as_aux_lemma =>
    refine fun w' hB v14 h14 v16 h16 v19 h19 => ?_
    obtain rfl := h14
    obtain rfl := h16
    obtain rfl := h19
    show wpList _ _ _ _ _ _
    go_wp2_with fail
    exact ⟨.bool false, by first | rfl | (go_simp; done), rfl, Below.refl _ _⟩
  · as_aux_lemma =>
    refine fun w' hB v14 h14 v20 h20 => ?_
    obtain rfl := h14
    obtain rfl := h20
    show wpList _ _ _ _ _ _
    go_wp2_with fail
    exact ⟨.bool false, by first | rfl | (go_simp; done), rfl, Below.refl _ _⟩
  · refine fun w' hB v0 h0 v1 h1 v2 h2 v3 h3 v4 h4 v5 h5 v6 h6 v7 h7 v8 h8 v9 h9 v10 h10 v11 h11 v12 h12 v13 h13 v14 h14 v15 h15 v16 h16 v17 h17 v18 h18 v19 h19 v20 h20 v21 h21 => ?_
    obtain rfl := h21
    simp only [onP]
    go_simp
    clear h0 h1 h2 h3 h4 h5 h6 h7 h8 h9 h10 h11 h12 h13 h14 h15 h16 h17 h18 h19 h20
    have B5 := Lib.hid (below_next B4.out hB)
    clear hB K6 K2 OB B4 cb ci ct qD qh HR
    go_wp2_with fail
    have HVc := Lib.hid (HV0.out.keep B5.out)
    by_cases h80 : n = 80
    case neg =>
      have h80' : ¬ (n : Int) = 80 := by omega
      have cn := Lib.hid fun W => read_no x n c h80 W
      have q0 := eq_hd hd0 hd0 hd0_ok hd0_ok
      rw [hdeq_self] at q0
      clear h80
      refine (cn.out _).mono ?_
      rintro e w6 ⟨rfl, hb⟩
      have B6 := Lib.hid (below_alloc (below_next B5.out hb) (hdblk hd0))
      have hw6 : w.heap.size ≤ w6.heap.size := by have := B5.out.size; have := hb.size; omega
      clear hb B5 cn
      go_wp2_with (first | (refine wpList_store_hd rfl (.tmp 8) (.tmp 47) rfl w6.heap.size hd0 hd0 rfl rfl (heap_new w6 _) (fun w7 h1 h2 h3 h4 => ?_); have K8 := Lib.hid h1; have B7 := Lib.hid (h4 w.heap.size w hw6 B6.out); clear h1 h2 h3 h4) | refine wpList_load_hd rfl (.tmp 8) rfl w6.heap.size hd0 rfl K8.out ?_ | (refine wpList_unguard rfl ?_; refine wpList_load_hd rfl (.tmp 8) rfl w6.heap.size hd0 rfl K8.out ?_))
      go_ret
      exact ⟨rfl, B7.out⟩
    case pos =>
      subst h80
      have hl80 := HN.out.symm
      obtain ⟨ga, oa, rfl, hc80, hcm, hcell⟩ : ∃ ga oa, x = some ⟨ga, oa, none⟩ ∧ 80 ≤ c ∧ c ≤ maxLen ∧ ∀ j, j < 80 → w'.cell? ⟨ga, oa + j, none⟩ = some (.int .u8 (l.getD j 0 : Nat)) := by
        rcases HVc.out with ⟨e, rfl⟩ | ⟨a, c', e, h1, h2, h3⟩
        · simp at hl80
        · obtain ⟨rfl, -, rfl⟩ := Value.slice.inj e
          obtain ⟨ab, ao, spot⟩ := a
          rw [hl80] at h3 h1
          have c0 := h3 0 (by omega)
          have hspot : spot = none := by simpa [Addr.add] using World.cell?_spot c0
          subst hspot
          exact ⟨ab, ao, rfl, h1, h2, fun j hj => by rw [← Addr.add_lit]; exact h3 j hj⟩
      have cy := Lib.hid (read_yes ga oa c l hl80 HL.out hc80 (by unfold maxLen at hcm; omega) w' hcell)
      have HV := Lib.hid HV0.out.at
      obtain ⟨H, hH⟩ : ∃ H, H = hdof l := ⟨_, rfl⟩
      have hHk : H.ok := by rw [hH]; exact hdof_ok hl80 HL.out
      have c2 := Lib.hid fun W => bytes_any H hHk W
      rw [show hby H = l by rw [hH]; exact hby_hdof hl80 HL.out] at c2
      rw [← hH] at cy
      obtain ⟨S, hS⟩ : ∃ S, S = str l := ⟨_, rfl⟩
      have HS := Lib.hid hS
      clear hl80 hcell hH hHk hS hcm
      refine cy.out.mono ?_
      rintro e w6 ⟨rfl, hb⟩
      have B6 := Lib.hid (below_alloc (below_next B5.out hb) (hdblk hd0))
      have hw6 : w.heap.size ≤ w6.heap.size := by have := B5.out.size; have := hb.size; omega
      clear hb B5 cy HVc
      go_wp2_with (first | (refine wpList_store_hd rfl (.tmp 8) (.tmp 47) rfl w6.heap.size hd0 H rfl rfl (heap_new w6 _) (fun w7 h1 h2 h3 h4 => ?_); have K8 := Lib.hid h1; have B8 := Lib.hid (h4 w.heap.size w hw6 B6.out); clear h1 h2 h3 h4))
      obtain ⟨g8, hg8⟩ : ∃ g, g = w6.heap.size := ⟨_, rfl⟩
      rw [← hg8] at K8
      rw [← hg8]
      clear hg8 B6
      refine wp_region_by [Is (.int .i64 0), Is (.bool true), Is (.bool true), Is (hdv H), (fun v V => ∃ g, v = .slice (some ⟨g, 0, none⟩) 80 80 ∧ Owns V g v l), Is (.string S), Is (.slice (some ⟨ga, oa, none⟩) 80 c), Is (.string S), Is (.bool true), Is (.bool true), Is (.bool true)] [[], [(0, some 59)], [(1, some 60)], [(2, some 61)], [(2, some 61), (3, some 62)], [(2, some 61), (4, some 63)], [(2, some 61)], [(2, some 61), (6, some 65)], [(2, some 61), (5, some 64), (7, some 66)], [(2, some 61), (8, some 67)], [(9, some 68)]] [(0, some 59), (1, some 60), (2, some 61), (3, some 62), (4, some 63), (5, some 64), (6, some 65), (7, some 66), (8, some 67), (9, some 68), (10, some 4)] [0, 1, 3, 7, 15, 31, 7, 71, 255, 511, 1023]
        (by kernel_rfl) (by kernel_rfl) (by kernel_rfl) (by kernel_rfl) ⟨Is.kept _, Is.kept _, Is.kept _, Is.kept _, (fun _ _ _ hb ⟨g, e, h⟩ => ⟨g, e, h.keep hb⟩), Is.kept _, Is.kept _, Is.kept _, Is.kept _, Is.kept _, Is.kept _, trivial⟩ ⟨?_, ?_, ?_, ?_, ?_, ?_, ?_, ?_, ?_, ?_, ?_, trivial⟩ ?_
      · as_aux_lemma =>
        refine fun w' hB => ?_
        show wpList _ _ _ _ _ _
        go_wp2_with fail
        exact ⟨.int .i64 0, by first | rfl | (go_simp; done), rfl, Below.refl _ _⟩
      · as_aux_lemma =>
        refine fun w' hB v0 h0 => ?_
        obtain rfl := h0
        show wpList _ _ _ _ _ _
        go_wp2_with fail
        exact ⟨.bool true, by first | rfl | (go_simp; done), rfl, Below.refl _ _⟩
      · as_aux_lemma =>
        refine fun w' hB v1 h1 => ?_
        obtain rfl := h1
        show wpList _ _ _ _ _ _
        go_wp2_with fail
        exact ⟨.bool true, by first | rfl | (go_simp; done), rfl, Below.refl _ _⟩
      · as_aux_lemma =>
        refine fun w' hB v2 h2 => ?_
        obtain rfl := h2
        show wpList _ _ _ _ _ _
        refine wpList_unguard rfl ?_
        go_wp2_with (first | refine wpList_load_hd rfl (.tmp 8) rfl g8 H rfl (block_keep hB K8.out) ?_)
        exact ⟨_, rfl, rfl, Below.refl _ _⟩
      · as_aux_lemma =>
        refine fun w' hB v2 h2 v3 h3 => ?_
        obtain rfl := h2
        obtain rfl := h3
        show wpList _ _ _ _ _ _
        go_wp2_with fail
        refine (c2.out w').mono ?_
        rintro e w9 ⟨g, rfl, hg, hO, hb⟩
        go_wp2_with fail
        exact ⟨_, rfl, ⟨g, rfl, hO⟩, hb⟩
      · as_aux_lemma =>
        refine fun w' hB v2 h2 v4 h4 => ?_
        obtain rfl := h2
        show wpList _ _ _ _ _ _
        obtain ⟨g, rfl, hO⟩ := h4
        have hcv := run_str_own hO
        rw [← HS.out] at hcv
        go_wp2_with fail
        exact ⟨_, rfl, rfl, Below.refl _ _⟩
      · as_aux_lemma =>
        refine fun w' hB v2 h2 => ?_
        obtain rfl := h2
        show wpList _ _ _ _ _ _
        go_wp2_with fail
        exact ⟨.slice (some ⟨ga, oa, none⟩) 80 c, by first | rfl | (go_simp; done), rfl, Below.refl _ _⟩
      · as_aux_lemma =>
        refine fun w' hB v2 h2 v6 h6 => ?_
        obtain rfl := h2
        obtain rfl := h6
        show wpList _ _ _ _ _ _
        have hcv := run_str_at (HV.out.keep (below_next B8.out hB))
        rw [← HS.out] at hcv
        go_wp2_with fail
        exact ⟨_, rfl, rfl, Below.refl _ _⟩
      · as_aux_lemma =>
        refine fun w' hB v2 h2 v5 h5 v7 h7 => ?_
        obtain rfl := h2
        obtain rfl := h5
        obtain rfl := h7
        show wpList _ _ _ _ _ _
        go_wp2_with fail
        exact ⟨.bool true, by first | rfl | (go_simp; done), rfl, Below.refl _ _⟩
      · as_aux_lemma =>
        refine fun w' hB v2 h2 v8 h8 => ?_
        obtain rfl := h2
        obtain rfl := h8
        show wpList _ _ _ _ _ _
        go_wp2_with fail
        exact ⟨.bool true, by first | rfl | (go_simp; done), rfl, Below.refl _ _⟩
      · as_aux_lemma =>
        refine fun w' hB v9 h9 => ?_
        obtain rfl := h9
        show wpList _ _ _ _ _ _
        go_wp2_with fail
        exact ⟨.bool true, by first | rfl | (go_simp; done), rfl, Below.refl _ _⟩
      · refine fun w' hB v0 h0 v1 h1 v2 h2 v3 h3 v4 h4 v5 h5 v6 h6 v7 h7 v8 h8 v9 h9 v10 h10 => ?_
        obtain rfl := h10
        simp only [onP]
        go_simp
        clear h0 h1 h2 h3 h4 h5 h6 h7 h8 h9
        have BZ := Lib.hid (below_next B8.out hB)
        clear hB
        go_wp2_with fail
        go_ret
        exact ⟨rfl, BZ.out⟩

set_option maxRecDepth 100000 in
theorem HeadBytes_lifted (os : Os) (started : os.Started) (H : Type) (enc : TypeId × Value → H) :
    ReturnsInHanded {} Try.checked os 3 .any (Rows.headBytesSpec.pre6 enc Try.prog Try.f3 Rows.headBytesRow.domain false) (Rows.headBytesSpec.post enc Try.prog Try.f3 false true false false) := by
  refine returnsInHanded_of_change (C := Try.checked) own started (by kernel_rfl) Try.func3
    (ChangeSpec.witness6 (enc := enc) (C := Try.checked) false ⟨#[], #[.agg Try.zeroCells26, .slice none 0 0], []⟩ 8 (by kernel_rfl) (by kernel_rfl) (by kernel_rfl) (by kernel_rfl)) ?_
  intro W base args ds gs before hval0 hW hcnd _
  have hval : ∀ (j : Nat) t v, Try.f3.params[j]? = some t → args[j]? = some v → Value.okWide Try.prog W .any base t v := hval0
  have hW' := hW
  obtain ⟨p, q, hA0, hV, rfl, hfz, hnd⟩ := hW
  have hA : DataW.TrodAll enc Try.prog W 0 (fun _ => true) true Try.f3.params.toList args.toList ds p := hA0
  rw [Try.params3] at hA hval
  obtain ⟨v0, vs0, d0, ds0, p0, q0, hargs, rfl, rfl, h0, r0⟩ := trodAll_cons hA
  obtain ⟨v1, vs1, d1, ds1, p1, q1, rfl, rfl, rfl, h1, r1⟩ := trodAll_cons r0
  obtain ⟨rfl, rfl, rfl⟩ := trodAll_nil r1
  obtain rfl : args = #[v0, v1] := by cases args; simp_all
  obtain ⟨rfl, rfl⟩ := trodVars_none hV
  have k0 := h0
  have lt0 := trod_lt_of h0
  obtain ⟨a0, b0, rfl⟩ := open_hd (hval 0 26 v0 rfl rfl) h0
  have k1 := h1
  have lt1 := trod_lt_of h1
  obtain ⟨l1, b1, c1⟩ := open_bytes (hval 1 27 v1 rfl rfl) h1
  clear hA0 hval0
  refine (HeadBytes_walk a0 b0 v1 l1 b1 W c1).mono fun e W' ⟨he, bel⟩ => ?_
  subst he
  exact ⟨_, rfl, _, _, _, [], _, [], hW', trodAll_mk1 (shut_bool (by kernel_rfl) _), (trodAll_cons_mk (Below.trod laidOut (by kernel_rfl) (of_decide_eq_true (by kernel_rfl)) k0 bel lt0) (trodAll_cons_mk (Below.trod laidOut (by kernel_rfl) (of_decide_eq_true (by kernel_rfl)) k1 bel lt1) trodAll_mk0)), rfl, bel.frame _, fun h => by cases h⟩

theorem HeadBytes_closed : joinedFacts Try.prog 3 Try.f3 Rows.headBytesSpec Rows.headBytesRow = true := by
  simp only [joinedFacts, Bool.and_eq_true]
  repeat' apply And.intro
  all_goals first
    | (with_reducible exact head_enter)
    | (rw [head_make]; kernel_rfl)
    | (rw [head_lift]; kernel_rfl)
    | kernel_rfl

theorem HeadBytes_holds : Rows.HeadBytesSaid :=
  OpenClaim.holds_of_wide 3 Try.f3 rfl rfl rfl rfl rfl rfl rfl ⟨rfl, rfl, rfl, rfl, rfl⟩ rfl rfl rfl rfl rfl (by kernel_rfl) Try.func3 HeadBytes_closed
    (of_decide_eq_true (by kernel_rfl)) (by unfold Func.isWrapper; rw [if_neg (of_decide_eq_false (by kernel_rfl))]; exact ⟨rfl, rfl⟩)
    (fun os started H enc _ => HeadBytes_lifted os started H enc)
end Go.Proofs.Ytnbppbnjkmopeaa
