/- The law MerkleOther: another sum at a place leads to another root, or two unlike pairs that were summed on the way have one sum. No condition. -/
import Derived.Test.YtfopockjakeplaaMkW
import Derived.Test.YtfopockjakeplaaMkJ
import Derived.Test.YtfopockjakeplaaHead
import Derived.Deep.RegionHeld3
namespace Go.Proofs.Ytfopockjakeplaa
open Go.ChangeShapes Go.WideShapes Go.ChangeAt Go.RowKit

theorem ids_one (n : Nat) : ∀ v ∈ ids n, v.oneCell' = true := fun v hv => by
  simp only [ids, List.mem_map] at hv
  obtain ⟨i, _, rfl⟩ := hv
  rfl
theorem any_abs {P : Program} {md : Region.Mode} {ops : Array Oper} {Q : Exit → Act → World → Prop} {S : World → Prop} {fuel : Nat} {listed : Array Bool} {a : Act} {w : World} (C : World → Prop) (h : C w) (k : ∀ V, C V → wpAnyH P md ops Q S fuel listed a V) : wpAnyH P md ops Q S fuel listed a w := k w h
theorem store_same {w : World} {g m : Nat} (h : w.heap[g]? = some (iblk m)) (n : Nat) : (w.setCells g 0 (ids n)).heap[g]? = some (iblk n) :=
  heap_setCells_row g 25 (ids n) (ids m) [] w (by rw [ids_len, ids_len]) h
theorem store_far {w : World} {g b : Nat} {x : Obj} (n : Nat) (hne : b ≠ g) (h : w.heap[b]? = some x) : (w.setCells g 0 (ids n)).heap[b]? = some x := (heap_setCells_far g _ _ _ b hne).trans h
set_option maxRecDepth 100000 in
set_option maxHeartbeats 4000000 in
theorem MerkleOther_walk (x : Option Addr) (cap : Nat) (l : List Nat) (hl : ∀ y ∈ l, y < 2 ^ 256) (i : Int) (hwf : (Lit.int .i64 i).wf = true) (c : Nat) (hcl : c < 2 ^ 256) (w : World) (_hc : l.length ≤ cap) (_hm : cap ≤ maxLen) (hz : x = none → l = [] ∧ cap = 0) (hx0 : l ≠ [] → ∃ b o, x = some ⟨b, o, none⟩ ∧ b < w.heap.size ∧ IdsAt w b o l) :
    Calls Try.prog 15 #[.slice x l.length cap, .int .i64 i, iv c] w fun e w' => e = .returned (.bool true) ∧ Below w.heap.size w w' := by
  have hx : l ≠ [] → ∃ b o, x = some ⟨b, o, none⟩ ∧ IdsAt w b o l := fun h => by
    obtain ⟨b, o, h1, _, h3⟩ := hx0 h
    exact ⟨b, o, h1, h3⟩
  have hwf2 : -9223372036854775808 ≤ i ∧ i < 9223372036854775808 := by
    have := hwf
    simp [Lit.wf, IntKind.min, IntKind.max, IntKind.signed, IntKind.bits] at this
    omega
  obtain ⟨hlo, hhi⟩ := hwf2
  clear hwf hx0 _hc _hm
  have HX := Lib.hid hx
  obtain ⟨n, hnn⟩ : ∃ n, n = l.length := ⟨_, rfl⟩
  rw [← hnn]
  have HN := Lib.hid hnn
  have HL := Lib.hid hl; have HZ := Lib.hid hz; have HC := Lib.hid hcl
  clear hnn hx hl hz hcl
  have B : Below w.heap.size w w := Below.refl _ _
  have ez := iblk_lit
  go_enter Try.func15, Try.ntmps15
  go_wp2_with fail
  refine (joins_any _).mono ?_
  rintro e w1 ⟨rfl, hb1⟩
  have K5 : Hid (w1.heap[w.heap.size]? = some (iblk c)) := Lib.hid (below_keep hb1 (heap_new w _))
  have B1 : Below w.heap.size w w1 := below_next (below_alloc B _) hb1
  clear hb1 B
  by_cases hbig : 30 < n
  · have hbig' : (30 : Int) < (n : Int) := by omega
    go_wp2_with fail
    go_ret
    exact ⟨rfl, B1⟩
  have hbig' : ¬ (30 : Int) < (n : Int) := by omega
  have hn : n ≤ 30 := by omega
  clear hbig
  by_cases h0 : i < 0
  · go_wp2_with fail
    go_ret
    exact ⟨rfl, B1⟩
  by_cases h1 : (n : Int) ≤ i
  · go_wp2_with fail
    go_ret
    exact ⟨rfl, B1⟩
  obtain ⟨j, rfl⟩ : ∃ j : Nat, i = (j : Int) := ⟨i.toNat, by omega⟩
  have hjn : j < n := by omega
  have hj0 : ¬ (j : Int) < 0 := by omega
  have hj1 : (j : Int) < (n : Int) := by omega
  clear h0 h1 hlo hhi
  obtain ⟨b, o, rfl, hI⟩ := HX.out (by intro e; have := HN.out; rw [e] at this; simp at this; omega)
  have HI := Lib.hid (hI.keep B1)
  have BW := Lib.hid B1
  have cw := Lib.hid (way_any j (some ⟨b, o, none⟩) cap l (by rw [← HN.out]; omega) (by rw [← HN.out]; exact hjn) w1 (fun _ => ⟨b, o, rfl, HI.out⟩))
  have cr := Lib.hid fun (W : World) (hb : Below w1.heap.size w1 W) => root_any (some ⟨b, o, none⟩) cap l HL.out (by rw [← HN.out]; omega) W (fun e => by cases e) (fun _ => ⟨b, o, rfl, HI.out.keep hb⟩)
  rw [← HN.out] at cr cw
  obtain ⟨R, hR⟩ : ∃ R, R = (Mroot l).1 := ⟨_, rfl⟩
  obtain ⟨F, hF⟩ : ∃ F, F = (Mroot l).2 := ⟨_, rfl⟩
  have hRl : R < 2 ^ 256 := by rw [hR]; exact mroot_lt _ l _ HL.out
  rw [← hR, ← hF] at cr
  obtain ⟨L, hL⟩ : ∃ L, L = wayL n l j := ⟨_, rfl⟩
  have hLL : L.length = lev n n := by rw [hL, wayL_len, ← HN.out]
  have hld : led (l.getD j 0) j L = R := by rw [hL, hR]; exact way_leads n l j false (by rw [← HN.out]; exact hjn) (by rw [← HN.out]; omega) |>.trans (by unfold Mroot; rw [← HN.out])
  rw [← hL] at cw
  obtain ⟨a, ha⟩ : ∃ a, a = l.getD j 0 := ⟨_, rfl⟩
  have hal : a < 2 ^ 256 := by rw [ha, List.getD_eq_getElem?_getD, List.getElem?_eq_getElem (by rw [← HN.out]; exact hjn)]; exact HL.out _ (List.getElem_mem _)
  rw [← ha] at hld
  have RA : Hid (∀ V, Below w1.heap.size w1 V → V.rangeAt b (o + j * 32) (ids a)) := Lib.hid fun V hb => by
    have := (HI.out.keep hb).range (i := j) (by rw [← HN.out]; exact hjn)
    rwa [← ha] at this
  have HLL := Lib.hid hLL; have HLD := Lib.hid hld; have HAL := Lib.hid hal; have HRL := Lib.hid hRl
  have hlv : L.length ≤ 30 := by have := lev_le n n; omega
  clear hR hF hL hLL hld ha hI B1 hRl hal
  go_wp2_with fail
  refine cw.out.mono ?_
  rintro e w2 ⟨v, rfl, hO, hb⟩
  obtain ⟨xw, cww, rfl, hrow⟩ := hO.rows
  obtain ⟨wl, hwl⟩ : ∃ wl, wl = L.length := ⟨_, rfl⟩
  rw [← hwl] at hlv
  rw [← hwl]
  have HWL := Lib.hid hwl
  have HR := Lib.hid hrow
  have B2 := Lib.hid hb
  obtain ⟨S, hS⟩ : ∃ S, S = led c j L := ⟨_, rfl⟩
  have HSC := Lib.hid hS
  have hSl : S < 2 ^ 256 := by rw [hS]; exact led_lt _ _ _ HC.out
  have cl := Lib.hid fun (W : World) (hb2 : Below w2.heap.size w2 W) => leads_any c j (by omega) xw cww L (by rw [← HWL.out]; omega) W (fun h => by
    obtain ⟨b, o, h1, h2⟩ := HR.out h
    exact ⟨b, o, h1, h2.keep hb2⟩)
  rw [← hS, ← HWL.out] at cl
  have q1 := eq_id c a HC.out HAL.out
  have q2 := eq_id S R hSl HRL.out
  clear hO hrow hb hwl cw HLL hS hSl
  go_wp2_with fail
  refine (cr.out _ B2.out).mono ?_
  rintro e w3 ⟨rfl, hb⟩
  have B3 := Lib.hid hb
  have B3a := Lib.hid (below_alloc hb (iblk 0))
  clear hb
  go_wp2_with (first | (refine wpList_store_id rfl (.tmp 9) (.tmp 41) rfl w3.heap.size 0 R rfl rfl (heap_new w3 _) (fun w4 h1 h2 h3 h4 => ?_); have K9 := Lib.hid h1; have B4 := Lib.hid (h4 w2.heap.size w2 B3.out.size B3a.out); clear h1 h2 h3 h4))
  obtain ⟨g9, hg9⟩ : ∃ g, g = w3.heap.size := ⟨_, rfl⟩
  rw [← hg9] at K9
  rw [← hg9]
  clear hg9 B3 B3a
  have B14 := Lib.hid (below_next B2.out B4.out)
  have K5b := Lib.hid (block_keep B14.out K5.out)
  by_cases hca : c = a
  · rw [decide_eq_true hca] at q1
    clear hca
    refine wp_region_by [Is (iv c), Is (.slice (some ⟨b, o, none⟩) n cap), Is (.int .i64 j), Is (.pointer (some ⟨b, o + j * 32, none⟩)), Is (iv a), Is (.bool true), Is (.bool true), Is (undef), Is (undef), Is (undef), Is (undef), Is (undef), Is (undef), Is (.bool true)] [[], [], [], [(1, some 46), (2, some 47)], [(3, some 48)], [(0, some 45), (4, some 49)], [(5, some 50)], [(6, some 51)], [(6, some 51)], [(6, some 51)], [(6, some 51), (7, some 52), (8, some 53), (9, some 54)], [(6, some 51)], [(6, some 51), (10, some 55), (11, some 56)], [(6, some 51), (12, some 57)]] [(0, some 45), (1, some 46), (2, some 47), (3, some 48), (4, some 49), (5, some 50), (6, some 51), (7, some 52), (8, some 53), (9, some 54), (10, some 55), (11, some 56), (12, some 57), (13, some 58)] [0, 0, 0, 6, 14, 31, 63, 127, 127, 127, 1023, 127, 4095, 8191]
      (by kernel_rfl) (by kernel_rfl) (by kernel_rfl) (by kernel_rfl) ⟨Is.kept _, Is.kept _, Is.kept _, Is.kept _, Is.kept _, Is.kept _, Is.kept _, Is.kept _, Is.kept _, Is.kept _, Is.kept _, Is.kept _, Is.kept _, Is.kept _, trivial⟩ ⟨?_, ?_, ?_, ?_, ?_, ?_, ?_, ?_, ?_, ?_, ?_, ?_, ?_, ?_, trivial⟩ ?_
    · as_aux_lemma =>
      refine fun w' hB => ?_
      show wpList _ _ _ _ _ _
      go_wp2_with (first | refine wpList_load_id rfl (.tmp 5) rfl w.heap.size c rfl (block_keep hB K5b.out) ?_)
      exact ⟨iv c, rfl, rfl, Below.refl _ _⟩
    · as_aux_lemma =>
      refine fun w' hB => ?_
      show wpList _ _ _ _ _ _
      go_wp2_with fail
      exact ⟨.slice (some ⟨b, o, none⟩) n cap, by first | rfl | (go_simp; done), rfl, Below.refl _ _⟩
    · as_aux_lemma =>
      refine fun w' hB => ?_
      show wpList _ _ _ _ _ _
      go_wp2_with fail
      exact ⟨.int .i64 j, by first | rfl | (go_simp; done), rfl, Below.refl _ _⟩
    · as_aux_lemma =>
      refine fun w' hB v1 h1 v2 h2 => ?_
      obtain rfl := h1
      obtain rfl := h2
      show wpList _ _ _ _ _ _
      go_wp2_with fail
      exact ⟨.pointer (some ⟨b, o + j * 32, none⟩), by first | rfl | (go_simp; done), rfl, Below.refl _ _⟩
    · as_aux_lemma =>
      refine fun w' hB v3 h3 => ?_
      obtain rfl := h3
      show wpList _ _ _ _ _ _
      go_wp2_with (first | refine wpList_load_at rfl (.tmp 48) rfl b (o + j * 32) a rfl (RA.out w' (below_next B14.out hB)) ?_)
      exact ⟨iv a, rfl, rfl, Below.refl _ _⟩
    · as_aux_lemma =>
      refine fun w' hB v0 h0 v4 h4 => ?_
      obtain rfl := h0
      obtain rfl := h4
      show wpList _ _ _ _ _ _
      go_wp2_with fail
      exact ⟨.bool true, by first | rfl | (go_simp; done), rfl, Below.refl _ _⟩
    · as_aux_lemma =>
      refine fun w' hB v5 h5 => ?_
      obtain rfl := h5
      show wpList _ _ _ _ _ _
      go_wp2_with fail
      exact ⟨.bool true, by first | rfl | (go_simp; done), rfl, Below.refl _ _⟩
    · as_aux_lemma =>
      refine fun w' hB v6 h6 => ?_
      obtain rfl := h6
      show wpList _ _ _ _ _ _
      refine wpList_skip (by rfl) ?_
      go_wp2_with fail
      exact ⟨undef, by first | rfl | (go_simp; done), rfl, Below.refl _ _⟩
    · as_aux_lemma =>
      refine fun w' hB v6 h6 => ?_
      obtain rfl := h6
      show wpList _ _ _ _ _ _
      refine wpList_skip (by rfl) ?_
      go_wp2_with fail
      exact ⟨undef, by first | rfl | (go_simp; done), rfl, Below.refl _ _⟩
    · as_aux_lemma =>
      refine fun w' hB v6 h6 => ?_
      obtain rfl := h6
      show wpList _ _ _ _ _ _
      refine wpList_skip (by rfl) ?_
      go_wp2_with fail
      exact ⟨undef, by first | rfl | (go_simp; done), rfl, Below.refl _ _⟩
    · as_aux_lemma =>
      refine fun w' hB v6 h6 v7 h7 v8 h8 v9 h9 => ?_
      obtain rfl := h6
      obtain rfl := h7
      obtain rfl := h8
      obtain rfl := h9
      show wpList _ _ _ _ _ _
      refine wpList_skip (by rfl) ?_
      go_wp2_with fail
      exact ⟨undef, by first | rfl | (go_simp; done), rfl, Below.refl _ _⟩
    · as_aux_lemma =>
      refine fun w' hB v6 h6 => ?_
      obtain rfl := h6
      show wpList _ _ _ _ _ _
      refine wpList_skip (by rfl) ?_
      go_wp2_with fail
      exact ⟨undef, by first | rfl | (go_simp; done), rfl, Below.refl _ _⟩
    · as_aux_lemma =>
      refine fun w' hB v6 h6 v10 h10 v11 h11 => ?_
      obtain rfl := h6
      obtain rfl := h10
      obtain rfl := h11
      show wpList _ _ _ _ _ _
      refine wpList_skip (by rfl) ?_
      go_wp2_with fail
      exact ⟨undef, by first | rfl | (go_simp; done), rfl, Below.refl _ _⟩
    · as_aux_lemma =>
      refine fun w' hB v6 h6 v12 h12 => ?_
      obtain rfl := h6
      obtain rfl := h12
      show wpList _ _ _ _ _ _
      go_wp2_with fail
      exact ⟨.bool true, by first | rfl | (go_simp; done), rfl, Below.refl _ _⟩
    · refine fun w' hB v0 h0 v1 h1 v2 h2 v3 h3 v4 h4 v5 h5 v6 h6 v7 h7 v8 h8 v9 h9 v10 h10 v11 h11 v12 h12 v13 h13 => ?_
      obtain rfl := h13
      simp only [onP]
      go_simp
      clear h0 h1 h2 h3 h4 h5 h6 h7 h8 h9 h10 h11 h12
      have BZ := Lib.hid (below_next BW.out (below_next B14.out hB))
      go_wp2_with fail
      go_ret
      exact ⟨rfl, BZ.out⟩
  rw [decide_eq_false hca] at q1
  by_cases hSR : S = R
  case neg =>
    rw [decide_eq_false hSR] at q2
    clear hSR hca
    refine wp_region_by [Is (iv c), Is (.slice (some ⟨b, o, none⟩) n cap), Is (.int .i64 j), Is (.pointer (some ⟨b, o + j * 32, none⟩)), Is (iv a), Is (.bool false), Is (.bool false), Is (iv c), Is (.int .i64 j), Is (.slice xw wl cww), Is (iv S), Is (iv R), Is (.bool true), Is (.bool true)] [[], [], [], [(1, some 46), (2, some 47)], [(3, some 48)], [(0, some 45), (4, some 49)], [(5, some 50)], [(6, some 51)], [(6, some 51)], [(6, some 51)], [(6, some 51), (7, some 52), (8, some 53), (9, some 54)], [(6, some 51)], [(6, some 51), (10, some 55), (11, some 56)], [(6, some 51), (12, some 57)]] [(0, some 45), (1, some 46), (2, some 47), (3, some 48), (4, some 49), (5, some 50), (6, some 51), (7, some 52), (8, some 53), (9, some 54), (10, some 55), (11, some 56), (12, some 57), (13, some 58)] [0, 0, 0, 6, 14, 31, 63, 127, 127, 127, 1023, 127, 4095, 8191]
      (by kernel_rfl) (by kernel_rfl) (by kernel_rfl) (by kernel_rfl) ⟨Is.kept _, Is.kept _, Is.kept _, Is.kept _, Is.kept _, Is.kept _, Is.kept _, Is.kept _, Is.kept _, Is.kept _, Is.kept _, Is.kept _, Is.kept _, Is.kept _, trivial⟩ ⟨?_, ?_, ?_, ?_, ?_, ?_, ?_, ?_, ?_, ?_, ?_, ?_, ?_, ?_, trivial⟩ ?_
    · as_aux_lemma =>
      refine fun w' hB => ?_
      show wpList _ _ _ _ _ _
      go_wp2_with (first | refine wpList_load_id rfl (.tmp 5) rfl w.heap.size c rfl (block_keep hB K5b.out) ?_)
      exact ⟨iv c, rfl, rfl, Below.refl _ _⟩
    · as_aux_lemma =>
      refine fun w' hB => ?_
      show wpList _ _ _ _ _ _
      go_wp2_with fail
      exact ⟨.slice (some ⟨b, o, none⟩) n cap, by first | rfl | (go_simp; done), rfl, Below.refl _ _⟩
    · as_aux_lemma =>
      refine fun w' hB => ?_
      show wpList _ _ _ _ _ _
      go_wp2_with fail
      exact ⟨.int .i64 j, by first | rfl | (go_simp; done), rfl, Below.refl _ _⟩
    · as_aux_lemma =>
      refine fun w' hB v1 h1 v2 h2 => ?_
      obtain rfl := h1
      obtain rfl := h2
      show wpList _ _ _ _ _ _
      go_wp2_with fail
      exact ⟨.pointer (some ⟨b, o + j * 32, none⟩), by first | rfl | (go_simp; done), rfl, Below.refl _ _⟩
    · as_aux_lemma =>
      refine fun w' hB v3 h3 => ?_
      obtain rfl := h3
      show wpList _ _ _ _ _ _
      go_wp2_with (first | refine wpList_load_at rfl (.tmp 48) rfl b (o + j * 32) a rfl (RA.out w' (below_next B14.out hB)) ?_)
      exact ⟨iv a, rfl, rfl, Below.refl _ _⟩
    · as_aux_lemma =>
      refine fun w' hB v0 h0 v4 h4 => ?_
      obtain rfl := h0
      obtain rfl := h4
      show wpList _ _ _ _ _ _
      go_wp2_with fail
      exact ⟨.bool false, by first | rfl | (go_simp; done), rfl, Below.refl _ _⟩
    · as_aux_lemma =>
      refine fun w' hB v5 h5 => ?_
      obtain rfl := h5
      show wpList _ _ _ _ _ _
      go_wp2_with fail
      exact ⟨.bool false, by first | rfl | (go_simp; done), rfl, Below.refl _ _⟩
    · as_aux_lemma =>
      refine fun w' hB v6 h6 => ?_
      obtain rfl := h6
      show wpList _ _ _ _ _ _
      refine wpList_unguard rfl ?_
      go_wp2_with (first | refine wpList_load_id rfl (.tmp 5) rfl w.heap.size c rfl (block_keep hB K5b.out) ?_)
      exact ⟨iv c, rfl, rfl, Below.refl _ _⟩
    · as_aux_lemma =>
      refine fun w' hB v6 h6 => ?_
      obtain rfl := h6
      show wpList _ _ _ _ _ _
      go_wp2_with fail
      exact ⟨.int .i64 j, by first | rfl | (go_simp; done), rfl, Below.refl _ _⟩
    · as_aux_lemma =>
      refine fun w' hB v6 h6 => ?_
      obtain rfl := h6
      show wpList _ _ _ _ _ _
      go_wp2_with fail
      exact ⟨.slice xw wl cww, by first | rfl | (go_simp; done), rfl, Below.refl _ _⟩
    · as_aux_lemma =>
      refine fun w' hB v6 h6 v7 h7 v8 h8 v9 h9 => ?_
      obtain rfl := h6
      obtain rfl := h7
      obtain rfl := h8
      obtain rfl := h9
      show wpList _ _ _ _ _ _
      go_wp2_with fail
      refine (cl.out _ (below_next B4.out hB)).mono ?_
      rintro e w2 ⟨rfl, hb2⟩
      go_wp2_with fail
      exact ⟨iv S, by first | rfl | (go_simp; done), rfl, hb2⟩
    · as_aux_lemma =>
      refine fun w' hB v6 h6 => ?_
      obtain rfl := h6
      show wpList _ _ _ _ _ _
      refine wpList_unguard rfl ?_
      go_wp2_with (first | refine wpList_load_id rfl (.tmp 9) rfl g9 R rfl (block_keep hB K9.out) ?_)
      exact ⟨iv R, rfl, rfl, Below.refl _ _⟩
    · as_aux_lemma =>
      refine fun w' hB v6 h6 v10 h10 v11 h11 => ?_
      obtain rfl := h6
      obtain rfl := h10
      obtain rfl := h11
      show wpList _ _ _ _ _ _
      go_wp2_with fail
      exact ⟨.bool true, by first | rfl | (go_simp; done), rfl, Below.refl _ _⟩
    · as_aux_lemma =>
      refine fun w' hB v6 h6 v12 h12 => ?_
      obtain rfl := h6
      obtain rfl := h12
      show wpList _ _ _ _ _ _
      go_wp2_with fail
      exact ⟨.bool true, by first | rfl | (go_simp; done), rfl, Below.refl _ _⟩
    · refine fun w' hB v0 h0 v1 h1 v2 h2 v3 h3 v4 h4 v5 h5 v6 h6 v7 h7 v8 h8 v9 h9 v10 h10 v11 h11 v12 h12 v13 h13 => ?_
      obtain rfl := h13
      simp only [onP]
      go_simp
      clear h0 h1 h2 h3 h4 h5 h6 h7 h8 h9 h10 h11 h12
      have BZ := Lib.hid (below_next BW.out (below_next B14.out hB))
      go_wp2_with fail
      go_ret
      exact ⟨rfl, BZ.out⟩
  rw [decide_eq_true hSR] at q2
  have HSR := Lib.hid hSR; have HCA := Lib.hid hca
  clear hSR hca
  refine wp_region_by [Is (iv c), Is (.slice (some ⟨b, o, none⟩) n cap), Is (.int .i64 j), Is (.pointer (some ⟨b, o + j * 32, none⟩)), Is (iv a), Is (.bool false), Is (.bool false), Is (iv c), Is (.int .i64 j), Is (.slice xw wl cww), Is (iv S), Is (iv R), Is (.bool false), Is (.bool false)] [[], [], [], [(1, some 46), (2, some 47)], [(3, some 48)], [(0, some 45), (4, some 49)], [(5, some 50)], [(6, some 51)], [(6, some 51)], [(6, some 51)], [(6, some 51), (7, some 52), (8, some 53), (9, some 54)], [(6, some 51)], [(6, some 51), (10, some 55), (11, some 56)], [(6, some 51), (12, some 57)]] [(0, some 45), (1, some 46), (2, some 47), (3, some 48), (4, some 49), (5, some 50), (6, some 51), (7, some 52), (8, some 53), (9, some 54), (10, some 55), (11, some 56), (12, some 57), (13, some 58)] [0, 0, 0, 6, 14, 31, 63, 127, 127, 127, 1023, 127, 4095, 8191]
    (by kernel_rfl) (by kernel_rfl) (by kernel_rfl) (by kernel_rfl) ⟨Is.kept _, Is.kept _, Is.kept _, Is.kept _, Is.kept _, Is.kept _, Is.kept _, Is.kept _, Is.kept _, Is.kept _, Is.kept _, Is.kept _, Is.kept _, Is.kept _, trivial⟩ ⟨?_, ?_, ?_, ?_, ?_, ?_, ?_, ?_, ?_, ?_, ?_, ?_, ?_, ?_, trivial⟩ ?_
  · as_aux_lemma =>
    refine fun w' hB => ?_
    show wpList _ _ _ _ _ _
    go_wp2_with (first | refine wpList_load_id rfl (.tmp 5) rfl w.heap.size c rfl (block_keep hB K5b.out) ?_)
    exact ⟨iv c, rfl, rfl, Below.refl _ _⟩
  · as_aux_lemma =>
    refine fun w' hB => ?_
    show wpList _ _ _ _ _ _
    go_wp2_with fail
    exact ⟨.slice (some ⟨b, o, none⟩) n cap, by first | rfl | (go_simp; done), rfl, Below.refl _ _⟩
  · as_aux_lemma =>
    refine fun w' hB => ?_
    show wpList _ _ _ _ _ _
    go_wp2_with fail
    exact ⟨.int .i64 j, by first | rfl | (go_simp; done), rfl, Below.refl _ _⟩
  · as_aux_lemma =>
    refine fun w' hB v1 h1 v2 h2 => ?_
    obtain rfl := h1
    obtain rfl := h2
    show wpList _ _ _ _ _ _
    go_wp2_with fail
    exact ⟨.pointer (some ⟨b, o + j * 32, none⟩), by first | rfl | (go_simp; done), rfl, Below.refl _ _⟩
  · as_aux_lemma =>
    refine fun w' hB v3 h3 => ?_
    obtain rfl := h3
    show wpList _ _ _ _ _ _
    go_wp2_with (first | refine wpList_load_at rfl (.tmp 48) rfl b (o + j * 32) a rfl (RA.out w' (below_next B14.out hB)) ?_)
    exact ⟨iv a, rfl, rfl, Below.refl _ _⟩
  · as_aux_lemma =>
    refine fun w' hB v0 h0 v4 h4 => ?_
    obtain rfl := h0
    obtain rfl := h4
    show wpList _ _ _ _ _ _
    go_wp2_with fail
    exact ⟨.bool false, by first | rfl | (go_simp; done), rfl, Below.refl _ _⟩
  · as_aux_lemma =>
    refine fun w' hB v5 h5 => ?_
    obtain rfl := h5
    show wpList _ _ _ _ _ _
    go_wp2_with fail
    exact ⟨.bool false, by first | rfl | (go_simp; done), rfl, Below.refl _ _⟩
  · as_aux_lemma =>
    refine fun w' hB v6 h6 => ?_
    obtain rfl := h6
    show wpList _ _ _ _ _ _
    refine wpList_unguard rfl ?_
    go_wp2_with (first | refine wpList_load_id rfl (.tmp 5) rfl w.heap.size c rfl (block_keep hB K5b.out) ?_)
    exact ⟨iv c, rfl, rfl, Below.refl _ _⟩
  · as_aux_lemma =>
    refine fun w' hB v6 h6 => ?_
    obtain rfl := h6
    show wpList _ _ _ _ _ _
    go_wp2_with fail
    exact ⟨.int .i64 j, by first | rfl | (go_simp; done), rfl, Below.refl _ _⟩
  · as_aux_lemma =>
    refine fun w' hB v6 h6 => ?_
    obtain rfl := h6
    show wpList _ _ _ _ _ _
    go_wp2_with fail
    exact ⟨.slice xw wl cww, by first | rfl | (go_simp; done), rfl, Below.refl _ _⟩
  · as_aux_lemma =>
    refine fun w' hB v6 h6 v7 h7 v8 h8 v9 h9 => ?_
    obtain rfl := h6
    obtain rfl := h7
    obtain rfl := h8
    obtain rfl := h9
    show wpList _ _ _ _ _ _
    go_wp2_with fail
    refine (cl.out _ (below_next B4.out hB)).mono ?_
    rintro e w2 ⟨rfl, hb2⟩
    go_wp2_with fail
    exact ⟨iv S, by first | rfl | (go_simp; done), rfl, hb2⟩
  · as_aux_lemma =>
    refine fun w' hB v6 h6 => ?_
    obtain rfl := h6
    show wpList _ _ _ _ _ _
    refine wpList_unguard rfl ?_
    go_wp2_with (first | refine wpList_load_id rfl (.tmp 9) rfl g9 R rfl (block_keep hB K9.out) ?_)
    exact ⟨iv R, rfl, rfl, Below.refl _ _⟩
  · as_aux_lemma =>
    refine fun w' hB v6 h6 v10 h10 v11 h11 => ?_
    obtain rfl := h6
    obtain rfl := h10
    obtain rfl := h11
    show wpList _ _ _ _ _ _
    go_wp2_with fail
    exact ⟨.bool false, by first | rfl | (go_simp; done), rfl, Below.refl _ _⟩
  · as_aux_lemma =>
    refine fun w' hB v6 h6 v12 h12 => ?_
    obtain rfl := h6
    obtain rfl := h12
    show wpList _ _ _ _ _ _
    go_wp2_with fail
    exact ⟨.bool false, by first | rfl | (go_simp; done), rfl, Below.refl _ _⟩
  · refine fun w' hB v0 h0 v1 h1 v2 h2 v3 h3 v4 h4 v5 h5 v6 h6 v7 h7 v8 h8 v9 h9 v10 h10 v11 h11 v12 h12 v13 h13 => ?_
    obtain rfl := h13
    simp only [onP]
    go_simp
    clear h0 h1 h2 h3 h4 h5 h6 h7 h8 h9 h10 h11 h12
    have K5c := Lib.hid (block_keep hB K5b.out)
    have B15 := Lib.hid (below_next B14.out hB)
    have B16 := Lib.hid (below_next B4.out hB)
    clear cl q1 q2 K5 K5b K9 B14 B4 hB B2 cr
    rw [show decide ((30 : Int) < (n : Int)) = false from decide_eq_false (by omega), show decide ((j : Int) < 0) = false from decide_eq_false (by omega)]
    go_wp2_with fail
    obtain ⟨W, rfl⟩ : ∃ W : World, W = w' := ⟨_, rfl⟩
    go_upto_region 11 with fail
    go_cut [11, 12] (fun s11 s12 wc => ∃ g11 g12, s11 = .pointer (some ⟨g11, 0, none⟩) ∧ s12 = .pointer (some ⟨g12, 0, none⟩) ∧ g11 ≠ g12 ∧ W.heap.size ≤ g11 ∧ W.heap.size ≤ g12 ∧ wc.heap[g11]? = some (iblk a) ∧ wc.heap[g12]? = some (iblk c) ∧ Below W.heap.size W wc)
    case first =>
      have hu : Try.prog.underlying 25 = some (.array 32 5) := by kernel_rfl
      have LA : ∀ V, Below W.heap.size W V → V.rangeAt b (o + j * 32) (ids a) := fun V hV => RA.out V (below_next B15.out hV)
      have LC : ∀ V, Below W.heap.size W V → V.rangeAt w.heap.size 0 (ids c) := fun V hV => id_range (block_keep hV K5c.out)
      have hsz : ∀ z, (Try.prog.info? 25).map (·.size) = some (ids z).length := fun z => by rw [ids_len]; kernel_rfl
      refine wp_region_held (S := fun V => Below W.heap.size W V) (by kernel_rfl) ?_
      have hS0 : Below W.heap.size W W.drew := Below.drew (Below.refl _ _)
      have HLA := Lib.hid LA; have HLC := Lib.hid LC; have HSZ := Lib.hid hsz
      clear LA LC hsz
      refine wpAnyH_take (i := 0) (v := .slice (some ⟨b, o, none⟩) n cap) rfl (by kernel_rfl) (by kernel_rfl) (by kernel_rfl) (fun _ _ _ h => h) (Or.inl ⟨by rfl, fun w hSw => by go_simp⟩) hS0 ?_
      refine wpAnyH_take (i := 1) (v := .int .i64 j) rfl (by kernel_rfl) (by kernel_rfl) (by kernel_rfl) (fun _ _ _ h => h) (Or.inl ⟨by rfl, fun w hSw => by go_simp⟩) hS0 ?_
      refine wpAnyH_take (i := 2) (v := .pointer (some ⟨b, o + j * 32, none⟩)) rfl (by kernel_rfl) (by kernel_rfl) (by kernel_rfl) (fun _ _ _ h => h) (Or.inl ⟨by rfl, fun w hSw => by go_simp⟩) hS0 ?_
      refine wpAnyH_take (i := 3) (v := iv a) rfl (by kernel_rfl) (by kernel_rfl) (by kernel_rfl) (fun _ _ _ h => h) (yieldsIf_load_mid (by rfl) _ _ rfl _ _ rfl _ _ HLA.out hu rfl (HSZ.out a)) hS0 ?_
      refine wpAnyH_take (i := 4) (v := iv c) rfl (by kernel_rfl) (by kernel_rfl) (by kernel_rfl) (fun _ _ _ h => h) (yieldsIf_load_mid (by rfl) _ _ rfl _ _ rfl _ _ HLC.out hu rfl (HSZ.out c)) hS0 ?_
      refine wpAnyH_ready (rs := [5, 6]) (by kernel_rfl) (by simp) ?_
      refine AllReadyH.cons rfl (fun K hK => ?_) (AllReadyH.cons rfl (fun K hK => ?_) AllReadyH.nil)
      · go_simp
        refine hK.out _ _ (below_alloc hS0 _) (fun hS1 => ?_)
        clear hK K
        refine wpAnyH_ready (rs := [6]) (by kernel_rfl) (by simp) ?_
        refine AllReadyH.cons rfl (fun K hK => ?_) AllReadyH.nil
        go_simp
        refine hK.out _ _ (below_alloc hS1 _) (fun hS2 => ?_)
        clear hK K hS1
        refine any_abs (fun V => Below W.heap.size W V ∧ V.heap[W.heap.size]? = some (iblk 0) ∧ V.heap[W.heap.size + 1]? = some (iblk 0)) ⟨hS2, (alloc2 W.drew (iblk 0) (iblk 0)).1, (alloc2 W.drew (iblk 0) (iblk 0)).2⟩ ?_
        clear hS2 hS0
        rintro V ⟨hS2, h1, h2⟩
        refine wpAnyH_ready (rs := [7]) (by kernel_rfl) (by simp) ?_
        refine AllReadyH.cons rfl (fun K hK => ?_) AllReadyH.nil
        rw [if_pos (by rfl)]
        refine wp_store_mid 25 _ _ rfl (W.heap.size) 0 (ids a).toArray (by rfl) (by rfl) (by rw [ids_size]; exact id_there h1) (by rw [ids_size]; kernel_rfl) (all_oneCell_toArray (ids_one a)) ?_
        refine hK.out _ _ (below_setCells_id _ (by omega) _ _ _ hS2) (fun hS3 => ?_)
        clear hK K
        refine any_abs (fun V => Below W.heap.size W V ∧ V.heap[W.heap.size]? = some (iblk a) ∧ V.heap[W.heap.size + 1]? = some (iblk 0)) ⟨hS3, store_same h1 a, store_far a (show (W.heap.size + 1) ≠ W.heap.size by omega) h2⟩ ?_
        clear hS3 hS2 h1 h2 V
        rintro V ⟨hS3, f1, f2⟩
        refine wpAnyH_ready (rs := [8]) (by kernel_rfl) (by simp) ?_
        refine AllReadyH.cons rfl (fun K hK => ?_) AllReadyH.nil
        rw [if_pos (by rfl)]
        refine wp_store_mid 25 _ _ rfl (W.heap.size + 1) 0 (ids c).toArray (by rfl) (by rfl) (by rw [ids_size]; exact id_there f2) (by rw [ids_size]; kernel_rfl) (all_oneCell_toArray (ids_one c)) ?_
        refine hK.out _ _ (below_setCells_id _ (by omega) _ _ _ hS3) (fun hS4 => ?_)
        clear hK K
        refine any_abs (fun V => Below W.heap.size W V ∧ V.heap[W.heap.size]? = some (iblk a) ∧ V.heap[W.heap.size + 1]? = some (iblk c)) ⟨hS4, store_far c (show (W.heap.size) ≠ W.heap.size + 1 by omega) f1, store_same f2 c⟩ ?_
        clear hS4 hS3 f1 f2 V
        rintro V ⟨hS4, f1, f2⟩
        refine wpAnyH_done (by kernel_rfl) ?_ _
        simp only [Act.put, List.getElem_toArray, List.getElem_cons_succ, List.getElem_cons_zero, List.setIfInBounds_toArray, List.set_cons_zero, List.set_cons_succ]
        go_wp2_with fail
        go_meet
        case rel => exact ⟨_, _, rfl, rfl, by omega, by omega, by omega, f1, f2, hS4⟩
      · go_simp
        refine hK.out _ _ (below_alloc hS0 _) (fun hS1 => ?_)
        clear hK K
        refine wpAnyH_ready (rs := [5]) (by kernel_rfl) (by simp) ?_
        refine AllReadyH.cons rfl (fun K hK => ?_) AllReadyH.nil
        go_simp
        refine hK.out _ _ (below_alloc hS1 _) (fun hS2 => ?_)
        clear hK K hS1
        refine any_abs (fun V => Below W.heap.size W V ∧ V.heap[W.heap.size]? = some (iblk 0) ∧ V.heap[W.heap.size + 1]? = some (iblk 0)) ⟨hS2, (alloc2 W.drew (iblk 0) (iblk 0)).1, (alloc2 W.drew (iblk 0) (iblk 0)).2⟩ ?_
        clear hS2 hS0
        rintro V ⟨hS2, h1, h2⟩
        refine wpAnyH_ready (rs := [7]) (by kernel_rfl) (by simp) ?_
        refine AllReadyH.cons rfl (fun K hK => ?_) AllReadyH.nil
        rw [if_pos (by rfl)]
        refine wp_store_mid 25 _ _ rfl (W.heap.size + 1) 0 (ids a).toArray (by rfl) (by rfl) (by rw [ids_size]; exact id_there h2) (by rw [ids_size]; kernel_rfl) (all_oneCell_toArray (ids_one a)) ?_
        refine hK.out _ _ (below_setCells_id _ (by omega) _ _ _ hS2) (fun hS3 => ?_)
        clear hK K
        refine any_abs (fun V => Below W.heap.size W V ∧ V.heap[W.heap.size + 1]? = some (iblk a) ∧ V.heap[W.heap.size]? = some (iblk 0)) ⟨hS3, store_same h2 a, store_far a (show (W.heap.size) ≠ W.heap.size + 1 by omega) h1⟩ ?_
        clear hS3 hS2 h1 h2 V
        rintro V ⟨hS3, f1, f2⟩
        refine wpAnyH_ready (rs := [8]) (by kernel_rfl) (by simp) ?_
        refine AllReadyH.cons rfl (fun K hK => ?_) AllReadyH.nil
        rw [if_pos (by rfl)]
        refine wp_store_mid 25 _ _ rfl (W.heap.size) 0 (ids c).toArray (by rfl) (by rfl) (by rw [ids_size]; exact id_there f2) (by rw [ids_size]; kernel_rfl) (all_oneCell_toArray (ids_one c)) ?_
        refine hK.out _ _ (below_setCells_id _ (by omega) _ _ _ hS3) (fun hS4 => ?_)
        clear hK K
        refine any_abs (fun V => Below W.heap.size W V ∧ V.heap[W.heap.size + 1]? = some (iblk a) ∧ V.heap[W.heap.size]? = some (iblk c)) ⟨hS4, store_far c (show (W.heap.size + 1) ≠ W.heap.size by omega) f1, store_same f2 c⟩ ?_
        clear hS4 hS3 f1 f2 V
        rintro V ⟨hS4, f1, f2⟩
        refine wpAnyH_done (by kernel_rfl) ?_ _
        simp only [Act.put, List.getElem_toArray, List.getElem_cons_succ, List.getElem_cons_zero, List.setIfInBounds_toArray, List.set_cons_zero, List.set_cons_succ]
        go_wp2_with fail
        go_meet
        case rel => exact ⟨_, _, rfl, rfl, by omega, by omega, by omega, f1, f2, hS4⟩
    case rest =>
      obtain ⟨ga, gc, rfl, rfl, hne, hga, hgc, ka, kc, hb⟩ := hcut
      have KA := Lib.hid ka; have KC := Lib.hid kc; have BB := Lib.hid hb
      have cS := Lib.hid fun (z k y : Nat) (W : World) (g : Nat) (h : W.heap[g]? = some (.cells (idsL [y]).toArray 25 (0, 0))) =>
        leads_any z (j / 2 ^ k) (Nat.lt_of_le_of_lt (Nat.div_le_self _ _) (by omega)) (some ⟨g, 0, none⟩) 1 [y] (by simp) W (fun _ => ⟨g, 0, rfl, IdsAt.row h⟩)
      simp only [led, List.length_singleton] at cS
      clear ka kc hb
      go_wp2_with fail
      go_loopg [66] wl (fun g kv wr => ∃ k : Nat, g = wl - k ∧ k ≤ wl ∧ kv = .int .i64 k ∧ wr.heap[ga]? = some (iblk (led a j (L.take k))) ∧ wr.heap[gc]? = some (iblk (led c j (L.take k))) ∧ led a j (L.take k) ≠ led c j (L.take k) ∧ Below W.heap.size W wr)
      case atStart => exact ⟨0, rfl, by omega, rfl, KA.out, KC.out, fun e => HCA.out e.symm, BB.out⟩
      case round =>
        clear KA KC BB
        obtain ⟨k, hg, hk, rfl, ha, hc, hac, hB⟩ := hrel
        have HG := Lib.hid hg; have KA := Lib.hid ha; have KC := Lib.hid hc; have HB := Lib.hid hB; have HAC := Lib.hid hac
        clear hg ha hc hac hB
        by_cases hlt : k < wl
        · have hkl : k < L.length := by rw [← HWL.out]; exact hlt
          obtain ⟨by', oy, rfl, hI⟩ := HR.out (by intro e; rw [e] at hkl; simp at hkl)
          obtain ⟨y, hy⟩ : ∃ y, y = L.getD k 0 := ⟨_, rfl⟩
          have HS1 := Lib.hid (led_take a j L k hkl)
          have HS2 := Lib.hid (led_take c j L k hkl)
          have hr := (hI.keep (below_next B16.out HB.out)).range hkl
          rw [← hy] at HS1 HS2 hr
          have HRG := Lib.hid hr
          obtain ⟨A, hA⟩ : ∃ z, z = led a j (L.take k) := ⟨_, rfl⟩
          obtain ⟨C, hC⟩ : ∃ z, z = led c j (L.take k) := ⟨_, rfl⟩
          have hAl : A < 2 ^ 256 := by rw [hA]; exact led_lt _ _ _ HAL.out
          have hCl : C < 2 ^ 256 := by rw [hC]; exact led_lt _ _ _ HC.out
          have hAC : A ≠ C := by rw [hA, hC]; exact HAC.out
          rw [← hA] at HS1 KA
          rw [← hC] at HS2 KC
          have cA := Lib.hid (cS.out A k y); have cC := Lib.hid (cS.out C k y)
          obtain ⟨q, hq⟩ : ∃ q, q = j / 2 ^ k := ⟨_, rfl⟩
          have HQ := Lib.hid hq
          rw [← hq] at cA cC HS1 HS2
          have hA2l : ledS A q y < 2 ^ 256 := by unfold ledS; split <;> exact prs_lt _ _
          have hC2l : ledS C q y < 2 ^ 256 := by unfold ledS; split <;> exact prs_lt _ _
          obtain ⟨A2, hA2⟩ : ∃ z, z = ledS A q y := ⟨_, rfl⟩
          obtain ⟨C2, hC2⟩ : ∃ z, z = ledS C q y := ⟨_, rfl⟩
          rw [← hA2] at cA HS1 hA2l
          rw [← hC2] at cC HS2 hC2l
          have qq := eq_id A2 C2 hA2l hC2l
          have qn := eq_id A C hAl hCl
          rw [decide_eq_false hAC] at qn
          have hwa : ga < wr.heap.size := block_lt KA.out
          have hwc : gc < wr.heap.size := block_lt KC.out
          have hww : W.heap.size ≤ wr.heap.size := HB.out.size
          clear hy hI hr hA hC hq hA2 hC2 hAl hCl hAC hA2l hC2l hkl cS
          go_wp2_with (first | refine wpList_load_at rfl (.tmp 69) rfl by' (oy + k * 32) y rfl HRG.out ?_ | (refine wpList_store_id rfl (.tmp 14) (.tmp 70) rfl wr.heap.size 0 y rfl rfl (heap_new wr _) (fun w5 h1 h2 h3 h4 => ?_); have KY := Lib.hid h1; have KA' := Lib.hid ((h2 ga (by omega)).trans (keep_alloc _ KA.out)); have KC' := Lib.hid ((h2 gc (by omega)).trans (keep_alloc _ KC.out)); have HB5 := Lib.hid (h4 W.heap.size W hww (below_alloc HB.out _)); have hz5 : wr.heap.size < w5.heap.size := block_lt h1; clear h1 h2 h3 h4))
          obtain ⟨gy, hgy⟩ : ∃ g, g = wr.heap.size := ⟨_, rfl⟩
          rw [← hgy] at KY hz5 hwa hwc
          simp only [← hgy]
          have hk0 : ¬ (k : Int) < 0 := by omega
          clear hgy KA KC
          refine wp_region_new 16 (fun j => decide (j = 14) || decide (j = 15)) [Is (iv A), Is (.int .i64 j), Is (.int .i64 k), Is (.int .i64 q), Is (iv y), RowOf (idsL [y]).toArray 25 1 1, Is (iv A2), Is (iv C), Is (.int .i64 j), Is (.int .i64 k), Is (.int .i64 q), Is (iv y), RowOf (idsL [y]).toArray 25 1 1, Is (iv C2), BoxOf (iblk 0), BoxOf (iblk 0)] [[], [], [], [(1, some 72), (2, some 73)], [], [(4, some 75)], [(0, some 71), (3, some 74), (5, some 76)], [], [], [], [(8, some 79), (9, some 80)], [], [(11, some 82)], [(7, some 78), (10, some 81), (12, some 83)], [], [], [(6, some 77), (14, some 15)], [(13, some 84), (15, some 16)]] [(0, some 71), (1, some 72), (2, some 73), (3, some 74), (4, some 75), (5, some 76), (6, some 77), (7, some 78), (8, some 79), (9, some 80), (10, some 81), (11, some 82), (12, some 83), (13, some 84), (14, some 15), (15, some 16)] [0, 0, 0, 6, 0, 16, 63, 0, 0, 0, 768, 0, 2048, 8191, 0, 0, 65535, 131071]
            (by kernel_rfl) (by kernel_rfl) (by kernel_rfl) (by kernel_rfl) (by kernel_rfl) ⟨Is.kept _, Is.kept _, Is.kept _, Is.kept _, Is.kept _, RowOf.kept _ _ _ _, Is.kept _, Is.kept _, Is.kept _, Is.kept _, Is.kept _, Is.kept _, RowOf.kept _ _ _ _, Is.kept _, BoxOf.kept _, BoxOf.kept _, trivial⟩ ⟨?_, ?_, ?_, ?_, ?_, ?_, ?_, ?_, ?_, ?_, ?_, ?_, ?_, ?_, ?_, ?_, trivial⟩ ?_
          · as_aux_lemma =>
            refine fun w' hB => ?_
            show wpList _ _ _ _ _ _
            go_wp2_with (first | refine wpList_load_id rfl (.tmp 11) rfl ga A rfl (block_keep hB KA'.out) ?_)
            exact ⟨iv A, rfl, rfl, Below.refl _ _, fun h => absurd h (by decide)⟩
          · as_aux_lemma =>
            refine fun w' hB => ?_
            show wpList _ _ _ _ _ _
            go_wp2_with fail
            exact ⟨.int .i64 j, by first | rfl | (go_simp; done), rfl, Below.refl _ _, fun h => absurd h (by decide)⟩
          · as_aux_lemma =>
            refine fun w' hB => ?_
            show wpList _ _ _ _ _ _
            go_wp2_with fail
            exact ⟨.int .i64 k, by first | rfl | (go_simp; done), rfl, Below.refl _ _, fun h => absurd h (by decide)⟩
          · as_aux_lemma =>
            refine fun w' hB v1 h1 v2 h2 => ?_
            obtain rfl := h1
            obtain rfl := h2
            show wpList _ _ _ _ _ _
            go_wp2_with fail
            refine ⟨_, rfl, congrArg (Value.int .i64) ?_, Below.refl _ _, fun h => absurd h (by decide)⟩
            rw [HQ.out]
            simp
          · as_aux_lemma =>
            refine fun w' hB => ?_
            show wpList _ _ _ _ _ _
            go_wp2_with (first | refine wpList_load_id rfl (.tmp 14) rfl gy y rfl (block_keep hB KY.out) ?_)
            exact ⟨iv y, rfl, rfl, Below.refl _ _, fun h => absurd h (by decide)⟩
          · as_aux_lemma =>
            refine fun w' hB v4 h4 => ?_
            obtain rfl := h4
            show wpList _ _ _ _ _ _
            go_wp2_with (first | refine wpList_build_1 rfl (.tmp 75) y rfl rfl ?_)
            exact ⟨_, rfl, ⟨_, rfl, heap_new _ _⟩, below_alloc (Below.refl _ _) _, fun h => absurd h (by decide)⟩
          · as_aux_lemma =>
            refine fun w' hB v0 h0 v3 h3 v5 h5 => ?_
            obtain rfl := h0
            obtain rfl := h3
            obtain ⟨g5, rfl, hg5⟩ := h5
            show wpList _ _ _ _ _ _
            go_wp2_with fail
            refine (cA.out _ _ hg5).mono ?_
            rintro e w2 ⟨rfl, hb2⟩
            go_wp2_with fail
            exact ⟨iv A2, by first | rfl | (go_simp; done), rfl, hb2, fun h => absurd h (by decide)⟩
          · as_aux_lemma =>
            refine fun w' hB => ?_
            show wpList _ _ _ _ _ _
            go_wp2_with (first | refine wpList_load_id rfl (.tmp 12) rfl gc C rfl (block_keep hB KC'.out) ?_)
            exact ⟨iv C, rfl, rfl, Below.refl _ _, fun h => absurd h (by decide)⟩
          · as_aux_lemma =>
            refine fun w' hB => ?_
            show wpList _ _ _ _ _ _
            go_wp2_with fail
            exact ⟨.int .i64 j, by first | rfl | (go_simp; done), rfl, Below.refl _ _, fun h => absurd h (by decide)⟩
          · as_aux_lemma =>
            refine fun w' hB => ?_
            show wpList _ _ _ _ _ _
            go_wp2_with fail
            exact ⟨.int .i64 k, by first | rfl | (go_simp; done), rfl, Below.refl _ _, fun h => absurd h (by decide)⟩
          · as_aux_lemma =>
            refine fun w' hB v8 h8 v9 h9 => ?_
            obtain rfl := h8
            obtain rfl := h9
            show wpList _ _ _ _ _ _
            go_wp2_with fail
            refine ⟨_, rfl, congrArg (Value.int .i64) ?_, Below.refl _ _, fun h => absurd h (by decide)⟩
            rw [HQ.out]
            simp
          · as_aux_lemma =>
            refine fun w' hB => ?_
            show wpList _ _ _ _ _ _
            go_wp2_with (first | refine wpList_load_id rfl (.tmp 14) rfl gy y rfl (block_keep hB KY.out) ?_)
            exact ⟨iv y, rfl, rfl, Below.refl _ _, fun h => absurd h (by decide)⟩
          · as_aux_lemma =>
            refine fun w' hB v11 h11 => ?_
            obtain rfl := h11
            show wpList _ _ _ _ _ _
            go_wp2_with (first | refine wpList_build_1 rfl (.tmp 82) y rfl rfl ?_)
            exact ⟨_, rfl, ⟨_, rfl, heap_new _ _⟩, below_alloc (Below.refl _ _) _, fun h => absurd h (by decide)⟩
          · as_aux_lemma =>
            refine fun w' hB v7 h7 v10 h10 v12 h12 => ?_
            obtain rfl := h7
            obtain rfl := h10
            obtain ⟨g12, rfl, hg12⟩ := h12
            show wpList _ _ _ _ _ _
            go_wp2_with fail
            refine (cC.out _ _ hg12).mono ?_
            rintro e w2 ⟨rfl, hb2⟩
            go_wp2_with fail
            exact ⟨iv C2, by first | rfl | (go_simp; done), rfl, hb2, fun h => absurd h (by decide)⟩
          · as_aux_lemma =>
            refine fun w' hB => ?_
            show wpList _ _ _ _ _ _
            go_wp2_with fail
            exact ⟨_, rfl, ⟨_, rfl, heap_new _ _⟩, below_alloc (Below.refl _ _) _, fun _ => ⟨_, rfl, Nat.le_refl _, by simp⟩⟩
          · as_aux_lemma =>
            refine fun w' hB => ?_
            show wpList _ _ _ _ _ _
            go_wp2_with fail
            exact ⟨_, rfl, ⟨_, rfl, heap_new _ _⟩, below_alloc (Below.refl _ _) _, fun _ => ⟨_, rfl, Nat.le_refl _, by simp⟩⟩
          · refine fun w' G hB hN1 hN2 v0 h0 v1 h1 v2 h2 v3 h3 v4 h4 v5 h5 v6 h6 v7 h7 v8 h8 v9 h9 v10 h10 v11 h11 v12 h12 v13 h13 v14 h14 v15 h15 => ?_
            replace h0 := h0.1
            replace h1 := h1.1
            replace h2 := h2.1
            replace h3 := h3.1
            replace h4 := h4.1
            replace h5 := h5.1
            replace h6 := h6.1
            replace h7 := h7.1
            replace h8 := h8.1
            replace h9 := h9.1
            replace h10 := h10.1
            replace h11 := h11.1
            replace h12 := h12.1
            replace h13 := h13.1
            obtain ⟨h14, hG14⟩ := h14; replace hG14 := hG14 (by decide)
            obtain ⟨h15, hG15⟩ := h15; replace hG15 := hG15 (by decide)
            have hW14 := hN1 14 (by decide) (by decide)
            have hW15 := hN1 15 (by decide) (by decide)
            have hD14_15 := hN2 14 15 (by decide) (by decide) (by decide) (by decide) (by decide)
            clear hN1 hN2
            obtain rfl := h6
            obtain rfl := h13
            obtain ⟨g14, rfl, hg14⟩ := h14
            obtain ⟨g15, rfl, hg15⟩ := h15
            obtain ⟨gn14, en14, hge14, hlt14⟩ := hW14
            obtain rfl := Option.some.inj (hG14.trans en14)
            obtain ⟨gn15, en15, hge15, hlt15⟩ := hW15
            obtain rfl := Option.some.inj (hG15.trans en15)
            have hne14_15 := fun e => hD14_15 (en14.trans ((congrArg some e).trans en15.symm))
            dsimp only at hge14 hlt14 hge15 hlt15 hne14_15
            clear en14 en15
            simp only [onP, List.drop_succ_cons, List.drop_zero]
            go_simp
            clear h0 h1 h2 h3 h4 h5 h7 h8 h9 h10 h11 h12
            have HB7 := Lib.hid (below_next HB5.out hB)
            have KAb := Lib.hid (block_keep hB KA'.out); have KCb := Lib.hid (block_keep hB KC'.out)
            have hw5 : w5.heap.size ≤ w'.heap.size := hB.size
            have hww5 : W.heap.size ≤ w5.heap.size := HB5.out.size
            clear hB
            have hgg : g15 ≠ g14 := fun e => hne14_15 e.symm
            obtain ⟨d, hd⟩ : ∃ d, d = decide (A2 = C2) := ⟨_, rfl⟩
            rw [← hd] at qq
            have HD := Lib.hid hd
            clear hd
            have h14W : W.heap.size ≤ g14 := by omega
            have h15W : W.heap.size ≤ g15 := by omega
            have ha14 : ga ≠ g14 := by omega
            have ha15 : ga ≠ g15 := by omega
            have hc14 : gc ≠ g14 := by omega
            have hc15 : gc ≠ g15 := by omega
            have BWW := Lib.hid (below_next BW.out B15.out)
            cases d
            case true =>
              go_wp2_with (first | (refine wpList_store_id rfl (.tmp 15) (.tmp 77) rfl g14 0 A2 rfl rfl hg14 (fun w8 h1 h2 h3 h4 => ?_); have K14 := Lib.hid h1; have K15z := Lib.hid ((h2 g15 hgg).trans hg15); have KA8 := Lib.hid ((h2 ga ha14).trans KAb.out); have KC8 := Lib.hid ((h2 gc hc14).trans KCb.out); have HB8 := Lib.hid (h4 W.heap.size W h14W HB7.out); clear h1 h2 h3 h4) | (refine wpList_store_id rfl (.tmp 16) (.tmp 84) rfl g15 0 C2 rfl rfl K15z.out (fun w9 h1 h2 h3 h4 => ?_); have K15 := Lib.hid h1; have K14b := Lib.hid ((h2 g14 (Ne.symm hgg)).trans K14.out); have KA9 := Lib.hid ((h2 ga ha15).trans KA8.out); have KC9 := Lib.hid ((h2 gc hc15).trans KC8.out); have HB9 := Lib.hid (h4 W.heap.size W h15W HB8.out); clear h1 h2 h3 h4) | refine wpList_load_id rfl (.tmp 15) rfl g14 A2 rfl K14b.out ?_ | refine wpList_load_id rfl (.tmp 16) rfl g15 C2 rfl K15.out ?_ | (refine wpList_unguard rfl ?_; refine wpList_load_id rfl (.tmp 11) rfl ga A rfl KA9.out ?_) | (refine wpList_unguard rfl ?_; refine wpList_load_id rfl (.tmp 12) rfl gc C rfl KC9.out ?_))
              go_ret
              exact ⟨rfl, below_next BWW.out HB9.out⟩
            case false =>
              go_wp2_with (first | (refine wpList_store_id rfl (.tmp 15) (.tmp 77) rfl g14 0 A2 rfl rfl hg14 (fun w8 h1 h2 h3 h4 => ?_); have K14 := Lib.hid h1; have K15z := Lib.hid ((h2 g15 hgg).trans hg15); have KA8 := Lib.hid ((h2 ga ha14).trans KAb.out); have KC8 := Lib.hid ((h2 gc hc14).trans KCb.out); have HB8 := Lib.hid (h4 W.heap.size W h14W HB7.out); clear h1 h2 h3 h4) | (refine wpList_store_id rfl (.tmp 16) (.tmp 84) rfl g15 0 C2 rfl rfl K15z.out (fun w9 h1 h2 h3 h4 => ?_); have K15 := Lib.hid h1; have K14b := Lib.hid ((h2 g14 (Ne.symm hgg)).trans K14.out); have KA9 := Lib.hid ((h2 ga ha15).trans KA8.out); have KC9 := Lib.hid ((h2 gc hc15).trans KC8.out); have HB9 := Lib.hid (h4 W.heap.size W h15W HB8.out); clear h1 h2 h3 h4) | refine wpList_load_id rfl (.tmp 15) rfl g14 A2 rfl K14b.out ?_ | refine wpList_load_id rfl (.tmp 16) rfl g15 C2 rfl K15.out ?_)
              have HNE : Hid (A2 ≠ C2) := Lib.hid (of_decide_eq_false HD.out.symm)
              have hu : Try.prog.underlying 25 = some (.array 32 5) := by kernel_rfl
              have hsz : ∀ z, (Try.prog.info? 25).map (·.size) = some (ids z).length := fun z => by rw [ids_len]; kernel_rfl
              have HSZ := Lib.hid hsz
              clear hsz
              refine wp_region_held (S := fun V => V.heap[g14]? = some (iblk A2) ∧ V.heap[g15]? = some (iblk C2)) (by kernel_rfl) ?_
              refine wpAnyH_take (i := 0) (v := iv A2) rfl (by kernel_rfl) (by kernel_rfl) (by kernel_rfl) (fun _ _ _ h => h) (yieldsIf_load_mid (by rfl) _ _ rfl _ _ rfl _ _ (fun V h => id_range h.1) hu rfl (HSZ.out A2)) ⟨K14b.out, K15.out⟩ ?_
              refine wpAnyH_take (i := 1) (v := iv C2) rfl (by kernel_rfl) (by kernel_rfl) (by kernel_rfl) (fun _ _ _ h => h) (yieldsIf_load_mid (by rfl) _ _ rfl _ _ rfl _ _ (fun V h => id_range h.2) hu rfl (HSZ.out C2)) ⟨K14b.out, K15.out⟩ ?_
              refine any_abs (fun V => (V.heap[g14]? = some (iblk A2) ∧ V.heap[g15]? = some (iblk C2)) ∧ V.heap[ga]? = some (iblk A) ∧ V.heap[gc]? = some (iblk C) ∧ Below W.heap.size W V) ⟨⟨K14b.out, K15.out⟩, KA9.out, KC9.out, Below.drew HB9.out⟩ ?_
              rintro V ⟨hS, h1, h2, h3⟩
              refine wpAnyH_ready (rs := [2]) (by kernel_rfl) (by simp) ?_
              refine AllReadyH.cons rfl (fun K hK => ?_) AllReadyH.nil
              rw [if_pos (by rfl)]
              refine wp_store_mid 25 _ _ rfl ga 0 (ids A2).toArray (by rfl) (by rfl) (by rw [ids_size]; exact id_there h1) (by rw [ids_size]; kernel_rfl) (all_oneCell_toArray (ids_one A2)) ?_
              refine hK.out _ _ ⟨store_far A2 (Ne.symm ha14) hS.1, store_far A2 (Ne.symm ha15) hS.2⟩ (fun hxx => ?_)
              clear hK K hxx
              refine any_abs (fun V => (V.heap[g14]? = some (iblk A2) ∧ V.heap[g15]? = some (iblk C2)) ∧ V.heap[ga]? = some (iblk A2) ∧ V.heap[gc]? = some (iblk C) ∧ Below W.heap.size W V) ⟨⟨store_far A2 (Ne.symm ha14) hS.1, store_far A2 (Ne.symm ha15) hS.2⟩, store_same h1 A2, store_far A2 (Ne.symm hne) h2, below_setCells_id _ hga _ _ _ h3⟩ ?_
              clear hS h1 h2 h3 V
              rintro V ⟨hS, h1, h2, h3⟩
              refine wpAnyH_ready (rs := [3]) (by kernel_rfl) (by simp) ?_
              refine AllReadyH.cons rfl (fun K hK => ?_) AllReadyH.nil
              rw [if_pos (by rfl)]
              refine wp_store_mid 25 _ _ rfl gc 0 (ids C2).toArray (by rfl) (by rfl) (by rw [ids_size]; exact id_there h2) (by rw [ids_size]; kernel_rfl) (all_oneCell_toArray (ids_one C2)) ?_
              refine hK.out _ _ ⟨store_far C2 (Ne.symm hc14) hS.1, store_far C2 (Ne.symm hc15) hS.2⟩ (fun hxx => ?_)
              clear hK K hxx
              refine any_abs (fun V => V.heap[ga]? = some (iblk A2) ∧ V.heap[gc]? = some (iblk C2) ∧ Below W.heap.size W V) ⟨store_far C2 hne h1, store_same h2 C2, below_setCells_id _ hgc _ _ _ h3⟩ ?_
              clear hS h1 h2 h3 V
              rintro V ⟨h1, h2, h3⟩
              refine wpAnyH_done (by kernel_rfl) ?_ _
              simp only [Act.put, List.getElem_toArray, List.getElem_cons_succ, List.getElem_cons_zero, List.setIfInBounds_toArray, List.set_cons_zero, List.set_cons_succ]
              have K1 := Lib.hid h1; have K2 := Lib.hid h2; have K3 := Lib.hid h3
              clear h1 h2 h3
              go_wp2_with fail
              go_roundg (wl - (k + 1))
              case measure => have := HG.out; omega
              case rel => exact ⟨k + 1, rfl, by omega, by go_num, by rw [HS1.out]; exact K1.out, by rw [HS2.out]; exact K2.out, by rw [HS1.out, HS2.out]; exact HNE.out, K3.out⟩
        · obtain rfl : k = wl := by omega
          have et : L.take k = L := List.take_of_length_le (by rw [← HWL.out]; exact Nat.le_refl _)
          have h1 := HAC.out
          rw [et, HLD.out, ← HSC.out, HSR.out] at h1
          exact absurd rfl h1
set_option maxRecDepth 100000 in
theorem MerkleOther_lifted (os : Os) (started : os.Started) (H : Type) (enc : TypeId × Value → H) :
    ReturnsInHanded {} Try.checked os 15 .any (Rows.merkleOtherSpec.pre6 enc Try.prog Try.f15 Rows.merkleOtherRow.domain false) (Rows.merkleOtherSpec.post enc Try.prog Try.f15 false true false false) := by
  refine returnsInHanded_of_change (C := Try.checked) own started (by kernel_rfl) Try.func15
    (ChangeSpec.witness6 (enc := enc) (C := Try.checked) false ⟨#[], #[.slice none 0 0, .int .i64 0, .agg #[.int .u8 0, .int .u8 0, .int .u8 0, .int .u8 0, .int .u8 0, .int .u8 0, .int .u8 0, .int .u8 0, .int .u8 0, .int .u8 0, .int .u8 0, .int .u8 0, .int .u8 0, .int .u8 0, .int .u8 0, .int .u8 0, .int .u8 0, .int .u8 0, .int .u8 0, .int .u8 0, .int .u8 0, .int .u8 0, .int .u8 0, .int .u8 0, .int .u8 0, .int .u8 0, .int .u8 0, .int .u8 0, .int .u8 0, .int .u8 0, .int .u8 0, .int .u8 0]], []⟩ 8 (by kernel_rfl) (by kernel_rfl) (by kernel_rfl) (by kernel_rfl)) ?_
  intro W base args ds gs before hval0 hW hcnd _
  have hval : ∀ (j : Nat) t v, Try.f15.params[j]? = some t → args[j]? = some v → Value.okWide Try.prog W .any base t v := hval0
  have hW' := hW
  obtain ⟨p, q, hA0, hV, rfl, hfz, hnd⟩ := hW
  have hA : DataW.TrodAll enc Try.prog W 0 (fun _ => true) true Try.f15.params.toList args.toList ds p := hA0
  rw [Try.params15] at hA hval
  obtain ⟨v0, vs0, d0, ds0, p0, q0, hargs, rfl, rfl, h0, r0⟩ := trodAll_cons hA
  obtain ⟨v1, vs1, d1, ds1, p1, q1, rfl, rfl, rfl, h1, r1⟩ := trodAll_cons r0
  obtain ⟨v2, vs2, d2, ds2, p2, q2, rfl, rfl, rfl, h2, r2⟩ := trodAll_cons r1
  obtain ⟨rfl, rfl, rfl⟩ := trodAll_nil r2
  obtain rfl : args = #[v0, v1, v2] := by cases args; simp_all
  obtain ⟨rfl, rfl⟩ := trodVars_none hV
  have k0 := h0
  have lt0 := trod_lt_of h0
  obtain ⟨a0, cap0, l0, b0, rfl, e0, f0, g0, c0⟩ := open_ids (hval 0 37 v0 rfl rfl) h0
  have k1 := h1
  have lt1 := trod_lt_of h1
  obtain ⟨a1, rfl, rfl, rfl, b1⟩ := open_int Try.underlying3 (hval 1 3 v1 rfl rfl) h1
  have k2 := h2
  have lt2 := trod_lt_of h2
  obtain ⟨a2, b2, rfl⟩ := open_id (hval 2 25 v2 rfl rfl) h2
  clear hA0 hval0
  refine (MerkleOther_walk a0 cap0 l0 b0 a1 b1 a2 b2 W e0 f0 g0 c0).mono fun e W' ⟨he, bel⟩ => ?_
  subst he
  exact ⟨_, rfl, _, _, _, [], _, [], hW', trodAll_mk1 (shut_bool (by kernel_rfl) _), (trodAll_cons_mk (Below.trod laidOut (by kernel_rfl) (of_decide_eq_true (by kernel_rfl)) k0 bel lt0) (trodAll_cons_mk (Below.trod laidOut (by kernel_rfl) (of_decide_eq_true (by kernel_rfl)) k1 bel lt1) (trodAll_cons_mk (Below.trod laidOut (by kernel_rfl) (of_decide_eq_true (by kernel_rfl)) k2 bel lt2) trodAll_mk0))), rfl, bel.frame _, fun h => by cases h⟩

theorem MerkleOther_closed : joinedFacts Try.prog 15 Try.f15 Rows.merkleOtherSpec Rows.merkleOtherRow = true := by
  simp only [joinedFacts, Bool.and_eq_true]
  repeat' apply And.intro
  all_goals first
    | (with_reducible exact head_enter)
    | (rw [head_make]; kernel_rfl)
    | (rw [head_lift]; kernel_rfl)
    | kernel_rfl

theorem MerkleOther_holds : Rows.MerkleOtherSaid :=
  OpenClaim.holds_of_wide 15 Try.f15 rfl rfl rfl rfl rfl rfl rfl ⟨rfl, rfl, rfl, rfl, rfl⟩ rfl rfl rfl rfl rfl (by kernel_rfl) Try.func15 MerkleOther_closed
    (of_decide_eq_true (by kernel_rfl)) (by unfold Func.isWrapper; rw [if_neg (of_decide_eq_false (by kernel_rfl))]; exact ⟨rfl, rfl⟩)
    (fun os started H enc _ => MerkleOther_lifted os started H enc)
end Go.Proofs.Ytfopockjakeplaa
