/- The law PresyncLies: who says something else the second time is found out, as far as the bits tell. No condition. -/
import Derived.Test.YtnbppbnjkmopeaaSyPg
import Derived.Test.YtnbppbnjkmopeaaHead
import Derived.Test.YtnbppbnjkmopeaaOpenMore
namespace Go.Proofs.Ytnbppbnjkmopeaa
open Go.ChangeShapes Go.WideShapes Go.ChangeAt Go.RowKit

/-- the bits of the first headers are alike -/
def Alike (S : Nat) (one two : List Hd) (n : Nat) : Prop := ∀ i, i < n → (i + 1) % 4 = S % 256 % 4 → hbit S (hdid (one.getD i hd0)) = hbit S (hdid (two.getD i hd0))
theorem Alike.next {S : Nat} {one two : List Hd} {n : Nat} (h : Alike S one two n) (h1 : (n + 1) % 4 = S % 256 % 4 → hbit S (hdid (one.getD n hd0)) = hbit S (hdid (two.getD n hd0))) : Alike S one two (n + 1) := fun i hi c => by
  by_cases e : i = n
  · rw [e] at c ⊢; exact h1 c
  · exact h i (by omega) c
/-- the first one that isn't, or -1 -/
def Found (S : Nat) (one two : List Hd) (n : Nat) (v : Value) : Prop :=
  (v = .int .i64 (-1) ∧ Alike S one two n) ∨ ∃ j : Nat, j < n ∧ v = .int .i64 j ∧ (j + 1) % 4 = S % 256 % 4 ∧ hbit S (hdid (one.getD j hd0)) ≠ hbit S (hdid (two.getD j hd0)) ∧ Alike S one two j
set_option maxRecDepth 100000 in
set_option maxHeartbeats 8000000 in
theorem PresyncLies_walk (k : Int) (_ : (Lit.int .i64 k).wf = true) (S : Nat) (_ : S < 2 ^ 256) (f : Int) (_ : (Lit.int .i64 f).wf = true) (w : World) :
    Calls Try.prog 10 #[.int .i64 k, iv S, .int .i64 f] w fun e w' => e = .returned (.bool true) ∧ Below w.heap.size w w' := by
  obtain ⟨x, I, hx⟩ := genX
  have HXX := Lib.hid hx
  have KS := Lib.hid (heap_new w (iblk S))
  have B := Lib.hid (below_alloc (Below.refl w.heap.size w) (iblk S))
  clear hx
  go_enter Try.func10, Try.ntmps10
  go_wp2_with fail
  obtain ⟨gs, hgs⟩ : ∃ g, g = w.heap.size := ⟨_, rfl⟩
  have HGS := Lib.hid hgs
  rw [← hgs] at KS
  rw [← hgs]
  clear hgs
  refine (asks_any _).mono ?_
  rintro e w1 ⟨rfl, hb⟩
  have B1 := Lib.hid (below_next B.out hb); have KS1 := Lib.hid (block_keep hb KS.out)
  clear hb B KS
  by_cases h1 : k < 2
  · go_wp2_with fail
    go_ret
    exact ⟨rfl, B1.out⟩
  by_cases h2 : 24 < k
  · go_wp2_with fail
    go_ret
    exact ⟨rfl, B1.out⟩
  by_cases h3 : f < 0
  · go_wp2_with fail
    go_ret
    exact ⟨rfl, B1.out⟩
  by_cases h4 : 24 < f
  · go_wp2_with fail
    go_ret
    exact ⟨rfl, B1.out⟩
  obtain ⟨N, rfl⟩ : ∃ N : Nat, k = N := ⟨k.toNat, by omega⟩
  obtain ⟨F, rfl⟩ : ∃ F : Nat, f = F := ⟨f.toNat, by omega⟩
  have hN1 : 2 ≤ N := by omega
  have hN2 : N ≤ 24 := by omega
  have hF : F ≤ 24 := by omega
  have h1' : ¬ (N : Int) < 2 := by omega
  have h2' : ¬ 24 < (N : Int) := by omega
  have h3' : ¬ (F : Int) < 0 := by omega
  have h4' : ¬ 24 < (F : Int) := by omega
  clear h1 h2 h3 h4
  go_wp2_with fail
  refine (lrules_any N 0 _).mono ?_
  rintro e w2 ⟨rfl, hb⟩
  have B2 := Lib.hid (below_next B1.out hb); have KS2 := Lib.hid (block_keep hb KS1.out)
  clear hb B1 KS1
  go_wp2_with fail
  refine (ltree_any (by omega) (by omega) (by omega) (by omega) _).mono ?_
  rintro e w3 ⟨T, vn, m, rfl, hT, hb, hfr⟩
  have B3 := Lib.hid (below_next B2.out hb); have KS3 := Lib.hid (block_keep hb KS2.out); have K3 := Lib.hid hT
  clear hb B2 KS2 hT hfr
  go_wp2_with ((with_reducible show wpList _ _ _ _ _ _); refine wpList_load_id rfl (.tmp 4) rfl gs S rfl KS3.out ?_)
  refine (lsync_any HXX.out (by omega) S _ K3.out).mono ?_
  rintro e w4 ⟨g, rfl, hg, hp, hb⟩
  have B4 := Lib.hid (below_next B3.out hb); have KS4 := Lib.hid (block_keep hb KS3.out); have K4 := Lib.hid (K3.out.keep hb)
  have hgs3 := block_lt KS3.out
  have hgw : w.heap.size ≤ g := Nat.le_trans B3.out.size hg
  obtain ⟨P0, hP0⟩ : ∃ P, P = newP (rlR (N : Int) 0) S x := ⟨_, rfl⟩
  rw [← hP0] at hp
  have P4 := Lib.hid hp
  have HP0 := Lib.hid hP0
  have G0 : Hid (P0.good 0) := Lib.hid (by rw [hP0]; exact good_newP HXX.out (by omega) (by omega) (by omega) (by omega) S)
  have hgsg : gs ≠ g := by omega
  clear hb B3 KS3 K3 hp hP0 hgs3
  go_wp2_with fail
  refine (lget_any HXX.out _ K4.out).mono ?_
  rintro e w5 ⟨rfl, hb⟩
  have B5 := Lib.hid (below_next B4.out hb); have KS5 := Lib.hid (block_keep hb KS4.out); have K5 := Lib.hid (K4.out.keep hb); have P5 := Lib.hid (P4.out.keep hb)
  clear hb B4 KS4 K4 P4
  have ep := field_gen HXX.out w5
  go_wp2_with fail
  refine (line_any I HXX.out.lt 26 (by omega) 1 (by omega) _).mono ?_
  rintro e w6 ⟨vl, rfl, hO, hb⟩
  have B6 := Lib.hid (below_next B5.out hb); have KS6 := Lib.hid (block_keep hb KS5.out); have K6 := Lib.hid (K5.out.keep hb); have P6 := Lib.hid (P5.out.keep hb)
  have hg5 := block_lt P5.out.blk
  have O6 := Lib.hid hO
  obtain ⟨one, hl⟩ : ∃ l, l = lineP 1000 545259519 1 26 0 I := ⟨_, rfl⟩
  have HC1 : Hid (Chn 545259519 I one) := Lib.hid (hl ▸ chn_line (by omega) 26 0 I HXX.out.lt)
  rw [← hl] at O6
  clear hb B5 KS5 K5 P5 ep hO hl
  obtain ⟨x10, c10, e10⟩ := O6.out.shape
  subst e10
  obtain ⟨L, hL⟩ : ∃ L, L = one.length := ⟨_, rfl⟩
  have HL := Lib.hid hL
  rw [← hL] at O6
  by_cases hl26 : L = 26
  · have e26 : ((L : Int) != 26) = false := by rw [hl26]; rfl
    obtain ⟨b0, e0, hmem, hb0a, hb0b⟩ := O6.out.arg2 (by omega)
    subst e0
    have hcc := Lib.hid O6.out.cap
    have HM6 := Lib.hid hmem
    have hb0g : b0 ≠ g := by omega
    have HL26 := Lib.hid hl26
    have hLn : 1 ≤ L := by omega
    clear hmem hb0a hl26 O6 hg5
    rw [← hL]
    clear hL
    go_wp2_with fail
    refine (lget_any HXX.out _ K6.out).mono ?_
    rintro e w7 ⟨rfl, hb⟩
    have B7 := Lib.hid (below_next B6.out hb); have KS7 := Lib.hid (block_keep hb KS6.out); have P7 := Lib.hid (P6.out.keep hb); have HM7 := Lib.hid (HM6.out.keep hb)
    have hz67 := hb.size
    clear hb B6 KS6 K6 P6 HM6
    have ep := field_gen HXX.out w7
    have ez := iblk_lit
    go_upto_region 13 with ((with_reducible show wpList _ _ _ _ _ _); refine wpList_store_id rfl (.tmp 11) (.tmp 52) rfl w7.heap.size 0 I rfl rfl (heap_new w7 _) (fun w8 h1 h2 h3 h4 => ?_); have hb8 := h4 _ _ (Nat.le_refl _) (below_alloc (Below.refl _ _) (iblk 0)); have KV8 := Lib.hid h1; have B8 := Lib.hid (below_next B7.out hb8); have KS8 := Lib.hid (block_keep hb8 KS7.out); have P8 := Lib.hid (P7.out.keep hb8); have HM8 := Lib.hid (HM7.out.keep hb8); clear h1 h2 h3 h4 hb8)
    have hg11a : gs < w7.heap.size := block_lt KS7.out
    have hg11b : g < w7.heap.size := block_lt P7.out.blk
    obtain ⟨g11, hg11⟩ : ∃ g, g = w7.heap.size := ⟨_, rfl⟩
    have hb11 : b0 < g11 := by omega
    rw [← hg11] at KV8 hg11a hg11b
    rw [← hg11]
    clear hg11 B7 KS7 P7 HM7 ep ez hz67 hb0b
    have hHL : Hid (∀ j, j < L → (one.getD j hd0).ok) := Lib.hid fun j hj => HC1.out.ok _ (by rw [List.getD_eq_getElem?_getD, List.getElem?_eq_getElem (by rw [← HL.out]; exact hj)]; exact List.getElem_mem _)
    obtain ⟨PV, hPV⟩ : ∃ v, v = if F = 0 then I else hdid (one.getD (F - 1) hd0) := ⟨_, rfl⟩
    have HPV := Lib.hid hPV
    clear hPV
    go_upto_if 54 with fail
    go_cut [] (fun wc => wc.heap[g11]? = some (iblk PV) ∧ Gr (fun k => k = g11) w8 wc)
    case first =>
      by_cases hF0 : F = 0
      · have hpv : PV = I := by rw [HPV.out, if_pos hF0]
        have HPVI := Lib.hid hpv
        have eF : ¬ 0 < (F : Int) := by omega
        clear hpv hF0
        go_wp2_with fail
        go_meet
        case rel => exact ⟨HPVI.out ▸ KV8.out, Gr.refl _ _⟩
      · obtain ⟨F1, hF1⟩ : ∃ F1, F1 = F - 1 := ⟨_, rfl⟩
        have hpv : PV = hdid (one.getD F1 hd0) := by rw [HPV.out, if_neg hF0, hF1]
        have hFL : F1 < L := by rw [HL26.out]; omega
        have hok := hHL.out F1 hFL
        have HMx : Hid (w8.rangeAt b0 (F1 * 68) (hdcs (one.getD F1 hd0))) := Lib.hid (by have := HM8.out.at F1 (by rw [← HL.out]; exact hFL); rwa [Nat.zero_add] at this)
        obtain ⟨h, hh⟩ : ∃ h, h = one.getD F1 hd0 := ⟨_, rfl⟩
        rw [← hh] at hpv hok HMx
        have HPVI := Lib.hid hpv; have HOK := Lib.hid hok
        have eF : 0 < (F : Int) := by omega
        have ef : (F : Int) - 1 = (F1 : Int) := by omega
        clear hpv hF0 hh hok hF1
        go_wp2_with ((with_reducible show wpList _ _ _ _ _ _); refine ld_hd rfl (.tmp 58) rfl b0 (F1 * 68) h rfl HMx.out ?_)
        refine (hid_any h HOK.out _).mono ?_
        rintro e w9 ⟨rfl, hb⟩
        have KV9 := Lib.hid (block_keep hb KV8.out)
        have G9 := Lib.hid (Gr.of_below (fun k => k = g11) hb)
        clear hb
        go_wp2_with ((with_reducible show wpList _ _ _ _ _ _); refine wpList_store_id rfl (.tmp 11) (.tmp 60) rfl g11 I (hdid h) rfl rfl KV9.out (fun w10 h1 h2 h3 h4 => ?_); have K10 := Lib.hid h1; have G10 := Lib.hid (G9.out.trans (Gr.of_st h2 h4) (fun _ _ e => e)); clear h1 h2 h3 h4)
        go_meet
        case rel => exact ⟨HPVI.out ▸ K10.out, G10.out⟩
    case rest =>
      obtain ⟨hKV, hG⟩ := hcut
      obtain ⟨WZ, hWZ⟩ : ∃ W, W = wc := ⟨_, rfl⟩
      subst hWZ
      have KV := Lib.hid hKV
      have KS := Lib.hid (hG.keep KS8.out (by omega)); have PZ := Lib.hid (P8.out.gr hG (fun k hk e => by have := psD_new hk; omega)); have HM := Lib.hid (HM8.out.gr hG (by omega))
      have BZ := Lib.hid (B8.out.trans (hG.below w.heap.size B8.out.size (fun i hi e => by have := B8.out.size; rw [HGS.out] at hg11a; omega)))
      have hgZ := block_lt PZ.out.blk
      have hb0Z : b0 < WZ.heap.size := by have := block_lt KV.out; omega
      clear hKV hG KV8 KS8 P8 HM8 B8
      have hPVl : PV < 2 ^ 256 := by
        rw [HPV.out]; split
        · exact HXX.out.lt
        · exact hdid_lt _
      have hFL : F ≤ one.length := by rw [← HL.out, HL26.out]; omega
      have hlid : lid I (one.take F) = PV := by
        rw [HPV.out]
        by_cases hF0 : F = 0
        · rw [if_pos hF0, hF0]; rfl
        · obtain ⟨F1, hF1⟩ : ∃ F1, F = F1 + 1 := ⟨F - 1, by omega⟩
          rw [if_neg hF0, hF1, take_snoc one F1 (by omega), lid_snoc, Nat.add_sub_cancel]
      obtain ⟨M, hM⟩ : ∃ M, M = 26 - F := ⟨_, rfl⟩
      have eM : (26 : Int) - (F : Int) = (M : Int) := by omega
      have HTF : Hid (F = (one.take F).length) := Lib.hid (by rw [List.length_take]; omega)
      have HTL : Hid ((one.take F).length ≤ 1000000) := Lib.hid (by rw [List.length_take]; omega)
      obtain ⟨l2, hl2⟩ : ∃ l, l = lineP 1000 545259519 2 M 0 PV := ⟨_, rfl⟩
      have hl2l : l2.length ≤ M := hl2 ▸ lineP_len _ _ _ _ _ _
      have HC2 : Hid (Chn 545259519 I (one.take F ++ l2)) := Lib.hid (Chn.app.2 ⟨HC1.out.take F, by rw [hlid, hl2]; exact chn_line (by omega) M 0 PV hPVl⟩)
      have cl := Lib.hid fun W => line_any PV hPVl M (by omega) 2 (by omega) W
      rw [← hl2] at cl
      have hMle : M ≤ 26 := by omega
      have HPVl := Lib.hid hPVl
      have hcF : F ≤ L := by rw [HL26.out]; omega
      have hc1 := hcc.out.1
      have hc2 : c10 ≤ 9223372036854775807 := by have := hcc.out.2; unfold maxLen at this; omega
      clear hl2 hlid hPVl hFL hM
      go_wp2_with fail
      refine wp_region_tail 8 [(EmptyRow WZ.heap.size), Is (.slice (some ⟨b0, 0, none⟩) L c10), Is (.int .i64 F), Is (.slice (some ⟨b0, 0, none⟩) F c10), (OwnRow WZ.heap.size (one.take F)), Is (iv PV), Is (.int .i64 F), Is (.int .i64 M)] [[], [], [], [(1, some 62), (2, some 63)], [(0, some 61), (3, some 64)], [], [], [(6, some 67)], [(5, some 66), (7, some 68)], [(4, some 65), (8, some 69)], [(9, some 70)]] [(0, some 61), (1, some 62), (2, some 63), (3, some 64), (4, some 65), (5, some 66), (6, some 67), (7, some 68)] [0, 0, 0, 6, 15, 0, 0, 64, 255, 511, 1023]
        (by kernel_rfl) (by kernel_rfl) (by kernel_rfl) (by kernel_rfl) (by kernel_rfl) ⟨(EmptyRow.kept _), Is.kept _, Is.kept _, Is.kept _, (OwnRow.kept _ _), Is.kept _, Is.kept _, Is.kept _, trivial⟩ ⟨?_, ?_, ?_, ?_, ?_, ?_, ?_, ?_, trivial⟩ ?_
      · as_aux_lemma =>
        refine fun w' hB => ?_
        show wpList _ _ _ _ _ _
        go_wp2_with fail
        exact ⟨_, rfl, ⟨_, rfl, hB.size, heap_new _ _⟩, below_alloc (Below.refl _ _) _⟩
      · as_aux_lemma =>
        refine fun w' hB => ?_
        show wpList _ _ _ _ _ _
        go_wp2_with fail
        exact ⟨.slice (some ⟨b0, 0, none⟩) L c10, by first | rfl | (go_simp; done), rfl, Below.refl _ _⟩
      · as_aux_lemma =>
        refine fun w' hB => ?_
        show wpList _ _ _ _ _ _
        go_wp2_with fail
        exact ⟨.int .i64 F, by first | rfl | (go_simp; done), rfl, Below.refl _ _⟩
      · as_aux_lemma =>
        refine fun w' hB v1 h1 v2 h2 => ?_
        obtain rfl := h1
        obtain rfl := h2
        show wpList _ _ _ _ _ _
        go_wp2_with fail
        exact ⟨.slice (some ⟨b0, 0, none⟩) F c10, by first | rfl | (go_simp; done), rfl, Below.refl _ _⟩
      · as_aux_lemma =>
        refine fun w' hB v0 h0 v3 h3 => ?_
        obtain rfl := h3
        show wpList _ _ _ _ _ _
        obtain ⟨g0, rfl, hz0, hg0⟩ := h0
        refine wpList_append_newh rfl (.tmp 61) (.tmp 64) rfl g0 rfl hg0 (one.take F) b0 0 F c10 HTF.out rfl ((HM.out.keep hB).take F) HTL.out (fun v' w5 ho hb hat => ?_)
        go_wp2_with fail
        exact ⟨_, rfl, ho.raise (fun k hk => (hat k hk).elim (fun e => by omega) (fun e => by have := hB.size; omega)), hb⟩
      · as_aux_lemma =>
        refine fun w' hB => ?_
        show wpList _ _ _ _ _ _
        go_wp2_with ((with_reducible show wpList _ _ _ _ _ _); refine wpList_load_id rfl (.tmp 11) rfl g11 PV rfl (block_keep hB KV.out) ?_)
        exact ⟨_, rfl, rfl, Below.refl _ _⟩
      · as_aux_lemma =>
        refine fun w' hB => ?_
        show wpList _ _ _ _ _ _
        go_wp2_with fail
        exact ⟨.int .i64 F, by first | rfl | (go_simp; done), rfl, Below.refl _ _⟩
      · as_aux_lemma =>
        refine fun w' hB v6 h6 => ?_
        obtain rfl := h6
        show wpList _ _ _ _ _ _
        go_wp2_with fail
        exact ⟨.int .i64 M, by first | rfl | (go_simp; done), rfl, Below.refl _ _⟩
      · refine fun w' hB v0 h0 v1 h1 v2 h2 v3 h3 v4 h4 v5 h5 v6 h6 v7 h7 => ?_
        obtain rfl := h5
        obtain rfl := h7
        simp only [onP, List.drop_succ_cons, List.drop_zero]
        go_simp
        clear h0 h1 h2 h3 h6
        have O4 : Hid (OwnsH w' WZ.heap.size v4 (one.take F)) := Lib.hid h4
        have HB15 := Lib.hid hB
        clear hB h4
        obtain ⟨two, htwo⟩ : ∃ t, t = one.take F ++ l2 := ⟨_, rfl⟩
        obtain ⟨L2, hL2⟩ : ∃ l, l = two.length := ⟨_, rfl⟩
        rw [← htwo] at HC2
        have HTWO := Lib.hid htwo; have HL2 := Lib.hid hL2
        have hL2a : two.length ≤ 26 := by rw [htwo, List.length_append, ← HTF.out]; omega
        clear htwo hL2
        go_wp2_with fail
        refine (cl.out _).mono ?_
        rintro e w9 ⟨vl2, rfl, hO2, hb⟩
        obtain ⟨x2, c2, e2⟩ := hO2.shape
        subst e2
        have O2 := Lib.hid hO2
        have O49 := Lib.hid (O4.out.keep hb)
        have HB9 := Lib.hid (HB15.out.trans (hb.mono HB15.out.size))
        clear hb hO2 O4 cl HB15
        go_upto_region 16 with (at_builtin; refine wpList_append_hds rfl (.tmp 65) (.tmp 69) rfl WZ.heap.size v4 (one.take F) rfl O49.out l2 x2 c2 rfl O2.out.src.1 O2.out.src.2 (by rw [← HTF.out]; omega) HB9.out.size (fun v12 w10 ho hgrow hat => ?_); rw [← HTWO.out] at ho; obtain ⟨x12, c12, e12⟩ := ho.shape; rw [← HL2.out] at e12; subst e12; have HB10 := Lib.hid (HB9.out.trans ((Gr.of_grown hgrow).below WZ.heap.size HB9.out.size (fun i hi e => by have := O49.out.ge e; omega))); have O12 := Lib.hid ho; clear ho hgrow hat)
        have KS10 := Lib.hid (block_keep HB10.out KS.out); have P10 := Lib.hid (PZ.out.keep HB10.out); have HM10 := Lib.hid (HM.out.keep HB10.out); have B10 := Lib.hid (below_next BZ.out HB10.out)
        have hz10 := HB10.out.size
        clear KV KS PZ HM BZ HB9 HB10 O49 O2
        have ht := first_take HXX.out N (by omega) S one HC1.out (by rw [← HL.out, HL26.out]; unfold enN; omega)
        rw [← HP0.out] at ht
        have hgt := good_take G0.out true one HC1.out.ok
        rw [ht] at hgt
        have ct := take_any g _ _ P0 true (some ⟨b0, 0, none⟩) c10 one 0 G0.out (by rw [← HL.out, HL26.out]; omega) HC1.out.ok _ P10.out (fun _ => ⟨b0, 0, rfl, HM10.out, fun e => by have := psD_new e; omega⟩)
        rw [ht, ← HL.out] at ct
        have CT := Lib.hid ct
        have GT : Hid ((scnP N S x (mks S 0 (one.take (enN N)))).good 26) := Lib.hid (by have := hgt; rw [Nat.zero_add, ← HL.out, HL26.out] at this; exact this)
        obtain ⟨P1, hP1⟩ : ∃ P, P = scnP N S x (mks S 0 (one.take (enN N))) := ⟨_, rfl⟩
        rw [← hP1] at CT GT
        have HP1 := Lib.hid hP1
        have hph1 : P1.phase = 2 := by rw [hP1]; rfl
        have HPH := Lib.hid hph1
        clear ht hgt ct hP1 hph1
        go_wp2_with fail
        refine CT.out.mono ?_
        rintro e w11 ⟨v11, rfl, _, ⟨vb1, vr1, hp1, hg1, hd1⟩, _⟩
        have P11 := Lib.hid hp1
        have D11 := Lib.hid hd1
        have KS11 := Lib.hid (hg1.keep KS10.out (fun e => by have := psD_new e; omega)); have HM11 := Lib.hid (HM10.out.gr hg1 (fun e => by have := psD_new e; omega))
        have O11 := Lib.hid (O12.out.gr hg1 (fun k hk e => by have := psD_new e; have := O12.out.ge hk; omega))
        have hO12 : Hid (∀ k, Value.ownBlock (.slice x12 L2 c12) = some k → k < w10.heap.size ∧ WZ.heap.size ≤ k) := Lib.hid fun k hk => ⟨O12.out.lt hk, O12.out.ge hk⟩
        have B11 := Lib.hid (B10.out.trans (hg1.below w.heap.size B10.out.size (fun i hi e => by have := psD_new e; omega)))
        have hz11 := hg1.size
        have hzw := B10.out.size
        clear hp1 hg1 hd1 P10 KS10 HM10 B10 O12 CT
        have cp := Lib.hid fun (W : World) vb vr (q : Ps) (hW : PsIs W g vb vr q) => phase_any g (q.sy vb vr) W hW.blk
        go_wp2_with fail
        refine (cp.out _ _ _ _ P11.out).mono ?_
        rintro e w12 ⟨rfl, hb⟩
        rw [show (P1.sy vb1 vr1).phase = 2 from by show ((P1.phase : Nat) : Int) = 2; rw [HPH.out]; rfl]
        have P12 := Lib.hid (P11.out.keep hb); have KS12 := Lib.hid (block_keep hb KS11.out); have HM12 := Lib.hid (HM11.out.keep hb); have O12 := Lib.hid (O11.out.keep hb); have B12 := Lib.hid (below_next B11.out hb)
        have hz12 := hb.size
        clear hb P11 KS11 HM11 O11 B11
        by_cases h26 : L2 = 26
        · have e26b : ((L2 : Int) != 26) = false := by rw [h26]; rfl
          have H26 := Lib.hid h26
          obtain ⟨b2, eb2, hm2, hb2a, _⟩ := O12.out.arg2 (by rw [← HL2.out, h26]; omega)
          subst eb2
          have HM2 := Lib.hid hm2
          have hb2g : b2 ≠ g := by omega
          have hb2l := (hO12.out b2 rfl).1
          obtain ⟨n, hn⟩ : ∃ n, n = N - 1 := ⟨_, rfl⟩
          have hen : Hid (enN N = n) := Lib.hid (by unfold enN; omega)
          have en1 : (N : Int) - 1 = (n : Int) := by omega
          have hn23 : n ≤ 23 := by omega
          have hn1 : 1 ≤ n := by omega
          obtain ⟨s, hs⟩ : ∃ s, s = S % 256 := ⟨_, rfl⟩
          have hs2 : s < 256 := by omega
          have HCS : Hid (∀ V : World, V.heap[gs]? = some (iblk S) → V.cell? ⟨gs, 0, none⟩ = some (.int .u8 (s : Int))) := Lib.hid fun V hV => by rw [hs, ← show lb S 0 = ((S % 256 : Nat) : Int) from by simp [lb]]; exact (cell_of_row _ _ _ _ _ _ hV).trans (by rw [List.getElem?_toArray]; exact ids_get S 0 (by omega))
          have HSS := Lib.hid hs
          have hsmod : s % 4 < 4 := by omega
          clear hm2 hb2a h26 hn hs O12
          go_upto_block 0 with fail
          go_cut [13] (fun s13 wx => Below w12.heap.size w12 wx ∧ Found S one two n s13)
          case first =>
            go_wp2_with fail
            go_loopg [13, 14] n (fun gm v13 ix wr => ∃ j : Nat, gm = n - j ∧ j ≤ n ∧ v13 = .int .i64 (-1) ∧ ix = .int .i64 j ∧ Below w12.heap.size w12 wr ∧ Alike S one two j)
            case atStart => exact ⟨0, rfl, Nat.zero_le _, rfl, rfl, Below.refl _ _, fun i hi => by omega⟩
            case round =>
              obtain ⟨j, hgm, hj, rfl, rfl, hbw, hal⟩ := hrel
              have HGM := Lib.hid hgm; have BW := Lib.hid hbw; have AL := Lib.hid hal
              have KS := Lib.hid (block_keep hbw KS12.out)
              clear hgm hbw hal
              by_cases hlt : j < n
              · have hj1 : j < one.length := by rw [← HL.out, HL26.out]; omega
                have hj2 : j < two.length := by rw [← HL2.out, H26.out]; omega
                obtain ⟨h1, hh1⟩ : ∃ h, h = one.getD j hd0 := ⟨_, rfl⟩
                obtain ⟨h2, hh2⟩ : ∃ h, h = two.getD j hd0 := ⟨_, rfl⟩
                have hok1 : h1.ok := by rw [hh1]; exact HC1.out.ok _ (by rw [List.getD_eq_getElem?_getD, List.getElem?_eq_getElem hj1]; exact List.getElem_mem _)
                have hok2 : h2.ok := by rw [hh2]; exact HC2.out.ok _ (by rw [List.getD_eq_getElem?_getD, List.getElem?_eq_getElem hj2]; exact List.getElem_mem _)
                have H1 : Hid (∀ V, Below wr.heap.size wr V → V.rangeAt b0 (j * 68) (hdcs h1)) := Lib.hid fun V hV => by have := ((HM12.out.keep BW.out).keep hV).at j hj1; rw [Nat.zero_add, ← hh1] at this; exact this
                have H2 : Hid (∀ V, Below wr.heap.size wr V → V.rangeAt b2 (j * 68) (hdcs h2)) := Lib.hid fun V hV => by have := ((HM2.out.keep BW.out).keep hV).at j hj2; rw [Nat.zero_add, ← hh2] at this; exact this
                have ci1 := Lib.hid fun V => hid_any h1 hok1 V
                have ci2 := Lib.hid fun V => hid_any h2 hok2 V
                obtain ⟨i1, hi1⟩ : ∃ i, i = hdid h1 := ⟨_, rfl⟩
                obtain ⟨i2, hi2⟩ : ∃ i, i = hdid h2 := ⟨_, rfl⟩
                rw [← hi1] at ci1; rw [← hi2] at ci2
                have cb1 := Lib.hid fun V => bit_any S i1 V
                have cb2 := Lib.hid fun V => bit_any S i2 V
                obtain ⟨t1, ht1⟩ : ∃ i, i = hbit S i1 := ⟨_, rfl⟩
                obtain ⟨t2, ht2⟩ : ∃ i, i = hbit S i2 := ⟨_, rfl⟩
                rw [← ht1] at cb1; rw [← ht2] at cb2
                have HE1 : Hid (t1 = hbit S (hdid (one.getD j hd0))) := Lib.hid (by rw [ht1, hi1, hh1])
                have HE2 : Hid (t2 = hbit S (hdid (two.getD j hd0))) := Lib.hid (by rw [ht2, hi2, hh2])
                have hjL : j < L := by rw [HL26.out]; omega
                have hjL2 : j < L2 := by rw [H26.out]; omega
                clear hj1 hj2 hh1 hh2 hok1 hok2 hi1 hi2 ht1 ht2
                by_cases hm : (j + 1) % 4 = s % 4
                · have em : ((((j : Int) + 1) % 4) == ((s : Int) % 4)) = true := by rw [beq_iff_eq]; omega
                  have HMK : Hid ((j + 1) % 4 = S % 256 % 4) := Lib.hid (by rw [hm, HSS.out])
                  clear hm
                  by_cases hne : t1 = t2
                  · have HT12 : Hid ((t1 == t2) = true) := Lib.hid (by simp [hne])
                    have HEQ := Lib.hid hne
                    clear hne
                    go_wp2_with fail
                    refine wp_region_by [Is (.int .i64 j), Is (.int .i64 (j + 1)), Is (.int .i64 ((j + 1) % 4)), Is (.pointer (some ⟨gs, 0, none⟩)), Is (.int .u8 s), Is (.int .i64 s), Is (.int .i64 (s % 4)), Is (.bool true), Is (.bool true), Is (iv S), Is (.slice (some ⟨b0, 0, none⟩) L c10), Is (.int .i64 j), Is (.pointer (some ⟨b0, j * 68, none⟩)), Is (hdv h1), Is (iv i1), Is (.bool t1), Is (iv S), Is (.slice (some ⟨b2, 0, none⟩) L2 c12), Is (.int .i64 j), Is (.pointer (some ⟨b2, j * 68, none⟩)), Is (hdv h2), Is (iv i2), Is (.bool t2), Is (.bool false), Is (.bool false)] [[], [(0, some 91)], [(1, some 92)], [], [(3, some 94)], [(4, some 95)], [(5, some 96)], [(2, some 93), (6, some 97)], [(7, some 98)], [(8, some 99)], [(8, some 99)], [(8, some 99)], [(8, some 99), (10, some 101), (11, some 102)], [(8, some 99), (12, some 103)], [(8, some 99), (13, some 104)], [(8, some 99), (9, some 100), (14, some 105)], [(8, some 99)], [(8, some 99)], [(8, some 99)], [(8, some 99), (17, some 108), (18, some 109)], [(8, some 99), (19, some 110)], [(8, some 99), (20, some 111)], [(8, some 99), (16, some 107), (21, some 112)], [(8, some 99), (15, some 106), (22, some 113)], [(8, some 99), (23, some 114)]] [(0, some 91), (1, some 92), (2, some 93), (3, some 94), (4, some 95), (5, some 96), (6, some 97), (7, some 98), (8, some 99), (9, some 100), (10, some 101), (11, some 102), (12, some 103), (13, some 104), (14, some 105), (15, some 106), (16, some 107), (17, some 108), (18, some 109), (19, some 110), (20, some 111), (21, some 112), (22, some 113), (23, some 114), (24, some 115)] [0, 1, 3, 0, 8, 24, 56, 127, 255, 511, 511, 511, 3583, 7679, 15871, 32767, 511, 511, 511, 393727, 918015, 2031615, 4194303, 8388607, 16777215]
                      (by kernel_rfl) (by kernel_rfl) (by kernel_rfl) (by kernel_rfl) ⟨Is.kept _, Is.kept _, Is.kept _, Is.kept _, Is.kept _, Is.kept _, Is.kept _, Is.kept _, Is.kept _, Is.kept _, Is.kept _, Is.kept _, Is.kept _, Is.kept _, Is.kept _, Is.kept _, Is.kept _, Is.kept _, Is.kept _, Is.kept _, Is.kept _, Is.kept _, Is.kept _, Is.kept _, Is.kept _, trivial⟩ ⟨?_, ?_, ?_, ?_, ?_, ?_, ?_, ?_, ?_, ?_, ?_, ?_, ?_, ?_, ?_, ?_, ?_, ?_, ?_, ?_, ?_, ?_, ?_, ?_, ?_, trivial⟩ ?_
                    · as_aux_lemma =>
                      refine fun w' hB => ?_
                      show wpList _ _ _ _ _ _
                      go_wp2_with fail
                      exact ⟨.int .i64 j, by first | rfl | (go_simp; done), rfl, Below.refl _ _⟩
                    · as_aux_lemma =>
                      refine fun w' hB v0 h0 => ?_
                      obtain rfl := h0
                      show wpList _ _ _ _ _ _
                      go_wp2_with fail
                      exact ⟨.int .i64 (j + 1), by first | rfl | (go_simp; done), rfl, Below.refl _ _⟩
                    · as_aux_lemma =>
                      refine fun w' hB v1 h1 => ?_
                      obtain rfl := h1
                      show wpList _ _ _ _ _ _
                      go_wp2_with fail
                      exact ⟨.int .i64 ((j + 1) % 4), by first | rfl | (go_simp; done), rfl, Below.refl _ _⟩
                    · as_aux_lemma =>
                      refine fun w' hB => ?_
                      show wpList _ _ _ _ _ _
                      go_wp2_with fail
                      exact ⟨.pointer (some ⟨gs, 0, none⟩), by first | rfl | (go_simp; done), rfl, Below.refl _ _⟩
                    · as_aux_lemma =>
                      refine fun w' hB v3 h3 => ?_
                      obtain rfl := h3
                      show wpList _ _ _ _ _ _
                      have c := HCS.out _ (block_keep hB KS.out)
                      go_wp2_with fail
                      exact ⟨_, rfl, rfl, Below.refl _ _⟩
                    · as_aux_lemma =>
                      refine fun w' hB v4 h4 => ?_
                      obtain rfl := h4
                      show wpList _ _ _ _ _ _
                      go_wp2_with fail
                      exact ⟨.int .i64 s, by first | rfl | (go_simp; done), rfl, Below.refl _ _⟩
                    · as_aux_lemma =>
                      refine fun w' hB v5 h5 => ?_
                      obtain rfl := h5
                      show wpList _ _ _ _ _ _
                      go_wp2_with fail
                      exact ⟨.int .i64 (s % 4), by first | rfl | (go_simp; done), rfl, Below.refl _ _⟩
                    · as_aux_lemma =>
                      refine fun w' hB v2 h2 v6 h6 => ?_
                      obtain rfl := h2
                      obtain rfl := h6
                      show wpList _ _ _ _ _ _
                      go_wp2_with fail
                      exact ⟨.bool true, by first | rfl | (go_simp; done), rfl, Below.refl _ _⟩
                    · as_aux_lemma =>
                      refine fun w' hB v7 h7 => ?_
                      obtain rfl := h7
                      show wpList _ _ _ _ _ _
                      go_wp2_with fail
                      exact ⟨.bool true, by first | rfl | (go_simp; done), rfl, Below.refl _ _⟩
                    · as_aux_lemma =>
                      refine fun w' hB v8 h8 => ?_
                      obtain rfl := h8
                      show wpList _ _ _ _ _ _
                      go_wp2_with ((with_reducible show wpList _ _ _ _ _ _); first | refine wpList_load_id rfl (.tmp 4) rfl gs S rfl (block_keep hB KS.out) ?_ | (refine wpList_unguard rfl ?_; refine wpList_load_id rfl (.tmp 4) rfl gs S rfl (block_keep hB KS.out) ?_))
                      exact ⟨_, rfl, rfl, Below.refl _ _⟩
                    · as_aux_lemma =>
                      refine fun w' hB v8 h8 => ?_
                      obtain rfl := h8
                      show wpList _ _ _ _ _ _
                      go_wp2_with fail
                      exact ⟨.slice (some ⟨b0, 0, none⟩) L c10, by first | rfl | (go_simp; done), rfl, Below.refl _ _⟩
                    · as_aux_lemma =>
                      refine fun w' hB v8 h8 => ?_
                      obtain rfl := h8
                      show wpList _ _ _ _ _ _
                      go_wp2_with fail
                      exact ⟨.int .i64 j, by first | rfl | (go_simp; done), rfl, Below.refl _ _⟩
                    · as_aux_lemma =>
                      refine fun w' hB v8 h8 v10 h10 v11 h11 => ?_
                      obtain rfl := h8
                      obtain rfl := h10
                      obtain rfl := h11
                      show wpList _ _ _ _ _ _
                      go_wp2_with fail
                      exact ⟨.pointer (some ⟨b0, j * 68, none⟩), by first | rfl | (go_simp; done), rfl, Below.refl _ _⟩
                    · as_aux_lemma =>
                      refine fun w' hB v8 h8 v12 h12 => ?_
                      obtain rfl := h8
                      obtain rfl := h12
                      show wpList _ _ _ _ _ _
                      go_wp2_with ((with_reducible show wpList _ _ _ _ _ _); first | refine ld_hd rfl (.tmp 103) rfl b0 (j * 68) h1 rfl (H1.out _ hB) ?_ | (refine wpList_unguard rfl ?_; refine ld_hd rfl (.tmp 103) rfl b0 (j * 68) h1 rfl (H1.out _ hB) ?_))
                      exact ⟨_, rfl, rfl, Below.refl _ _⟩
                    · as_aux_lemma =>
                      refine fun w' hB v8 h8 v13 h13 => ?_
                      obtain rfl := h8
                      obtain rfl := h13
                      show wpList _ _ _ _ _ _
                      go_wp2_with fail
                      refine (ci1.out w').mono ?_
                      rintro e w2 ⟨rfl, hb2⟩
                      go_wp2_with fail
                      exact ⟨iv i1, by first | rfl | (go_simp; done), rfl, hb2⟩
                    · as_aux_lemma =>
                      refine fun w' hB v8 h8 v9 h9 v14 h14 => ?_
                      obtain rfl := h8
                      obtain rfl := h9
                      obtain rfl := h14
                      show wpList _ _ _ _ _ _
                      go_wp2_with fail
                      refine (cb1.out w').mono ?_
                      rintro e w2 ⟨rfl, hb2⟩
                      go_wp2_with fail
                      exact ⟨.bool t1, by first | rfl | (go_simp; done), rfl, hb2⟩
                    · as_aux_lemma =>
                      refine fun w' hB v8 h8 => ?_
                      obtain rfl := h8
                      show wpList _ _ _ _ _ _
                      go_wp2_with ((with_reducible show wpList _ _ _ _ _ _); first | refine wpList_load_id rfl (.tmp 4) rfl gs S rfl (block_keep hB KS.out) ?_ | (refine wpList_unguard rfl ?_; refine wpList_load_id rfl (.tmp 4) rfl gs S rfl (block_keep hB KS.out) ?_))
                      exact ⟨_, rfl, rfl, Below.refl _ _⟩
                    · as_aux_lemma =>
                      refine fun w' hB v8 h8 => ?_
                      obtain rfl := h8
                      show wpList _ _ _ _ _ _
                      go_wp2_with fail
                      exact ⟨.slice (some ⟨b2, 0, none⟩) L2 c12, by first | rfl | (go_simp; done), rfl, Below.refl _ _⟩
                    · as_aux_lemma =>
                      refine fun w' hB v8 h8 => ?_
                      obtain rfl := h8
                      show wpList _ _ _ _ _ _
                      go_wp2_with fail
                      exact ⟨.int .i64 j, by first | rfl | (go_simp; done), rfl, Below.refl _ _⟩
                    · as_aux_lemma =>
                      refine fun w' hB v8 h8 v17 h17 v18 h18 => ?_
                      obtain rfl := h8
                      obtain rfl := h17
                      obtain rfl := h18
                      show wpList _ _ _ _ _ _
                      go_wp2_with fail
                      exact ⟨.pointer (some ⟨b2, j * 68, none⟩), by first | rfl | (go_simp; done), rfl, Below.refl _ _⟩
                    · as_aux_lemma =>
                      refine fun w' hB v8 h8 v19 h19 => ?_
                      obtain rfl := h8
                      obtain rfl := h19
                      show wpList _ _ _ _ _ _
                      go_wp2_with ((with_reducible show wpList _ _ _ _ _ _); first | refine ld_hd rfl (.tmp 110) rfl b2 (j * 68) h2 rfl (H2.out _ hB) ?_ | (refine wpList_unguard rfl ?_; refine ld_hd rfl (.tmp 110) rfl b2 (j * 68) h2 rfl (H2.out _ hB) ?_))
                      exact ⟨_, rfl, rfl, Below.refl _ _⟩
                    · as_aux_lemma =>
                      refine fun w' hB v8 h8 v20 h20 => ?_
                      obtain rfl := h8
                      obtain rfl := h20
                      show wpList _ _ _ _ _ _
                      go_wp2_with fail
                      refine (ci2.out w').mono ?_
                      rintro e w2 ⟨rfl, hb2⟩
                      go_wp2_with fail
                      exact ⟨iv i2, by first | rfl | (go_simp; done), rfl, hb2⟩
                    · as_aux_lemma =>
                      refine fun w' hB v8 h8 v16 h16 v21 h21 => ?_
                      obtain rfl := h8
                      obtain rfl := h16
                      obtain rfl := h21
                      show wpList _ _ _ _ _ _
                      go_wp2_with fail
                      refine (cb2.out w').mono ?_
                      rintro e w2 ⟨rfl, hb2⟩
                      go_wp2_with fail
                      exact ⟨.bool t2, by first | rfl | (go_simp; done), rfl, hb2⟩
                    · as_aux_lemma =>
                      refine fun w' hB v8 h8 v15 h15 v22 h22 => ?_
                      obtain rfl := h8
                      obtain rfl := h15
                      obtain rfl := h22
                      show wpList _ _ _ _ _ _
                      have ex := HT12.out
                      go_wp2_with fail
                      exact ⟨_, rfl, rfl, Below.refl _ _⟩
                    · as_aux_lemma =>
                      refine fun w' hB v8 h8 v23 h23 => ?_
                      obtain rfl := h8
                      obtain rfl := h23
                      show wpList _ _ _ _ _ _
                      go_wp2_with fail
                      exact ⟨.bool false, by first | rfl | (go_simp; done), rfl, Below.refl _ _⟩
                    · refine fun w' hB v0 h0 v1 h1 v2 h2 v3 h3 v4 h4 v5 h5 v6 h6 v7 h7 v8 h8 v9 h9 v10 h10 v11 h11 v12 h12 v13 h13 v14 h14 v15 h15 v16 h16 v17 h17 v18 h18 v19 h19 v20 h20 v21 h21 v22 h22 v23 h23 v24 h24 => ?_
                      obtain rfl := h24
                      simp only [onP]
                      go_simp
                      clear h0 h1 h2 h3 h4 h5 h6 h7 h8 h9 h10 h11 h12 h13 h14 h15 h16 h17 h18 h19 h20 h21 h22 h23
                      have BW2 := Lib.hid (below_next BW.out hB)
                      clear hB
                      go_wp2_with fail
                      go_roundg (n - (j + 1))
                      case measure => have := HGM.out; omega
                      case rel => exact ⟨j + 1, rfl, by omega, rfl, by go_num, BW2.out, Alike.next AL.out (fun _ => by rw [← HE1.out, ← HE2.out]; exact HEQ.out)⟩
                  · have HT12 : Hid ((t1 == t2) = false) := Lib.hid (by simp [hne])
                    have HNE := Lib.hid hne
                    clear hne
                    go_wp2_with fail
                    refine wp_region_by [Is (.int .i64 j), Is (.int .i64 (j + 1)), Is (.int .i64 ((j + 1) % 4)), Is (.pointer (some ⟨gs, 0, none⟩)), Is (.int .u8 s), Is (.int .i64 s), Is (.int .i64 (s % 4)), Is (.bool true), Is (.bool true), Is (iv S), Is (.slice (some ⟨b0, 0, none⟩) L c10), Is (.int .i64 j), Is (.pointer (some ⟨b0, j * 68, none⟩)), Is (hdv h1), Is (iv i1), Is (.bool t1), Is (iv S), Is (.slice (some ⟨b2, 0, none⟩) L2 c12), Is (.int .i64 j), Is (.pointer (some ⟨b2, j * 68, none⟩)), Is (hdv h2), Is (iv i2), Is (.bool t2), Is (.bool true), Is (.bool true)] [[], [(0, some 91)], [(1, some 92)], [], [(3, some 94)], [(4, some 95)], [(5, some 96)], [(2, some 93), (6, some 97)], [(7, some 98)], [(8, some 99)], [(8, some 99)], [(8, some 99)], [(8, some 99), (10, some 101), (11, some 102)], [(8, some 99), (12, some 103)], [(8, some 99), (13, some 104)], [(8, some 99), (9, some 100), (14, some 105)], [(8, some 99)], [(8, some 99)], [(8, some 99)], [(8, some 99), (17, some 108), (18, some 109)], [(8, some 99), (19, some 110)], [(8, some 99), (20, some 111)], [(8, some 99), (16, some 107), (21, some 112)], [(8, some 99), (15, some 106), (22, some 113)], [(8, some 99), (23, some 114)]] [(0, some 91), (1, some 92), (2, some 93), (3, some 94), (4, some 95), (5, some 96), (6, some 97), (7, some 98), (8, some 99), (9, some 100), (10, some 101), (11, some 102), (12, some 103), (13, some 104), (14, some 105), (15, some 106), (16, some 107), (17, some 108), (18, some 109), (19, some 110), (20, some 111), (21, some 112), (22, some 113), (23, some 114), (24, some 115)] [0, 1, 3, 0, 8, 24, 56, 127, 255, 511, 511, 511, 3583, 7679, 15871, 32767, 511, 511, 511, 393727, 918015, 2031615, 4194303, 8388607, 16777215]
                      (by kernel_rfl) (by kernel_rfl) (by kernel_rfl) (by kernel_rfl) ⟨Is.kept _, Is.kept _, Is.kept _, Is.kept _, Is.kept _, Is.kept _, Is.kept _, Is.kept _, Is.kept _, Is.kept _, Is.kept _, Is.kept _, Is.kept _, Is.kept _, Is.kept _, Is.kept _, Is.kept _, Is.kept _, Is.kept _, Is.kept _, Is.kept _, Is.kept _, Is.kept _, Is.kept _, Is.kept _, trivial⟩ ⟨?_, ?_, ?_, ?_, ?_, ?_, ?_, ?_, ?_, ?_, ?_, ?_, ?_, ?_, ?_, ?_, ?_, ?_, ?_, ?_, ?_, ?_, ?_, ?_, ?_, trivial⟩ ?_
                    · as_aux_lemma =>
                      refine fun w' hB => ?_
                      show wpList _ _ _ _ _ _
                      go_wp2_with fail
                      exact ⟨.int .i64 j, by first | rfl | (go_simp; done), rfl, Below.refl _ _⟩
                    · as_aux_lemma =>
                      refine fun w' hB v0 h0 => ?_
                      obtain rfl := h0
                      show wpList _ _ _ _ _ _
                      go_wp2_with fail
                      exact ⟨.int .i64 (j + 1), by first | rfl | (go_simp; done), rfl, Below.refl _ _⟩
                    · as_aux_lemma =>
                      refine fun w' hB v1 h1 => ?_
                      obtain rfl := h1
                      show wpList _ _ _ _ _ _
                      go_wp2_with fail
                      exact ⟨.int .i64 ((j + 1) % 4), by first | rfl | (go_simp; done), rfl, Below.refl _ _⟩
                    · as_aux_lemma =>
                      refine fun w' hB => ?_
                      show wpList _ _ _ _ _ _
                      go_wp2_with fail
                      exact ⟨.pointer (some ⟨gs, 0, none⟩), by first | rfl | (go_simp; done), rfl, Below.refl _ _⟩
                    · as_aux_lemma =>
                      refine fun w' hB v3 h3 => ?_
                      obtain rfl := h3
                      show wpList _ _ _ _ _ _
                      have c := HCS.out _ (block_keep hB KS.out)
                      go_wp2_with fail
                      exact ⟨_, rfl, rfl, Below.refl _ _⟩
                    · as_aux_lemma =>
                      refine fun w' hB v4 h4 => ?_
                      obtain rfl := h4
                      show wpList _ _ _ _ _ _
                      go_wp2_with fail
                      exact ⟨.int .i64 s, by first | rfl | (go_simp; done), rfl, Below.refl _ _⟩
                    · as_aux_lemma =>
                      refine fun w' hB v5 h5 => ?_
                      obtain rfl := h5
                      show wpList _ _ _ _ _ _
                      go_wp2_with fail
                      exact ⟨.int .i64 (s % 4), by first | rfl | (go_simp; done), rfl, Below.refl _ _⟩
                    · as_aux_lemma =>
                      refine fun w' hB v2 h2 v6 h6 => ?_
                      obtain rfl := h2
                      obtain rfl := h6
                      show wpList _ _ _ _ _ _
                      go_wp2_with fail
                      exact ⟨.bool true, by first | rfl | (go_simp; done), rfl, Below.refl _ _⟩
                    · as_aux_lemma =>
                      refine fun w' hB v7 h7 => ?_
                      obtain rfl := h7
                      show wpList _ _ _ _ _ _
                      go_wp2_with fail
                      exact ⟨.bool true, by first | rfl | (go_simp; done), rfl, Below.refl _ _⟩
                    · as_aux_lemma =>
                      refine fun w' hB v8 h8 => ?_
                      obtain rfl := h8
                      show wpList _ _ _ _ _ _
                      go_wp2_with ((with_reducible show wpList _ _ _ _ _ _); first | refine wpList_load_id rfl (.tmp 4) rfl gs S rfl (block_keep hB KS.out) ?_ | (refine wpList_unguard rfl ?_; refine wpList_load_id rfl (.tmp 4) rfl gs S rfl (block_keep hB KS.out) ?_))
                      exact ⟨_, rfl, rfl, Below.refl _ _⟩
                    · as_aux_lemma =>
                      refine fun w' hB v8 h8 => ?_
                      obtain rfl := h8
                      show wpList _ _ _ _ _ _
                      go_wp2_with fail
                      exact ⟨.slice (some ⟨b0, 0, none⟩) L c10, by first | rfl | (go_simp; done), rfl, Below.refl _ _⟩
                    · as_aux_lemma =>
                      refine fun w' hB v8 h8 => ?_
                      obtain rfl := h8
                      show wpList _ _ _ _ _ _
                      go_wp2_with fail
                      exact ⟨.int .i64 j, by first | rfl | (go_simp; done), rfl, Below.refl _ _⟩
                    · as_aux_lemma =>
                      refine fun w' hB v8 h8 v10 h10 v11 h11 => ?_
                      obtain rfl := h8
                      obtain rfl := h10
                      obtain rfl := h11
                      show wpList _ _ _ _ _ _
                      go_wp2_with fail
                      exact ⟨.pointer (some ⟨b0, j * 68, none⟩), by first | rfl | (go_simp; done), rfl, Below.refl _ _⟩
                    · as_aux_lemma =>
                      refine fun w' hB v8 h8 v12 h12 => ?_
                      obtain rfl := h8
                      obtain rfl := h12
                      show wpList _ _ _ _ _ _
                      go_wp2_with ((with_reducible show wpList _ _ _ _ _ _); first | refine ld_hd rfl (.tmp 103) rfl b0 (j * 68) h1 rfl (H1.out _ hB) ?_ | (refine wpList_unguard rfl ?_; refine ld_hd rfl (.tmp 103) rfl b0 (j * 68) h1 rfl (H1.out _ hB) ?_))
                      exact ⟨_, rfl, rfl, Below.refl _ _⟩
                    · as_aux_lemma =>
                      refine fun w' hB v8 h8 v13 h13 => ?_
                      obtain rfl := h8
                      obtain rfl := h13
                      show wpList _ _ _ _ _ _
                      go_wp2_with fail
                      refine (ci1.out w').mono ?_
                      rintro e w2 ⟨rfl, hb2⟩
                      go_wp2_with fail
                      exact ⟨iv i1, by first | rfl | (go_simp; done), rfl, hb2⟩
                    · as_aux_lemma =>
                      refine fun w' hB v8 h8 v9 h9 v14 h14 => ?_
                      obtain rfl := h8
                      obtain rfl := h9
                      obtain rfl := h14
                      show wpList _ _ _ _ _ _
                      go_wp2_with fail
                      refine (cb1.out w').mono ?_
                      rintro e w2 ⟨rfl, hb2⟩
                      go_wp2_with fail
                      exact ⟨.bool t1, by first | rfl | (go_simp; done), rfl, hb2⟩
                    · as_aux_lemma =>
                      refine fun w' hB v8 h8 => ?_
                      obtain rfl := h8
                      show wpList _ _ _ _ _ _
                      go_wp2_with ((with_reducible show wpList _ _ _ _ _ _); first | refine wpList_load_id rfl (.tmp 4) rfl gs S rfl (block_keep hB KS.out) ?_ | (refine wpList_unguard rfl ?_; refine wpList_load_id rfl (.tmp 4) rfl gs S rfl (block_keep hB KS.out) ?_))
                      exact ⟨_, rfl, rfl, Below.refl _ _⟩
                    · as_aux_lemma =>
                      refine fun w' hB v8 h8 => ?_
                      obtain rfl := h8
                      show wpList _ _ _ _ _ _
                      go_wp2_with fail
                      exact ⟨.slice (some ⟨b2, 0, none⟩) L2 c12, by first | rfl | (go_simp; done), rfl, Below.refl _ _⟩
                    · as_aux_lemma =>
                      refine fun w' hB v8 h8 => ?_
                      obtain rfl := h8
                      show wpList _ _ _ _ _ _
                      go_wp2_with fail
                      exact ⟨.int .i64 j, by first | rfl | (go_simp; done), rfl, Below.refl _ _⟩
                    · as_aux_lemma =>
                      refine fun w' hB v8 h8 v17 h17 v18 h18 => ?_
                      obtain rfl := h8
                      obtain rfl := h17
                      obtain rfl := h18
                      show wpList _ _ _ _ _ _
                      go_wp2_with fail
                      exact ⟨.pointer (some ⟨b2, j * 68, none⟩), by first | rfl | (go_simp; done), rfl, Below.refl _ _⟩
                    · as_aux_lemma =>
                      refine fun w' hB v8 h8 v19 h19 => ?_
                      obtain rfl := h8
                      obtain rfl := h19
                      show wpList _ _ _ _ _ _
                      go_wp2_with ((with_reducible show wpList _ _ _ _ _ _); first | refine ld_hd rfl (.tmp 110) rfl b2 (j * 68) h2 rfl (H2.out _ hB) ?_ | (refine wpList_unguard rfl ?_; refine ld_hd rfl (.tmp 110) rfl b2 (j * 68) h2 rfl (H2.out _ hB) ?_))
                      exact ⟨_, rfl, rfl, Below.refl _ _⟩
                    · as_aux_lemma =>
                      refine fun w' hB v8 h8 v20 h20 => ?_
                      obtain rfl := h8
                      obtain rfl := h20
                      show wpList _ _ _ _ _ _
                      go_wp2_with fail
                      refine (ci2.out w').mono ?_
                      rintro e w2 ⟨rfl, hb2⟩
                      go_wp2_with fail
                      exact ⟨iv i2, by first | rfl | (go_simp; done), rfl, hb2⟩
                    · as_aux_lemma =>
                      refine fun w' hB v8 h8 v16 h16 v21 h21 => ?_
                      obtain rfl := h8
                      obtain rfl := h16
                      obtain rfl := h21
                      show wpList _ _ _ _ _ _
                      go_wp2_with fail
                      refine (cb2.out w').mono ?_
                      rintro e w2 ⟨rfl, hb2⟩
                      go_wp2_with fail
                      exact ⟨.bool t2, by first | rfl | (go_simp; done), rfl, hb2⟩
                    · as_aux_lemma =>
                      refine fun w' hB v8 h8 v15 h15 v22 h22 => ?_
                      obtain rfl := h8
                      obtain rfl := h15
                      obtain rfl := h22
                      show wpList _ _ _ _ _ _
                      have ex := HT12.out
                      go_wp2_with fail
                      exact ⟨_, rfl, rfl, Below.refl _ _⟩
                    · as_aux_lemma =>
                      refine fun w' hB v8 h8 v23 h23 => ?_
                      obtain rfl := h8
                      obtain rfl := h23
                      show wpList _ _ _ _ _ _
                      go_wp2_with fail
                      exact ⟨.bool true, by first | rfl | (go_simp; done), rfl, Below.refl _ _⟩
                    · refine fun w' hB v0 h0 v1 h1 v2 h2 v3 h3 v4 h4 v5 h5 v6 h6 v7 h7 v8 h8 v9 h9 v10 h10 v11 h11 v12 h12 v13 h13 v14 h14 v15 h15 v16 h16 v17 h17 v18 h18 v19 h19 v20 h20 v21 h21 v22 h22 v23 h23 v24 h24 => ?_
                      obtain rfl := h24
                      simp only [onP]
                      go_simp
                      clear h0 h1 h2 h3 h4 h5 h6 h7 h8 h9 h10 h11 h12 h13 h14 h15 h16 h17 h18 h19 h20 h21 h22 h23
                      have BW2 := Lib.hid (below_next BW.out hB)
                      clear hB
                      go_wp2_with fail
                      go_meet
                      case rel => exact ⟨BW2.out, .inr ⟨j, hlt, rfl, HMK.out, (by rw [← HE1.out, ← HE2.out]; exact HNE.out), AL.out⟩⟩
                · have em : ((((j : Int) + 1) % 4) == ((s : Int) % 4)) = false := by rw [Bool.eq_false_iff, Ne, beq_iff_eq]; omega
                  have HMK : Hid (¬ (j + 1) % 4 = S % 256 % 4) := Lib.hid (by rw [← HSS.out]; exact hm)
                  clear hm
                  go_wp2_with fail
                  refine wp_region_by [Is (.int .i64 j), Is (.int .i64 (j + 1)), Is (.int .i64 ((j + 1) % 4)), Is (.pointer (some ⟨gs, 0, none⟩)), Is (.int .u8 s), Is (.int .i64 s), Is (.int .i64 (s % 4)), Is (.bool false), Is (.bool false), Is (undef), Is (undef), Is (undef), Is (undef), Is (undef), Is (undef), Is (undef), Is (undef), Is (undef), Is (undef), Is (undef), Is (undef), Is (undef), Is (undef), Is (undef), Is (.bool false)] [[], [(0, some 91)], [(1, some 92)], [], [(3, some 94)], [(4, some 95)], [(5, some 96)], [(2, some 93), (6, some 97)], [(7, some 98)], [(8, some 99)], [(8, some 99)], [(8, some 99)], [(8, some 99), (10, some 101), (11, some 102)], [(8, some 99), (12, some 103)], [(8, some 99), (13, some 104)], [(8, some 99), (9, some 100), (14, some 105)], [(8, some 99)], [(8, some 99)], [(8, some 99)], [(8, some 99), (17, some 108), (18, some 109)], [(8, some 99), (19, some 110)], [(8, some 99), (20, some 111)], [(8, some 99), (16, some 107), (21, some 112)], [(8, some 99), (15, some 106), (22, some 113)], [(8, some 99), (23, some 114)]] [(0, some 91), (1, some 92), (2, some 93), (3, some 94), (4, some 95), (5, some 96), (6, some 97), (7, some 98), (8, some 99), (9, some 100), (10, some 101), (11, some 102), (12, some 103), (13, some 104), (14, some 105), (15, some 106), (16, some 107), (17, some 108), (18, some 109), (19, some 110), (20, some 111), (21, some 112), (22, some 113), (23, some 114), (24, some 115)] [0, 1, 3, 0, 8, 24, 56, 127, 255, 511, 511, 511, 3583, 7679, 15871, 32767, 511, 511, 511, 393727, 918015, 2031615, 4194303, 8388607, 16777215]
                    (by kernel_rfl) (by kernel_rfl) (by kernel_rfl) (by kernel_rfl) ⟨Is.kept _, Is.kept _, Is.kept _, Is.kept _, Is.kept _, Is.kept _, Is.kept _, Is.kept _, Is.kept _, Is.kept _, Is.kept _, Is.kept _, Is.kept _, Is.kept _, Is.kept _, Is.kept _, Is.kept _, Is.kept _, Is.kept _, Is.kept _, Is.kept _, Is.kept _, Is.kept _, Is.kept _, Is.kept _, trivial⟩ ⟨?_, ?_, ?_, ?_, ?_, ?_, ?_, ?_, ?_, ?_, ?_, ?_, ?_, ?_, ?_, ?_, ?_, ?_, ?_, ?_, ?_, ?_, ?_, ?_, ?_, trivial⟩ ?_
                  · as_aux_lemma =>
                    refine fun w' hB => ?_
                    show wpList _ _ _ _ _ _
                    go_wp2_with fail
                    exact ⟨.int .i64 j, by first | rfl | (go_simp; done), rfl, Below.refl _ _⟩
                  · as_aux_lemma =>
                    refine fun w' hB v0 h0 => ?_
                    obtain rfl := h0
                    show wpList _ _ _ _ _ _
                    go_wp2_with fail
                    exact ⟨.int .i64 (j + 1), by first | rfl | (go_simp; done), rfl, Below.refl _ _⟩
                  · as_aux_lemma =>
                    refine fun w' hB v1 h1 => ?_
                    obtain rfl := h1
                    show wpList _ _ _ _ _ _
                    go_wp2_with fail
                    exact ⟨.int .i64 ((j + 1) % 4), by first | rfl | (go_simp; done), rfl, Below.refl _ _⟩
                  · as_aux_lemma =>
                    refine fun w' hB => ?_
                    show wpList _ _ _ _ _ _
                    go_wp2_with fail
                    exact ⟨.pointer (some ⟨gs, 0, none⟩), by first | rfl | (go_simp; done), rfl, Below.refl _ _⟩
                  · as_aux_lemma =>
                    refine fun w' hB v3 h3 => ?_
                    obtain rfl := h3
                    show wpList _ _ _ _ _ _
                    have c := HCS.out _ (block_keep hB KS.out)
                    go_wp2_with fail
                    exact ⟨_, rfl, rfl, Below.refl _ _⟩
                  · as_aux_lemma =>
                    refine fun w' hB v4 h4 => ?_
                    obtain rfl := h4
                    show wpList _ _ _ _ _ _
                    go_wp2_with fail
                    exact ⟨.int .i64 s, by first | rfl | (go_simp; done), rfl, Below.refl _ _⟩
                  · as_aux_lemma =>
                    refine fun w' hB v5 h5 => ?_
                    obtain rfl := h5
                    show wpList _ _ _ _ _ _
                    go_wp2_with fail
                    exact ⟨.int .i64 (s % 4), by first | rfl | (go_simp; done), rfl, Below.refl _ _⟩
                  · as_aux_lemma =>
                    refine fun w' hB v2 h2 v6 h6 => ?_
                    obtain rfl := h2
                    obtain rfl := h6
                    show wpList _ _ _ _ _ _
                    go_wp2_with fail
                    exact ⟨.bool false, by first | rfl | (go_simp; done), rfl, Below.refl _ _⟩
                  · as_aux_lemma =>
                    refine fun w' hB v7 h7 => ?_
                    obtain rfl := h7
                    show wpList _ _ _ _ _ _
                    go_wp2_with fail
                    exact ⟨.bool false, by first | rfl | (go_simp; done), rfl, Below.refl _ _⟩
                  · as_aux_lemma =>
                    refine fun w' hB v8 h8 => ?_
                    obtain rfl := h8
                    show wpList _ _ _ _ _ _
                    refine wpList_skip (by rfl) ?_
                    go_wp2_with fail
                    exact ⟨undef, by first | rfl | (go_simp; done), rfl, Below.refl _ _⟩
                  · as_aux_lemma =>
                    refine fun w' hB v8 h8 => ?_
                    obtain rfl := h8
                    show wpList _ _ _ _ _ _
                    refine wpList_skip (by rfl) ?_
                    go_wp2_with fail
                    exact ⟨undef, by first | rfl | (go_simp; done), rfl, Below.refl _ _⟩
                  · as_aux_lemma =>
                    refine fun w' hB v8 h8 => ?_
                    obtain rfl := h8
                    show wpList _ _ _ _ _ _
                    refine wpList_skip (by rfl) ?_
                    go_wp2_with fail
                    exact ⟨undef, by first | rfl | (go_simp; done), rfl, Below.refl _ _⟩
                  · as_aux_lemma =>
                    refine fun w' hB v8 h8 v10 h10 v11 h11 => ?_
                    obtain rfl := h8
                    obtain rfl := h10
                    obtain rfl := h11
                    show wpList _ _ _ _ _ _
                    refine wpList_skip (by rfl) ?_
                    go_wp2_with fail
                    exact ⟨undef, by first | rfl | (go_simp; done), rfl, Below.refl _ _⟩
                  · as_aux_lemma =>
                    refine fun w' hB v8 h8 v12 h12 => ?_
                    obtain rfl := h8
                    obtain rfl := h12
                    show wpList _ _ _ _ _ _
                    refine wpList_skip (by rfl) ?_
                    go_wp2_with fail
                    exact ⟨undef, by first | rfl | (go_simp; done), rfl, Below.refl _ _⟩
                  · as_aux_lemma =>
                    refine fun w' hB v8 h8 v13 h13 => ?_
                    obtain rfl := h8
                    obtain rfl := h13
                    show wpList _ _ _ _ _ _
                    refine wpList_skip (by rfl) ?_
                    go_wp2_with fail
                    exact ⟨undef, by first | rfl | (go_simp; done), rfl, Below.refl _ _⟩
                  · as_aux_lemma =>
                    refine fun w' hB v8 h8 v9 h9 v14 h14 => ?_
                    obtain rfl := h8
                    obtain rfl := h9
                    obtain rfl := h14
                    show wpList _ _ _ _ _ _
                    refine wpList_skip (by rfl) ?_
                    go_wp2_with fail
                    exact ⟨undef, by first | rfl | (go_simp; done), rfl, Below.refl _ _⟩
                  · as_aux_lemma =>
                    refine fun w' hB v8 h8 => ?_
                    obtain rfl := h8
                    show wpList _ _ _ _ _ _
                    refine wpList_skip (by rfl) ?_
                    go_wp2_with fail
                    exact ⟨undef, by first | rfl | (go_simp; done), rfl, Below.refl _ _⟩
                  · as_aux_lemma =>
                    refine fun w' hB v8 h8 => ?_
                    obtain rfl := h8
                    show wpList _ _ _ _ _ _
                    refine wpList_skip (by rfl) ?_
                    go_wp2_with fail
                    exact ⟨undef, by first | rfl | (go_simp; done), rfl, Below.refl _ _⟩
                  · as_aux_lemma =>
                    refine fun w' hB v8 h8 => ?_
                    obtain rfl := h8
                    show wpList _ _ _ _ _ _
                    refine wpList_skip (by rfl) ?_
                    go_wp2_with fail
                    exact ⟨undef, by first | rfl | (go_simp; done), rfl, Below.refl _ _⟩
                  · as_aux_lemma =>
                    refine fun w' hB v8 h8 v17 h17 v18 h18 => ?_
                    obtain rfl := h8
                    obtain rfl := h17
                    obtain rfl := h18
                    show wpList _ _ _ _ _ _
                    refine wpList_skip (by rfl) ?_
                    go_wp2_with fail
                    exact ⟨undef, by first | rfl | (go_simp; done), rfl, Below.refl _ _⟩
                  · as_aux_lemma =>
                    refine fun w' hB v8 h8 v19 h19 => ?_
                    obtain rfl := h8
                    obtain rfl := h19
                    show wpList _ _ _ _ _ _
                    refine wpList_skip (by rfl) ?_
                    go_wp2_with fail
                    exact ⟨undef, by first | rfl | (go_simp; done), rfl, Below.refl _ _⟩
                  · as_aux_lemma =>
                    refine fun w' hB v8 h8 v20 h20 => ?_
                    obtain rfl := h8
                    obtain rfl := h20
                    show wpList _ _ _ _ _ _
                    refine wpList_skip (by rfl) ?_
                    go_wp2_with fail
                    exact ⟨undef, by first | rfl | (go_simp; done), rfl, Below.refl _ _⟩
                  · as_aux_lemma =>
                    refine fun w' hB v8 h8 v16 h16 v21 h21 => ?_
                    obtain rfl := h8
                    obtain rfl := h16
                    obtain rfl := h21
                    show wpList _ _ _ _ _ _
                    refine wpList_skip (by rfl) ?_
                    go_wp2_with fail
                    exact ⟨undef, by first | rfl | (go_simp; done), rfl, Below.refl _ _⟩
                  · as_aux_lemma =>
                    refine fun w' hB v8 h8 v15 h15 v22 h22 => ?_
                    obtain rfl := h8
                    obtain rfl := h15
                    obtain rfl := h22
                    show wpList _ _ _ _ _ _
                    refine wpList_skip (by rfl) ?_
                    go_wp2_with fail
                    exact ⟨undef, by first | rfl | (go_simp; done), rfl, Below.refl _ _⟩
                  · as_aux_lemma =>
                    refine fun w' hB v8 h8 v23 h23 => ?_
                    obtain rfl := h8
                    obtain rfl := h23
                    show wpList _ _ _ _ _ _
                    go_wp2_with fail
                    exact ⟨.bool false, by first | rfl | (go_simp; done), rfl, Below.refl _ _⟩
                  · refine fun w' hB v0 h0 v1 h1 v2 h2 v3 h3 v4 h4 v5 h5 v6 h6 v7 h7 v8 h8 v9 h9 v10 h10 v11 h11 v12 h12 v13 h13 v14 h14 v15 h15 v16 h16 v17 h17 v18 h18 v19 h19 v20 h20 v21 h21 v22 h22 v23 h23 v24 h24 => ?_
                    obtain rfl := h24
                    simp only [onP]
                    go_simp
                    clear h0 h1 h2 h3 h4 h5 h6 h7 h8 h9 h10 h11 h12 h13 h14 h15 h16 h17 h18 h19 h20 h21 h22 h23
                    have BW2 := Lib.hid (below_next BW.out hB)
                    clear hB
                    go_wp2_with fail
                    go_roundg (n - (j + 1))
                    case measure => have := HGM.out; omega
                    case rel => exact ⟨j + 1, rfl, by omega, rfl, by go_num, BW2.out, Alike.next AL.out (fun c => absurd c HMK.out)⟩
              · obtain rfl : j = n := by omega
                go_wp2_with fail
                go_meet
                case rel => exact ⟨BW.out, .inl ⟨rfl, AL.out⟩⟩
          case rest =>
            obtain ⟨hbw, hfound⟩ := hcut
            obtain ⟨V1, hV1⟩ : ∃ W, W = wc := ⟨_, rfl⟩
            subst hV1
            have P13 := Lib.hid (P12.out.keep hbw); have HM13 := Lib.hid (HM2.out.keep hbw); have B13 := Lib.hid (below_next B12.out hbw)
            have hct := take_any g vb1 vr1 P1 true (some ⟨b2, 0, none⟩) c12 two 26 GT.out (by omega) HC2.out.ok V1 P13.out (fun _ => ⟨b2, 0, rfl, HM13.out, fun e => by
              rcases D11.out b2 e with e | e
              · exact hb2g (psD_new e)
              · omega⟩)
            rw [← HL2.out] at hct
            have CT := Lib.hid hct
            have HDW : Hid (∀ k, psD g vb1 vr1 k → w.heap.size ≤ k) := Lib.hid fun k hk => by
              rcases D11.out k hk with e | e
              · have := psD_new e; omega
              · omega
            clear hbw hct P12 HM2 B12 KS12 HM12
            have hen2 : enN N ≤ two.length := by rw [hen.out, ← HL2.out, H26.out]; omega
            have hen3 : enN N ≤ one.length := by rw [hen.out, ← HL.out, HL26.out]; omega
            rcases hfound with ⟨rfl, hal⟩ | ⟨j, hj, rfl, hm, hne, hal⟩
            · have hsame : mks S 0 (one.take (enN N)) = mks S 0 (two.take (enN N)) := mks_alike S one two _ hen3 hen2 (fun i hi => hal i (by rw [← hen.out]; exact hi))
              obtain ⟨r1, r2⟩ := second_take HXX.out N (by omega) S two HC2.out hen2
              rw [← hsame, ← HP1.out] at r1 r2
              have r3 : (takeP P1 true two).2.length = n := by rw [r2, List.length_take, hen.out]; rw [hen.out] at hen2; omega
              have R1 := Lib.hid r1; have R3 := Lib.hid r3
              clear hsame r1 r2 r3 hen2 hen3 hal
              go_wp2_with fail
              refine CT.out.mono ?_
              rintro e w14 ⟨v15, rfl, ⟨x15, c15, e15, _⟩, hto, _⟩
              subst e15
              have B14 := Lib.hid (hto.below B13.out HDW.out)
              obtain ⟨vb2, vr2, hp2, _, _⟩ := hto
              have P14 := Lib.hid hp2
              obtain ⟨q, hq⟩ : ∃ q, q = takeP P1 true two := ⟨_, rfl⟩
              rw [← hq] at P14 R1 R3
              rw [← hq]
              have hmx : max (1 : Int) (n : Int) = (n : Int) := by omega
              have f3 : ((q.2.length : Int) == (n : Int)) = true := by rw [R3.out]; simp
              clear hp2 hq
              go_wp2_with fail
              refine (cp.out _ _ _ _ P14.out).mono ?_
              rintro e w15 ⟨rfl, hb⟩
              rw [show (q.1.sy vb2 vr2).phase = 3 from by show ((q.1.phase : Nat) : Int) = 3; rw [R1.out]; rfl]
              have B15 := Lib.hid (below_next B14.out hb)
              clear hb
              go_wp2_with fail
              go_ret
              exact ⟨rfl, B15.out⟩
            · obtain ⟨r1, r2, r3⟩ := second_take_bad HXX.out N hN1 (by omega) S one two HC2.out hen2 hen3 j (by rw [hen.out]; exact hj) hm hne hal
              rw [← HP1.out] at r1 r2 r3
              have R1 := Lib.hid r1; have R2 := Lib.hid r2; have R3 := Lib.hid r3
              clear r1 r2 r3 hen2 hen3 hal hne hm
              have hj0 : 0 ≤ (j : Int) := by omega
              go_wp2_with fail
              refine CT.out.mono ?_
              rintro e w14 ⟨v15, rfl, ⟨x15, c15, e15, _⟩, hto, _⟩
              subst e15
              have B14 := Lib.hid (hto.below B13.out HDW.out)
              obtain ⟨vb2, vr2, hp2, _, _⟩ := hto
              have P14 := Lib.hid hp2
              obtain ⟨q, hq⟩ : ∃ q, q = takeP P1 true two := ⟨_, rfl⟩
              rw [← hq] at P14 R1 R2 R3
              rw [← hq]
              have f3 : ((q.2.length : Int) == 0) = true := by rw [R3.out]; rfl
              clear hp2 hq
              go_wp2_with fail
              refine (cp.out _ _ _ _ P14.out).mono ?_
              rintro e w15 ⟨rfl, hb⟩
              rw [show (q.1.sy vb2 vr2).phase = 4 from by show ((q.1.phase : Nat) : Int) = 4; rw [R1.out]; rfl]
              have B15 := Lib.hid (below_next B14.out hb); have P15 := Lib.hid (P14.out.keep hb)
              clear hb
              go_wp2_with fail
              refine (reason_any g (q.1.sy vb2 vr2) _ P15.out.blk).mono ?_
              rintro e w16 ⟨rfl, hb⟩
              rw [show (q.1.sy vb2 vr2).reason = 150 from by show ((q.1.reason : Nat) : Int) = 150; rw [R2.out]; rfl]
              have B16 := Lib.hid (below_next B15.out hb)
              clear hb
              go_wp2_with fail
              go_ret
              exact ⟨rfl, B16.out⟩
        · have e26b : ((L2 : Int) != 26) = true := by simp; omega
          clear h26
          go_wp2_with fail
          refine (cp.out _ _ _ _ P12.out).mono ?_
          rintro e w13 ⟨rfl, hb⟩
          rw [show (P1.sy vb1 vr1).phase = 2 from by show ((P1.phase : Nat) : Int) = 2; rw [HPH.out]; rfl]
          have B13 := Lib.hid (below_next B12.out hb)
          clear hb
          go_wp2_with fail
          go_ret
          exact ⟨rfl, B13.out⟩
  · have e26 : ((L : Int) != 26) = true := by simp; omega
    rw [← hL]
    clear hL
    go_wp2_with fail
    go_ret
    exact ⟨rfl, B6.out⟩

set_option maxRecDepth 100000 in
theorem PresyncLies_lifted (os : Os) (started : os.Started) (H : Type) (enc : TypeId × Value → H) :
    ReturnsInHanded {} Try.checked os 10 .any (Rows.presyncLiesSpec.pre6 enc Try.prog Try.f10 Rows.presyncLiesRow.domain false) (Rows.presyncLiesSpec.post enc Try.prog Try.f10 false true false false) := by
  refine returnsInHanded_of_change (C := Try.checked) own started (by kernel_rfl) Try.func10
    (ChangeSpec.witness6 (enc := enc) (C := Try.checked) false ⟨#[], #[.int .i64 0, .agg #[.int .u8 0, .int .u8 0, .int .u8 0, .int .u8 0, .int .u8 0, .int .u8 0, .int .u8 0, .int .u8 0, .int .u8 0, .int .u8 0, .int .u8 0, .int .u8 0, .int .u8 0, .int .u8 0, .int .u8 0, .int .u8 0, .int .u8 0, .int .u8 0, .int .u8 0, .int .u8 0, .int .u8 0, .int .u8 0, .int .u8 0, .int .u8 0, .int .u8 0, .int .u8 0, .int .u8 0, .int .u8 0, .int .u8 0, .int .u8 0, .int .u8 0, .int .u8 0], .int .i64 0], []⟩ 8 (by kernel_rfl) (by kernel_rfl) (by kernel_rfl) (by kernel_rfl)) ?_
  intro W base args ds gs before hval0 hW hcnd _
  have hval : ∀ (j : Nat) t v, Try.f10.params[j]? = some t → args[j]? = some v → Value.okWide Try.prog W .any base t v := hval0
  have hW' := hW
  obtain ⟨p, q, hA0, hV, rfl, hfz, hnd⟩ := hW
  have hA : DataW.TrodAll enc Try.prog W 0 (fun _ => true) true Try.f10.params.toList args.toList ds p := hA0
  rw [Try.params10] at hA hval
  obtain ⟨v0, vs0, d0, ds0, p0, q0, hargs, rfl, rfl, h0, r0⟩ := trodAll_cons hA
  obtain ⟨v1, vs1, d1, ds1, p1, q1, rfl, rfl, rfl, h1, r1⟩ := trodAll_cons r0
  obtain ⟨v2, vs2, d2, ds2, p2, q2, rfl, rfl, rfl, h2, r2⟩ := trodAll_cons r1
  obtain ⟨rfl, rfl, rfl⟩ := trodAll_nil r2
  obtain rfl : args = #[v0, v1, v2] := by cases args; simp_all
  obtain ⟨rfl, rfl⟩ := trodVars_none hV
  have k0 := h0
  have lt0 := trod_lt_of h0
  obtain ⟨a0, rfl, rfl, rfl, b0⟩ := open_int Try.underlying3 (hval 0 3 v0 rfl rfl) h0
  have k1 := h1
  have lt1 := trod_lt_of h1
  obtain ⟨a1, b1, rfl⟩ := open_id (hval 1 24 v1 rfl rfl) h1
  have k2 := h2
  have lt2 := trod_lt_of h2
  obtain ⟨a2, rfl, rfl, rfl, b2⟩ := open_int Try.underlying3 (hval 2 3 v2 rfl rfl) h2
  clear hA0 hval0
  refine (PresyncLies_walk a0 b0 a1 b1 a2 b2 W).mono fun e W' ⟨he, bel⟩ => ?_
  subst he
  exact ⟨_, rfl, _, _, _, [], _, [], hW', trodAll_mk1 (shut_bool (by kernel_rfl) _), (trodAll_cons_mk (Below.trod laidOut (by kernel_rfl) (of_decide_eq_true (by kernel_rfl)) k0 bel lt0) (trodAll_cons_mk (Below.trod laidOut (by kernel_rfl) (of_decide_eq_true (by kernel_rfl)) k1 bel lt1) (trodAll_cons_mk (Below.trod laidOut (by kernel_rfl) (of_decide_eq_true (by kernel_rfl)) k2 bel lt2) trodAll_mk0))), rfl, bel.frame _, fun h => by cases h⟩

theorem PresyncLies_closed : joinedFacts Try.prog 10 Try.f10 Rows.presyncLiesSpec Rows.presyncLiesRow = true := by
  simp only [joinedFacts, Bool.and_eq_true]
  repeat' apply And.intro
  all_goals first
    | (with_reducible exact head_enter)
    | (rw [head_make]; kernel_rfl)
    | (rw [head_lift]; kernel_rfl)
    | kernel_rfl

theorem PresyncLies_holds : Rows.PresyncLiesSaid :=
  OpenClaim.holds_of_wide 10 Try.f10 rfl rfl rfl rfl rfl rfl rfl ⟨rfl, rfl, rfl, rfl, rfl⟩ rfl rfl rfl rfl rfl (by kernel_rfl) Try.func10 PresyncLies_closed
    (of_decide_eq_true (by kernel_rfl)) (by unfold Func.isWrapper; rw [if_neg (of_decide_eq_false (by kernel_rfl))]; exact ⟨rfl, rfl⟩)
    (fun os started H enc _ => PresyncLies_lifted os started H enc)
end Go.Proofs.Ytnbppbnjkmopeaa
