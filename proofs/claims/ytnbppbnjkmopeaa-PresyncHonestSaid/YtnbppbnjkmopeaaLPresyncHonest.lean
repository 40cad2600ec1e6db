/- The law PresyncHonest: who says the same twice is believed. No condition. -/
import Derived.Test.YtnbppbnjkmopeaaSyPj
import Derived.Test.YtnbppbnjkmopeaaOpenP
import Derived.Test.YtnbppbnjkmopeaaHead
namespace Go.Proofs.Ytnbppbnjkmopeaa
open Go.ChangeShapes Go.WideShapes Go.ChangeAt Go.RowKit

/-- where one who says the same twice stands behind k messages -/
def Hon (W S : Nat) (l : List Hd) (x : Nd) (p : Ps) (got : List Hd) (k : Nat) : Prop :=
  (∃ j, j < enN W ∧ p = stA W S l x j ∧ got = [] ∧ k ≤ j) ∨ (∃ j, j < enN W ∧ p = stC W S l x j ∧ got = l.take (j - 8) ∧ k ≤ enN W + j) ∨ (p.phase = 3 ∧ got = l.take (enN W) ∧ k ≤ enN W + enN W)
theorem hon_step {x : Nd} {I : Nat} (hx : GenX x I) {W S : Nat} (hW1 : 1 ≤ W) (hW : W ≤ 30) {l : List Hd} (hc : Chn 545259519 I l) (hl : l.length = 30) {p : Ps} {got : List Hd} {k : Nat} (h : Hon W S l x p got k) (h3 : p.phase ≠ 3) :
    ∃ j, j < 30 ∧ k ≤ 58 ∧ p.phase < 3 ∧ p.last.id = lid I (l.take j) ∧ got.length ≤ 30 ∧ ∀ s, 1 ≤ s → j + s ≤ 30 → Hon W S l x (takeP p true ((l.drop j).take s)).1 (got ++ (takeP p true ((l.drop j).take s)).2) (k + 1) := by
  have hen : enN W = max 1 (W - 1) := rfl
  rcases h with ⟨j, hj, hp, hg, hk⟩ | ⟨j, hj, hp, hg, hk⟩ | ⟨h, _⟩
  · obtain ⟨_, hid, _, _, h1, _⟩ := stA_is W S l hx (by omega) hc j (by omega) hp
    refine ⟨j, by omega, by omega, by omega, hid, by rw [hg]; simp, fun s h1 h2 => ?_⟩
    have ht := take_stA W S l hx (by omega) hc (by omega) j s hj h1 (by omega)
    rw [← hp] at ht
    rw [ht, hg]
    by_cases hlt : j + s < enN W
    · rw [if_pos hlt]
      exact .inl ⟨j + s, hlt, rfl, rfl, by omega⟩
    · rw [if_neg hlt]
      exact .inr (.inl ⟨0, by omega, rfl, rfl, by omega⟩)
  · obtain ⟨_, hid, _, _, h2, _⟩ := stC_is W S l hx (by omega) hc j (by omega) hp
    refine ⟨j, by omega, by omega, by omega, hid, by rw [hg, List.length_take]; omega, fun s h1 h2 => ?_⟩
    obtain ⟨ht1, ht2⟩ := take_stC W S l hx (by omega) hc (by omega) j s hj h1 (by omega)
    rw [← hp] at ht1 ht2
    rw [hg]
    by_cases hlt : j + s < enN W
    · rw [ht1 hlt]
      refine .inr (.inl ⟨j + s, hlt, rfl, ?_, by omega⟩)
      show l.take (j - 8) ++ (l.take (j + s - 8)).drop (j - 8) = _
      have := List.take_append_drop (j - 8) (l.take (j + s - 8))
      rw [List.take_take, Nat.min_eq_left (by omega)] at this
      exact this
    · obtain ⟨e1, e2⟩ := ht2 (by omega)
      refine .inr (.inr ⟨e1, ?_, by omega⟩)
      rw [e2]
      have := List.take_append_drop (j - 8) (l.take (enN W))
      rw [List.take_take, Nat.min_eq_left (by omega)] at this
      exact this
  · exact absurd h h3
set_option maxRecDepth 100000 in
set_option maxHeartbeats 8000000 in
theorem PresyncHonest_walk (k : Int) (_ : (Lit.int .i64 k).wf = true) (S : Nat) (_ : S < 2 ^ 256) (xs : Option Addr) (cap : Nat) (zs : List Int) (hz : ∀ y ∈ zs, (Lit.int .i64 y).wf = true) (w : World) (hin : IntsIn w xs zs) :
    Calls Try.prog 9 #[.int .i64 k, iv S, .slice xs zs.length cap] w fun e w' => e = .returned (.bool true) ∧ Below w.heap.size w w' := by
  obtain ⟨x, I, hx⟩ := genX
  have HXX := Lib.hid hx
  have HIN := Lib.hid hin; have HZW := Lib.hid hz
  have KS := Lib.hid (heap_new w (iblk S))
  have B := Lib.hid (below_alloc (Below.refl w.heap.size w) (iblk S))
  obtain ⟨M, hM⟩ : ∃ M, M = zs.length := ⟨_, rfl⟩
  have HM := Lib.hid hM
  rw [← hM]
  clear hx hin hz hM
  go_enter Try.func9, Try.ntmps9
  go_wp2_with fail
  obtain ⟨gs, hgs⟩ : ∃ g, g = w.heap.size := ⟨_, rfl⟩
  have HGS := Lib.hid hgs
  rw [← hgs] at KS
  rw [← hgs]
  clear hgs
  refine (asks_any _).mono ?_
  rintro e w1 ⟨rfl, hb⟩
  have B1 := Lib.hid (below_next B.out hb); have KS1 := Lib.hid (block_keep hb KS.out)
  clear hb B KS
  by_cases h1 : k < 1
  · go_wp2_with fail
    go_ret
    exact ⟨rfl, B1.out⟩
  by_cases h2 : 30 < k
  · go_wp2_with fail
    go_ret
    exact ⟨rfl, B1.out⟩
  by_cases h3 : 100 < M
  · have h3' : (100 : Int) < (M : Int) := by omega
    go_wp2_with fail
    go_ret
    exact ⟨rfl, B1.out⟩
  obtain ⟨W, rfl⟩ : ∃ W : Nat, k = W := ⟨k.toNat, by omega⟩
  have hW1 : 1 ≤ W := by omega
  have hW : W ≤ 30 := by omega
  have h1' : ¬ (W : Int) < 1 := by omega
  have h2' : ¬ 30 < (W : Int) := by omega
  have h3' : ¬ (100 : Int) < (M : Int) := by omega
  clear h1 h2
  go_wp2_with fail
  refine (lrules_any W 0 _).mono ?_
  rintro e w2 ⟨rfl, hb⟩
  have B2 := Lib.hid (below_next B1.out hb); have KS2 := Lib.hid (block_keep hb KS1.out)
  clear hb B1 KS1
  go_wp2_with fail
  refine (ltree_any (by omega) (by omega) (by omega) (by omega) _).mono ?_
  rintro e w3 ⟨T, vn, m, rfl, hT, hb, hfr⟩
  have B3 := Lib.hid (below_next B2.out hb); have KS3 := Lib.hid (block_keep hb KS2.out); have K3 := Lib.hid hT
  clear hb B2 KS2 hT hfr
  go_wp2_with ((with_reducible show wpList _ _ _ _ _ _); refine wpList_load_id rfl (.tmp 4) rfl gs S rfl KS3.out ?_)
  refine (lsync_any HXX.out (by omega) S _ K3.out).mono ?_
  rintro e w4 ⟨g, rfl, hg, hp, hb⟩
  have B4 := Lib.hid (below_next B3.out hb); have K4 := Lib.hid (K3.out.keep hb)
  have hgw : w.heap.size ≤ g := Nat.le_trans B3.out.size hg
  obtain ⟨P0, hP0⟩ : ∃ P, P = newP (rlR (W : Int) 0) S x := ⟨_, rfl⟩
  rw [← hP0] at hp
  have P4 := Lib.hid hp
  have G0 : Hid (P0.good 0) := Lib.hid (by rw [hP0]; exact good_newP HXX.out (by omega) (by omega) (by omega) (by omega) S)
  have HP0 := Lib.hid hP0
  clear hb B3 KS3 K3 hp hP0
  go_wp2_with fail
  refine (lget_any HXX.out _ K4.out).mono ?_
  rintro e w5 ⟨rfl, hb⟩
  have B5 := Lib.hid (below_next B4.out hb); have P5 := Lib.hid (P4.out.keep hb)
  clear hb B4 K4 P4
  have ep := field_gen HXX.out w5
  go_wp2_with fail
  refine (line_any I HXX.out.lt 30 (by omega) 3 (by omega) _).mono ?_
  rintro e w6 ⟨vl, rfl, hO, hb⟩
  have B6 := Lib.hid (below_next B5.out hb); have P6 := Lib.hid (P5.out.keep hb)
  have hg5 := block_lt P5.out.blk
  have O6 := Lib.hid hO
  obtain ⟨l, hl⟩ : ∃ l, l = lineP 1000 545259519 3 30 0 I := ⟨_, rfl⟩
  have HC : Hid (Chn 545259519 I l) := Lib.hid (hl ▸ chn_line (by omega) 30 0 I HXX.out.lt)
  have hI : I = hdid gh0 := by rw [← HXX.out.id, HXX.out.is]; rfl
  have hl2 : l = l30 := by rw [hl, hI]; rfl
  have HLEN : Hid (l.length = 30) := Lib.hid (by rw [hl2]; exact l30_len)
  have HNE : Hid (allNe (I :: l.map hdid) = true) := Lib.hid (by rw [hl2, hI]; exact l30_ne)
  rw [← hl] at O6
  clear hb B5 P5 ep hO hl hl2 hI
  obtain ⟨x10, c10, e10⟩ := O6.out.shape
  subst e10
  rw [HLEN.out] at O6
  obtain ⟨b0, e0, hmem, hb0a, hb0b⟩ := O6.out.arg2 (by rw [HLEN.out]; omega)
  subst e0
  have hcc := Lib.hid O6.out.cap
  have hb0g : b0 ≠ g := by omega
  have HMEM := Lib.hid hmem
  rw [HLEN.out]
  clear hmem hb0a O6 hg5
  obtain ⟨Z, hZ⟩ : ∃ Z, Z = w6.heap.size := ⟨_, rfl⟩
  have hgZ : g < Z := by rw [hZ]; exact block_lt P6.out.blk
  have HZ := Lib.hid hZ
  rw [← hZ] at hb0b
  have hwZ : w.heap.size ≤ Z := by rw [hZ]; exact B6.out.size
  clear hZ
  have HH0 : Hid (Hon W S l x P0 [] 0) := Lib.hid (by
    refine .inl ⟨0, by unfold enN; omega, ?_, rfl, Nat.zero_le _⟩
    rw [HP0.out]; rfl)
  have hc10 := hcc.out.1
  have hc11 : c10 ≤ 9223372036854775807 := by have := hcc.out.2; unfold maxLen at this; omega
  go_wp2_with fail
  go_loopg [11, 12] 200 (fun gm v11 ix wr => ∃ (k : Nat) (p : Ps) (got : List Hd) (vb vr : Value), gm = 200 - k ∧ k ≤ 200 ∧ ix = .int .i64 k ∧ OwnsH wr Z v11 got ∧ PsIs wr g vb vr p ∧ (∀ i, psD g vb vr i → i = g ∨ Z ≤ i) ∧ (∀ i, v11.ownBlock = some i → ¬ psD g vb vr i) ∧ Hon W S l x p got k ∧ p.good (40 * k) ∧ Z ≤ wr.heap.size ∧ Gr (fun i => i = g) w6 wr)
  case atStart => exact ⟨0, P0, [], _, _, rfl, by omega, rfl, OwnsH.nil _ _, P6.out, fun i hi => .inl (psD_new hi), (fun i hi => by cases hi), HH0.out, G0.out, Nat.le_of_eq HZ.out, Gr.refl _ _⟩
  case round =>
    clear P6 HH0 G0 HP0
    obtain ⟨k, p, got, vb, vr, hgm, hk, rfl, hown, hps, hD, hdj, hhon, hgd, hzr, hgr⟩ := hrel
    have HGM := Lib.hid hgm; have O := Lib.hid hown; have PS := Lib.hid hps; have HD := Lib.hid hD; have HDJ := Lib.hid hdj; have HHON := Lib.hid hhon; have HGD := Lib.hid hgd; have G := Lib.hid hgr
    have BW := Lib.hid (B6.out.trans (hgr.below w.heap.size B6.out.size (fun i hi e => by omega)))
    have HMW := Lib.hid (HMEM.out.gr hgr hb0g)
    clear hgm hown hps hD hdj hhon hgd hgr
    by_cases hph : p.phase = 3
    · have hdone : got = l.take (enN W) ∧ k ≤ 58 := by
        have hen : enN W = max 1 (W - 1) := rfl
        rcases HHON.out with ⟨j, hj, hp, _⟩ | ⟨j, hj, hp, _⟩ | ⟨_, h, hk⟩
        · rw [hp] at hph; cases hph
        · rw [hp] at hph; cases hph
        · exact ⟨h, by omega⟩
      obtain ⟨hgot, hk58⟩ := hdone
      have hk200 : (k : Int) < 200 := by omega
      obtain ⟨n, hn⟩ : ∃ n, n = enN W := ⟨_, rfl⟩
      rw [← hn] at hgot
      have hnW : max (1 : Int) ((W : Int) - 1) = (n : Int) := by rw [hn]; unfold enN; omega
      have hn30 : n ≤ 30 := by rw [hn]; unfold enN; omega
      have hgl : got.length = n := by rw [hgot, List.length_take, HLEN.out]; omega
      obtain ⟨x11, c11, e11⟩ := O.out.shape
      subst e11
      rw [hgl] at O
      have HGL := Lib.hid hgl; have HGOT := Lib.hid hgot; have HPH := Lib.hid hph
      have cp : Hid (∀ V, PsIs V g vb vr p → Calls Try.prog 36 #[.pointer (some ⟨g, 0, none⟩)] V fun e w' => e = .returned (.int .i64 3) ∧ Below V.heap.size V w') := Lib.hid fun V hV => by
        have := phase_any g (p.sy vb vr) V hV.blk
        rw [show (p.sy vb vr).phase = 3 from by show ((p.phase : Nat) : Int) = 3; rw [HPH.out]; rfl] at this
        exact this
      rw [hgl]
      clear hgl hgot hph hn
      go_wp2_with fail
      refine (cp.out _ PS.out).mono ?_
      rintro e w7 ⟨rfl, hb⟩
      have P7 := Lib.hid (PS.out.keep hb); have O7 := Lib.hid (O.out.keep hb); have B7 := Lib.hid (below_next BW.out hb); have HM7 := Lib.hid (HMW.out.keep hb)
      clear hb PS O BW HMW
      go_wp2_with fail
      refine (cp.out _ P7.out).mono ?_
      rintro e w8 ⟨rfl, hb⟩
      have O8 := Lib.hid (O7.out.keep hb); have B8 := Lib.hid (below_next B7.out hb); have HM8 := Lib.hid (HM7.out.keep hb)
      clear hb P7 O7 B7 HM7
      have en : ((n : Int) != (n : Int)) = false := by simp
      go_wp2_with fail
      go_loopg [99] n (fun gm ix wr => ∃ i : Nat, gm = n - i ∧ i ≤ n ∧ ix = .int .i64 i ∧ Below w8.heap.size w8 wr)
      case atStart => exact ⟨0, rfl, Nat.zero_le _, rfl, Below.refl _ _⟩
      case round =>
        obtain ⟨i, hgi, hi, rfl, hb⟩ := hrel
        have HGI := Lib.hid hgi; have HB := Lib.hid hb
        clear hgi hb
        by_cases hlt : i < n
        · obtain ⟨b1, e1, hm1, _, _⟩ := O8.out.arg2 (by rw [HGL.out]; omega)
          subst e1
          have hi2 : i < got.length := by rw [HGL.out]; exact hlt
          have hi3 : i < l.length := by rw [HLEN.out]; omega
          obtain ⟨h, hh⟩ : ∃ h, h = l.getD i hd0 := ⟨_, rfl⟩
          have hh2 : got.getD i hd0 = h := by rw [HGOT.out, hh, List.getD_eq_getElem?_getD, List.getElem?_take_of_lt hlt, List.getD_eq_getElem?_getD]
          have hok : h.ok := by rw [hh]; exact HC.out.ok _ (by rw [List.getD_eq_getElem?_getD, List.getElem?_eq_getElem hi3]; exact List.getElem_mem _)
          have HM1 : Hid (wr.rangeAt b1 (i * 68) (hdcs h)) := Lib.hid (by have := (hm1.keep HB.out).at i hi2; rw [Nat.zero_add, hh2] at this; exact this)
          have HL2' : Hid (∀ V, Below w8.heap.size w8 V → V.rangeAt b0 (i * 68) (hdcs h)) := Lib.hid fun V hV => by have := (HM8.out.keep hV).at i hi3; rw [Nat.zero_add, ← hh] at this; exact this
          have EQ : Hid (∀ V, (Op.equalIn 10000 26 (hdv h) (hdv h)).run Try.prog V = .ok true V) := Lib.hid fun V => by have := eq_hd h h hok hok V; rwa [hdeq_self] at this
          have HZH := Lib.hid (show Obj.cells Try.zeroCells26 26 = hdblk hd0 from by unfold hdblk; rw [hdz]; rfl)
          clear hm1 hi2 hi3 hh hh2 hok
          go_upto_region 29 with ((with_reducible show wpList _ _ _ _ _ _); first | refine ld_hd rfl (.tmp 102) rfl b1 (i * 68) h rfl HM1.out ?_ | (refine wpList_store_hd rfl (.tmp 17) (.tmp 103) rfl wr.heap.size hd0 h rfl rfl ((heap_new wr _).trans (congrArg some HZH.out)) (fun w9 h1 h2 h3 h4 => ?_); have hB9 := h4 _ _ (Nat.le_refl _) (below_alloc (Below.refl _ _) _); have KH := Lib.hid h1; have HB9 := Lib.hid (below_next HB.out hB9); clear h1 h2 h3 h4 hB9))
          obtain ⟨g17, hg17⟩ : ∃ g, g = wr.heap.size := ⟨_, rfl⟩
          rw [← hg17] at KH
          rw [← hg17]
          clear hg17
          have HL2 : Hid (∀ V, Below w9.heap.size w9 V → V.rangeAt b0 (i * 68) (hdcs h)) := Lib.hid fun V hV => HL2'.out V (below_next HB9.out hV)
          refine wp_region_by [Is (hdv h), Is (.slice (some ⟨b0, 0, none⟩) 30 c10), Is (.int .i64 i), Is (.pointer (some ⟨b0, i * 68, none⟩)), Is (hdv h), Is (.bool false)] [[], [], [], [(1, some 105), (2, some 106)], [(3, some 107)], [(0, some 104), (4, some 108)]] [(0, some 104), (1, some 105), (2, some 106), (3, some 107), (4, some 108), (5, some 109)] [0, 0, 0, 6, 14, 31]
            (by kernel_rfl) (by kernel_rfl) (by kernel_rfl) (by kernel_rfl) ⟨Is.kept _, Is.kept _, Is.kept _, Is.kept _, Is.kept _, Is.kept _, trivial⟩ ⟨?_, ?_, ?_, ?_, ?_, ?_, trivial⟩ ?_
          · as_aux_lemma =>
            refine fun w' hB => ?_
            show wpList _ _ _ _ _ _
            go_wp2_with ((with_reducible show wpList _ _ _ _ _ _); refine wpList_load_hd rfl (.tmp 17) rfl g17 h rfl (block_keep hB KH.out) ?_)
            exact ⟨_, rfl, rfl, Below.refl _ _⟩
          · as_aux_lemma =>
            refine fun w' hB => ?_
            show wpList _ _ _ _ _ _
            go_wp2_with fail
            exact ⟨.slice (some ⟨b0, 0, none⟩) 30 c10, by first | rfl | (go_simp; done), rfl, Below.refl _ _⟩
          · as_aux_lemma =>
            refine fun w' hB => ?_
            show wpList _ _ _ _ _ _
            go_wp2_with fail
            exact ⟨.int .i64 i, by first | rfl | (go_simp; done), rfl, Below.refl _ _⟩
          · as_aux_lemma =>
            refine fun w' hB v1 h1 v2 h2 => ?_
            obtain rfl := h1
            obtain rfl := h2
            show wpList _ _ _ _ _ _
            go_wp2_with fail
            exact ⟨.pointer (some ⟨b0, i * 68, none⟩), by first | rfl | (go_simp; done), rfl, Below.refl _ _⟩
          · as_aux_lemma =>
            refine fun w' hB v3 h3 => ?_
            obtain rfl := h3
            show wpList _ _ _ _ _ _
            go_wp2_with ((with_reducible show wpList _ _ _ _ _ _); refine ld_hd rfl (.tmp 107) rfl b0 (i * 68) h rfl (HL2.out _ hB) ?_)
            exact ⟨_, rfl, rfl, Below.refl _ _⟩
          · as_aux_lemma =>
            refine fun w' hB v0 h0 v4 h4 => ?_
            obtain rfl := h0
            obtain rfl := h4
            show wpList _ _ _ _ _ _
            have eq := EQ.out
            go_wp2_with fail
            exact ⟨_, rfl, rfl, Below.refl _ _⟩
          · refine fun w' hB v0 h0 v1 h1 v2 h2 v3 h3 v4 h4 v5 h5 => ?_
            obtain rfl := h5
            simp only [onP]
            go_simp
            clear h0 h1 h2 h3 h4
            have HB10 := Lib.hid (below_next HB9.out hB)
            clear hB
            go_wp2_with fail
            go_roundg (n - (i + 1))
            case measure => have := HGI.out; omega
            case rel => exact ⟨i + 1, rfl, by omega, by go_num, HB10.out⟩
        · obtain rfl : i = n := by omega
          go_wp2_with fail
          go_ret
          exact ⟨rfl, below_next B8.out HB.out⟩
    · obtain ⟨j, hj30, hk58, hph3, hid, hgl, hnext⟩ := hon_step HXX.out hW1 hW HC.out HLEN.out HHON.out hph
      have hk200 : (k : Int) < 200 := by omega
      have hph3' : ((p.phase : Nat) : Int) < 3 := by omega
      have HID := Lib.hid hid; have HNEXT := Lib.hid hnext
      clear hph hid hnext HHON
      go_wp2_with fail
      refine (phase_any g (p.sy vb vr) _ PS.out.blk).mono ?_
      rintro e w7 ⟨rfl, hb⟩
      rw [show (p.sy vb vr).phase = ((p.phase : Nat) : Int) from rfl]
      have P7 := Lib.hid (PS.out.keep hb); have O7 := Lib.hid (O.out.keep hb); have B7 := Lib.hid (below_next BW.out hb); have HM7 := Lib.hid (HMW.out.keep hb); have G7 := Lib.hid (G.out.next hb)
      have hz7 := hb.size
      clear hb PS O BW HMW G
      go_upto_if 58 with fail
      go_cut [13] (fun s wx => wx = w7 ∧ ∃ s0 : Nat, s = .int .i64 s0 ∧ 1 ≤ s0 ∧ s0 ≤ 32)
      case first =>
        by_cases hkM : k < M
        · have hkM' : (k : Int) < (M : Int) := by omega
          obtain ⟨bz, oz, rfl, hbz, hzc⟩ := HIN.out (by rw [← HM.out]; omega)
          have cz : w7.cell? ⟨bz, oz + k, none⟩ = some (.int .i64 (zs.getD k 0)) := (World.cell?_of_block (B7.out.block bz hbz)).trans (hzc k (by rw [← HM.out]; exact hkM))
          obtain ⟨z, hz⟩ : ∃ z, z = zs.getD k 0 := ⟨_, rfl⟩
          rw [← hz] at cz
          obtain ⟨s0, hs0⟩ : ∃ s0 : Nat, max (1 : Int) (min z 32) = s0 := ⟨(max (1 : Int) (min z 32)).toNat, by omega⟩
          have hs1 : 1 ≤ s0 := by omega
          have hs2 : s0 ≤ 32 := by omega
          clear hz hzc
          go_wp2_with fail
          go_meet
          case rel => exact ⟨rfl, s0, rfl, hs1, hs2⟩
        · have hkM' : ¬ (k : Int) < (M : Int) := by omega
          go_wp2_with fail
          go_meet
          case rel => exact ⟨rfl, 5, rfl, by omega, by omega⟩
      case rest =>
        obtain ⟨e, s0, rfl, hs1, hs2⟩ := hcut
        subst e
        obtain ⟨W7, hW7⟩ : ∃ V, V = wc := ⟨_, rfl⟩
        subst hW7
        go_wp2_with fail
        refine (last_any g (p.sy vb vr) _ P7.out.blk).mono ?_
        rintro e w8 ⟨rfl, hb⟩
        rw [show (p.sy vb vr).last.id = p.last.id from rfl, HID.out]
        have P8 := Lib.hid (P7.out.keep hb); have O8 := Lib.hid (O7.out.keep hb); have HM8 := Lib.hid (HM7.out.keep hb); have G8 := Lib.hid (G7.out.next hb)
        have hz8 : W7.heap.size ≤ w8.heap.size := hb.size
        clear hb P7 O7 HM7 G7 B7
        have hca := after_any (some ⟨b0, 0, none⟩) c10 l HC.out.ok (lid I (l.take j)) (by rw [← HID.out]; exact HGD.out.lid) w8 (by rw [HLEN.out]; omega) (by rw [HLEN.out]; exact hc10) hcc.out.2 (fun _ => ⟨b0, 0, rfl, HM8.out⟩)
        rw [after_lid HNE.out j (by rw [HLEN.out]; omega), HLEN.out] at hca
        have CA := Lib.hid hca
        clear hca
        go_wp2_with fail
        refine CA.out.mono ?_
        rintro e w9 ⟨xn, cn, rfl, hn1, hn2, hn3, hb⟩
        have hdl : (l.drop j).length = 30 - j := by rw [List.length_drop, HLEN.out]
        obtain ⟨bn, on, on', en1, en2, hnm⟩ := hn3 (by rw [hdl]; omega)
        subst en2
        have hbn : bn = b0 := by cases en1; rfl
        subst hbn
        have HNM := Lib.hid (hnm.keep hb)
        have P9 := Lib.hid (P8.out.keep hb); have O9 := Lib.hid (O8.out.keep hb); have G9 := Lib.hid (G8.out.next hb)
        have hz9 : w8.heap.size ≤ w9.heap.size := hb.size
        rw [hdl] at hn1
        rw [hdl]
        obtain ⟨Ln, hLn⟩ : ∃ Ln, Ln = 30 - j := ⟨_, rfl⟩
        rw [← hLn] at hn1
        rw [← hLn]
        have hcn : cn ≤ 9223372036854775807 := by unfold maxLen at hn2; omega
        have hjL : j + Ln = 30 := by omega
        have HDL : Hid ((l.drop j).length = Ln) := Lib.hid (by rw [hdl, hLn])
        have hLn1 : 1 ≤ Ln := by omega
        clear hb P8 O8 HM8 G8 CA hn3 hnm hdl hLn hn2 en1
        go_upto_if 72 with fail
        go_cut [13] (fun s wx => wx = w9 ∧ ∃ s1 : Nat, s = .int .i64 s1 ∧ 1 ≤ s1 ∧ s1 ≤ Ln ∧ s1 ≤ 32)
        case first =>
          by_cases hsl : Ln < s0
          · have hsl' : (Ln : Int) < (s0 : Int) := by omega
            have hs32 : Ln ≤ 32 := by omega
            go_wp2_with fail
            go_meet
            case rel => exact ⟨rfl, Ln, rfl, hLn1, Nat.le_refl _, hs32⟩
          · have hsl' : ¬ (Ln : Int) < (s0 : Int) := by omega
            have hsl2 : s0 ≤ Ln := by omega
            go_wp2_with fail
            go_meet
            case rel => exact ⟨rfl, s0, rfl, hs1, hsl2, hs2⟩
        case rest =>
          obtain ⟨e, s1, rfl, ha1, ha2, ha3⟩ := hcut
          subst e
          obtain ⟨W9, hW9⟩ : ∃ V, V = wc := ⟨_, rfl⟩
          subst hW9
          have hs1c : s1 ≤ cn := by omega
          have hml : ((l.drop j).take s1).length = s1 := by rw [List.length_take, HDL.out]; omega
          have hmo : ∀ y ∈ (l.drop j).take s1, y.ok := fun y hy => HC.out.ok y (List.mem_of_mem_drop (List.mem_of_mem_take hy))
          have hct := take_any g vb vr p true (some ⟨bn, on', none⟩) cn ((l.drop j).take s1) (40 * k) HGD.out (by rw [hml]; omega) hmo W9 P9.out (fun _ => ⟨bn, on', rfl, HNM.out.take s1, fun e => by rcases HD.out _ e with e | e <;> omega⟩)
          have hno := HNEXT.out s1 ha1 (by omega)
          have hg2 := good_take HGD.out true _ hmo
          have hto := takeP_long p true _ HGD.out hmo
          rw [hml] at hct hg2 hto
          obtain ⟨q, hq⟩ : ∃ q, q = takeP p true ((l.drop j).take s1) := ⟨_, rfl⟩
          rw [← hq] at hct hno hg2 hto
          have CT := Lib.hid hct; have HNO := Lib.hid hno; have HG2 : Hid (q.1.good (40 * (k + 1))) := Lib.hid (hg2.mono (by omega))
          clear hct hno hg2 hq hmo hml HNEXT
          go_wp2_with fail
          refine CT.out.mono ?_
          rintro e w10 ⟨v80, rfl, ⟨x5, c5, e5, hnn, hmm5⟩, ⟨vb2, vr2, hps2, hgr, hdf⟩, _⟩
          subst e5
          have HNN := Lib.hid hnn; have HM5 := Lib.hid hmm5
          have P10 := Lib.hid hps2
          have O10 := Lib.hid (O9.out.gr hgr (fun i hi e => HDJ.out i hi e))
          have D10 : Hid (∀ i, psD g vb2 vr2 i → i = g ∨ Z ≤ i) := Lib.hid fun i hi => (hdf i hi).elim (HD.out i) (fun e => .inr (by omega))
          have J10 : Hid (∀ i, u11.ownBlock = some i → ¬ psD g vb2 vr2 i) := Lib.hid fun i hi e => by
            rcases hdf i e with e | e
            · exact HDJ.out i hi e
            · have := O9.out.lt hi; omega
          have G10 := Lib.hid (G9.out.trans hgr (fun i hi e => (HD.out i e).resolve_right (by rw [HZ.out]; omega)))
          have hz10 := hgr.size
          clear hnn hmm5 hps2 hgr hdf P9 O9 G9 CT HD HDJ
          go_wp2_with (at_builtin; refine wpList_append_hds rfl (.tmp 75) (.tmp 80) rfl Z u11 got rfl O10.out q.2 x5 c5 rfl HNN.out HM5.out (by omega) (by omega) (fun v' w11 ho hgrow hat => ?_); have HO := Lib.hid ho; have HGW := Lib.hid hgrow; have HAT := Lib.hid hat; clear ho hgrow hat)
          go_roundg (200 - (k + 1))
          case measure => have := HGM.out; omega
          case rel =>
            have g11 := Gr.of_grown HGW.out
            refine ⟨k + 1, q.1, got ++ q.2, vb2, vr2, rfl, by omega, by go_num, HO.out, P10.out.gr g11 (fun i hi e => J10.out i e hi), D10.out, fun i hi e => ?_, HNO.out, HG2.out, by have := g11.size; omega, G10.out.trans g11 (fun i hi e => ?_)⟩
            · rcases HAT.out with h | h
              · exact J10.out i (h ▸ hi) e
              · rw [h] at hi
                have := Option.some.inj hi
                have := P10.out.lt i e
                omega
            · have := O10.out.ge e
              rw [HZ.out] at this
              omega

set_option maxRecDepth 100000 in
theorem PresyncHonest_lifted (os : Os) (started : os.Started) (H : Type) (enc : TypeId × Value → H) :
    ReturnsInHanded {} Try.checked os 9 .any (Rows.presyncHonestSpec.pre6 enc Try.prog Try.f9 Rows.presyncHonestRow.domain false) (Rows.presyncHonestSpec.post enc Try.prog Try.f9 false true false false) := by
  refine returnsInHanded_of_change (C := Try.checked) own started (by kernel_rfl) Try.func9
    (ChangeSpec.witness6 (enc := enc) (C := Try.checked) false ⟨#[], #[.int .i64 0, .agg #[.int .u8 0, .int .u8 0, .int .u8 0, .int .u8 0, .int .u8 0, .int .u8 0, .int .u8 0, .int .u8 0, .int .u8 0, .int .u8 0, .int .u8 0, .int .u8 0, .int .u8 0, .int .u8 0, .int .u8 0, .int .u8 0, .int .u8 0, .int .u8 0, .int .u8 0, .int .u8 0, .int .u8 0, .int .u8 0, .int .u8 0, .int .u8 0, .int .u8 0, .int .u8 0, .int .u8 0, .int .u8 0, .int .u8 0, .int .u8 0, .int .u8 0, .int .u8 0], .slice none 0 0], []⟩ 8 (by kernel_rfl) (by kernel_rfl) (by kernel_rfl) (by kernel_rfl)) ?_
  intro W base args ds gs before hval0 hW hcnd _
  have hval : ∀ (j : Nat) t v, Try.f9.params[j]? = some t → args[j]? = some v → Value.okWide Try.prog W .any base t v := hval0
  have hW' := hW
  obtain ⟨p, q, hA0, hV, rfl, hfz, hnd⟩ := hW
  have hA : DataW.TrodAll enc Try.prog W 0 (fun _ => true) true Try.f9.params.toList args.toList ds p := hA0
  rw [Try.params9] at hA hval
  obtain ⟨v0, vs0, d0, ds0, p0, q0, hargs, rfl, rfl, h0, r0⟩ := trodAll_cons hA
  obtain ⟨v1, vs1, d1, ds1, p1, q1, rfl, rfl, rfl, h1, r1⟩ := trodAll_cons r0
  obtain ⟨v2, vs2, d2, ds2, p2, q2, rfl, rfl, rfl, h2, r2⟩ := trodAll_cons r1
  obtain ⟨rfl, rfl, rfl⟩ := trodAll_nil r2
  obtain rfl : args = #[v0, v1, v2] := by cases args; simp_all
  obtain ⟨rfl, rfl⟩ := trodVars_none hV
  have k0 := h0
  have lt0 := trod_lt_of h0
  obtain ⟨a0, rfl, rfl, rfl, b0⟩ := open_int Try.underlying3 (hval 0 3 v0 rfl rfl) h0
  have k1 := h1
  have lt1 := trod_lt_of h1
  obtain ⟨a1, b1, rfl⟩ := open_id (hval 1 24 v1 rfl rfl) h1
  have k2 := h2
  have lt2 := trod_lt_of h2
  obtain ⟨a2, cap2, l2, b2, rfl, c2⟩ := open_intl (hval 2 54 v2 rfl rfl) h2
  clear hA0 hval0
  refine (PresyncHonest_walk a0 b0 a1 b1 a2 cap2 l2 b2 W c2).mono fun e W' ⟨he, bel⟩ => ?_
  subst he
  exact ⟨_, rfl, _, _, _, [], _, [], hW', trodAll_mk1 (shut_bool (by kernel_rfl) _), (trodAll_cons_mk (Below.trod laidOut (by kernel_rfl) (of_decide_eq_true (by kernel_rfl)) k0 bel lt0) (trodAll_cons_mk (Below.trod laidOut (by kernel_rfl) (of_decide_eq_true (by kernel_rfl)) k1 bel lt1) (trodAll_cons_mk (Below.trod laidOut (by kernel_rfl) (of_decide_eq_true (by kernel_rfl)) k2 bel lt2) trodAll_mk0))), rfl, bel.frame _, fun h => by cases h⟩

theorem PresyncHonest_closed : joinedFacts Try.prog 9 Try.f9 Rows.presyncHonestSpec Rows.presyncHonestRow = true := by
  simp only [joinedFacts, Bool.and_eq_true]
  repeat' apply And.intro
  all_goals first
    | (with_reducible exact head_enter)
    | (rw [head_make]; kernel_rfl)
    | (rw [head_lift]; kernel_rfl)
    | kernel_rfl

theorem PresyncHonest_holds : Rows.PresyncHonestSaid :=
  OpenClaim.holds_of_wide 9 Try.f9 rfl rfl rfl rfl rfl rfl rfl ⟨rfl, rfl, rfl, rfl, rfl⟩ rfl rfl rfl rfl rfl (by kernel_rfl) Try.func9 PresyncHonest_closed
    (of_decide_eq_true (by kernel_rfl)) (by unfold Func.isWrapper; rw [if_neg (of_decide_eq_false (by kernel_rfl))]; exact ⟨rfl, rfl⟩)
    (fun os started H enc _ => PresyncHonest_lifted os started H enc)
end Go.Proofs.Ytnbppbnjkmopeaa
