/- The law PresyncSmall: never more is remembered than so many bits, and as many headers as wait. No condition. -/
import Derived.Test.YtnbppbnjkmopeaaSyPh
import Derived.Test.YtnbppbnjkmopeaaOpenP
import Derived.Test.YtnbppbnjkmopeaaHead
namespace Go.Proofs.Ytnbppbnjkmopeaa
open Go.ChangeShapes Go.WideShapes Go.ChangeAt Go.RowKit

theorem Cha.at {lim : Nat} : ∀ {l : List Hd} {id : Nat} (i : Nat), Cha lim id l → i < l.length → (l.getD i hd0).p = lid id (l.take i) ∧ hpr (l.getD i hd0) lim = 0
  | [], _, _, _, hi => by cases hi
  | h :: l, id, 0, hc, _ => ⟨hc.1, hc.2.1⟩
  | h :: l, id, i + 1, hc, hi => by
    have := Cha.at i hc.2.2 (by simpa using hi)
    rw [List.getD_cons_succ, List.take_succ_cons]
    exact this
theorem lid_lt {id : Nat} (h : id < 2 ^ 256) : ∀ (l : List Hd), lid id l < 2 ^ 256 := fun l => by
  induction l generalizing id with
  | nil => exact h
  | cons x l ih => exact ih (hdid_lt x)
set_option maxRecDepth 100000 in
set_option maxHeartbeats 8000000 in
theorem PresyncSmall_walk (r0 r1 : Int) (_ : (Lit.int .i64 r0).wf = true) (_ : (Lit.int .i64 r1).wf = true) (S : Nat) (_ : S < 2 ^ 256) (xl : Option Addr) (cap : Nat) (ls : List (List Hd)) (hls : ∀ l ∈ ls, ∀ y ∈ l, y.ok) (w : World) (hin : HdsIn w xl ls) :
    Calls Try.prog 13 #[.agg #[.int .i64 r0, .int .i64 r1], iv S, .slice xl ls.length cap] w fun e w' => e = .returned (.bool true) ∧ Below w.heap.size w w' := by
  obtain ⟨x, I, hx⟩ := genX
  have HXX := Lib.hid hx
  have HLS := Lib.hid hls; have HIN := Lib.hid hin
  have KP := Lib.hid (keep_alloc (iblk S) (heap_new w (.cells #[.int .i64 r0, .int .i64 r1] 52 (0, 0))))
  have KS : Hid (((w.alloc (.cells #[.int .i64 r0, .int .i64 r1] 52 (0, 0))).alloc (iblk S)).heap[w.heap.size + 1]? = some (iblk S)) := Lib.hid (heap_new_at (by simp))
  have B := Lib.hid (below_alloc (below_alloc (Below.refl w.heap.size w) (.cells #[.int .i64 r0, .int .i64 r1] 52 (0, 0))) (iblk S))
  clear hx hls hin
  go_enter Try.func13, Try.ntmps13
  go_wp2_with fail
  refine (asks_any _).mono ?_
  rintro e w1 ⟨rfl, hb⟩
  have B1 := Lib.hid (below_next B.out hb); have KS1 := Lib.hid (block_keep hb KS.out); have KP1 := Lib.hid (block_keep hb KP.out)
  clear hb B KS KP
  have c0 : w1.cell? ⟨w.heap.size, 0, none⟩ = some (.int .i64 r0) := by rw [cell_of_row _ _ _ _ _ _ KP1.out]; rfl
  have c1 : w1.cell? ⟨w.heap.size, 1, none⟩ = some (.int .i64 r1) := by rw [cell_of_row _ _ _ _ _ _ KP1.out]; rfl
  by_cases h1 : r0 < 0
  · go_wp2_with fail
    go_ret
    exact ⟨rfl, B1.out⟩
  by_cases h2 : 1000 < r0
  · go_wp2_with fail
    go_ret
    exact ⟨rfl, B1.out⟩
  by_cases h3 : r1 < 0
  · go_wp2_with fail
    go_ret
    exact ⟨rfl, B1.out⟩
  by_cases h4 : 50 < r1
  · go_wp2_with fail
    go_ret
    exact ⟨rfl, B1.out⟩
  obtain ⟨M, hM⟩ : ∃ M, M = ls.length := ⟨_, rfl⟩
  have HM := Lib.hid hM
  rw [← hM]
  clear hM
  by_cases h5 : 12 < M
  · have h5' : (12 : Int) < (M : Int) := by omega
    go_wp2_with fail
    go_ret
    exact ⟨rfl, B1.out⟩
  have h5' : ¬ (12 : Int) < (M : Int) := by omega
  go_wp2_with fail
  refine (lrules_any r0 r1 _).mono ?_
  rintro e w2 ⟨rfl, hb⟩
  have B2 := Lib.hid (below_next B1.out hb); have KS2 := Lib.hid (block_keep hb KS1.out)
  clear hb B1 KS1 KP1 c0 c1
  go_wp2_with fail
  refine (ltree_any (by omega) (by omega) (by omega) (by omega) _).mono ?_
  rintro e w3 ⟨T, vn, m, rfl, hT, hb, hfr⟩
  have B3 := Lib.hid (below_next B2.out hb); have KS3 := Lib.hid (block_keep hb KS2.out); have K3 := Lib.hid hT
  clear hb B2 KS2 hT hfr
  go_wp2_with ((with_reducible show wpList _ _ _ _ _ _); refine wpList_load_id rfl (.tmp 4) rfl (w.heap.size + 1) S rfl KS3.out ?_)
  refine (lsync_any HXX.out (by omega) S _ K3.out).mono ?_
  rintro e w4 ⟨g, rfl, hg, hp, hb⟩
  have B4 := Lib.hid (below_next B3.out hb); have K4 := Lib.hid (K3.out.keep hb)
  have hgw : w.heap.size ≤ g := Nat.le_trans B3.out.size hg
  have P4 := Lib.hid hp
  obtain ⟨P0, hP0⟩ : ∃ P, P = newP (rlR r0 r1) S x := ⟨_, rfl⟩
  rw [← hP0] at P4
  have G0 : Hid (P0.good 0) := Lib.hid (by rw [hP0]; exact good_newP HXX.out (by omega) (by omega) (by omega) (by omega) S)
  have S0 : Hid (Smt P0 I ∧ P0.rules = rlR r0 r1) := Lib.hid (by
    rw [hP0]
    refine ⟨⟨⟨fun _ => ⟨rfl, HXX.out.id.symm⟩, (fun e => by cases e), fun _ => trivial, (fun e => by cases e), Nat.zero_le _⟩, by show (1 : Nat) ≠ 0; omega, by show (1 : Nat) ≤ 4; omega, Nat.zero_le _⟩, rfl⟩)
  clear hb B3 KS3 K3 hp hP0
  go_wp2_with fail
  refine (lget_any HXX.out _ K4.out).mono ?_
  rintro e w5 ⟨rfl, hb⟩
  have B5 := Lib.hid (below_next B4.out hb); have P5 := Lib.hid (P4.out.keep hb)
  clear hb B4 K4 P4
  have ep := field_gen HXX.out w5
  have ez := iblk_lit
  have hgg := block_lt P5.out.blk
  go_upto_region 10 with ((with_reducible show wpList _ _ _ _ _ _); refine wpList_store_id rfl (.tmp 10) (.tmp 56) rfl w5.heap.size 0 I rfl rfl (heap_new w5 _) (fun w8 h1 h2 h3 h4 => ?_); have hb8 := h4 _ _ (Nat.le_refl _) (below_alloc (Below.refl _ _) (iblk 0)); have KV := Lib.hid h1; have B8 := Lib.hid (below_next B5.out hb8); have P8 := Lib.hid (P5.out.keep hb8); clear h1 h2 h3 h4 hb8)
  obtain ⟨g10, hg10⟩ : ∃ g, g = w5.heap.size := ⟨_, rfl⟩
  have hg10w : w.heap.size ≤ g10 := by have := B5.out.size; omega
  rw [← hg10] at KV hgg
  rw [← hg10]
  have hZ : Hid (g10 < w8.heap.size) := Lib.hid (block_lt KV.out)
  obtain ⟨Z, hZ0⟩ : ∃ Z, Z = w8.heap.size := ⟨_, rfl⟩
  rw [← hZ0] at hZ
  have HZ0 := Lib.hid hZ0
  clear hg10 hZ0 B5 P5 ep ez
  have hM12 : M ≤ 12 := by omega
  go_wp2_with fail
  go_loopg [59] M (fun gm ix wr => ∃ (j : Nat) (p : Ps) (pv : Nat) (vb vr : Value), gm = M - j ∧ j ≤ M ∧ ix = .int .i64 j ∧ p.good (40 * j) ∧ Smt p pv ∧ p.rules = rlR r0 r1 ∧ pv < 2 ^ 256 ∧ PsIs wr g vb vr p ∧ (∀ k, psD g vb vr k → k = g ∨ Z ≤ k) ∧ Z ≤ wr.heap.size ∧ wr.heap[g10]? = some (iblk pv) ∧ Below w.heap.size w wr)
  case atStart => exact ⟨0, P0, I, _, _, rfl, Nat.zero_le _, rfl, G0.out, S0.out.1, S0.out.2, HXX.out.lt, P8.out, fun k hk => .inl (psD_new hk), Nat.le_of_eq HZ0.out, KV.out, B8.out⟩
  case round =>
    clear G0 S0 P8 KV B8
    obtain ⟨j, p, pv, vb, vr, hgm, hj, rfl, hgd, hsm, hru, hpv, hps, hD, hzr, hkv, hbw⟩ := hrel
    have HGM := Lib.hid hgm; have HGD := Lib.hid hgd; have HSM := Lib.hid hsm; have HRU := Lib.hid hru; have HPV := Lib.hid hpv; have PS := Lib.hid hps; have HD := Lib.hid hD; have KV := Lib.hid hkv; have BW := Lib.hid hbw
    clear hgm hgd hsm hru hpv hps hD hkv hbw
    by_cases hlt : j < M
    · obtain ⟨b0, o0, rfl, hb0, hrow⟩ := HIN.out (by rw [← HM.out]; omega)
      obtain ⟨u, hu, hli⟩ := hrow j (by rw [← HM.out]; exact hlt)
      obtain ⟨l, hl⟩ : ∃ l, l = ls.getD j [] := ⟨_, rfl⟩
      rw [← hl] at hli
      have hlo : ∀ y ∈ l, y.ok := HLS.out l (by rw [hl, List.getD_eq_getElem?_getD, List.getElem?_eq_getElem (by rw [← HM.out]; exact hlt)]; exact List.getElem_mem _)
      obtain ⟨xi, ci, rfl, hci1, hci2, hxi⟩ := hli
      have cu : wr.cell? ⟨b0, o0 + j, none⟩ = some (.slice xi l.length ci) := (World.cell?_of_block (BW.out.block b0 hb0)).trans hu
      have HXI : Hid (0 < l.length → ∃ b o, xi = some ⟨b, o, none⟩ ∧ HdsAt wr b o l ∧ ¬ psD g vb vr b) := Lib.hid fun h => by
        obtain ⟨b, o, e1, e2, e3⟩ := hxi h
        refine ⟨b, o, e1, e3.keep BW.out, fun e => ?_⟩
        rcases HD.out b e with e | e
        · omega
        · have := hZ.out; omega
      have HLO := Lib.hid hlo
      clear hl hlo hrow hu hxi hci1 hci2
      obtain ⟨n, hn⟩ : ∃ n, n = l.length := ⟨_, rfl⟩
      have HN := Lib.hid hn
      rw [← hn] at cu
      clear hn
      by_cases h40 : 40 < n
      · have h40' : (40 : Int) < (n : Int) := by omega
        go_wp2_with fail
        go_ret
        exact ⟨rfl, BW.out⟩
      have h40' : ¬ (40 : Int) < (n : Int) := by omega
      have hct := take_any g vb vr p true xi ci l (40 * j) HGD.out (by rw [← HN.out]; omega) HLO.out wr PS.out HXI.out
      rw [← HN.out] at hct
      have CT := Lib.hid hct
      have hst := smt_take HSM.out true l
      have hgt := good_take HGD.out true l HLO.out
      have hto := take_ok HGD.out true l HLO.out
      have htl := take_lim p true l
      have hlong := takeP_long p true l HGD.out HLO.out
      obtain ⟨q, hq⟩ : ∃ q, q = takeP p true l := ⟨_, rfl⟩
      rw [← hq] at CT hst hgt hto htl hlong
      rw [← HN.out] at hlong
      have HST := Lib.hid hst; have HGT : Hid (q.1.good (40 * (j + 1))) := Lib.hid (hgt.mono (by rw [← HN.out]; omega)); have HTO := Lib.hid hto; have HTL : Hid (q.1.rules = rlR r0 r1) := Lib.hid (htl.trans HRU.out)
      have HLM : Hid (p.rules.limit = 545259519) := Lib.hid (by rw [HRU.out]; rfl)
      clear hct hst hgt hto htl hq HGD HSM HLO HXI
      go_wp2_with fail
      refine CT.out.mono ?_
      rintro e w6 ⟨v68, rfl, ⟨x5, c5, e5, hnn, hmem⟩, ⟨vb2, vr2, hps2, hgr, hdf⟩, hown⟩
      subst e5
      have hb5 : Hid (∀ ad, x5 = some ad → ad.spot = none ∧ HdsAt w6 ad.block ad.off q.2 ∧ ad.block ≠ g10) := Lib.hid fun ad e => by
        obtain ⟨e1, e2⟩ := hmem ad e
        refine ⟨e1, e2, fun e3 => ?_⟩
        have := hZ.out
        rcases hown ad.block (by rw [e]; rfl) with e4 | e4
        · rcases HD.out _ e4 with e5 | e5 <;> omega
        · omega
      have HNN := Lib.hid hnn
      have P6 := Lib.hid hps2
      have D6 : Hid (∀ k, psD g vb2 vr2 k → k = g ∨ Z ≤ k) := Lib.hid fun k hk => (hdf k hk).elim (HD.out k) (fun e => .inr (by omega))
      have hz6 : Z ≤ w6.heap.size := by have := hgr.size; omega
      have KV6 := Lib.hid (hgr.keep KV.out (fun e => by rcases HD.out _ e with e | e <;> have := hZ.out <;> omega))
      have B6 := Lib.hid (BW.out.trans (hgr.below w.heap.size BW.out.size (fun i hi e => by rcases HD.out _ e with e | e <;> have := hZ.out <;> omega)))
      have hql : q.2.length ≤ 1000000 := by omega
      clear hnn hmem hps2 hgr hdf hown PS HD KV BW CT cu hzr
      obtain ⟨R, hR⟩ : ∃ R, R = q.2.length := ⟨_, rfl⟩
      have HR := Lib.hid hR
      rw [← hR] at hql
      rw [← hR]
      clear hR
      go_wp2_with fail
      go_loopg [70] R (fun gm ix wr => ∃ (i : Nat), gm = R - i ∧ i ≤ R ∧ ix = .int .i64 i ∧ wr.heap[g10]? = some (iblk (lid pv (q.2.take i))) ∧ Gr (fun k => k = g10) w6 wr)
      case atStart => exact ⟨0, rfl, Nat.zero_le _, rfl, KV6.out, Gr.refl _ _⟩
      case round =>
        obtain ⟨i, hgi, hi, rfl, hkv, hg6⟩ := hrel
        have HGI := Lib.hid hgi; have KV := Lib.hid hkv; have G6 := Lib.hid hg6
        clear hgi hkv hg6 KV6
        have hpv2 : lid pv (q.2.take i) < 2 ^ 256 := lid_lt HPV.out _
        by_cases hlti : i < R
        · have hx5 : ∃ b o, x5 = some ⟨b, o, none⟩ ∧ HdsAt w6 b o q.2 ∧ b ≠ g10 := by
            cases x5 with
            | none =>
              have := (HNN.out rfl).1
              rw [HR.out, this] at hlti
              cases hlti
            | some ad =>
              obtain ⟨e1, e2, e3⟩ := hb5.out ad rfl
              obtain ⟨b, o, sp⟩ := ad
              have e1 : sp = none := e1
              subst e1
              exact ⟨b, o, rfl, e2, e3⟩
          obtain ⟨bo, oo, rfl, hmm, hbg⟩ := hx5
          have hlt2 : i < q.2.length := by rw [← HR.out]; exact hlti
          obtain ⟨h, hh⟩ : ∃ h, h = q.2.getD i hd0 := ⟨_, rfl⟩
          have hok : h.ok := by rw [hh]; exact HTO.out _ (by rw [List.getD_eq_getElem?_getD, List.getElem?_eq_getElem hlt2]; exact List.getElem_mem _)
          have HMM : Hid (wr.rangeAt bo (oo + i * 68) (hdcs h)) := Lib.hid (hh ▸ (hmm.gr G6.out hbg).at i hlt2)
          have hch := HST.out.1
          rw [HLM.out] at hch
          obtain ⟨hpe, hp0⟩ := Cha.at i hch hlt2
          have htk : lid pv (q.2.take (i + 1)) = hdid h := by rw [take_snoc q.2 i hlt2, lid_snoc, hh]
          rw [← hh] at hpe hp0
          obtain ⟨pi, hpi⟩ : ∃ v, v = lid pv (q.2.take i) := ⟨_, rfl⟩
          rw [← hpi] at KV hpe hpv2
          have HPE := Lib.hid hpe; have HTK := Lib.hid htk
          have CP : Hid (∀ V, Calls Try.prog 25 #[hdv h, .int .u32 545259519] V fun e w' => e = .returned (.int .i64 0) ∧ Below V.heap.size V w') := Lib.hid fun V => by
            have := proved_any h hok 545259519 (by decide) V
            rw [hp0] at this
            exact this
          have CI := Lib.hid fun V => hid_any h hok V
          obtain ⟨hi2, hhi⟩ : ∃ v, v = hdid h := ⟨_, rfl⟩
          rw [← hhi] at CI HTK
          have HZ := Lib.hid (show Obj.cells Try.zeroCells26 26 = hdblk hd0 from by unfold hdblk; rw [hdz]; rfl)
          have hwz := G6.out.size
          clear hh hok hch hpe hp0 htk hpi hhi hmm hlt2
          go_wp2_with ((with_reducible show wpList _ _ _ _ _ _); first | refine ld_hd rfl (.tmp 72) rfl bo (oo + i * 68) h rfl HMM.out ?_ | (refine wpList_store_hd rfl (.tmp 14) (.tmp 73) rfl wr.heap.size hd0 h rfl rfl ((heap_new wr _).trans (congrArg some HZ.out)) (fun w7 h1 h2 h3 h4 => ?_); have hB7 := h4 _ _ (Nat.le_refl _) (below_alloc (Below.refl _ _) _); have K14 := Lib.hid h1; have KV7 := Lib.hid (block_keep hB7 KV.out); have HB7 := Lib.hid hB7; have eq := eq_self pi hpv2 w7; clear h1 h2 h3 h4 hB7) | refine ld_id rfl (.tmp 74) rfl wr.heap.size 1 pi rfl (HPE.out ▸ hd_prevR K14.out) ?_ | refine wpList_load_id rfl (.tmp 10) rfl g10 pi rfl KV7.out ?_ | refine wpList_load_hd rfl (.tmp 14) rfl wr.heap.size h rfl K14.out ?_ | (refine wpList_unguard rfl ?_; refine wpList_load_hd rfl (.tmp 14) rfl wr.heap.size h rfl K14.out ?_))
          refine (CP.out _).mono ?_
          rintro e w9 ⟨rfl, hb⟩
          have K14b := Lib.hid (block_keep hb K14.out); have KV9 := Lib.hid (block_keep hb KV7.out); have HB9 := Lib.hid (HB7.out.trans (hb.mono HB7.out.size))
          clear hb eq K14 KV7 HB7 CP
          go_wp2_with ((with_reducible show wpList _ _ _ _ _ _); refine wpList_load_hd rfl (.tmp 14) rfl wr.heap.size h rfl K14b.out ?_)
          refine (CI.out _).mono ?_
          rintro e w10 ⟨rfl, hb⟩
          have KV10 := Lib.hid (block_keep hb KV9.out); have HB10 := Lib.hid (HB9.out.trans (hb.mono HB9.out.size))
          clear hb K14b KV9 HB9 CI
          go_wp2_with ((with_reducible show wpList _ _ _ _ _ _); refine wpList_store_id rfl (.tmp 10) (.tmp 84) rfl g10 pi hi2 rfl rfl KV10.out (fun w11 h1 h2 h3 h4 => ?_); have KV11 := Lib.hid h1; have G11 : Hid (Gr (fun k => k = g10) w6 w11) := Lib.hid ((G6.out.next HB10.out).trans (Gr.of_st h2 h4) (fun _ _ e => e)); clear h1 h2 h3 h4)
          go_roundg (R - (i + 1))
          case measure => have := HGI.out; omega
          case rel => exact ⟨i + 1, rfl, by omega, by go_num, (by rw [HTK.out]; exact KV11.out), G11.out⟩
        · obtain rfl : i = R := by omega
          have P7 := Lib.hid (P6.out.gr G6.out (fun k hk e => by rcases D6.out k hk with e2 | e2 <;> have := hZ.out <;> omega))
          have KV7 : Hid (wr.heap[g10]? = some (iblk (lid pv q.2))) := Lib.hid (by have := KV.out; rwa [HR.out, List.take_length] at this)
          have B7 := Lib.hid (B6.out.trans (G6.out.below w.heap.size B6.out.size (fun i hi e => by omega)))
          have hz7 : Z ≤ wr.heap.size := by have := G6.out.size; omega
          have hbits := HST.out.2.sml.bits
          have hready := HST.out.2.few
          obtain ⟨C, hC⟩ : ∃ C, C = q.1.bits.length + q.1.ready.length := ⟨_, rfl⟩
          have cs : Hid (∀ W, PsIs W g vb2 vr2 q.1 → Calls Try.prog 50 #[.pointer (some ⟨g, 0, none⟩)] W fun e w' => e = .returned (.int .i64 (C : Nat)) ∧ Below W.heap.size W w') := Lib.hid fun W hW => by rw [hC]; exact psize_any g _ _ q.1 W hW (by omega) (by omega)
          have hC2 : ¬ (264 : Int) < (C : Int) := by omega
          clear hC hbits hready KV G6 P6 B6
          go_wp2_with fail
          refine (cs.out _ P7.out).mono ?_
          rintro e w12 ⟨rfl, hb⟩
          have P12 := Lib.hid (P7.out.keep hb); have KV12 := Lib.hid (block_keep hb KV7.out); have B12 := Lib.hid (below_next B7.out hb)
          have hz12 : Z ≤ w12.heap.size := by have := hb.size; omega
          clear hb P7 KV7 B7 cs hz7
          go_wp2_with fail
          refine (phase_any g (q.1.sy vb2 vr2) _ P12.out.blk).mono ?_
          rintro e w13 ⟨rfl, hb⟩
          have P13 := Lib.hid (P12.out.keep hb); have KV13 := Lib.hid (block_keep hb KV12.out); have B13 := Lib.hid (below_next B12.out hb)
          have hz13 : Z ≤ w13.heap.size := by have := hb.size; omega
          rw [show (q.1.sy vb2 vr2).phase = ((q.1.phase : Nat) : Int) from rfl]
          clear hb P12 KV12 B12 hz12
          have hpq := lid_lt HPV.out q.2
          by_cases h4 : q.1.phase = 4
          · have e4 : ((q.1.phase : Int) == 4) = true := by simp [h4]
            obtain ⟨rs, hrs⟩ : ∃ r, r = q.1.reason := ⟨_, rfl⟩
            have hr0 : rs ≠ 0 := by rw [hrs]; exact (HST.out.2.sml.bad h4).1
            have er : ((rs : Int) == 0) = false := by simp; omega
            have HRS := Lib.hid hrs
            clear h4 hr0 hrs
            go_wp2_with fail
            refine (reason_any g (q.1.sy vb2 vr2) _ P13.out.blk).mono ?_
            rintro e w14 ⟨rfl, hb⟩
            have P14 := Lib.hid (P13.out.keep hb); have KV14 := Lib.hid (block_keep hb KV13.out); have B14 := Lib.hid (below_next B13.out hb)
            have hz14 : Z ≤ w14.heap.size := by have := hb.size; omega
            rw [show (q.1.sy vb2 vr2).reason = ((rs : Nat) : Int) from by rw [HRS.out]; rfl]
            clear hb P13 KV13 B13 hz13
            go_wp2_with fail
            go_roundg (M - (j + 1))
            case measure => have := HGM.out; omega
            case rel => exact ⟨j + 1, q.1, lid pv q.2, vb2, vr2, rfl, by omega, by go_num, HGT.out, HST.out.2, HTL.out, hpq, P14.out, D6.out, hz14, KV14.out, B14.out⟩
          · have e4 : ((q.1.phase : Int) == 4) = false := by simp; omega
            clear h4
            go_wp2_with fail
            go_roundg (M - (j + 1))
            case measure => have := HGM.out; omega
            case rel => exact ⟨j + 1, q.1, lid pv q.2, vb2, vr2, rfl, by omega, by go_num, HGT.out, HST.out.2, HTL.out, hpq, P13.out, D6.out, hz13, KV13.out, B13.out⟩
    · obtain rfl : j = M := by omega
      go_wp2_with fail
      go_ret
      exact ⟨rfl, BW.out⟩

set_option maxRecDepth 100000 in
theorem PresyncSmall_lifted (os : Os) (started : os.Started) (H : Type) (enc : TypeId × Value → H) :
    ReturnsInHanded {} Try.checked os 13 .any (Rows.presyncSmallSpec.pre6 enc Try.prog Try.f13 Rows.presyncSmallRow.domain false) (Rows.presyncSmallSpec.post enc Try.prog Try.f13 false true false false) := by
  refine returnsInHanded_of_change (C := Try.checked) own started (by kernel_rfl) Try.func13
    (ChangeSpec.witness6 (enc := enc) (C := Try.checked) false ⟨#[], #[.agg #[.int .i64 0, .int .i64 0], .agg #[.int .u8 0, .int .u8 0, .int .u8 0, .int .u8 0, .int .u8 0, .int .u8 0, .int .u8 0, .int .u8 0, .int .u8 0, .int .u8 0, .int .u8 0, .int .u8 0, .int .u8 0, .int .u8 0, .int .u8 0, .int .u8 0, .int .u8 0, .int .u8 0, .int .u8 0, .int .u8 0, .int .u8 0, .int .u8 0, .int .u8 0, .int .u8 0, .int .u8 0, .int .u8 0, .int .u8 0, .int .u8 0, .int .u8 0, .int .u8 0, .int .u8 0, .int .u8 0], .slice none 0 0], []⟩ 8 (by kernel_rfl) (by kernel_rfl) (by kernel_rfl) (by kernel_rfl)) ?_
  intro W base args ds gs before hval0 hW hcnd _
  have hval : ∀ (j : Nat) t v, Try.f13.params[j]? = some t → args[j]? = some v → Value.okWide Try.prog W .any base t v := hval0
  have hW' := hW
  obtain ⟨p, q, hA0, hV, rfl, hfz, hnd⟩ := hW
  have hA : DataW.TrodAll enc Try.prog W 0 (fun _ => true) true Try.f13.params.toList args.toList ds p := hA0
  rw [Try.params13] at hA hval
  obtain ⟨v0, vs0, d0, ds0, p0, q0, hargs, rfl, rfl, h0, r0⟩ := trodAll_cons hA
  obtain ⟨v1, vs1, d1, ds1, p1, q1, rfl, rfl, rfl, h1, r1⟩ := trodAll_cons r0
  obtain ⟨v2, vs2, d2, ds2, p2, q2, rfl, rfl, rfl, h2, r2⟩ := trodAll_cons r1
  obtain ⟨rfl, rfl, rfl⟩ := trodAll_nil r2
  obtain rfl : args = #[v0, v1, v2] := by cases args; simp_all
  obtain ⟨rfl, rfl⟩ := trodVars_none hV
  have k0 := h0
  have lt0 := trod_lt_of h0
  obtain ⟨a0, c0, b0, d0, rfl⟩ := open_pairint (hval 0 52 v0 rfl rfl) h0
  have k1 := h1
  have lt1 := trod_lt_of h1
  obtain ⟨a1, b1, rfl⟩ := open_id (hval 1 24 v1 rfl rfl) h1
  have k2 := h2
  have lt2 := trod_lt_of h2
  obtain ⟨a2, cap2, l2, b2, rfl, c2⟩ := open_hdss (hval 2 101 v2 rfl rfl) h2
  clear hA0 hval0
  refine (PresyncSmall_walk a0 c0 b0 d0 a1 b1 a2 cap2 l2 b2 W c2).mono fun e W' ⟨he, bel⟩ => ?_
  subst he
  exact ⟨_, rfl, _, _, _, [], _, [], hW', trodAll_mk1 (shut_bool (by kernel_rfl) _), (trodAll_cons_mk (Below.trod laidOut (by kernel_rfl) (of_decide_eq_true (by kernel_rfl)) k0 bel lt0) (trodAll_cons_mk (Below.trod laidOut (by kernel_rfl) (of_decide_eq_true (by kernel_rfl)) k1 bel lt1) (trodAll_cons_mk (Below.trod laidOut (by kernel_rfl) (of_decide_eq_true (by kernel_rfl)) k2 bel lt2) trodAll_mk0))), rfl, bel.frame _, fun h => by cases h⟩

theorem PresyncSmall_closed : joinedFacts Try.prog 13 Try.f13 Rows.presyncSmallSpec Rows.presyncSmallRow = true := by
  simp only [joinedFacts, Bool.and_eq_true]
  repeat' apply And.intro
  all_goals first
    | (with_reducible exact head_enter)
    | (rw [head_make]; kernel_rfl)
    | (rw [head_lift]; kernel_rfl)
    | kernel_rfl

theorem PresyncSmall_holds : Rows.PresyncSmallSaid :=
  OpenClaim.holds_of_wide 13 Try.f13 rfl rfl rfl rfl rfl rfl rfl ⟨rfl, rfl, rfl, rfl, rfl⟩ rfl rfl rfl rfl rfl (by kernel_rfl) Try.func13 PresyncSmall_closed
    (of_decide_eq_true (by kernel_rfl)) (by unfold Func.isWrapper; rw [if_neg (of_decide_eq_false (by kernel_rfl))]; exact ⟨rfl, rfl⟩)
    (fun os started H enc _ => PresyncSmall_lifted os started H enc)
end Go.Proofs.Ytnbppbnjkmopeaa
