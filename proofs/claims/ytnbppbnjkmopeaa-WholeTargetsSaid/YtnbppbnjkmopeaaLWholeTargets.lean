/- The law WholeTargets: easier targets mean no more work, and are met as often. No condition. -/
import Derived.Test.YtnbppbnjkmopeaaNumMem
import Derived.Test.YtnbppbnjkmopeaaNumId
import Derived.Test.YtnbppbnjkmopeaaBtWork
import Derived.Test.YtnbppbnjkmopeaaWkP
import Derived.Test.YtnbppbnjkmopeaaMkC
import Derived.Test.YtnbppbnjkmopeaaWyMem
import Derived.Test.YtnbppbnjkmopeaaTwPlain
import Derived.Test.YtnbppbnjkmopeaaRegH
import Derived.Test.YtnbppbnjkmopeaaOpenMore
import Derived.Test.YtnbppbnjkmopeaaHead
namespace Go.Proofs.Ytnbppbnjkmopeaa
open Go.ChangeShapes Go.WideShapes Go.ChangeAt Go.RowKit

set_option maxRecDepth 100000 in
set_option maxHeartbeats 40000000 in
theorem WholeTargets_walk (x : Option Addr) (cap : Nat) (l : List Nat) (hl : ∀ y ∈ l, y < 2 ^ 256) (k0 k1 : Int) (w0 : (Lit.int .u32 k0).wf = true) (w1 : (Lit.int .u32 k1).wf = true) (w : World) (_hc : l.length ≤ cap) (_hm : cap ≤ maxLen) (hz : x = none → l = [] ∧ cap = 0) (hx0 : l ≠ [] → ∃ b o, x = some ⟨b, o, none⟩ ∧ b < w.heap.size ∧ IdsAt w b o l) :
    Calls Try.prog 16 #[.slice x l.length cap, .agg #[.int .u32 k0, .int .u32 k1]] w fun e w' => e = .returned (.bool true) ∧ Below w.heap.size w w' := by
  have hx : l ≠ [] → ∃ b o, x = some ⟨b, o, none⟩ ∧ IdsAt w b o l := fun h => by
    obtain ⟨b, o, h1, _, h3⟩ := hx0 h
    exact ⟨b, o, h1, h3⟩
  have hx2 : 0 ≤ k0 ∧ k0 ≤ 4294967295 := by simpa [Lit.wf, IntKind.min, IntKind.max, IntKind.signed, IntKind.bits] using w0
  have hy2 : 0 ≤ k1 ∧ k1 ≤ 4294967295 := by simpa [Lit.wf, IntKind.min, IntKind.max, IntKind.signed, IntKind.bits] using w1
  obtain ⟨p, rfl⟩ := Int.eq_ofNat_of_zero_le hx2.1
  obtain ⟨q, rfl⟩ := Int.eq_ofNat_of_zero_le hy2.1
  have ta := Lib.hid fun W => target_any p (by omega) W
  have tb := Lib.hid fun W => target_any q (by omega) W
  have te := Lib.hid fun W => target_any 545259519 (by omega) W
  obtain ⟨T, hT⟩ : ∃ T, T = 8388607 * 2 ^ 232 := ⟨_, rfl⟩
  have HTL : Hid (T < 2 ^ 256) := Lib.hid (by rw [hT]; exact easy_lt)
  have HTW : Hid (wrk T = 2) := Lib.hid (by rw [hT]; exact easy_wrk)
  rw [easy_tgt, ← hT] at te
  dsimp only at te
  have HAL := Lib.hid (tgt_lt p); have HBL := Lib.hid (tgt_lt q)
  have HAP := Lib.hid (tgt_pos (b := p)); have HBP := Lib.hid (tgt_pos (b := q))
  obtain ⟨A, hA⟩ : ∃ A, A = (tgt p).1 := ⟨_, rfl⟩
  obtain ⟨C, hC⟩ : ∃ C, C = (tgt q).1 := ⟨_, rfl⟩
  obtain ⟨s, hs⟩ : ∃ s, s = (tgt p).2 := ⟨_, rfl⟩
  obtain ⟨t, ht⟩ : ∃ t, t = (tgt q).2 := ⟨_, rfl⟩
  rw [← hA] at HAL
  rw [← hC] at HBL
  rw [← hA, ← hs] at ta HAP
  rw [← hC, ← ht] at tb HBP
  have HX := Lib.hid hx; have HL := Lib.hid hl; have HZ := Lib.hid hz
  obtain ⟨n, hn⟩ : ∃ n, n = l.length := ⟨_, rfl⟩
  rw [← hn]
  have HN := Lib.hid hn
  have KB := Lib.hid (heap_new w (.cells #[.int .u32 p, .int .u32 q] 44 (0, 0)))
  have BB : Hid (Below w.heap.size w (w.alloc (.cells #[.int .u32 p, .int .u32 q] 44 (0, 0)))) := Lib.hid (below_alloc (Below.refl _ _) _)
  clear hx hx0 hl hz _hc _hm hx2 hy2 w0 w1 hT hA hC hs ht hn
  go_enter Try.func16, Try.ntmps16
  go_wp2_with fail
  refine (te.out _).mono ?_
  rintro e w2 ⟨rfl, hb⟩
  have KB2 := Lib.hid (keep_alloc (nbk 0) (block_keep hb KB.out)); have B2 := Lib.hid (below_alloc (below_next BB.out hb) (nbk 0))
  have hwz : w.heap.size < w2.heap.size := block_lt (block_keep hb KB.out)
  clear hb KB BB te
  go_wp2_with (first | (refine wpList_store_nv rfl (.tmp 5) (.tmp 20) rfl w2.heap.size 0 T rfl rfl (heap_new w2 _) (fun w3 h1 h2 h3 h4 => ?_); have K5 := Lib.hid h1; have KB3 := Lib.hid ((h2 w.heap.size (by omega)).trans KB2.out); have B3 := Lib.hid (h4 w.heap.size w (by omega) B2.out); clear h1 h2 h3 h4) | refine wpList_load_nv rfl (.tmp 5) rfl w2.heap.size T rfl K5.out ?_ | (refine wpList_unguard rfl ?_; refine wpList_load_nv rfl (.tmp 5) rfl w2.heap.size T rfl K5.out ?_))
  refine (work_any T HTL.out _).mono ?_
  rintro e w4 ⟨rfl, hb⟩
  rw [HTW.out]
  have KB4 := Lib.hid (block_keep hb KB3.out); have B4 := Lib.hid (below_next B3.out hb)
  clear hb KB2 B2 KB3 B3 K5 hwz
  go_wp2_with fail
  refine (of_nat 2 _ (by omega)).mono ?_
  rintro e w5 ⟨rfl, hb⟩
  have KB5 := Lib.hid (block_keep hb KB4.out); have B5 := Lib.hid (below_next B4.out hb)
  clear hb KB4 B4
  have q2 : ∀ V : World, (Op.equalIn 10000 47 (nv 2) (nv 2)).run Try.prog V = .ok true V := fun V => by rw [eq_num 2 2 (by omega) (by omega) V, decide_eq_true rfl]
  by_cases h30 : 30 < n
  · have h30' : (30 : Int) < (n : Int) := by omega
    go_wp2_with fail
    go_ret
    exact ⟨rfl, B5.out⟩
  have h30' : ¬ (30 : Int) < (n : Int) := by omega
  have hn30 : n ≤ 30 := by omega
  have c0 : w5.cell? ⟨w.heap.size, 0, none⟩ = some (.int .u32 p) := by rw [cell_of_row _ _ _ _ _ _ KB5.out]; rfl
  clear h30
  go_wp2_with fail
  refine (ta.out _).mono ?_
  rintro e w6 ⟨rfl, hb⟩
  have KB6 := Lib.hid (keep_alloc (nbk 0) (block_keep hb KB5.out)); have B6 := Lib.hid (below_alloc (below_next B5.out hb) (nbk 0))
  have hwz : w.heap.size < w6.heap.size := block_lt (block_keep hb KB5.out)
  clear hb KB5 B5 ta q2 c0
  go_wp2_with (first | (refine wpList_store_nv rfl (.tmp 7) (.tmp 37) rfl w6.heap.size 0 A rfl rfl (heap_new w6 _) (fun w7 h1 h2 h3 h4 => ?_); have K7 := Lib.hid h1; have KB7 := Lib.hid ((h2 w.heap.size (by omega)).trans KB6.out); have B7 := Lib.hid (h4 w.heap.size w (by omega) B6.out); have c1 : w7.cell? ⟨w.heap.size, 1, none⟩ = some (.int .u32 q) := (by rw [cell_of_row _ _ _ _ _ _ KB7.out]; rfl); clear h1 h2 h3 h4))
  obtain ⟨ga, hga⟩ : ∃ g, g = w6.heap.size := ⟨_, rfl⟩
  rw [← hga] at K7 hwz
  simp only [← hga]
  clear hga KB6 B6
  refine (tb.out _).mono ?_
  rintro e w8 ⟨rfl, hb⟩
  have K78 := Lib.hid (keep_alloc (nbk 0) (block_keep hb K7.out)); have B8 := Lib.hid (below_alloc (below_next B7.out hb) (nbk 0))
  have h7w : ga < w8.heap.size := block_lt (block_keep hb K7.out)
  clear hb K7 KB7 B7 tb c1
  cases s
  · go_wp2_with (first | (refine wpList_store_nv rfl (.tmp 9) (.tmp 43) rfl w8.heap.size 0 C rfl rfl (heap_new w8 _) (fun w9 h1 h2 h3 h4 => ?_); have K9 := Lib.hid h1; have K79 := Lib.hid ((h2 ga (by omega)).trans K78.out); have B9 := Lib.hid (h4 w.heap.size w (by omega) B8.out); clear h1 h2 h3 h4))
    go_ret
    exact ⟨rfl, B9.out⟩
  cases t
  · go_wp2_with (first | (refine wpList_store_nv rfl (.tmp 9) (.tmp 43) rfl w8.heap.size 0 C rfl rfl (heap_new w8 _) (fun w9 h1 h2 h3 h4 => ?_); have K9 := Lib.hid h1; have K79 := Lib.hid ((h2 ga (by omega)).trans K78.out); have B9 := Lib.hid (h4 w.heap.size w (by omega) B8.out); clear h1 h2 h3 h4))
    go_ret
    exact ⟨rfl, B9.out⟩
  go_wp2_with (first | (refine wpList_store_nv rfl (.tmp 9) (.tmp 43) rfl w8.heap.size 0 C rfl rfl (heap_new w8 _) (fun w9 h1 h2 h3 h4 => ?_); have K9 := Lib.hid h1; have K79 := Lib.hid ((h2 ga (by omega)).trans K78.out); have B9 := Lib.hid (h4 w.heap.size w (by omega) B8.out); clear h1 h2 h3 h4) | refine wpList_load_nv rfl (.tmp 7) rfl ga A rfl K79.out ?_ | refine wpList_load_nv rfl (.tmp 9) rfl w8.heap.size C rfl K9.out ?_)
  obtain ⟨gc, hgc⟩ : ∃ g, g = w8.heap.size := ⟨_, rfl⟩
  rw [← hgc] at K9 h7w
  simp only [← hgc]
  clear hgc K78 B8
  have HA1 := Lib.hid (HAP.out (by simp)); have HB1 := Lib.hid (HBP.out (by simp))
  have hac : ga ≠ gc := by omega
  clear HAP HBP
  refine (cmp_any A C HAL.out HBL.out _).mono ?_
  rintro e w10 ⟨rfl, hb⟩
  have Ka := Lib.hid (block_keep hb K79.out); have Kc := Lib.hid (block_keep hb K9.out); have B10 := Lib.hid (below_next B9.out hb)
  clear hb K79 K9 B9
  go_upto_if 54 with fail
  go_cut [] (fun wc => ∃ a b, 1 ≤ a ∧ a ≤ b ∧ b < 2 ^ 256 ∧ wc.heap[ga]? = some (nbk a) ∧ wc.heap[gc]? = some (nbk b) ∧ Below w.heap.size w wc)
  case first =>
    by_cases hgt : 0 < cmpn A C
    · have hlt := Lib.hid (cmpn_gt.1 hgt)
      go_wp2_with (first | refine wpList_load_nv rfl (.tmp 9) rfl gc C rfl Kc.out ?_ | refine wpList_load_nv rfl (.tmp 7) rfl ga A rfl Ka.out ?_ | (refine wpList_store_nv rfl (.tmp 7) (.tmp 55) rfl ga A C rfl rfl Ka.out (fun w11 h1 h2 h3 h4 => ?_); have Ka2 := Lib.hid h1; have Kc2 := Lib.hid ((h2 gc (Ne.symm hac)).trans Kc.out); have B11 := Lib.hid (h4 w.heap.size w (by omega) B10.out); clear h1 h2 h3 h4) | (refine wpList_store_nv rfl (.tmp 9) (.tmp 56) rfl gc C A rfl rfl Kc2.out (fun w12 h1 h2 h3 h4 => ?_); have Kc3 := Lib.hid h1; have Ka3 := Lib.hid ((h2 ga hac).trans Ka2.out); have B12 := Lib.hid (h4 w.heap.size w (by omega) B11.out); clear h1 h2 h3 h4))
      go_meet
      case rel => exact ⟨C, A, HB1.out, by have := hlt.out; omega, HAL.out, Ka3.out, Kc3.out, B12.out⟩
    · have hle : Hid (A ≤ C) := Lib.hid (cmpn_leq.1 (by omega))
      go_wp2_with fail
      go_meet
      case rel => exact ⟨A, C, HA1.out, hle.out, HBL.out, Ka.out, Kc.out, B10.out⟩
  case rest =>
  obtain ⟨a, b, ha1, hab, hb2, ka, kc, hb⟩ := hcut
  obtain ⟨W0, rfl⟩ : ∃ W : World, W = wc := ⟨_, rfl⟩
  clear Ka Kc B10 HAL HBL HA1 HB1
  have Ka := Lib.hid ka; have Kc := Lib.hid kc; have B10 := Lib.hid hb
  have HA1 := Lib.hid ha1; have HAB := Lib.hid hab; have HB2 := Lib.hid hb2
  clear ka kc hb ha1 hab hb2
  have HXK := Lib.hid fun (V : World) (hb : Below W0.heap.size W0 V) (h : l ≠ []) => (HX.out h).elim fun g h => h.elim fun o h => (⟨g, o, h.1, h.2.keep (below_next B10.out hb)⟩ : ∃ g o, x = some ⟨g, o, none⟩ ∧ IdsAt V g o l)
  have cr := Lib.hid (root_any x cap l HL.out (by have := HN.out; omega) W0 HZ.out (HXK.out W0 (Below.refl _ _)))
  rw [← HN.out] at cr
  obtain ⟨R, hR⟩ : ∃ R, R = (Mroot l).1 := ⟨_, rfl⟩
  obtain ⟨F, hF⟩ : ∃ F, F = (Mroot l).2 := ⟨_, rfl⟩
  have HRL : Hid (R < 2 ^ 256) := Lib.hid (by rw [hR]; exact mroot_lt _ l _ HL.out)
  rw [← hR, ← hF] at cr
  clear hR hF
  go_wp2_with fail
  refine cr.out.mono ?_
  rintro e w13 ⟨rfl, hb⟩
  have Ka1 := Lib.hid (keep_alloc (iblk 0) (block_keep hb Ka.out)); have Kc1 := Lib.hid (keep_alloc (iblk 0) (block_keep hb Kc.out)); have B13 := Lib.hid (below_alloc hb (iblk 0))
  have hz13 : W0.heap.size ≤ w13.heap.size := hb.size
  have haw : ga < w13.heap.size := block_lt (block_keep hb Ka.out)
  have hcw : gc < w13.heap.size := block_lt (block_keep hb Kc.out)
  clear hb Ka Kc cr
  go_wp2_with (first | (refine wpList_store_id rfl (.tmp 11) (.tmp 60) rfl w13.heap.size 0 R rfl rfl (heap_new w13 _) (fun w14 h1 h2 h3 h4 => ?_); have K11 := Lib.hid h1; have Ka2 := Lib.hid ((h2 ga (by omega)).trans Ka1.out); have Kc2 := Lib.hid ((h2 gc (by omega)).trans Kc1.out); have B14 := Lib.hid (h4 W0.heap.size W0 hz13 B13.out); clear h1 h2 h3 h4))
  obtain ⟨g11, hg11⟩ : ∃ g, g = w13.heap.size := ⟨_, rfl⟩
  rw [← hg11] at K11
  simp only [← hg11]
  clear hg11 Ka1 Kc1 B13 hz13 haw hcw
  obtain ⟨V, rfl⟩ : ∃ V : World, V = w14 := ⟨_, rfl⟩
  obtain ⟨N1, hN1⟩ : ∃ N1, N1 = n + 1 := ⟨_, rfl⟩
  have hN31 : N1 ≤ 31 := by omega
  have HNP : Hid (0 < N1) := Lib.hid (by omega)
  have HLE : Hid (([] : List Nat).length + l.length ≤ 1000000 ∧ l.length + 1 ≤ 1000000) := Lib.hid (by rw [← HN.out]; simp; omega)
  have HLL : Hid ((l ++ [R]).length = N1) := Lib.hid (by rw [List.length_append, List.length_singleton, ← HN.out, hN1])
  have HXV := Lib.hid fun U (hb : Below V.heap.size V U) => HXK.out U (below_next B14.out hb)
  have HLB : Hid (∀ y ∈ l ++ [R], y < 2 ^ 256) := Lib.hid fun y hy => (List.mem_append.1 hy).elim (HL.out y) fun h => by rw [List.mem_singleton.1 h]; exact HRL.out
  have HSL : Hid (Value.slice x n cap = .slice x l.length cap) := Lib.hid (by rw [HN.out])
  clear hN1
  go_upto_region 14 with fail
  go_cut [67, 68, 69] (fun s67 s68 s69 wd => ∃ g c, s67 = .slice (some ⟨g, 0, none⟩) N1 c ∧ s68 = .int .i64 N1 ∧ s69 = .int .i64 0 ∧ IdsAt wd g 0 (l ++ [R]) ∧ Below V.heap.size V wd)
  case first =>
    have hu : Try.prog.underlying 24 = some (.array 32 5) := by kernel_rfl
    refine wp_region_held (S := fun U => Below V.heap.size V U) (by kernel_rfl) ?_
    have hS0 : Below V.heap.size V V.drew := Below.drew (Below.refl _ _)
    refine wpAnyH_take (i := 1) (v := .slice x n cap) rfl (by kernel_rfl) (by kernel_rfl) (by kernel_rfl) (fun _ _ _ h => h) (Or.inl ⟨by rfl, fun w hSw => by go_simp⟩) hS0 ?_
    refine wpAnyH_take (i := 7) (v := .int .i64 0) rfl (by kernel_rfl) (by kernel_rfl) (by kernel_rfl) (fun _ _ _ h => h) (Or.inl ⟨by rfl, fun w hSw => by go_simp⟩) hS0 ?_
    refine wpAnyH_take (i := 3) (v := iv R) rfl (by kernel_rfl) (by kernel_rfl) (by kernel_rfl) (fun _ _ _ h => h) (yieldsIf_load_mid (by rfl) _ _ rfl _ _ rfl _ _ (fun U h => id_range (block_keep h K11.out)) hu rfl (by rw [ids_len]; kernel_rfl)) hS0 ?_
    refine any_two (i := 0) (j := 4) (by kernel_rfl) rfl rfl (fun K hK => ?_) (fun K hK => ?_)
    · go_wp2_with fail
      refine hK.out _ _ (below_alloc hS0 _) (fun hS1 => ?_)
      clear hK K
      refine any_abs (fun U => Below V.heap.size V U ∧ OwnsI U V.heap.size (.slice (some ⟨V.heap.size, 0, none⟩) 0 0) []) ⟨hS1, OwnsI.new V.drew V.heap.size (by simp)⟩ ?_
      clear hS1 hS0
      rintro U ⟨hS1, hO⟩
      refine any_two (i := 2) (j := 4) (by kernel_rfl) rfl rfl (fun K hK => ?_) (fun K hK => ?_)
      · refine wpList_append_ids_g rfl (.tmp 62) (.tmp 63) rfl V.heap.size (.slice (some ⟨V.heap.size, 0, none⟩) 0 0) [] rfl hO l x cap HSL.out HZ.out (HXV.out _ hS1) HLE.out.1 hS1.size (fun v' U2 hown hgrow => ?_)
        go_wp2_with fail
        refine hK.out _ _ (hS1.grown hgrow hS1.size (fun q hq => (World.ownsRow.lt hO q hq).1)) (fun hS2 => ?_)
        rw [List.nil_append] at hown
        clear hK K hgrow hO hS1
        refine any_one (i := 4) (by kernel_rfl) rfl (fun K hK => ?_)
        refine wpList_build_1 rfl (.tmp 65) R rfl rfl ?_
        go_wp2_with fail
        refine hK.out _ _ (below_alloc hS2 _) (fun hS3 => ?_)
        clear hK K
        refine any_abs (fun X => Below V.heap.size V X ∧ OwnsI X V.heap.size v' l ∧ X.heap[U2.heap.size]? = some (.cells (idsL [R]).toArray 24 (0, 0))) ⟨hS3, OwnsI.keep hown (below_alloc (Below.refl _ _) _), heap_new _ _⟩ ?_
        clear hS3 hS2 hown
        rintro U3 ⟨hS3, hO3, hR3⟩
        refine any_one (i := 5) (by kernel_rfl) rfl (fun K hK => ?_)
        refine wpList_append_id_at rfl (.tmp 64) (.tmp 66) rfl V.heap.size v' l rfl hO3 R U2.heap.size rfl hR3 HLE.out.2 hS3.size (fun v2 U5 hown hgrow hat => ?_)
        go_wp2_with fail
        refine hK.out _ _ (hS3.grown hgrow hS3.size (fun q hq => (World.ownsRow.lt hO3 q hq).1)) (fun hS5 => ?_)
        obtain ⟨g, c, rfl, hg1, hg2, hI⟩ := hown.at HLL.out HNP.out
        have HI5 := Lib.hid hI
        clear hK K hown hgrow hat hI hg1 hg2
        refine any_one (i := 6) (by kernel_rfl) rfl (fun K hK => ?_)
        go_wp2_with fail
        refine hK.out _ _ hS5 (fun hS6 => ?_)
        clear hK K
        refine wpAnyH_done (by kernel_rfl) ?_ _
        go_wp2_with fail
        go_meet
        case rel => exact ⟨g, c, rfl, rfl, rfl, HI5.out, hS6⟩
      · go_wp2_with (first | refine wpList_build_1 rfl (.tmp 65) R rfl rfl ?_)
        refine hK.out _ _ (below_alloc hS1 _) (fun hS2 => ?_)
        clear hK K
        refine any_abs (fun X => Below V.heap.size V X ∧ OwnsI X V.heap.size (.slice (some ⟨V.heap.size, 0, none⟩) 0 0) [] ∧ X.heap[U.heap.size]? = some (.cells (idsL [R]).toArray 24 (0, 0)) ∧ V.heap.size < U.heap.size) ⟨hS2, OwnsI.keep hO (below_alloc (Below.refl _ _) _), heap_new _ _, by have := (World.ownsRow.lt hO V.heap.size rfl).2; omega⟩ ?_
        clear hS2 hS1 hO
        rintro U2' ⟨hS1, hO, hR2, hlt⟩
        refine any_one (i := 2) (by kernel_rfl) rfl (fun K hK => ?_)
        refine wpList_append_ids_g rfl (.tmp 62) (.tmp 63) rfl V.heap.size (.slice (some ⟨V.heap.size, 0, none⟩) 0 0) [] rfl hO l x cap HSL.out HZ.out (HXV.out _ hS1) HLE.out.1 hS1.size (fun v' U2 hown hgrow => ?_)
        go_wp2_with fail
        refine hK.out _ _ (hS1.grown hgrow hS1.size (fun q hq => (World.ownsRow.lt hO q hq).1)) (fun hS3 => ?_)
        rw [List.nil_append] at hown
        have hR3 := (hgrow.block U.heap.size (block_lt hR2) (fun e => by have := Option.some.inj e; dsimp only at this; omega)).trans hR2
        clear hK K hgrow hO hS1 hR2
        refine any_one (i := 5) (by kernel_rfl) rfl (fun K hK => ?_)
        refine wpList_append_id_at rfl (.tmp 64) (.tmp 66) rfl V.heap.size v' l rfl hown R U.heap.size rfl hR3 HLE.out.2 hS3.size (fun v2 U5 hown5 hgrow hat => ?_)
        go_wp2_with fail
        refine hK.out _ _ (hS3.grown hgrow hS3.size (fun q hq => (World.ownsRow.lt hown q hq).1)) (fun hS5 => ?_)
        obtain ⟨g, c, rfl, hg1, hg2, hI⟩ := hown5.at HLL.out HNP.out
        have HI5 := Lib.hid hI
        clear hK K hgrow hat hI hg1 hg2
        refine any_one (i := 6) (by kernel_rfl) rfl (fun K hK => ?_)
        go_wp2_with fail
        refine hK.out _ _ hS5 (fun hS6 => ?_)
        clear hK K
        refine wpAnyH_done (by kernel_rfl) ?_ _
        go_wp2_with fail
        go_meet
        case rel => exact ⟨g, c, rfl, rfl, rfl, HI5.out, hS6⟩
    · go_wp2_with (first | refine wpList_build_1 rfl (.tmp 65) R rfl rfl ?_)
      refine hK.out _ _ (below_alloc hS0 _) (fun hS1 => ?_)
      clear hK K
      refine any_abs (fun X => Below V.heap.size V X ∧ X.heap[V.heap.size]? = some (.cells (idsL [R]).toArray 24 (0, 0))) ⟨hS1, heap_new V.drew _⟩ ?_
      clear hS1 hS0
      rintro U ⟨hS1, hR1⟩
      refine any_one (i := 0) (by kernel_rfl) rfl (fun K hK => ?_)
      go_wp2_with fail
      refine hK.out _ _ (below_alloc hS1 _) (fun hS2 => ?_)
      clear hK K
      refine any_abs (fun X => Below V.heap.size V X ∧ OwnsI X V.heap.size (.slice (some ⟨U.heap.size, 0, none⟩) 0 0) [] ∧ X.heap[V.heap.size]? = some (.cells (idsL [R]).toArray 24 (0, 0)) ∧ V.heap.size < U.heap.size) ⟨hS2, OwnsI.new U V.heap.size hS1.size, keep_alloc _ hR1, block_lt hR1⟩ ?_
      clear hS2 hS1 hR1
      rintro U2' ⟨hS1, hO, hR2, hlt⟩
      refine any_one (i := 2) (by kernel_rfl) rfl (fun K hK => ?_)
      refine wpList_append_ids_g rfl (.tmp 62) (.tmp 63) rfl V.heap.size (.slice (some ⟨U.heap.size, 0, none⟩) 0 0) [] rfl hO l x cap HSL.out HZ.out (HXV.out _ hS1) HLE.out.1 hS1.size (fun v' U2 hown hgrow => ?_)
      go_wp2_with fail
      refine hK.out _ _ (hS1.grown hgrow hS1.size (fun q hq => (World.ownsRow.lt hO q hq).1)) (fun hS3 => ?_)
      rw [List.nil_append] at hown
      have hR3 := (hgrow.block V.heap.size (block_lt hR2) (fun e => by have := Option.some.inj e; dsimp only at this; omega)).trans hR2
      clear hK K hgrow hO hS1 hR2
      refine any_one (i := 5) (by kernel_rfl) rfl (fun K hK => ?_)
      refine wpList_append_id_at rfl (.tmp 64) (.tmp 66) rfl V.heap.size v' l rfl hown R V.heap.size rfl hR3 HLE.out.2 hS3.size (fun v2 U5 hown5 hgrow hat => ?_)
      go_wp2_with fail
      refine hK.out _ _ (hS3.grown hgrow hS3.size (fun q hq => (World.ownsRow.lt hown q hq).1)) (fun hS5 => ?_)
      obtain ⟨g, c, rfl, hg1, hg2, hI⟩ := hown5.at HLL.out HNP.out
      have HI5 := Lib.hid hI
      clear hK K hgrow hat hI hg1 hg2
      refine any_one (i := 6) (by kernel_rfl) rfl (fun K hK => ?_)
      go_wp2_with fail
      refine hK.out _ _ hS5 (fun hS6 => ?_)
      clear hK K
      refine wpAnyH_done (by kernel_rfl) ?_ _
      go_wp2_with fail
      go_meet
      case rel => exact ⟨g, c, rfl, rfl, rfl, HI5.out, hS6⟩
  case rest =>
    obtain ⟨g, c, rfl, rfl, rfl, hI, hb⟩ := hcut
    have HI := Lib.hid hI
    have Kaw := Lib.hid (block_keep hb Ka2.out); have Kcw := Lib.hid (block_keep hb Kc2.out)
    have B15 := Lib.hid (below_next B14.out hb)
    obtain ⟨V2, rfl⟩ : ∃ V : World, V = wc := ⟨_, rfl⟩
    obtain ⟨L, hL⟩ : ∃ L, L = l ++ [R] := ⟨_, rfl⟩
    rw [← hL] at HI HLB HLL
    clear hI hb hL Ka2 Kc2 B14 K11 HXV HSL HXK HLE
    go_wp2_with fail
    go_loopg [13, 14, 69] N1 (fun q mv nv' ix wr => ∃ k : Nat, q = N1 - k ∧ k ≤ N1 ∧ ix = .int .i64 k ∧ mv = .int .i64 (cntle (L.take k) a : Nat) ∧ nv' = .int .i64 (cntle (L.take k) b : Nat) ∧ wr.heap[ga]? = some (nbk a) ∧ wr.heap[gc]? = some (nbk b) ∧ Below V2.heap.size V2 wr)
    case atStart => exact ⟨0, rfl, by omega, rfl, by simp [cntle], by simp [cntle], Kaw.out, Kcw.out, Below.refl _ _⟩
    case round =>
      clear Kaw Kcw
      obtain ⟨k, hg, hk, rfl, rfl, rfl, h7, h9, hB⟩ := hrel
      have HG := Lib.hid hg; have Ka := Lib.hid h7; have Kc := Lib.hid h9; have HBB := Lib.hid hB
      have hm1 := cntle_le L k a; have hm2 := cntle_le L k b
      clear hg h7 h9 hB
      by_cases hlt : k < N1
      · have hkl : k < L.length := by rw [HLL.out]; exact hlt
        have hr := (HI.out.keep HBB.out).range hkl
        rw [Nat.zero_add] at hr
        have HRG := Lib.hid hr
        have sa := Lib.hid (cntle_step hkl a); have sb := Lib.hid (cntle_step hkl b)
        have hyl : L.getD k 0 < 2 ^ 256 := by rw [List.getD_eq_getElem?_getD, List.getElem?_eq_getElem hkl]; exact HLB.out _ (List.getElem_mem _)
        obtain ⟨y, hy⟩ : ∃ y, y = L.getD k 0 := ⟨_, rfl⟩
        rw [← hy] at HRG sa sb hyl
        obtain ⟨m, hm⟩ : ∃ m, m = cntle (L.take k) a := ⟨_, rfl⟩
        obtain ⟨m2, hm'⟩ : ∃ m, m = cntle (L.take k) b := ⟨_, rfl⟩
        rw [← hm] at sa hm1
        rw [← hm'] at sb hm2
        rw [← hm, ← hm']
        have HYL := Lib.hid hyl
        have haw : ga < wr.heap.size := block_lt Ka.out
        have hcw : gc < wr.heap.size := block_lt Kc.out
        have hzz : V2.heap.size ≤ wr.heap.size := HBB.out.size
        clear hr hy hm hm' hyl hkl
        go_wp2_with (first | refine wpList_load_at rfl (.tmp 71) rfl g (k * 32) y rfl HRG.out ?_ | (refine wpList_store_id rfl (.tmp 16) (.tmp 72) rfl wr.heap.size 0 y rfl rfl (heap_new wr _) (fun w16 h1 h2 h3 h4 => ?_); have K16 := Lib.hid h1; have Ka2 := Lib.hid ((h2 ga (by omega)).trans (keep_alloc _ Ka.out)); have Kc2 := Lib.hid ((h2 gc (by omega)).trans (keep_alloc _ Kc.out)); have B16 := Lib.hid (h4 V2.heap.size V2 hzz (below_alloc HBB.out _)); clear h1 h2 h3 h4) | refine wpList_load_id rfl (.tmp 16) rfl wr.heap.size y rfl K16.out ?_)
        refine (fromid_any y HYL.out _).mono ?_
        rintro e w17 ⟨rfl, hb⟩
        have Ka3 := Lib.hid (keep_alloc (nbk 0) (block_keep hb Ka2.out)); have Kc3 := Lib.hid (keep_alloc (nbk 0) (block_keep hb Kc2.out)); have B17 := Lib.hid (below_alloc (below_next B16.out hb) (nbk 0))
        have haw3 : ga < w17.heap.size := block_lt (block_keep hb Ka2.out)
        have hcw3 : gc < w17.heap.size := block_lt (block_keep hb Kc2.out)
        have hz17 : V2.heap.size ≤ w17.heap.size := by have := B16.out.size; have := hb.size; omega
        clear hb Ka2 Kc2 B16 K16 Ka Kc HBB haw hcw
        go_wp2_with (first | (refine wpList_store_nv rfl (.tmp 17) (.tmp 74) rfl w17.heap.size 0 y rfl rfl (heap_new w17 _) (fun w18 h1 h2 h3 h4 => ?_); have K17 := Lib.hid h1; have Ka4 := Lib.hid ((h2 ga (by omega)).trans Ka3.out); have Kc4 := Lib.hid ((h2 gc (by omega)).trans Kc3.out); have B18 := Lib.hid (h4 V2.heap.size V2 hz17 B17.out); clear h1 h2 h3 h4) | refine wpList_load_nv rfl (.tmp 17) rfl w17.heap.size y rfl K17.out ?_ | refine wpList_load_nv rfl (.tmp 7) rfl ga a rfl Ka4.out ?_)
        refine (cmp_any y a HYL.out (by have := HAB.out; have := HB2.out; omega) _).mono ?_
        rintro e w19 ⟨rfl, hb⟩
        have Ka5 := Lib.hid (block_keep hb Ka4.out); have Kc5 := Lib.hid (block_keep hb Kc4.out); have K17b := Lib.hid (block_keep hb K17.out); have B19 := Lib.hid (below_next B18.out hb)
        clear hb Ka3 Kc3 B17 Ka4 Kc4 K17 B18
        have hab := HAB.out
        by_cases hya : y ≤ a
        · have c1 := cmpn_leq.2 hya
          have hyb : y ≤ b := by omega
          have SA := Lib.hid (sa.out.trans (by rw [if_pos hya])); have SB := Lib.hid (sb.out.trans (by rw [if_pos hyb]))
          have c2 := cmpn_leq.2 hyb
          clear hya hyb sa sb hab
          go_wp2_with (first | refine wpList_load_nv rfl (.tmp 17) rfl w17.heap.size y rfl K17b.out ?_ | refine wpList_load_nv rfl (.tmp 9) rfl gc b rfl Kc5.out ?_)
          refine (cmp_any y b HYL.out HB2.out _).mono ?_
          rintro e w20 ⟨rfl, hb⟩
          have Ka6 := Lib.hid (block_keep hb Ka5.out); have Kc6 := Lib.hid (block_keep hb Kc5.out); have B20 := Lib.hid (below_next B19.out hb)
          clear hb
          go_wp2_with fail
          go_roundg (N1 - (k + 1))
          case measure => have := HG.out; omega
          case rel => exact ⟨k + 1, rfl, by omega, by go_num, by rw [SA.out]; go_num, by rw [SB.out]; go_num, Ka6.out, Kc6.out, B20.out⟩
        · have c1 : ¬ cmpn y a ≤ 0 := fun h => hya (cmpn_leq.1 h)
          have SA := Lib.hid (sa.out.trans (by rw [if_neg hya]))
          by_cases hyb : y ≤ b
          · have SB := Lib.hid (sb.out.trans (by rw [if_pos hyb]))
            have c2 := cmpn_leq.2 hyb
            clear hya hyb sa sb hab
            go_wp2_with (first | refine wpList_load_nv rfl (.tmp 17) rfl w17.heap.size y rfl K17b.out ?_ | refine wpList_load_nv rfl (.tmp 9) rfl gc b rfl Kc5.out ?_)
            refine (cmp_any y b HYL.out HB2.out _).mono ?_
            rintro e w20 ⟨rfl, hb⟩
            have Ka6 := Lib.hid (block_keep hb Ka5.out); have Kc6 := Lib.hid (block_keep hb Kc5.out); have B20 := Lib.hid (below_next B19.out hb)
            clear hb
            go_wp2_with fail
            go_roundg (N1 - (k + 1))
            case measure => have := HG.out; omega
            case rel => exact ⟨k + 1, rfl, by omega, by go_num, by rw [SA.out, Nat.add_zero], by rw [SB.out]; go_num, Ka6.out, Kc6.out, B20.out⟩
          · have SB := Lib.hid (sb.out.trans (by rw [if_neg hyb]))
            have c2 : ¬ cmpn y b ≤ 0 := fun h => hyb (cmpn_leq.1 h)
            clear hya hyb sa sb hab
            go_wp2_with (first | refine wpList_load_nv rfl (.tmp 17) rfl w17.heap.size y rfl K17b.out ?_ | refine wpList_load_nv rfl (.tmp 9) rfl gc b rfl Kc5.out ?_)
            refine (cmp_any y b HYL.out HB2.out _).mono ?_
            rintro e w20 ⟨rfl, hb⟩
            have Ka6 := Lib.hid (block_keep hb Ka5.out); have Kc6 := Lib.hid (block_keep hb Kc5.out); have B20 := Lib.hid (below_next B19.out hb)
            clear hb
            go_wp2_with fail
            go_roundg (N1 - (k + 1))
            case measure => have := HG.out; omega
            case rel => exact ⟨k + 1, rfl, by omega, by go_num, by rw [SA.out, Nat.add_zero], by rw [SB.out, Nat.add_zero], Ka6.out, Kc6.out, B20.out⟩
      · obtain rfl : k = N1 := by omega
        have hmn := cntle_mono (L.take k) HAB.out
        obtain ⟨m, hm⟩ : ∃ m, m = cntle (L.take k) a := ⟨_, rfl⟩
        obtain ⟨m2, hm'⟩ : ∃ m, m = cntle (L.take k) b := ⟨_, rfl⟩
        rw [← hm, ← hm'] at hmn
        rw [← hm, ← hm']
        have hmn' : (m : Int) ≤ (m2 : Int) := by omega
        have wa := Lib.hid fun U => work_any a (by have := HAB.out; have := HB2.out; omega) U
        have wb := Lib.hid fun U => work_any b HB2.out U
        obtain ⟨WA, hWA⟩ : ∃ z, z = wrk a := ⟨_, rfl⟩
        obtain ⟨WB, hWB⟩ : ∃ z, z = wrk b := ⟨_, rfl⟩
        have HWA : Hid (WA < 2 ^ 256) := Lib.hid (by rw [hWA]; exact wk_lt a)
        have HWB : Hid (WB < 2 ^ 256) := Lib.hid (by rw [hWB]; exact wk_lt b)
        have e1 : 0 ≤ cmpn WA WB := cmpn_geq.2 (by rw [hWA, hWB]; exact wk_anti a b HA1.out HAB.out HB2.out)
        have e2 : 0 < cmpn WA 0 := cmpn_gt.2 (by rw [hWA]; exact wk_pos a HA1.out (by have := HAB.out; have := HB2.out; omega))
        rw [← hWA] at wa
        rw [← hWB] at wb
        have cc1 := Lib.hid fun U => cmp_any WA WB HWA.out HWB.out U
        have cc2 := Lib.hid fun U => cmp_any WA 0 HWA.out (by omega) U
        obtain ⟨q1, hq1⟩ : ∃ z, z = cmpn WA WB := ⟨_, rfl⟩
        obtain ⟨q2, hq2⟩ : ∃ z, z = cmpn WA 0 := ⟨_, rfl⟩
        rw [← hq1] at cc1 e1
        rw [← hq2] at cc2 e2
        clear hm hm' hmn hWA hWB hm1 hm2 hlt hk hq1 hq2
        go_wp2_with fail
        refine wp_region_by [Is (.int .i64 m), Is (.int .i64 m2), Is (.bool true), Is (.bool true), Is (nv a), Is (nv WA), Is (nv b), Is (nv WB), Is (.int .i64 q1), Is (.bool true), Is (.bool true), Is (.bool true), Is (nv a), Is (nv WA), Is (nv 0), Is (.int .i64 q2), Is (.bool true), Is (.bool true), Is (.bool true)] [[], [], [(0, some 88), (1, some 89)], [(2, some 90)], [(3, some 91)], [(3, some 91), (4, some 92)], [(3, some 91)], [(3, some 91), (6, some 94)], [(3, some 91), (5, some 93), (7, some 95)], [(3, some 91), (8, some 96)], [(3, some 91), (9, some 97)], [(10, some 98)], [(11, some 99)], [(11, some 99), (12, some 100)], [(11, some 99)], [(11, some 99), (13, some 101), (14, some 102)], [(11, some 99), (15, some 103)], [(11, some 99), (16, some 104)], [(17, some 105)]] [(0, some 88), (1, some 89), (2, some 90), (3, some 91), (4, some 92), (5, some 93), (6, some 94), (7, some 95), (8, some 96), (9, some 97), (10, some 98), (11, some 99), (12, some 100), (13, some 101), (14, some 102), (15, some 103), (16, some 104), (17, some 105), (18, some 4)] [0, 0, 3, 7, 15, 31, 15, 127, 255, 511, 1023, 2047, 4095, 8191, 4095, 32767, 65535, 131071, 262143]
          (by kernel_rfl) (by kernel_rfl) (by kernel_rfl) (by kernel_rfl) ⟨Is.kept _, Is.kept _, Is.kept _, Is.kept _, Is.kept _, Is.kept _, Is.kept _, Is.kept _, Is.kept _, Is.kept _, Is.kept _, Is.kept _, Is.kept _, Is.kept _, Is.kept _, Is.kept _, Is.kept _, Is.kept _, Is.kept _, trivial⟩ ⟨?_, ?_, ?_, ?_, ?_, ?_, ?_, ?_, ?_, ?_, ?_, ?_, ?_, ?_, ?_, ?_, ?_, ?_, ?_, trivial⟩ ?_
        · as_aux_lemma =>
          refine fun w' hB => ?_
          show wpList _ _ _ _ _ _
          go_wp2_with fail
          exact ⟨.int .i64 m, by first | rfl | (go_simp; done), rfl, Below.refl _ _⟩
        · as_aux_lemma =>
          refine fun w' hB => ?_
          show wpList _ _ _ _ _ _
          go_wp2_with fail
          exact ⟨.int .i64 m2, by first | rfl | (go_simp; done), rfl, Below.refl _ _⟩
        · as_aux_lemma =>
          refine fun w' hB v0 h0 v1 h1 => ?_
          obtain rfl := h0
          obtain rfl := h1
          show wpList _ _ _ _ _ _
          go_wp2_with fail
          exact ⟨.bool true, by first | rfl | (go_simp; done), rfl, Below.refl _ _⟩
        · as_aux_lemma =>
          refine fun w' hB v2 h2 => ?_
          obtain rfl := h2
          show wpList _ _ _ _ _ _
          go_wp2_with fail
          exact ⟨.bool true, by first | rfl | (go_simp; done), rfl, Below.refl _ _⟩
        · as_aux_lemma =>
          refine fun w' hB v3 h3 => ?_
          obtain rfl := h3
          show wpList _ _ _ _ _ _
          refine wpList_unguard rfl ?_
          go_wp2_with (first | refine wpList_load_nv rfl (.tmp 7) rfl ga a rfl (block_keep hB Ka.out) ?_)
          exact ⟨nv a, rfl, rfl, Below.refl _ _⟩
        · as_aux_lemma =>
          refine fun w' hB v3 h3 v4 h4 => ?_
          obtain rfl := h3
          obtain rfl := h4
          show wpList _ _ _ _ _ _
          go_wp2_with fail
          refine (wa.out w').mono ?_
          rintro e w2 ⟨rfl, hb2⟩
          go_wp2_with fail
          exact ⟨nv WA, by first | rfl | (go_simp; done), rfl, hb2⟩
        · as_aux_lemma =>
          refine fun w' hB v3 h3 => ?_
          obtain rfl := h3
          show wpList _ _ _ _ _ _
          refine wpList_unguard rfl ?_
          go_wp2_with (first | refine wpList_load_nv rfl (.tmp 9) rfl gc b rfl (block_keep hB Kc.out) ?_)
          exact ⟨nv b, rfl, rfl, Below.refl _ _⟩
        · as_aux_lemma =>
          refine fun w' hB v3 h3 v6 h6 => ?_
          obtain rfl := h3
          obtain rfl := h6
          show wpList _ _ _ _ _ _
          go_wp2_with fail
          refine (wb.out w').mono ?_
          rintro e w2 ⟨rfl, hb2⟩
          go_wp2_with fail
          exact ⟨nv WB, by first | rfl | (go_simp; done), rfl, hb2⟩
        · as_aux_lemma =>
          refine fun w' hB v3 h3 v5 h5 v7 h7 => ?_
          obtain rfl := h3
          obtain rfl := h5
          obtain rfl := h7
          show wpList _ _ _ _ _ _
          go_wp2_with fail
          refine (cc1.out w').mono ?_
          rintro e w2 ⟨rfl, hb2⟩
          go_wp2_with fail
          exact ⟨.int .i64 q1, by first | rfl | (go_simp; done), rfl, hb2⟩
        · as_aux_lemma =>
          refine fun w' hB v3 h3 v8 h8 => ?_
          obtain rfl := h3
          obtain rfl := h8
          show wpList _ _ _ _ _ _
          go_wp2_with fail
          exact ⟨.bool true, by first | rfl | (go_simp; done), rfl, Below.refl _ _⟩
        · as_aux_lemma =>
          refine fun w' hB v3 h3 v9 h9 => ?_
          obtain rfl := h3
          obtain rfl := h9
          show wpList _ _ _ _ _ _
          go_wp2_with fail
          exact ⟨.bool true, by first | rfl | (go_simp; done), rfl, Below.refl _ _⟩
        · as_aux_lemma =>
          refine fun w' hB v10 h10 => ?_
          obtain rfl := h10
          show wpList _ _ _ _ _ _
          go_wp2_with fail
          exact ⟨.bool true, by first | rfl | (go_simp; done), rfl, Below.refl _ _⟩
        · as_aux_lemma =>
          refine fun w' hB v11 h11 => ?_
          obtain rfl := h11
          show wpList _ _ _ _ _ _
          refine wpList_unguard rfl ?_
          go_wp2_with (first | refine wpList_load_nv rfl (.tmp 7) rfl ga a rfl (block_keep hB Ka.out) ?_)
          exact ⟨nv a, rfl, rfl, Below.refl _ _⟩
        · as_aux_lemma =>
          refine fun w' hB v11 h11 v12 h12 => ?_
          obtain rfl := h11
          obtain rfl := h12
          show wpList _ _ _ _ _ _
          go_wp2_with fail
          refine (wa.out w').mono ?_
          rintro e w2 ⟨rfl, hb2⟩
          go_wp2_with fail
          exact ⟨nv WA, by first | rfl | (go_simp; done), rfl, hb2⟩
        · as_aux_lemma =>
          refine fun w' hB v11 h11 => ?_
          obtain rfl := h11
          show wpList _ _ _ _ _ _
          go_wp2_with fail
          exact ⟨nv 0, by first | rfl | (go_simp; done), rfl, Below.refl _ _⟩
        · as_aux_lemma =>
          refine fun w' hB v11 h11 v13 h13 v14 h14 => ?_
          obtain rfl := h11
          obtain rfl := h13
          obtain rfl := h14
          show wpList _ _ _ _ _ _
          go_wp2_with fail
          refine (cc2.out w').mono ?_
          rintro e w2 ⟨rfl, hb2⟩
          go_wp2_with fail
          exact ⟨.int .i64 q2, by first | rfl | (go_simp; done), rfl, hb2⟩
        · as_aux_lemma =>
          refine fun w' hB v11 h11 v15 h15 => ?_
          obtain rfl := h11
          obtain rfl := h15
          show wpList _ _ _ _ _ _
          go_wp2_with fail
          exact ⟨.bool true, by first | rfl | (go_simp; done), rfl, Below.refl _ _⟩
        · as_aux_lemma =>
          refine fun w' hB v11 h11 v16 h16 => ?_
          obtain rfl := h11
          obtain rfl := h16
          show wpList _ _ _ _ _ _
          go_wp2_with fail
          exact ⟨.bool true, by first | rfl | (go_simp; done), rfl, Below.refl _ _⟩
        · as_aux_lemma =>
          refine fun w' hB v17 h17 => ?_
          obtain rfl := h17
          show wpList _ _ _ _ _ _
          go_wp2_with fail
          exact ⟨.bool true, by first | rfl | (go_simp; done), rfl, Below.refl _ _⟩
        · refine fun w' hB v0 h0 v1 h1 v2 h2 v3 h3 v4 h4 v5 h5 v6 h6 v7 h7 v8 h8 v9 h9 v10 h10 v11 h11 v12 h12 v13 h13 v14 h14 v15 h15 v16 h16 v17 h17 v18 h18 => ?_
          obtain rfl := h18
          simp only [onP]
          go_simp
          clear h0 h1 h2 h3 h4 h5 h6 h7 h8 h9 h10 h11 h12 h13 h14 h15 h16 h17
          have BZ := Lib.hid (below_next B15.out (below_next HBB.out hB))
          clear hB
          go_wp2_with fail
          go_ret
          exact ⟨rfl, below_next B10.out BZ.out⟩

set_option maxRecDepth 100000 in
theorem WholeTargets_lifted (os : Os) (started : os.Started) (H : Type) (enc : TypeId × Value → H) :
    ReturnsInHanded {} Try.checked os 16 .any (Rows.wholeTargetsSpec.pre6 enc Try.prog Try.f16 Rows.wholeTargetsRow.domain false) (Rows.wholeTargetsSpec.post enc Try.prog Try.f16 false true false false) := by
  refine returnsInHanded_of_change (C := Try.checked) own started (by kernel_rfl) Try.func16
    (ChangeSpec.witness6 (enc := enc) (C := Try.checked) false ⟨#[], #[.slice none 0 0, .agg #[.int .u32 0, .int .u32 0]], []⟩ 8 (by kernel_rfl) (by kernel_rfl) (by kernel_rfl) (by kernel_rfl)) ?_
  intro W base args ds gs before hval0 hW hcnd _
  have hval : ∀ (j : Nat) t v, Try.f16.params[j]? = some t → args[j]? = some v → Value.okWide Try.prog W .any base t v := hval0
  have hW' := hW
  obtain ⟨p, q, hA0, hV, rfl, hfz, hnd⟩ := hW
  have hA : DataW.TrodAll enc Try.prog W 0 (fun _ => true) true Try.f16.params.toList args.toList ds p := hA0
  rw [Try.params16] at hA hval
  obtain ⟨v0, vs0, d0, ds0, p0, q0, hargs, rfl, rfl, h0, r0⟩ := trodAll_cons hA
  obtain ⟨v1, vs1, d1, ds1, p1, q1, rfl, rfl, rfl, h1, r1⟩ := trodAll_cons r0
  obtain ⟨rfl, rfl, rfl⟩ := trodAll_nil r1
  obtain rfl : args = #[v0, v1] := by cases args; simp_all
  obtain ⟨rfl, rfl⟩ := trodVars_none hV
  have k0 := h0
  have lt0 := trod_lt_of h0
  obtain ⟨a0, cap0, l0, b0, rfl, e0, f0, g0, c0⟩ := open_ids (hval 0 116 v0 rfl rfl) h0
  have k1 := h1
  have lt1 := trod_lt_of h1
  obtain ⟨a1, c1, b1, d1, rfl⟩ := open_pair32 (hval 1 44 v1 rfl rfl) h1
  clear hA0 hval0
  refine (WholeTargets_walk a0 cap0 l0 b0 a1 c1 b1 d1 W e0 f0 g0 c0).mono fun e W' ⟨he, bel⟩ => ?_
  subst he
  exact ⟨_, rfl, _, _, _, [], _, [], hW', trodAll_mk1 (shut_bool (by kernel_rfl) _), (trodAll_cons_mk (Below.trod laidOut (by kernel_rfl) (of_decide_eq_true (by kernel_rfl)) k0 bel lt0) (trodAll_cons_mk (Below.trod laidOut (by kernel_rfl) (of_decide_eq_true (by kernel_rfl)) k1 bel lt1) trodAll_mk0)), rfl, bel.frame _, fun h => by cases h⟩

theorem WholeTargets_closed : joinedFacts Try.prog 16 Try.f16 Rows.wholeTargetsSpec Rows.wholeTargetsRow = true := by
  simp only [joinedFacts, Bool.and_eq_true]
  repeat' apply And.intro
  all_goals first
    | (with_reducible exact head_enter)
    | (rw [head_make]; kernel_rfl)
    | (rw [head_lift]; kernel_rfl)
    | kernel_rfl

theorem WholeTargets_holds : Rows.WholeTargetsSaid :=
  OpenClaim.holds_of_wide 16 Try.f16 rfl rfl rfl rfl rfl rfl rfl ⟨rfl, rfl, rfl, rfl, rfl⟩ rfl rfl rfl rfl rfl (by kernel_rfl) Try.func16 WholeTargets_closed
    (of_decide_eq_true (by kernel_rfl)) (by unfold Func.isWrapper; rw [if_neg (of_decide_eq_false (by kernel_rfl))]; exact ⟨rfl, rfl⟩)
    (fun os started H enc _ => WholeTargets_lifted os started H enc)
end Go.Proofs.Ytnbppbnjkmopeaa
