/- The law HeadMines: the first nonce behind which work stands is found, if it is among so many. No condition. -/
import Derived.Test.YtnbppbnjkmopeaaHr1
import Derived.Test.YtnbppbnjkmopeaaHdM
import Derived.Test.YtnbppbnjkmopeaaHead
namespace Go.Proofs.Ytnbppbnjkmopeaa
open Go.ChangeShapes Go.WideShapes Go.ChangeAt Go.RowKit

set_option maxRecDepth 100000 in
set_option maxHeartbeats 4000000 in
theorem HeadMines_walk (h : Hd) (hk : h.ok) (k0 : Int) (w0 : (Lit.int .u32 k0).wf = true) (k : Int) (w1 : (Lit.int .i64 k).wf = true) (w : World) :
    Calls Try.prog 5 #[hdv h, .int .u32 k0, .int .i64 k] w fun e w' => e = .returned (.bool true) ∧ Below w.heap.size w w' := by
  have hx2 : 0 ≤ k0 ∧ k0 ≤ 4294967295 := by simpa [Lit.wf, IntKind.min, IntKind.max, IntKind.signed, IntKind.bits] using w0
  obtain ⟨l, rfl⟩ := Int.eq_ofNat_of_zero_le hx2.1
  have hl : l < 4294967296 := by omega
  have HK := Lib.hid hk
  have KA := Lib.hid (heap_new w (hdblk h))
  have BB : Hid (Below w.heap.size w (w.alloc (hdblk h))) := Lib.hid (below_alloc (Below.refl _ _) _)
  clear hx2 w0 w1 hk
  go_enter Try.func5, Try.ntmps5
  go_wp2_with fail
  refine (reads_any _).mono ?_
  rintro e w1 ⟨rfl, hb1⟩
  have KA1 := Lib.hid (below_keep hb1 KA.out)
  have B1 := Lib.hid (below_next BB.out hb1)
  clear hb1 KA BB
  by_cases h12 : 12 < k
  · go_wp2_with fail
    go_ret
    exact ⟨rfl, B1.out⟩
  have m0 := Lib.hid fun W => mine_any h HK.out l hl k W
  rw [mres_eq] at m0
  obtain ⟨K0, hK0⟩ : ∃ K0, K0 = (min k 65536).toNat := ⟨_, rfl⟩
  rw [← hK0] at m0
  have cp := Lib.hid fun (h : Hd) (hk : h.ok) W => rproved_any h hk l hl W
  have HK1 : Hid (∀ j : Nat, ((j : Int) < k ↔ j < K0)) := Lib.hid fun j => by omega
  have hK12 : K0 ≤ 12 := by omega
  obtain ⟨M, hM⟩ : ∃ M, M = mineP K0 h l := ⟨_, rfl⟩
  have HO0 : Hid (mhd M).ok := Lib.hid (by rw [hM]; exact mhd_ok HK.out)
  rw [← hM] at m0
  have HM := Lib.hid hM
  obtain ⟨x, hx⟩ : ∃ x, x = mhd M := ⟨_, rfl⟩
  obtain ⟨p, hp⟩ : ∃ p, p = M.isSome := ⟨_, rfl⟩
  rw [← hx, ← hp] at m0
  rw [← hx] at HO0
  have HX := Lib.hid hx; have HP := Lib.hid hp
  clear hM hx hp hK0
  have ez : Try.zeroCells26 = (hdcs hd0).toArray := hdz
  go_wp2_with (first | refine wpList_load_hd rfl (.tmp 3) rfl w.heap.size h rfl KA1.out ?_)
  refine (m0.out _).mono ?_
  rintro e w2 ⟨rfl, hb2⟩
  have KA2 := Lib.hid (keep_alloc (hdblk hd0) (below_keep hb2 KA1.out))
  have B2 := Lib.hid (below_alloc (below_next B1.out hb2) (hdblk hd0))
  have h12' : w.heap.size < w2.heap.size := block_lt (below_keep hb2 KA1.out)
  clear hb2 KA1 B1 m0
  have hw0 : w.heap.size ≤ w2.heap.size := by omega
  go_wp2_with (first | (refine wpList_store_hd rfl (.tmp 7) (.tmp 19) rfl w2.heap.size hd0 x rfl rfl (heap_new w2 _) (fun w3 h1 h2 h3 h4 => ?_); have K7 := Lib.hid h1; have KA3 := Lib.hid ((h2 w.heap.size (by omega)).trans KA2.out); have B3 := Lib.hid (h4 w.heap.size w hw0 B2.out); clear h1 h2 h3 h4))
  obtain ⟨g7, hg7⟩ : ∃ g, g = w2.heap.size := ⟨_, rfl⟩
  rw [← hg7] at K7 h12'
  rw [← hg7]
  clear hg7 KA2 B2 hw0
  go_loopg [9] K0 (fun g ix wr => ∃ (j : Nat) (h' : Hd), g = K0 - j ∧ j ≤ K0 ∧ ix = .int .i64 j ∧ h'.ok ∧ mineP (K0 - j) h' l = M ∧ wr.heap[w.heap.size]? = some (hdblk h') ∧ wr.heap[g7]? = some (hdblk x) ∧ Below w.heap.size w wr)
  case atStart => exact ⟨0, h, rfl, by omega, rfl, HK.out, HM.out.symm, KA3.out, K7.out, B3.out⟩
  case round =>
    clear KA3 K7 B3 HK HM
    obtain ⟨j, h', hg, hj, rfl, hk, hR, hA, hZ, hB⟩ := hrel
    have HG := Lib.hid hg; have HK := Lib.hid hk; have HR := Lib.hid hR; have KA := Lib.hid hA; have K7 := Lib.hid hZ; have HB := Lib.hid hB
    clear hg hk hR hA hZ hB
    by_cases hlt : j < K0
    · have hlt' := (HK1.out j).2 hlt
      obtain ⟨m, hm⟩ : ∃ m, m = K0 - (j + 1) := ⟨_, rfl⟩
      have hR2 := HR.out
      rw [show K0 - j = m + 1 by omega, mineP] at hR2
      have HMM := Lib.hid hm
      obtain ⟨z, hz⟩ : ∃ z, z = hpr h' l := ⟨_, rfl⟩
      rw [← hz] at hR2
      have cc := Lib.hid (cp.out h' HK.out)
      rw [← hz] at cc
      have HR2 := Lib.hid hR2
      clear hm hR2 hz HR
      go_wp2_with (first | refine wpList_load_hd rfl (.tmp 3) rfl w.heap.size h' rfl KA.out ?_)
      refine (cc.out _).mono ?_
      rintro e w4 ⟨rfl, hb2⟩
      have KA2 := Lib.hid (below_keep hb2 KA.out); have K72 := Lib.hid (below_keep hb2 K7.out)
      have HB2 := Lib.hid (below_next HB.out hb2)
      clear hb2 KA K7 HB cc
      by_cases h0 : z = 0
      · have hr := HR2.out
        rw [if_pos h0] at hr
        subst h0
        have ex : x = h' := by rw [HX.out, ← hr]; rfl
        have ep : p = true := by rw [HP.out, ← hr]; rfl
        subst ep
        subst ex
        have qe := eq_hd x x HK.out HK.out
        rw [hdeq_self] at qe
        clear hr HR2
        go_wp2_with (first | refine wpList_load_hd rfl (.tmp 7) rfl g7 x rfl K72.out ?_ | refine wpList_load_hd rfl (.tmp 3) rfl w.heap.size x rfl KA2.out ?_ | (refine wpList_unguard rfl ?_; first | refine wpList_load_hd rfl (.tmp 7) rfl g7 x rfl K72.out ?_ | refine wpList_load_hd rfl (.tmp 3) rfl w.heap.size x rfl KA2.out ?_))
        go_ret
        exact ⟨rfl, HB2.out⟩
      · have hr := HR2.out
        rw [if_neg h0] at hr
        have HR3 := Lib.hid hr
        have h0' : ¬ (z : Int) = 0 := by omega
        clear hr HR2 h0
        have c67 := (hd_cell KA2.out 67).trans (hdcs_n h')
        have f67 : w4.frozen? ⟨w.heap.size, 67, none⟩ = false := frozen_of_row _ _ _ _ _ KA2.out
        obtain ⟨n2, hn2⟩ : ∃ n2, n2 = (h'.n + 1) % 4294967296 := ⟨_, rfl⟩
        have en2 : ((h'.n : Int) + 1) % 4294967296 = (n2 : Int) := by omega
        have hu : h'.up = ⟨h'.v, h'.p, h'.r, h'.t, h'.b, n2⟩ := by rw [hn2]; rfl
        have HU := Lib.hid hu
        have hnb : h'.n < 4294967296 := HK.out.2.2.2.2.2
        clear hn2 hu
        go_wp2_with fail
        go_roundg (K0 - (j + 1))
        case measure => have := HG.out; omega
        case rel => exact ⟨j + 1, h'.up, rfl, by omega, by go_num, Hd.up_ok HK.out, by rw [← HMM.out]; exact HR3.out, by rw [HU.out]; exact hd_setn n2 KA2.out, (heap_setCell_other _ _ _ _ (show g7 ≠ w.heap.size by omega)).trans K72.out, HB2.out.setCell (Nat.le_refl _) _⟩
    · obtain rfl : j = K0 := by omega
      have hlt' : ¬ (j : Int) < k := fun e => hlt ((HK1.out j).1 e)
      have hr := HR.out
      rw [Nat.sub_self] at hr
      have ex : x = hd0 := by rw [HX.out, ← hr]; rfl
      have ep : p = false := by rw [HP.out, ← hr]; rfl
      subst ep
      subst ex
      have q0 := eq_hd hd0 hd0 hd0_ok hd0_ok
      rw [hdeq_self] at q0
      clear hr HR hlt
      go_wp2_with (first | refine wpList_load_hd rfl (.tmp 7) rfl g7 hd0 rfl K7.out ?_ | (refine wpList_unguard rfl ?_; refine wpList_load_hd rfl (.tmp 7) rfl g7 hd0 rfl K7.out ?_))
      go_ret
      exact ⟨rfl, HB.out⟩

set_option maxRecDepth 100000 in
theorem HeadMines_lifted (os : Os) (started : os.Started) (H : Type) (enc : TypeId × Value → H) :
    ReturnsInHanded {} Try.checked os 5 .any (Rows.headMinesSpec.pre6 enc Try.prog Try.f5 Rows.headMinesRow.domain false) (Rows.headMinesSpec.post enc Try.prog Try.f5 false true false false) := by
  refine returnsInHanded_of_change (C := Try.checked) own started (by kernel_rfl) Try.func5
    (ChangeSpec.witness6 (enc := enc) (C := Try.checked) false ⟨#[], #[.agg Try.zeroCells26, .int .u32 0, .int .i64 0], []⟩ 8 (by kernel_rfl) (by kernel_rfl) (by kernel_rfl) (by kernel_rfl)) ?_
  intro W base args ds gs before hval0 hW hcnd _
  have hval : ∀ (j : Nat) t v, Try.f5.params[j]? = some t → args[j]? = some v → Value.okWide Try.prog W .any base t v := hval0
  have hW' := hW
  obtain ⟨p, q, hA0, hV, rfl, hfz, hnd⟩ := hW
  have hA : DataW.TrodAll enc Try.prog W 0 (fun _ => true) true Try.f5.params.toList args.toList ds p := hA0
  rw [Try.params5] at hA hval
  obtain ⟨v0, vs0, d0, ds0, p0, q0, hargs, rfl, rfl, h0, r0⟩ := trodAll_cons hA
  obtain ⟨v1, vs1, d1, ds1, p1, q1, rfl, rfl, rfl, h1, r1⟩ := trodAll_cons r0
  obtain ⟨v2, vs2, d2, ds2, p2, q2, rfl, rfl, rfl, h2, r2⟩ := trodAll_cons r1
  obtain ⟨rfl, rfl, rfl⟩ := trodAll_nil r2
  obtain rfl : args = #[v0, v1, v2] := by cases args; simp_all
  obtain ⟨rfl, rfl⟩ := trodVars_none hV
  have k0 := h0
  have lt0 := trod_lt_of h0
  obtain ⟨a0, b0, rfl⟩ := open_hd (hval 0 26 v0 rfl rfl) h0
  have k1 := h1
  have lt1 := trod_lt_of h1
  obtain ⟨a1, rfl, rfl, rfl, b1⟩ := open_int Try.underlying22 (hval 1 22 v1 rfl rfl) h1
  have k2 := h2
  have lt2 := trod_lt_of h2
  obtain ⟨a2, rfl, rfl, rfl, b2⟩ := open_int Try.underlying3 (hval 2 3 v2 rfl rfl) h2
  clear hA0 hval0
  refine (HeadMines_walk a0 b0 a1 b1 a2 b2 W).mono fun e W' ⟨he, bel⟩ => ?_
  subst he
  exact ⟨_, rfl, _, _, _, [], _, [], hW', trodAll_mk1 (shut_bool (by kernel_rfl) _), (trodAll_cons_mk (Below.trod laidOut (by kernel_rfl) (of_decide_eq_true (by kernel_rfl)) k0 bel lt0) (trodAll_cons_mk (Below.trod laidOut (by kernel_rfl) (of_decide_eq_true (by kernel_rfl)) k1 bel lt1) (trodAll_cons_mk (Below.trod laidOut (by kernel_rfl) (of_decide_eq_true (by kernel_rfl)) k2 bel lt2) trodAll_mk0))), rfl, bel.frame _, fun h => by cases h⟩

theorem HeadMines_closed : joinedFacts Try.prog 5 Try.f5 Rows.headMinesSpec Rows.headMinesRow = true := by
  simp only [joinedFacts, Bool.and_eq_true]
  repeat' apply And.intro
  all_goals first
    | (with_reducible exact head_enter)
    | (rw [head_make]; kernel_rfl)
    | (rw [head_lift]; kernel_rfl)
    | kernel_rfl

theorem HeadMines_holds : Rows.HeadMinesSaid :=
  OpenClaim.holds_of_wide 5 Try.f5 rfl rfl rfl rfl rfl rfl rfl ⟨rfl, rfl, rfl, rfl, rfl⟩ rfl rfl rfl rfl rfl (by kernel_rfl) Try.func5 HeadMines_closed
    (of_decide_eq_true (by kernel_rfl)) (by unfold Func.isWrapper; rw [if_neg (of_decide_eq_false (by kernel_rfl))]; exact ⟨rfl, rfl⟩)
    (fun os started H enc _ => HeadMines_lifted os started H enc)
end Go.Proofs.Ytnbppbnjkmopeaa
