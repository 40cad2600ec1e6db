/- The law HeadNonces: what is mined is the header but for its nonce; more tries find no other one. No condition. -/
import Derived.Test.YtnbppbnjkmopeaaHdG
import Derived.Test.YtnbppbnjkmopeaaHd3
import Derived.Test.YtnbppbnjkmopeaaHead
namespace Go.Proofs.Ytnbppbnjkmopeaa
open Go.ChangeShapes Go.WideShapes Go.ChangeAt Go.RowKit

def Hd.at (h : Hd) (n : Nat) : Hd := ⟨h.v, h.p, h.r, h.t, h.b, n⟩
theorem hd_back {w : World} {g : Nat} {h : Hd} {m : Nat} (K : w.heap[g]? = some (hdblk (h.at m))) : (w.setCell ⟨g, 67, none⟩ (.int .u32 (h.n : Int))).heap[g]? = some (hdblk h) := hd_setn (h := h.at m) h.n K
theorem hd_far67 {w : World} {g k : Nat} {v : Value} {o : Obj} (hne : k ≠ g) (K : w.heap[k]? = some o) : (w.setCell ⟨g, 67, none⟩ v).heap[k]? = some o := (heap_setCell_other w ⟨g, 67, none⟩ k v hne).trans K
theorem mine_mono : ∀ (k j : Nat) (h : Hd) (l : Nat) (m : Hd), k ≤ j → mineP k h l = some m → mineP j h l = some m
  | 0, _, _, _, _, _, e => by simp [mineP] at e
  | k + 1, 0, _, _, _, h, _ => by omega
  | k + 1, j + 1, h, l, m, hkj, e => by
    rw [mineP] at e ⊢
    split
    · rename_i h0; rw [if_pos h0] at e; exact e
    · rename_i h0; rw [if_neg h0] at e; exact mine_mono k j h.up l m (by omega) e
theorem mine_at : ∀ (k : Nat) (h : Hd) (l : Nat) (m : Hd), h.ok → k ≤ 1000 → mineP k h l = some m → ∃ j, j < k ∧ m = h.at ((h.n + j) % 4294967296)
  | 0, _, _, _, _, _, e => by simp [mineP] at e
  | k + 1, h, l, m, hk, hk1, e => by
    rw [mineP] at e
    split at e
    · cases e
      refine ⟨0, by omega, ?_⟩
      have := hk.2.2.2.2.2
      show _ = Hd.at _ _
      unfold Hd.at
      rw [Nat.add_zero, Nat.mod_eq_of_lt this]
    · obtain ⟨j, hj, hm⟩ := mine_at k h.up l m (Hd.up_ok hk) (by omega) e
      refine ⟨j + 1, by omega, ?_⟩
      rw [hm]
      unfold Hd.at Hd.up
      simp only [Hd.mk.injEq, true_and]
      have := hk.2.2.2.2.2
      omega
theorem mine_ok : ∀ (k : Nat) (h : Hd) (l : Nat) (m : Hd), h.ok → mineP k h l = some m → m.ok
  | 0, _, _, _, _, e => by simp [mineP] at e
  | k + 1, h, l, m, hk, e => by
    rw [mineP] at e
    split at e
    · cases e; exact hk
    · exact mine_ok k h.up l m (Hd.up_ok hk) e

def mhd (m : Option Hd) : Hd := m.getD hd0
theorem mres_eq (m : Option Hd) : mres m = .tuple #[hdv (mhd m), .bool m.isSome] := by cases m <;> rfl
theorem hd0_ok : hd0.ok := by unfold Hd.ok hd0; simp
theorem mhd_ok {k : Nat} {h : Hd} {l : Nat} (hk : h.ok) : (mhd (mineP k h l)).ok := by
  unfold mhd
  cases e : mineP k h l with
  | none => exact hd0_ok
  | some m => exact mine_ok k h l m hk e

set_option maxRecDepth 100000 in
set_option maxHeartbeats 4000000 in
theorem HeadNonces_walk (h : Hd) (hk : h.ok) (k0 k1 : Int) (_w0 : (Lit.int .i64 k0).wf = true) (_w1 : (Lit.int .i64 k1).wf = true) (w : World) :
    Calls Try.prog 8 #[hdv h, .agg #[.int .i64 k0, .int .i64 k1]] w fun e w' => e = .returned (.bool true) ∧ Below w.heap.size w w' := by
  have HK := Lib.hid hk
  have KA := Lib.hid (keep_alloc (.cells #[.int .i64 k0, .int .i64 k1] 52 (0, 0)) (heap_new w (hdblk h)))
  have KB : Hid (((w.alloc (hdblk h)).alloc (.cells #[.int .i64 k0, .int .i64 k1] 52 (0, 0))).heap[w.heap.size + 1]? = some (.cells #[.int .i64 k0, .int .i64 k1] 52 (0, 0))) := Lib.hid (heap_new_at (by simp))
  have BB : Hid (Below w.heap.size w ((w.alloc (hdblk h)).alloc (.cells #[.int .i64 k0, .int .i64 k1] 52 (0, 0)))) := Lib.hid (below_alloc (below_alloc (Below.refl _ _) _) _)
  clear hk
  go_enter Try.func8, Try.ntmps8
  go_wp2_with fail
  refine (reads_any _).mono ?_
  rintro e w1 ⟨rfl, hb1⟩
  have KA1 := Lib.hid (below_keep hb1 KA.out); have KB1 := Lib.hid (below_keep hb1 KB.out)
  have B1 := Lib.hid (below_next BB.out hb1)
  clear hb1 KA KB BB
  have c0 : w1.cell? ⟨w.heap.size + 1, 0, none⟩ = some (.int .i64 k0) := by rw [cell_of_row _ _ _ _ _ _ KB1.out]; rfl
  have c1 : w1.cell? ⟨w.heap.size + 1, 1, none⟩ = some (.int .i64 k1) := by rw [cell_of_row _ _ _ _ _ _ KB1.out]; rfl
  by_cases h01 : k1 < k0
  · go_wp2_with fail
    go_ret
    exact ⟨rfl, B1.out⟩
  by_cases h40 : 40 < k1
  · go_wp2_with fail
    go_ret
    exact ⟨rfl, B1.out⟩
  have m0 := Lib.hid fun W => mine_any h HK.out 545259519 (by omega) k0 W
  have m1 := Lib.hid fun W => mine_any h HK.out 545259519 (by omega) k1 W
  rw [mres_eq] at m0 m1
  obtain ⟨M0, hM0⟩ : ∃ M, M = mineP (min k0 65536).toNat h 545259519 := ⟨_, rfl⟩
  obtain ⟨M1, hM1⟩ : ∃ M, M = mineP (min k1 65536).toNat h 545259519 := ⟨_, rfl⟩
  have HO0 : Hid (mhd M0).ok := Lib.hid (by rw [hM0]; exact mhd_ok HK.out)
  have HO1 : Hid (mhd M1).ok := Lib.hid (by rw [hM1]; exact mhd_ok HK.out)
  have HF1 : Hid (M0.isSome = true → M1.isSome = true ∧ mhd M0 = mhd M1) := Lib.hid fun e => by
    obtain ⟨m, hm⟩ := Option.isSome_iff_exists.1 e
    have h2 := mine_mono _ (min k1 65536).toNat _ _ _ (by omega) (hM0.symm.trans hm)
    rw [← hM1] at h2
    rw [hm, h2]; exact ⟨rfl, rfl⟩
  have HF2 : Hid (M1.isSome = false → mhd M1 = hd0) := Lib.hid fun e => by
    cases M1 with
    | none => rfl
    | some m => cases e
  have HF3 : Hid (M1.isSome = true → ∃ j : Nat, (j : Int) < k1 ∧ mhd M1 = h.at ((h.n + j) % 4294967296)) := Lib.hid fun e => by
    obtain ⟨m, hm⟩ := Option.isSome_iff_exists.1 e
    obtain ⟨j, hj, h2⟩ := mine_at _ _ _ _ HK.out (by omega) (hM1.symm.trans hm)
    exact ⟨j, by omega, by rw [hm]; exact h2⟩
  rw [← hM0] at m0
  rw [← hM1] at m1
  obtain ⟨x, hx⟩ : ∃ x, x = mhd M0 := ⟨_, rfl⟩
  obtain ⟨y, hy⟩ : ∃ y, y = mhd M1 := ⟨_, rfl⟩
  obtain ⟨p, hp⟩ : ∃ p, p = M0.isSome := ⟨_, rfl⟩
  obtain ⟨q, hq⟩ : ∃ q, q = M1.isSome := ⟨_, rfl⟩
  rw [← hx, ← hp] at m0
  rw [← hy, ← hq] at m1
  rw [← hx] at HO0
  rw [← hy] at HO1 HF2 HF3
  rw [← hx, ← hy, ← hp, ← hq] at HF1
  rw [← hq] at HF2 HF3
  have qe := eq_hd x y HO0.out HO1.out
  clear hM0 hM1 hx hy hp hq
  have ez : Try.zeroCells26 = (hdcs hd0).toArray := hdz
  go_wp2_with (first | refine wpList_load_hd rfl (.tmp 2) rfl w.heap.size h rfl KA1.out ?_)
  refine (m0.out _).mono ?_
  rintro e w2 ⟨rfl, hb2⟩
  have KA2 := Lib.hid (keep_alloc (hdblk hd0) (below_keep hb2 KA1.out)); have KB2 := Lib.hid (keep_alloc (hdblk hd0) (below_keep hb2 KB1.out))
  have B2 := Lib.hid (below_alloc (below_next B1.out hb2) (hdblk hd0))
  have h12 : w.heap.size + 1 < w2.heap.size := block_lt (below_keep hb2 KB1.out)
  clear hb2 KA1 KB1 B1 m0 c0 c1
  have hw0 : w.heap.size ≤ w2.heap.size := by omega
  go_wp2_with (first | (refine wpList_store_hd rfl (.tmp 5) (.tmp 27) rfl w2.heap.size hd0 x rfl rfl (heap_new w2 _) (fun w3 h1 h2 h3 h4 => ?_); have K5 := Lib.hid h1; have KA3 := Lib.hid ((h2 w.heap.size (by omega)).trans KA2.out); have KB3 := Lib.hid ((h2 (w.heap.size + 1) (by omega)).trans KB2.out); have B3 := Lib.hid (h4 w.heap.size w hw0 B2.out); have c1 : w3.cell? ⟨w.heap.size + 1, 1, none⟩ = some (.int .i64 k1) := (by rw [cell_of_row _ _ _ _ _ _ KB3.out]; rfl); clear h1 h2 h3 h4) | refine wpList_load_hd rfl (.tmp 2) rfl w.heap.size h rfl KA3.out ?_)
  refine (m1.out _).mono ?_
  rintro e w4 ⟨rfl, hb4⟩
  have KA4 := Lib.hid (keep_alloc (hdblk hd0) (below_keep hb4 KA3.out)); have KB4 := Lib.hid (keep_alloc (hdblk hd0) (below_keep hb4 KB3.out)); have K54 := Lib.hid (keep_alloc (hdblk hd0) (below_keep hb4 K5.out))
  have B4 := Lib.hid (below_alloc (below_next B3.out hb4) (hdblk hd0))
  have h24 : w2.heap.size < w4.heap.size := block_lt (below_keep hb4 K5.out)
  clear hb4 KA2 KB2 B2 KA3 KB3 K5 B3 m1 c1
  cases q
  · cases p
    · have hy0 := HF2.out rfl
      subst hy0
      have q0 := eq_hd hd0 hd0 hd0_ok hd0_ok
      rw [hdeq_self] at q0
      clear HF1 HF2 HF3 qe
      go_wp2_with (first | (refine wpList_store_hd rfl (.tmp 7) (.tmp 34) rfl w4.heap.size hd0 hd0 rfl rfl (heap_new w4 _) (fun w5 h1 h2 h3 h4 => ?_); have K7 := Lib.hid h1; have KA5 := Lib.hid ((h2 w.heap.size (by omega)).trans KA4.out); have K5 := Lib.hid ((h2 w2.heap.size (by omega)).trans K54.out); have B5 := Lib.hid (h4 w.heap.size w (by omega) B4.out); clear h1 h2 h3 h4) | refine wpList_load_hd rfl (.tmp 5) rfl w2.heap.size x rfl K5.out ?_ | refine wpList_load_hd rfl (.tmp 7) rfl w4.heap.size hd0 rfl K7.out ?_)
      go_ret
      exact ⟨rfl, B5.out⟩
    · exact absurd (HF1.out rfl).1 (by simp)
  · obtain ⟨j, hj, hyj⟩ := HF3.out rfl
    obtain ⟨m, hm⟩ : ∃ m, m = (h.n + j) % 4294967296 := ⟨_, rfl⟩
    rw [← hm] at hyj
    subst hyj
    have hjj : (j : Int) < k1 := hj
    have hnb : h.n < 4294967296 := HK.out.2.2.2.2.2
    have es : ((m : Int) - (h.n : Int)) % 4294967296 = (j : Int) := by omega
    have qh := eq_hd h h HK.out HK.out
    rw [hdeq_self] at qh
    have ES := Lib.hid es; have HJ := Lib.hid hjj
    clear es hnb hjj
    cases p
    · clear HF1 HF2 HF3 hm qe hj
      go_wp2_with (first | (refine wpList_store_hd rfl (.tmp 7) (.tmp 34) rfl w4.heap.size hd0 (h.at m) rfl rfl (heap_new w4 _) (fun w5 h1 h2 h3 h4 => ?_); have K7 := Lib.hid h1; have KA5 := Lib.hid ((h2 w.heap.size (by omega)).trans KA4.out); have KB5 := Lib.hid ((h2 (w.heap.size + 1) (by omega)).trans KB4.out); have K5 := Lib.hid ((h2 w2.heap.size (by omega)).trans K54.out); have B5 := Lib.hid (h4 w.heap.size w (by omega) B4.out); clear h1 h2 h3 h4; have cy : w5.cell? ⟨w4.heap.size, 67, none⟩ = some (.int .u32 (m : Int)) := (hd_cell K7.out 67).trans (hdcs_n (h.at m)); have ch : w5.cell? ⟨w.heap.size, 67, none⟩ = some (.int .u32 (h.n : Int)) := (hd_cell KA5.out 67).trans (hdcs_n h); have cb : w5.cell? ⟨w.heap.size + 1, 1, none⟩ = some (.int .i64 k1) := (by rw [cell_of_row _ _ _ _ _ _ KB5.out]; rfl); have fz : w5.frozen? ⟨w4.heap.size, 67, none⟩ = false := frozen_of_row _ _ _ _ _ K7.out; have es := ES.out; have hn1 : ¬ w4.heap.size = w.heap.size := (by omega); have hn2 : ¬ w4.heap.size = w.heap.size + 1 := (by omega); have hn3 : ¬ w.heap.size = w4.heap.size := (by omega); have hn4 : ¬ w.heap.size + 1 = w4.heap.size := (by omega); have K8 := Lib.hid (hd_back (m := m) K7.out); have KA6 := Lib.hid (hd_far67 (g := w4.heap.size) (v := .int .u32 (h.n : Int)) hn3 KA5.out)) | (refine wpList_load_hd rfl (.tmp 7) rfl w4.heap.size h rfl (by with_reducible exact K8.out) ?_) | (refine wpList_load_hd rfl (.tmp 2) rfl w.heap.size h rfl (by with_reducible exact KA6.out) ?_))
      rw [decide_eq_true HJ.out]
      go_ret
      exact ⟨rfl, B5.out.setCell (show w.heap.size ≤ w4.heap.size by omega) _⟩
    · have hxy := (HF1.out rfl).2
      subst hxy
      rw [hdeq_self] at qe
      clear HF1 HF2 HF3 hm hj
      go_wp2_with (first | (refine wpList_store_hd rfl (.tmp 7) (.tmp 34) rfl w4.heap.size hd0 (h.at m) rfl rfl (heap_new w4 _) (fun w5 h1 h2 h3 h4 => ?_); have K7 := Lib.hid h1; have KA5 := Lib.hid ((h2 w.heap.size (by omega)).trans KA4.out); have KB5 := Lib.hid ((h2 (w.heap.size + 1) (by omega)).trans KB4.out); have K5 := Lib.hid ((h2 w2.heap.size (by omega)).trans K54.out); have B5 := Lib.hid (h4 w.heap.size w (by omega) B4.out); clear h1 h2 h3 h4; have cy : w5.cell? ⟨w4.heap.size, 67, none⟩ = some (.int .u32 (m : Int)) := (hd_cell K7.out 67).trans (hdcs_n (h.at m)); have ch : w5.cell? ⟨w.heap.size, 67, none⟩ = some (.int .u32 (h.n : Int)) := (hd_cell KA5.out 67).trans (hdcs_n h); have cb : w5.cell? ⟨w.heap.size + 1, 1, none⟩ = some (.int .i64 k1) := (by rw [cell_of_row _ _ _ _ _ _ KB5.out]; rfl); have fz : w5.frozen? ⟨w4.heap.size, 67, none⟩ = false := frozen_of_row _ _ _ _ _ K7.out; have es := ES.out; have hn1 : ¬ w4.heap.size = w.heap.size := (by omega); have hn2 : ¬ w4.heap.size = w.heap.size + 1 := (by omega); have hn3 : ¬ w.heap.size = w4.heap.size := (by omega); have hn4 : ¬ w.heap.size + 1 = w4.heap.size := (by omega); have K8 := Lib.hid (hd_back (m := m) K7.out); have KA6 := Lib.hid (hd_far67 (g := w4.heap.size) (v := .int .u32 (h.n : Int)) hn3 KA5.out)) | (refine wpList_load_hd rfl (.tmp 7) rfl w4.heap.size h rfl (by with_reducible exact K8.out) ?_) | (refine wpList_load_hd rfl (.tmp 2) rfl w.heap.size h rfl (by with_reducible exact KA6.out) ?_) | refine wpList_load_hd rfl (.tmp 5) rfl w2.heap.size (h.at m) rfl (by with_reducible exact K5.out) ?_ | refine wpList_load_hd rfl (.tmp 7) rfl w4.heap.size (h.at m) rfl (by with_reducible exact K7.out) ?_ | (refine wpList_unguard rfl ?_; first | refine wpList_load_hd rfl (.tmp 5) rfl w2.heap.size (h.at m) rfl (by with_reducible exact K5.out) ?_ | refine wpList_load_hd rfl (.tmp 7) rfl w4.heap.size (h.at m) rfl (by with_reducible exact K7.out) ?_))
      rw [decide_eq_true HJ.out]
      go_ret
      exact ⟨rfl, B5.out.setCell (show w.heap.size ≤ w4.heap.size by omega) _⟩

set_option maxRecDepth 100000 in
theorem HeadNonces_lifted (os : Os) (started : os.Started) (H : Type) (enc : TypeId × Value → H) :
    ReturnsInHanded {} Try.checked os 8 .any (Rows.headNoncesSpec.pre6 enc Try.prog Try.f8 Rows.headNoncesRow.domain false) (Rows.headNoncesSpec.post enc Try.prog Try.f8 false true false false) := by
  refine returnsInHanded_of_change (C := Try.checked) own started (by kernel_rfl) Try.func8
    (ChangeSpec.witness6 (enc := enc) (C := Try.checked) false ⟨#[], #[.agg Try.zeroCells26, .agg #[.int .i64 0, .int .i64 0]], []⟩ 8 (by kernel_rfl) (by kernel_rfl) (by kernel_rfl) (by kernel_rfl)) ?_
  intro W base args ds gs before hval0 hW hcnd _
  have hval : ∀ (j : Nat) t v, Try.f8.params[j]? = some t → args[j]? = some v → Value.okWide Try.prog W .any base t v := hval0
  have hW' := hW
  obtain ⟨p, q, hA0, hV, rfl, hfz, hnd⟩ := hW
  have hA : DataW.TrodAll enc Try.prog W 0 (fun _ => true) true Try.f8.params.toList args.toList ds p := hA0
  rw [Try.params8] at hA hval
  obtain ⟨v0, vs0, d0, ds0, p0, q0, hargs, rfl, rfl, h0, r0⟩ := trodAll_cons hA
  obtain ⟨v1, vs1, d1, ds1, p1, q1, rfl, rfl, rfl, h1, r1⟩ := trodAll_cons r0
  obtain ⟨rfl, rfl, rfl⟩ := trodAll_nil r1
  obtain rfl : args = #[v0, v1] := by cases args; simp_all
  obtain ⟨rfl, rfl⟩ := trodVars_none hV
  have k0 := h0
  have lt0 := trod_lt_of h0
  obtain ⟨a0, b0, rfl⟩ := open_hd (hval 0 26 v0 rfl rfl) h0
  have k1 := h1
  have lt1 := trod_lt_of h1
  obtain ⟨a1, c1, b1, d1, rfl⟩ := open_pairint (hval 1 52 v1 rfl rfl) h1
  clear hA0 hval0
  refine (HeadNonces_walk a0 b0 a1 c1 b1 d1 W).mono fun e W' ⟨he, bel⟩ => ?_
  subst he
  exact ⟨_, rfl, _, _, _, [], _, [], hW', trodAll_mk1 (shut_bool (by kernel_rfl) _), (trodAll_cons_mk (Below.trod laidOut (by kernel_rfl) (of_decide_eq_true (by kernel_rfl)) k0 bel lt0) (trodAll_cons_mk (Below.trod laidOut (by kernel_rfl) (of_decide_eq_true (by kernel_rfl)) k1 bel lt1) trodAll_mk0)), rfl, bel.frame _, fun h => by cases h⟩

theorem HeadNonces_closed : joinedFacts Try.prog 8 Try.f8 Rows.headNoncesSpec Rows.headNoncesRow = true := by
  simp only [joinedFacts, Bool.and_eq_true]
  repeat' apply And.intro
  all_goals first
    | (with_reducible exact head_enter)
    | (rw [head_make]; kernel_rfl)
    | (rw [head_lift]; kernel_rfl)
    | kernel_rfl

theorem HeadNonces_holds : Rows.HeadNoncesSaid :=
  OpenClaim.holds_of_wide 8 Try.f8 rfl rfl rfl rfl rfl rfl rfl ⟨rfl, rfl, rfl, rfl, rfl⟩ rfl rfl rfl rfl rfl (by kernel_rfl) Try.func8 HeadNonces_closed
    (of_decide_eq_true (by kernel_rfl)) (by unfold Func.isWrapper; rw [if_neg (of_decide_eq_false (by kernel_rfl))]; exact ⟨rfl, rfl⟩)
    (fun os started H enc _ => HeadNonces_lifted os started H enc)
end Go.Proofs.Ytnbppbnjkmopeaa
