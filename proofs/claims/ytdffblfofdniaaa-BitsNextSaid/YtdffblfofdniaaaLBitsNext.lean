/- The law BitsNext: the bits behind any others are the document's, or there are none. No condition. -/
import Derived.Test.YtdffblfofdniaaaBtMeans
import Derived.Test.YtdffblfofdniaaaRtD
import Derived.Test.YtdffblfofdniaaaOpenMore
import Derived.Test.YtdffblfofdniaaaHead
namespace Go.Proofs.Ytdffblfofdniaaa
open Go.ChangeShapes Go.WideShapes Go.ChangeAt Go.RowKit

set_option maxRecDepth 100000 in
set_option maxHeartbeats 4000000 in
theorem BitsNext_walk (b : Int) (hb : (Lit.int .u32 b).wf = true) (took should : Int) (ht : (Lit.int .i64 took).wf = true) (hs : (Lit.int .i64 should).wf = true) (l : Nat) (hl : l < 2 ^ 256) (w : World) :
    Calls Try.prog 15 #[.int .u32 b, .agg #[.int .i64 took, .int .i64 should], nv l] w fun e w' => e = .returned (.bool true) ∧ Below w.heap.size w w' := by
  have hb2 : 0 ≤ b ∧ b ≤ 4294967295 := by simpa [Lit.wf, IntKind.min, IntKind.max, IntKind.signed, IntKind.bits] using hb
  obtain ⟨n, rfl⟩ := Int.eq_ofNat_of_zero_le hb2.1
  have hn : n < 4294967296 := by omega
  have HL := Lib.hid hl
  obtain ⟨o, ho⟩ : ∃ o, o = ((tgt n).2 && decide (1 ≤ should ∧ should ≤ 1099511627776)) := ⟨_, rfl⟩
  obtain ⟨X, hX⟩ : ∃ X, X = nxN (tgt n).1 (spn took should) should.toNat l := ⟨_, rfl⟩
  obtain ⟨R, hR⟩ : ∃ R : Value × Value, R = if o = true then (Value.int .u32 (sht X), Value.bool true) else (.int .u32 0, .bool false) := ⟨_, rfl⟩
  have hR1 : ∃ x : Int, ∃ y : Bool, R = (.int .u32 x, .bool y) := by rw [hR]; split <;> exact ⟨_, _, rfl⟩
  obtain ⟨x, y, hxy⟩ := hR1
  have cn : Hid (∀ w, Calls Try.prog 52 #[.int .u32 n, .int .i64 took, .int .i64 should, nv l] w fun e w' => e = .returned (.tuple #[.int .u32 x, .bool y]) ∧ Below w.heap.size w w') := Lib.hid fun w => by
    refine (next_any n hn took should l hl ht hs w).mono fun e w' ⟨he, hbl⟩ => ⟨?_, hbl⟩
    rw [he]
    rw [hxy] at hR
    have hiff : ((tgt n).2 = true ∧ 1 ≤ should ∧ should ≤ 1099511627776) ↔ o = true := by rw [ho]; simp
    by_cases h : o = true
    · rw [if_pos (hiff.2 h)]
      rw [if_pos h, Prod.mk.injEq] at hR
      rw [← hX, hR.1, hR.2]
    · rw [if_neg (fun hh => h (hiff.1 hh))]
      rw [if_neg h, Prod.mk.injEq] at hR
      rw [hR.1, hR.2]
  have cr : Hid (∀ (w : World) (b1 : Nat) (u : Value), BitsIs w b1 u l 256 → Calls Try.prog 53 #[.int .u32 n, .int .i64 took, .int .i64 should, u] w fun e w' => e = .returned (.tuple #[.int .u32 x, .bool y]) ∧ Below w.heap.size w w') := Lib.hid fun w b1 u h => by
    refine (refnext_any n hn took should b1 u l hl w h).mono fun e w' ⟨he, hbl⟩ => ⟨?_, hbl⟩
    rw [he, ← ho, ← hX]
    rw [hxy] at hR
    by_cases h : o = true
    · rw [if_pos h]
      rw [if_pos h, Prod.mk.injEq] at hR
      rw [hR.1, hR.2]
    · rw [if_neg h]
      rw [if_neg h, Prod.mk.injEq] at hR
      rw [hR.1, hR.2]
  clear ho hX hR hxy
  have B : Below w.heap.size w w := Below.refl _ _
  have A := alloc2 w (.cells #[.int .i64 took, .int .i64 should] 72 (0, 0)) (nblk l)
  have K0 := Lib.hid A.2
  have c0 := cell_of_row _ _ 0 _ _ _ A.1
  have c1 := cell_of_row _ _ 1 _ _ _ A.1
  have hz : w.heap.size < w.heap.size + 1 := by omega
  clear A hb hb2 hl ht hs hn
  go_enter Try.func15, Try.ntmps15
  go_wp2_with fail
  refine (means_any _).mono ?_
  rintro e w1 ⟨rfl, hb1⟩
  have d0 := (hb1.cell (p := ⟨w.heap.size, 0, none⟩) (by simp; omega)).trans c0
  have d1 := (hb1.cell (p := ⟨w.heap.size, 1, none⟩) (by simp; omega)).trans c1
  have K0' := Lib.hid (below_keep hb1 K0.out)
  have B' := below_next (w := w) (by repeat' (first | (with_reducible exact Below.refl _ _) | (with_reducible assumption) | (with_reducible refine below_alloc ?_ _) | (with_reducible refine Below.drew ?_) | (with_reducible refine below_drewN ?_ _) | (with_reducible refine Below.setCell ?_ ?_ _) | go_size)) hb1
  clear hb1 B K0 c0 c1
  have B := B'; have K0 := K0'
  clear B' K0'
  obtain ⟨K0_0, K0_1, K0_2, K0_3, K0_f, K0_z⟩ := cells4 K0.out
  go_wp2_with fail
  refine (cn.out _).mono ?_
  rintro e W ⟨rfl, hb2⟩
  have hzz : w.heap.size < w1.heap.size := by omega
  have e0 := (hb2.cell (p := ⟨w.heap.size, 0, none⟩) hzz).trans d0
  have e1 := (hb2.cell (p := ⟨w.heap.size, 1, none⟩) hzz).trans d1
  have hzw : w.heap.size < W.heap.size := Nat.lt_of_lt_of_le hzz hb2.size
  have K0' := Lib.hid (below_keep hb2 K0.out)
  have B' := below_next (w := w) (by repeat' (first | (with_reducible exact Below.refl _ _) | (with_reducible assumption) | (with_reducible refine below_alloc ?_ _) | (with_reducible refine Below.drew ?_) | (with_reducible refine below_drewN ?_ _) | (with_reducible refine Below.setCell ?_ ?_ _) | go_size)) hb2
  clear hb2 B K0 d0 d1 cn K0_0 K0_1 K0_2 K0_3 K0_f K0_z hzz
  have BV := Lib.hid B'; have K0 := K0'
  clear B' K0'
  obtain ⟨K0_0, K0_1, K0_2, K0_3, K0_f, K0_z⟩ := cells4 K0.out
  have D0 : ∀ w', Below W.heap.size W w' → w'.cell? ⟨w.heap.size, 0, none⟩ = some (.int .i64 took) := fun w' h => (h.cell (p := ⟨_, 0, none⟩) hzw).trans e0
  have D1 : ∀ w', Below W.heap.size W w' → w'.cell? ⟨w.heap.size, 1, none⟩ = some (.int .i64 should) := fun w' h => (h.cell (p := ⟨_, 1, none⟩) hzw).trans e1
  have L0 : ∀ w', Below W.heap.size W w' → w'.cell? ⟨w.heap.size + 1, 0, none⟩ = some (.int .u64 (lw l 0)) := fun w' h => (h.cell (p := ⟨_, 0, none⟩) K0_z).trans K0_0
  have L1 : ∀ w', Below W.heap.size W w' → w'.cell? ⟨w.heap.size + 1, 1, none⟩ = some (.int .u64 (lw l 1)) := fun w' h => (h.cell (p := ⟨_, 1, none⟩) K0_z).trans K0_1
  have L2 : ∀ w', Below W.heap.size W w' → w'.cell? ⟨w.heap.size + 1, 2, none⟩ = some (.int .u64 (lw l 2)) := fun w' h => (h.cell (p := ⟨_, 2, none⟩) K0_z).trans K0_2
  have L3 : ∀ w', Below W.heap.size W w' → w'.cell? ⟨w.heap.size + 1, 3, none⟩ = some (.int .u64 (lw l 3)) := fun w' h => (h.cell (p := ⟨_, 3, none⟩) K0_z).trans K0_3
  clear K0_0 K0_1 K0_2 K0_3 K0_f e0 e1
  go_upto_region 4 with fail
  go_region_held3 (fun w' => Below W.heap.size W w') (first | (with_reducible assumption) | exact (by repeat' (first | (with_reducible exact Below.refl _ _) | (with_reducible assumption) | (with_reducible refine below_alloc ?_ _) | (with_reducible refine Below.drew ?_) | (with_reducible refine below_drewN ?_ _) | (with_reducible refine Below.setCell ?_ ?_ _) | go_size))) (first | (go_at_call 51; refine (refof_any _ _).mono ?_; rintro e wx ⟨u, rfl, hu, hbx⟩; have hSx := below_next (w := W) (by repeat' (first | (with_reducible exact Below.refl _ _) | (with_reducible assumption) | (with_reducible refine below_alloc ?_ _) | (with_reducible refine Below.drew ?_) | (with_reducible refine below_drewN ?_ _) | (with_reducible refine Below.setCell ?_ ?_ _) | go_size)) hbx) | (go_at_call 53; refine (cr.out _ _ _ (by first | assumption | exact BitsIs.keep (by assumption) (by assumption))).mono ?_; rintro e wx ⟨rfl, hbx⟩; have hSx := below_next (w := W) (by repeat' (first | (with_reducible exact Below.refl _ _) | (with_reducible assumption) | (with_reducible refine below_alloc ?_ _) | (with_reducible refine Below.drew ?_) | (with_reducible refine below_drewN ?_ _) | (with_reducible refine Below.setCell ?_ ?_ _) | go_size)) hbx))
  have B2 := below_next BV.out (show Below W.heap.size W _ by assumption)
  clear D0 D1 L0 L1 L2 L3
  go_wp2_with fail
  go_ret
  exact ⟨by first | rfl | simp, B2⟩

set_option maxRecDepth 100000 in
theorem BitsNext_lifted (os : Os) (started : os.Started) (H : Type) (enc : TypeId × Value → H) :
    ReturnsInHanded {} Try.checked os 15 .any (Rows.bitsNextSpec.pre6 enc Try.prog Try.f15 Rows.bitsNextRow.domain false) (Rows.bitsNextSpec.post enc Try.prog Try.f15 false true false false) := by
  refine returnsInHanded_of_change (C := Try.checked) own started (by kernel_rfl) Try.func15
    (ChangeSpec.witness6 (enc := enc) (C := Try.checked) false ⟨#[], #[.int .u32 0, .agg #[.int .i64 0, .int .i64 0], .agg #[.int .u64 0, .int .u64 0, .int .u64 0, .int .u64 0]], []⟩ 8 (by kernel_rfl) (by kernel_rfl) (by kernel_rfl) (by kernel_rfl)) ?_
  intro W base args ds gs before hval0 hW hcnd _
  have hval : ∀ (j : Nat) t v, Try.f15.params[j]? = some t → args[j]? = some v → Value.okWide Try.prog W .any base t v := hval0
  have hW' := hW
  obtain ⟨p, q, hA0, hV, rfl, hfz, hnd⟩ := hW
  have hA : DataW.TrodAll enc Try.prog W 0 (fun _ => true) true Try.f15.params.toList args.toList ds p := hA0
  rw [Try.params15] at hA hval
  obtain ⟨v0, vs0, d0, ds0, p0, q0, hargs, rfl, rfl, h0, r0⟩ := trodAll_cons hA
  obtain ⟨v1, vs1, d1, ds1, p1, q1, rfl, rfl, rfl, h1, r1⟩ := trodAll_cons r0
  obtain ⟨v2, vs2, d2, ds2, p2, q2, rfl, rfl, rfl, h2, r2⟩ := trodAll_cons r1
  obtain ⟨rfl, rfl, rfl⟩ := trodAll_nil r2
  obtain rfl : args = #[v0, v1, v2] := by cases args; simp_all
  obtain ⟨rfl, rfl⟩ := trodVars_none hV
  have k0 := h0
  have lt0 := trod_lt_of h0
  obtain ⟨a0, rfl, rfl, rfl, b0⟩ := open_int Try.underlying62 (hval 0 62 v0 rfl rfl) h0
  have k1 := h1
  have lt1 := trod_lt_of h1
  obtain ⟨a1, c1, b1, d1, rfl⟩ := open_pair64 (hval 1 72 v1 rfl rfl) h1
  have k2 := h2
  have lt2 := trod_lt_of h2
  obtain ⟨a2, b2, rfl⟩ := open_num (hval 2 24 v2 rfl rfl) h2
  clear hA0 hval0
  refine (BitsNext_walk a0 b0 a1 c1 b1 d1 a2 b2 W).mono fun e W' ⟨he, bel⟩ => ?_
  subst he
  exact ⟨_, rfl, _, _, _, [], _, [], hW', trodAll_mk1 (shut_bool (by kernel_rfl) _), (trodAll_cons_mk (Below.trod laidOut (by kernel_rfl) (of_decide_eq_true (by kernel_rfl)) k0 bel lt0) (trodAll_cons_mk (Below.trod laidOut (by kernel_rfl) (of_decide_eq_true (by kernel_rfl)) k1 bel lt1) (trodAll_cons_mk (Below.trod laidOut (by kernel_rfl) (of_decide_eq_true (by kernel_rfl)) k2 bel lt2) trodAll_mk0))), rfl, bel.frame _, fun h => by cases h⟩

theorem BitsNext_closed : joinedFacts Try.prog 15 Try.f15 Rows.bitsNextSpec Rows.bitsNextRow = true := by
  simp only [joinedFacts, Bool.and_eq_true]
  repeat' apply And.intro
  all_goals first
    | (with_reducible exact head_enter)
    | (rw [head_make]; kernel_rfl)
    | (rw [head_lift]; kernel_rfl)
    | kernel_rfl

theorem BitsNext_holds : Rows.BitsNextSaid :=
  OpenClaim.holds_of_wide 15 Try.f15 rfl rfl rfl rfl rfl rfl rfl ⟨rfl, rfl, rfl, rfl, rfl⟩ rfl rfl rfl rfl rfl (by kernel_rfl) Try.func15 BitsNext_closed
    (of_decide_eq_true (by kernel_rfl)) (by unfold Func.isWrapper; rw [if_neg (of_decide_eq_false (by kernel_rfl))]; exact ⟨rfl, rfl⟩)
    (fun os started H enc _ => BitsNext_lifted os started H enc)
end Go.Proofs.Ytdffblfofdniaaa
