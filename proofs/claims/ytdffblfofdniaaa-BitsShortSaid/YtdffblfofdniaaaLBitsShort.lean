/- The law BitsShort: the short bits of any number; read again they mean at most that number. No condition. -/
import Derived.Test.YtdffblfofdniaaaBtMeans
import Derived.Test.YtdffblfofdniaaaRtC
import Derived.Test.YtdffblfofdniaaaNumOpen
import Derived.Test.YtdffblfofdniaaaHead
namespace Go.Proofs.Ytdffblfofdniaaa
open Go.ChangeShapes Go.WideShapes Go.ChangeAt Go.RowKit

theorem near (a : Nat) (h0 : a ≠ 0) : a - rnd a ≤ a / 2 ^ 15 := by
  have h1 := rnd_near a
  have h2 := two_le_of h0
  have h3 := rnd_le a
  by_cases hd : bitLen a / 8 ≤ 2
  · have : dropN a = 0 := by unfold dropN; omega
    rw [this] at h1
    have : a - rnd a = 0 := by omega
    omega
  · have h4 : 2 ^ dropN a ≤ a / 2 ^ 15 := by
      rw [Nat.le_div_iff_mul_le (by omega), ← Nat.pow_add]
      exact Nat.le_trans (Nat.pow_le_pow_right (by omega) (by unfold dropN; omega)) h2
    omega

set_option maxRecDepth 100000 in
set_option maxHeartbeats 8000000 in
theorem BitsShort_walk (a : Nat) (ha : a < 2 ^ 256) (w : World) :
    Calls Try.prog 12 #[nv a] w fun e w' => e = .returned (.bool true) ∧ Below w.heap.size w w' := by
  have HA := Lib.hid ha
  have HR := Lib.hid (show rnd a < 2 ^ 256 by have := rnd_le a; omega)
  have cs := Lib.hid fun w => short_any a ha w
  have cs2 := fun w => short_any (rnd a) HR.out w
  have ct := Lib.hid fun w => target_any (sht a) (sht_lt a ha) w
  have cr := Lib.hid fun (w : World) (b1 : Nat) (v : Value) (h : BitsIs w b1 v a 256) => refshort_any b1 v a 256 ha ha (by omega) w h
  have h1 : a ≠ 0 → tgt (sht a) = (rnd a, true) := fun h => tgt_sht h ha
  have h2 : a ≠ 0 → sht (rnd a) = sht a := sht_rnd
  have h3 : a = 0 → sht a = 0 := fun h => by rw [h, sht_zero]
  have h4 := near a
  have h5 := rnd_le a
  generalize sht a = S at *
  generalize rnd a = r at *
  have B : Below w.heap.size w w := Below.refl _ _
  have K0 := Lib.hid (heap_new w (nblk a))
  have cz := Lib.hid fun w => zero_any a ha w
  have H1 := Lib.hid h1; have H2 := Lib.hid h2; have H3 := Lib.hid h3; have H4 := Lib.hid h4; have H5 := Lib.hid h5; have CS2 := Lib.hid cs2
  clear ha h1 h2 h3 h4 h5 cs2
  go_enter Try.func12, Try.ntmps12
  go_wp2_with fail
  refine (means_any _).mono ?_
  rintro e w1 ⟨rfl, hbw1⟩
  have K0' := Lib.hid (below_keep hbw1 (by first | exact K0.out | exact keep_alloc _ (K0.out) | exact keep_alloc _ (keep_alloc _ (K0.out)) | exact keep_alloc _ (keep_alloc _ (keep_alloc _ (K0.out))) | exact keep_alloc _ (keep_alloc _ (keep_alloc _ (keep_alloc _ (K0.out)))) | exact keep_alloc _ (keep_alloc _ (keep_alloc _ (keep_alloc _ (keep_alloc _ (K0.out)))))))
  have B' := below_next (w := w) (by repeat' (first | (with_reducible exact Below.refl _ _) | (with_reducible assumption) | (with_reducible refine below_alloc ?_ _) | (with_reducible refine Below.drew ?_) | (with_reducible refine below_drewN ?_ _) | (with_reducible refine Below.setCell ?_ ?_ _) | go_size)) hbw1
  clear hbw1 B K0
  have B := B'; clear B'
  have K0 := K0'; clear K0'
  obtain ⟨K0_0, K0_1, K0_2, K0_3, K0_f, K0_z⟩ := cells4 K0.out
  go_wp2_with fail
  refine (cs.out _).mono ?_
  rintro e w2 ⟨rfl, hbw2⟩
  have K0' := Lib.hid (below_keep hbw2 (by first | exact K0.out | exact keep_alloc _ (K0.out) | exact keep_alloc _ (keep_alloc _ (K0.out)) | exact keep_alloc _ (keep_alloc _ (keep_alloc _ (K0.out))) | exact keep_alloc _ (keep_alloc _ (keep_alloc _ (keep_alloc _ (K0.out)))) | exact keep_alloc _ (keep_alloc _ (keep_alloc _ (keep_alloc _ (keep_alloc _ (K0.out)))))))
  have B' := below_next (w := w) (by repeat' (first | (with_reducible exact Below.refl _ _) | (with_reducible assumption) | (with_reducible refine below_alloc ?_ _) | (with_reducible refine Below.drew ?_) | (with_reducible refine below_drewN ?_ _) | (with_reducible refine Below.setCell ?_ ?_ _) | go_size)) hbw2
  clear hbw2 B K0 K0_0 K0_1 K0_2 K0_3 K0_f K0_z
  have B := B'; clear B'
  have K0 := K0'; clear K0'
  obtain ⟨K0_0, K0_1, K0_2, K0_3, K0_f, K0_z⟩ := cells4 K0.out
  go_wp2_with fail
  refine (refof_any a _).mono ?_
  rintro e w3 ⟨v, rfl, hv, hb3⟩
  have Ka := Lib.hid (below_keep hb3 K0.out)
  have HV := Lib.hid hv
  have B3 := below_next B hb3
  clear hb3 hv B K0 K0_0 K0_1 K0_2 K0_3 K0_f K0_z
  go_wp2_with fail
  refine (cr.out _ _ _ HV.out).mono ?_
  rintro e w4 ⟨rfl, hb4⟩
  have K0 := Lib.hid (below_keep hb4 Ka.out)
  have B := below_next B3 hb4
  clear hb4 B3 Ka HV cr
  obtain ⟨K0_0, K0_1, K0_2, K0_3, K0_f, K0_z⟩ := cells4 K0.out
  go_wp2_with fail
  refine (cz.out _).mono ?_
  rintro e w5 ⟨rfl, hbw5⟩
  have K0' := Lib.hid (below_keep hbw5 (by first | exact K0.out | exact keep_alloc _ (K0.out) | exact keep_alloc _ (keep_alloc _ (K0.out)) | exact keep_alloc _ (keep_alloc _ (keep_alloc _ (K0.out))) | exact keep_alloc _ (keep_alloc _ (keep_alloc _ (keep_alloc _ (K0.out)))) | exact keep_alloc _ (keep_alloc _ (keep_alloc _ (keep_alloc _ (keep_alloc _ (K0.out)))))))
  have B' := below_next (w := w) (by repeat' (first | (with_reducible exact Below.refl _ _) | (with_reducible assumption) | (with_reducible refine below_alloc ?_ _) | (with_reducible refine Below.drew ?_) | (with_reducible refine below_drewN ?_ _) | (with_reducible refine Below.setCell ?_ ?_ _) | go_size)) hbw5
  clear hbw5 B K0 K0_0 K0_1 K0_2 K0_3 K0_f K0_z
  have B := B'; clear B'
  have K0 := K0'; clear K0'
  obtain ⟨K0_0, K0_1, K0_2, K0_3, K0_f, K0_z⟩ := cells4 K0.out
  by_cases ha0 : a = 0
  · rw [decide_eq_true ha0]
    have h := H3.out ha0
    subst h
    clear ha0
    go_wp2_with fail
    go_ret
    exact ⟨rfl, B⟩
  · rw [decide_eq_false ha0]
    rw [H1.out ha0] at ct
    have hcs := CS2.out
    rw [H2.out ha0] at hcs
    have hn := H4.out ha0
    have HCS := Lib.hid hcs
    have hsub : (a + 2 ^ 256 - r) % 2 ^ 256 = a - r := by
      have := H5.out; have := HA.out
      rw [show a + 2 ^ 256 - r = (a - r) + 2 ^ 256 by omega, Nat.add_mod_right]
      exact Nat.mod_eq_of_lt (by omega)
    have hund : decide (a < r) = false := decide_eq_false (by have := H5.out; omega)
    have csb := Lib.hid fun w => sub_any a r HA.out HR.out w
    rw [hsub, hund] at csb
    have HD := Lib.hid (show a - r < 2 ^ 256 by have := HA.out; omega)
    have HQ := Lib.hid (show a / 2 ^ 15 < 2 ^ 256 from Nat.lt_of_le_of_lt (Nat.div_le_self _ _) HA.out)
    have chr : Hid (∀ w, Calls Try.prog 32 #[nv a, .int .i64 15] w fun e w' => e = .returned (nv (a / 2 ^ 15)) ∧ Below w.heap.size w w') := Lib.hid fun w => by
      have := shr_any a HA.out 15 w
      unfold shrN at this
      rwa [if_neg (by omega), show (15 : Int).toNat = 15 from rfl] at this
    have hcm : cmpn (a - r) (a / 2 ^ 15) ≤ 0 := cmpn_le.2 hn
    generalize a / 2 ^ 15 = Q at *
    generalize a - r = D at *
    have ccm := Lib.hid fun w => cmp_any D Q HD.out HQ.out w
    clear ha0 hcs hn hsub hund H1 H2 H3 H4 CS2 cs cz
    go_wp2_with fail
    refine (ct.out _).mono ?_
    rintro e w6 ⟨rfl, hbw6⟩
    have K0' := Lib.hid (below_keep hbw6 (by first | exact K0.out | exact keep_alloc _ (K0.out) | exact keep_alloc _ (keep_alloc _ (K0.out)) | exact keep_alloc _ (keep_alloc _ (keep_alloc _ (K0.out))) | exact keep_alloc _ (keep_alloc _ (keep_alloc _ (keep_alloc _ (K0.out)))) | exact keep_alloc _ (keep_alloc _ (keep_alloc _ (keep_alloc _ (keep_alloc _ (K0.out)))))))
    have B' := below_next (w := w) (by repeat' (first | (with_reducible exact Below.refl _ _) | (with_reducible assumption) | (with_reducible refine below_alloc ?_ _) | (with_reducible refine Below.drew ?_) | (with_reducible refine below_drewN ?_ _) | (with_reducible refine Below.setCell ?_ ?_ _) | go_size)) hbw6
    clear hbw6 B K0 K0_0 K0_1 K0_2 K0_3 K0_f K0_z
    have B := B'; clear B'
    have K0 := K0'; clear K0'
    obtain ⟨K0_0, K0_1, K0_2, K0_3, K0_f, K0_z⟩ := cells4 K0.out
    have K1 := Lib.hid (heap_new w6 (nblk r))
    go_wp2_with fail
    have K0' := Lib.hid (keep_alloc (nblk r) K0.out)
    refine (csb.out _).mono ?_
    rintro e w7 ⟨rfl, hbw7⟩
    have K0' := Lib.hid (below_keep hbw7 (by first | exact K0.out | exact keep_alloc _ (K0.out) | exact keep_alloc _ (keep_alloc _ (K0.out)) | exact keep_alloc _ (keep_alloc _ (keep_alloc _ (K0.out))) | exact keep_alloc _ (keep_alloc _ (keep_alloc _ (keep_alloc _ (K0.out)))) | exact keep_alloc _ (keep_alloc _ (keep_alloc _ (keep_alloc _ (keep_alloc _ (K0.out)))))))
    have K1' := Lib.hid (below_keep hbw7 (by first | exact K1.out | exact keep_alloc _ (K1.out) | exact keep_alloc _ (keep_alloc _ (K1.out)) | exact keep_alloc _ (keep_alloc _ (keep_alloc _ (K1.out))) | exact keep_alloc _ (keep_alloc _ (keep_alloc _ (keep_alloc _ (K1.out)))) | exact keep_alloc _ (keep_alloc _ (keep_alloc _ (keep_alloc _ (keep_alloc _ (K1.out)))))))
    have B' := below_next (w := w) (by repeat' (first | (with_reducible exact Below.refl _ _) | (with_reducible assumption) | (with_reducible refine below_alloc ?_ _) | (with_reducible refine Below.drew ?_) | (with_reducible refine below_drewN ?_ _) | (with_reducible refine Below.setCell ?_ ?_ _) | go_size)) hbw7
    clear hbw7 B K0 K1 K0_0 K0_1 K0_2 K0_3 K0_f K0_z
    have B := B'; clear B'
    have K0 := K0'; clear K0'
    obtain ⟨K0_0, K0_1, K0_2, K0_3, K0_f, K0_z⟩ := cells4 K0.out
    have K1 := K1'; clear K1'
    obtain ⟨K1_0, K1_1, K1_2, K1_3, K1_f, K1_z⟩ := cells4 K1.out
    have K2 := Lib.hid (heap_new w7 (nblk D))
    clear K0'
    go_upto_region 10 with fail
    refine wp_abs (fun W => W.heap[w.heap.size]? = some (nblk a) ∧ W.heap[w6.heap.size]? = some (nblk r) ∧ W.heap[w7.heap.size]? = some (nblk D) ∧ Below w.heap.size w W) ⟨keep_alloc _ K0.out, keep_alloc _ K1.out, K2.out, (by repeat' (first | (with_reducible exact Below.refl _ _) | (with_reducible assumption) | (with_reducible refine below_alloc ?_ _) | (with_reducible refine Below.drew ?_) | (with_reducible refine below_drewN ?_ _) | (with_reducible refine Below.setCell ?_ ?_ _) | go_size))⟩ ?_
    clear K0 K1 K2 B K0_0 K0_1 K0_2 K0_3 K0_f K0_z K1_0 K1_1 K1_2 K1_3 K1_f K1_z ct csb
    rintro W ⟨k0, k1, k2, B⟩
    have K0 := Lib.hid k0; have K1 := Lib.hid k1; have K2 := Lib.hid k2; have BV := Lib.hid B
    clear k0 k1 k2 B
    obtain ⟨K0_0, K0_1, K0_2, K0_3, K0_f, K0_z⟩ := cells4 K0.out
    obtain ⟨K1_0, K1_1, K1_2, K1_3, K1_f, K1_z⟩ := cells4 K1.out
    obtain ⟨K2_0, K2_1, K2_2, K2_3, K2_f, K2_z⟩ := cells4 K2.out
    have L0 : ∀ w', Below W.heap.size W w' → w'.cell? ⟨w.heap.size, 0, none⟩ = some (.int .u64 (lw a 0)) := fun w' h => (h.cell (p := ⟨_, 0, none⟩) K0_z).trans K0_0
    have L1 : ∀ w', Below W.heap.size W w' → w'.cell? ⟨w.heap.size, 1, none⟩ = some (.int .u64 (lw a 1)) := fun w' h => (h.cell (p := ⟨_, 1, none⟩) K0_z).trans K0_1
    have L2 : ∀ w', Below W.heap.size W w' → w'.cell? ⟨w.heap.size, 2, none⟩ = some (.int .u64 (lw a 2)) := fun w' h => (h.cell (p := ⟨_, 2, none⟩) K0_z).trans K0_2
    have L3 : ∀ w', Below W.heap.size W w' → w'.cell? ⟨w.heap.size, 3, none⟩ = some (.int .u64 (lw a 3)) := fun w' h => (h.cell (p := ⟨_, 3, none⟩) K0_z).trans K0_3
    have M0 : ∀ w', Below W.heap.size W w' → w'.cell? ⟨w6.heap.size, 0, none⟩ = some (.int .u64 (lw r 0)) := fun w' h => (h.cell (p := ⟨_, 0, none⟩) K1_z).trans K1_0
    have M1 : ∀ w', Below W.heap.size W w' → w'.cell? ⟨w6.heap.size, 1, none⟩ = some (.int .u64 (lw r 1)) := fun w' h => (h.cell (p := ⟨_, 1, none⟩) K1_z).trans K1_1
    have M2 : ∀ w', Below W.heap.size W w' → w'.cell? ⟨w6.heap.size, 2, none⟩ = some (.int .u64 (lw r 2)) := fun w' h => (h.cell (p := ⟨_, 2, none⟩) K1_z).trans K1_2
    have M3 : ∀ w', Below W.heap.size W w' → w'.cell? ⟨w6.heap.size, 3, none⟩ = some (.int .u64 (lw r 3)) := fun w' h => (h.cell (p := ⟨_, 3, none⟩) K1_z).trans K1_3
    have N0 : ∀ w', Below W.heap.size W w' → w'.cell? ⟨w7.heap.size, 0, none⟩ = some (.int .u64 (lw D 0)) := fun w' h => (h.cell (p := ⟨_, 0, none⟩) K2_z).trans K2_0
    have N1 : ∀ w', Below W.heap.size W w' → w'.cell? ⟨w7.heap.size, 1, none⟩ = some (.int .u64 (lw D 1)) := fun w' h => (h.cell (p := ⟨_, 1, none⟩) K2_z).trans K2_1
    have N2 : ∀ w', Below W.heap.size W w' → w'.cell? ⟨w7.heap.size, 2, none⟩ = some (.int .u64 (lw D 2)) := fun w' h => (h.cell (p := ⟨_, 2, none⟩) K2_z).trans K2_2
    have N3 : ∀ w', Below W.heap.size W w' → w'.cell? ⟨w7.heap.size, 3, none⟩ = some (.int .u64 (lw D 3)) := fun w' h => (h.cell (p := ⟨_, 3, none⟩) K2_z).trans K2_3
    clear K0_0 K0_1 K0_2 K0_3 K0_f K1_0 K1_1 K1_2 K1_3 K1_f K2_0 K2_1 K2_2 K2_3 K2_f
    go_region_held3 (fun w' => Below W.heap.size W w') (first | (with_reducible assumption) | exact (by repeat' (first | (with_reducible exact Below.refl _ _) | (with_reducible assumption) | (with_reducible refine below_alloc ?_ _) | (with_reducible refine Below.drew ?_) | (with_reducible refine below_drewN ?_ _) | (with_reducible refine Below.setCell ?_ ?_ _) | go_size))) (first | (go_at_call 32; refine (chr.out _).mono ?_; rintro e wx ⟨rfl, hbx⟩; have hSx := below_next (w := W) (by repeat' (first | (with_reducible exact Below.refl _ _) | (with_reducible assumption) | (with_reducible refine below_alloc ?_ _) | (with_reducible refine Below.drew ?_) | (with_reducible refine below_drewN ?_ _) | (with_reducible refine Below.setCell ?_ ?_ _) | go_size)) hbx) | (go_at_call 26; refine (ccm.out _).mono ?_; rintro e wx ⟨rfl, hbx⟩; have hSx := below_next (w := W) (by repeat' (first | (with_reducible exact Below.refl _ _) | (with_reducible assumption) | (with_reducible refine below_alloc ?_ _) | (with_reducible refine Below.drew ?_) | (with_reducible refine below_drewN ?_ _) | (with_reducible refine Below.setCell ?_ ?_ _) | go_size)) hbx) | (go_at_call 49; refine (HCS.out _).mono ?_; rintro e wx ⟨rfl, hbx⟩; have hSx := below_next (w := W) (by repeat' (first | (with_reducible exact Below.refl _ _) | (with_reducible assumption) | (with_reducible refine below_alloc ?_ _) | (with_reducible refine Below.drew ?_) | (with_reducible refine below_drewN ?_ _) | (with_reducible refine Below.setCell ?_ ?_ _) | go_size)) hbx))
    go_wp2_with fail
    go_ret
    exact ⟨rfl, below_next BV.out (by assumption)⟩

set_option maxRecDepth 100000 in
theorem BitsShort_lifted (os : Os) (started : os.Started) (H : Type) (enc : TypeId × Value → H) :
    ReturnsInHanded {} Try.checked os 12 .any (Rows.bitsShortSpec.pre6 enc Try.prog Try.f12 Rows.bitsShortRow.domain false) (Rows.bitsShortSpec.post enc Try.prog Try.f12 false true false false) := by
  refine returnsInHanded_of_change (C := Try.checked) own started (by kernel_rfl) Try.func12
    (ChangeSpec.witness6 (enc := enc) (C := Try.checked) false ⟨#[], #[.agg #[.int .u64 0, .int .u64 0, .int .u64 0, .int .u64 0]], []⟩ 8 (by kernel_rfl) (by kernel_rfl) (by kernel_rfl) (by kernel_rfl)) ?_
  intro W base args ds gs before hval0 hW hcnd _
  have hval : ∀ (j : Nat) t v, Try.f12.params[j]? = some t → args[j]? = some v → Value.okWide Try.prog W .any base t v := hval0
  have hW' := hW
  obtain ⟨p, q, hA0, hV, rfl, hfz, hnd⟩ := hW
  have hA : DataW.TrodAll enc Try.prog W 0 (fun _ => true) true Try.f12.params.toList args.toList ds p := hA0
  rw [Try.params12] at hA hval
  obtain ⟨v0, vs0, d0, ds0, p0, q0, hargs, rfl, rfl, h0, r0⟩ := trodAll_cons hA
  obtain ⟨rfl, rfl, rfl⟩ := trodAll_nil r0
  obtain rfl : args = #[v0] := by cases args; simp_all
  obtain ⟨rfl, rfl⟩ := trodVars_none hV
  have k0 := h0
  have lt0 := trod_lt_of h0
  obtain ⟨a0, b0, rfl⟩ := open_num (hval 0 24 v0 rfl rfl) h0
  clear hA0 hval0
  refine (BitsShort_walk a0 b0 W).mono fun e W' ⟨he, bel⟩ => ?_
  subst he
  exact ⟨_, rfl, _, _, _, [], _, [], hW', trodAll_mk1 (shut_bool (by kernel_rfl) _), (trodAll_cons_mk (Below.trod laidOut (by kernel_rfl) (of_decide_eq_true (by kernel_rfl)) k0 bel lt0) trodAll_mk0), rfl, bel.frame _, fun h => by cases h⟩

theorem BitsShort_closed : joinedFacts Try.prog 12 Try.f12 Rows.bitsShortSpec Rows.bitsShortRow = true := by
  simp only [joinedFacts, Bool.and_eq_true]
  repeat' apply And.intro
  all_goals first
    | (with_reducible exact head_enter)
    | (rw [head_make]; kernel_rfl)
    | (rw [head_lift]; kernel_rfl)
    | kernel_rfl

theorem BitsShort_holds : Rows.BitsShortSaid :=
  OpenClaim.holds_of_wide 12 Try.f12 rfl rfl rfl rfl rfl rfl rfl ⟨rfl, rfl, rfl, rfl, rfl⟩ rfl rfl rfl rfl rfl (by kernel_rfl) Try.func12 BitsShort_closed
    (of_decide_eq_true (by kernel_rfl)) (by unfold Func.isWrapper; rw [if_neg (of_decide_eq_false (by kernel_rfl))]; exact ⟨rfl, rfl⟩)
    (fun os started H enc _ => BitsShort_lifted os started H enc)
end Go.Proofs.Ytdffblfofdniaaa
