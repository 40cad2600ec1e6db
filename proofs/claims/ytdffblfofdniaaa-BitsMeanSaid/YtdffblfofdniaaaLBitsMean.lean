/- The law BitsMean: what any short bits mean, or that they mean nothing, and how much work. No condition. -/
import Derived.Test.YtdffblfofdniaaaBtMeans
import Derived.Test.YtdffblfofdniaaaRtC
import Derived.Test.YtdffblfofdniaaaBtNext
import Derived.Test.YtdffblfofdniaaaNumOpen
import Derived.Test.YtdffblfofdniaaaHead
namespace Go.Proofs.Ytdffblfofdniaaa
open Go.ChangeShapes Go.WideShapes Go.ChangeAt Go.RowKit

theorem work_places (t k : Nat) (hk : 256 < k) : 2 ^ 256 / (t + 1) < 2 ^ k := Nat.lt_of_le_of_lt (Nat.div_le_self _ _) (Nat.pow_lt_pow_right (by omega) hk)

set_option maxRecDepth 100000 in
set_option maxHeartbeats 4000000 in
theorem BitsMean_walk (b : Int) (hb : (Lit.int .u32 b).wf = true) (w : World) :
    Calls Try.prog 11 #[.int .u32 b] w fun e w' => e = .returned (.bool true) ∧ Below w.heap.size w w' := by
  have hb2 : 0 ≤ b ∧ b ≤ 4294967295 := by simpa [Lit.wf, IntKind.min, IntKind.max, IntKind.signed, IntKind.bits] using hb
  obtain ⟨n, rfl⟩ := Int.eq_ofNat_of_zero_le hb2.1
  have hn : n < 4294967296 := by omega
  have HT := Lib.hid (tgt_lt n)
  have ct := Lib.hid fun w => target_any n hn w
  have cr := Lib.hid fun w => reftarget_any n hn w
  have ht0 := @tgt_not n
  obtain ⟨o, ho⟩ : ∃ o, o = (tgt n).2 := ⟨_, rfl⟩
  obtain ⟨t, htt⟩ : ∃ t, t = (tgt n).1 := ⟨_, rfl⟩
  have he : tgt n = (t, o) := by rw [ho, htt]
  rw [he] at ct cr HT ht0
  clear ho htt he hb hb2 hn
  have B : Below w.heap.size w w := Below.refl _ _
  go_enter Try.func11, Try.ntmps11
  go_wp2_with fail
  refine (means_any _).mono ?_
  rintro e w1 ⟨rfl, hb1⟩
  have B1 := below_next B hb1
  clear hb1 B
  go_wp2_with fail
  refine (ct.out _).mono ?_
  rintro e w2 ⟨rfl, hb2⟩
  have B2 := below_next B1 hb2
  have K0 := Lib.hid (heap_new w2 (nblk t))
  clear hb2 B1 ct
  go_wp2_with fail
  refine (cr.out _).mono ?_
  rintro e w3 ⟨v, L, rfl, hv, hb3⟩
  have K1 := Lib.hid (below_keep hb3 K0.out)
  have B3 := below_next (w := w) (by repeat' (first | (with_reducible exact Below.refl _ _) | (with_reducible assumption) | (with_reducible refine below_alloc ?_ _) | (with_reducible refine Below.drew ?_) | (with_reducible refine below_drewN ?_ _) | (with_reducible refine Below.setCell ?_ ?_ _) | go_size)) hb3
  clear hb3 B2 cr K0
  obtain ⟨K1_0, K1_1, K1_2, K1_3, K1_f, K1_z⟩ := cells4 K1.out
  cases o
  · have ht : t = 0 := ht0 rfl
    subst ht
    clear ht0 hv
    go_wp2_with fail
    refine (zero_any 0 (by omega) _).mono ?_
    rintro e w4 ⟨rfl, hb4⟩
    have B4 := below_next B3 hb4
    clear hb4 B3
    go_wp2_with fail
    go_ret
    exact ⟨rfl, B4⟩
  · obtain ⟨hv1, hv2, hv3⟩ := hv rfl
    have HV := Lib.hid hv1; have HV2 := Lib.hid hv2; have HV3 := Lib.hid hv3
    clear hv hv1 hv2 hv3 ht0
    go_wp2_with fail
    refine (is3_any t HT.out _ v t L HV2.out (by have := HV3.out; omega) (Nat.mod_eq_of_lt HT.out).symm _ HV.out).mono ?_
    rintro e w4 ⟨rfl, hb4⟩
    have K2 := Lib.hid (below_keep hb4 K1.out)
    have HW := Lib.hid (HV.out.keep hb4)
    have B4 := below_next B3 hb4
    clear hb4 B3 HV K1 K1_0 K1_1 K1_2 K1_3 K1_f K1_z
    obtain ⟨K2_0, K2_1, K2_2, K2_3, K2_f, K2_z⟩ := cells4 K2.out
    go_wp2_with fail
    refine (work_any t HT.out _).mono ?_
    rintro e w5 ⟨rfl, hb5⟩
    have HW2 := Lib.hid (HW.out.keep hb5)
    have B5 := below_next B4 hb5
    clear hb5 B4 HW K2 K2_0 K2_1 K2_2 K2_3 K2_f K2_z
    go_wp2_with fail
    refine (refwork_any _ v t L HT.out HV2.out HV3.out _ HW2.out).mono ?_
    rintro e w6 ⟨x, rfl, hx, hb6⟩
    have HX := Lib.hid hx
    have B6 := below_next B5 hb6
    clear hb6 B5 HW2 hx
    have hwm := wrk_mod t HT.out
    have hwl : wrk t < 2 ^ 256 := by rw [hwm]; exact Nat.mod_lt _ (by omega)
    have hql := work_places t 512 (by decide)
    generalize wrk t = W at *
    have HWM := Lib.hid hwm; have HWL := Lib.hid hwl; have HQL := Lib.hid hql
    clear hwm hwl hql
    go_wp2_with fail
    refine (is3_any W HWL.out _ x _ 512 HQL.out (by omega) HWM.out _ HX.out).mono ?_
    rintro e w7 ⟨rfl, hb7⟩
    have B7 := below_next B6 hb7
    clear hb7 B6 HX
    go_wp2_with fail
    go_ret
    exact ⟨rfl, B7⟩

set_option maxRecDepth 100000 in
theorem BitsMean_lifted (os : Os) (started : os.Started) (H : Type) (enc : TypeId × Value → H) :
    ReturnsInHanded {} Try.checked os 11 .any (Rows.bitsMeanSpec.pre6 enc Try.prog Try.f11 Rows.bitsMeanRow.domain false) (Rows.bitsMeanSpec.post enc Try.prog Try.f11 false true false false) := by
  refine returnsInHanded_of_change (C := Try.checked) own started (by kernel_rfl) Try.func11
    (ChangeSpec.witness6 (enc := enc) (C := Try.checked) false ⟨#[], #[.int .u32 0], []⟩ 8 (by kernel_rfl) (by kernel_rfl) (by kernel_rfl) (by kernel_rfl)) ?_
  intro W base args ds gs before hval0 hW hcnd _
  have hval : ∀ (j : Nat) t v, Try.f11.params[j]? = some t → args[j]? = some v → Value.okWide Try.prog W .any base t v := hval0
  have hW' := hW
  obtain ⟨p, q, hA0, hV, rfl, hfz, hnd⟩ := hW
  have hA : DataW.TrodAll enc Try.prog W 0 (fun _ => true) true Try.f11.params.toList args.toList ds p := hA0
  rw [Try.params11] at hA hval
  obtain ⟨v0, vs0, d0, ds0, p0, q0, hargs, rfl, rfl, h0, r0⟩ := trodAll_cons hA
  obtain ⟨rfl, rfl, rfl⟩ := trodAll_nil r0
  obtain rfl : args = #[v0] := by cases args; simp_all
  obtain ⟨rfl, rfl⟩ := trodVars_none hV
  have k0 := h0
  have lt0 := trod_lt_of h0
  obtain ⟨a0, rfl, rfl, rfl, b0⟩ := open_int Try.underlying62 (hval 0 62 v0 rfl rfl) h0
  clear hA0 hval0
  refine (BitsMean_walk a0 b0 W).mono fun e W' ⟨he, bel⟩ => ?_
  subst he
  exact ⟨_, rfl, _, _, _, [], _, [], hW', trodAll_mk1 (shut_bool (by kernel_rfl) _), (trodAll_cons_mk (Below.trod laidOut (by kernel_rfl) (of_decide_eq_true (by kernel_rfl)) k0 bel lt0) trodAll_mk0), rfl, bel.frame _, fun h => by cases h⟩

theorem BitsMean_closed : joinedFacts Try.prog 11 Try.f11 Rows.bitsMeanSpec Rows.bitsMeanRow = true := by
  simp only [joinedFacts, Bool.and_eq_true]
  repeat' apply And.intro
  all_goals first
    | (with_reducible exact head_enter)
    | (rw [head_make]; kernel_rfl)
    | (rw [head_lift]; kernel_rfl)
    | kernel_rfl

theorem BitsMean_holds : Rows.BitsMeanSaid :=
  OpenClaim.holds_of_wide 11 Try.f11 rfl rfl rfl rfl rfl rfl rfl ⟨rfl, rfl, rfl, rfl, rfl⟩ rfl rfl rfl rfl rfl (by kernel_rfl) Try.func11 BitsMean_closed
    (of_decide_eq_true (by kernel_rfl)) (by unfold Func.isWrapper; rw [if_neg (of_decide_eq_false (by kernel_rfl))]; exact ⟨rfl, rfl⟩)
    (fun os started H enc _ => BitsMean_lifted os started H enc)
end Go.Proofs.Ytdffblfofdniaaa
