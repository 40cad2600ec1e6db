/- The law NumTimes: so many times a number is it added so often. No condition. -/
import Derived.Test.YtdffblfofdniaaaNumLawA
import Derived.Test.YtdffblfofdniaaaNumOpen
import Derived.Test.YtdffblfofdniaaaHead
namespace Go.Proofs.Ytdffblfofdniaaa
open Go.ChangeShapes Go.WideShapes Go.ChangeAt Go.RowKit

theorem times_step (a k : Nat) :
    ((a * k % 2 ^ 256) + a) % 2 ^ 256 = a * (k + 1) % 2 ^ 256 ∧ (decide (2 ^ 256 ≤ a * k) || decide (2 ^ 256 ≤ a * k % 2 ^ 256 + a)) = decide (2 ^ 256 ≤ a * (k + 1)) := by
  rw [Nat.mul_succ]
  generalize a * k = m
  refine ⟨by omega, ?_⟩
  by_cases h : 2 ^ 256 ≤ m
  · rw [decide_eq_true h, decide_eq_true (by omega : 2 ^ 256 ≤ m + a)]; rfl
  · rw [decide_eq_false h, Nat.mod_eq_of_lt (by omega)]; rfl

set_option maxRecDepth 100000 in
set_option maxHeartbeats 4000000 in
theorem NumTimes_walk (a : Nat) (ha : a < 2 ^ 256) (n : Int) (_hn : (Lit.int .i64 n).wf = true) (w : World) :
    Calls Try.prog 9 #[nv a, .int .i64 n] w fun e w' => e = .returned (.bool true) ∧ Below w.heap.size w w' := by
  have HA := Lib.hid ha
  clear ha
  have B : Below w.heap.size w w := Below.refl _ _
  go_enter Try.func9, Try.ntmps9
  go_wp2_with fail
  have K0 := Lib.hid (heap_new w (nblk a))
  refine (counts_any _).mono ?_
  rintro e w1 ⟨rfl, hbw1⟩
  have K0' := Lib.hid (below_keep hbw1 (by first | exact K0.out | exact keep_alloc _ (K0.out) | exact keep_alloc _ (keep_alloc _ (K0.out)) | exact keep_alloc _ (keep_alloc _ (keep_alloc _ (K0.out))) | exact keep_alloc _ (keep_alloc _ (keep_alloc _ (keep_alloc _ (K0.out)))) | exact keep_alloc _ (keep_alloc _ (keep_alloc _ (keep_alloc _ (keep_alloc _ (K0.out)))))))
  have B' := below_next (w := w) (by repeat' (first | (with_reducible exact Below.refl _ _) | (with_reducible assumption) | (with_reducible refine below_alloc ?_ _) | (with_reducible refine Below.drew ?_) | (with_reducible refine below_drewN ?_ _) | (with_reducible refine Below.setCell ?_ ?_ _) | go_size)) hbw1
  clear hbw1 B K0
  have B := B'; clear B'
  have K0 := K0'; clear K0'
  obtain ⟨K0_0, K0_1, K0_2, K0_3, K0_f, K0_z⟩ := cells4 K0.out
  by_cases hlo : n < 0
  · go_wp2_with fail
    go_ret
    exact ⟨rfl, (by repeat' (first | (with_reducible exact Below.refl _ _) | (with_reducible assumption) | (with_reducible refine below_alloc ?_ _) | (with_reducible refine Below.drew ?_) | (with_reducible refine below_drewN ?_ _) | (with_reducible refine Below.setCell ?_ ?_ _) | go_size))⟩
  · by_cases hhi : 40 < n
    · go_wp2_with fail
      go_ret
      exact ⟨rfl, (by repeat' (first | (with_reducible exact Below.refl _ _) | (with_reducible assumption) | (with_reducible refine below_alloc ?_ _) | (with_reducible refine Below.drew ?_) | (with_reducible refine below_drewN ?_ _) | (with_reducible refine Below.setCell ?_ ?_ _) | go_size))⟩
    · obtain ⟨m, rfl⟩ := Int.eq_ofNat_of_zero_le (show 0 ≤ n by omega)
      go_wp2_with fail
      refine (mul_any a HA.out (m : Int) (by omega) (by omega) _).mono ?_
      rintro e w2 ⟨rfl, hbw2⟩
      have K0' := Lib.hid (below_keep hbw2 (by first | exact K0.out | exact keep_alloc _ (K0.out) | exact keep_alloc _ (keep_alloc _ (K0.out)) | exact keep_alloc _ (keep_alloc _ (keep_alloc _ (K0.out))) | exact keep_alloc _ (keep_alloc _ (keep_alloc _ (keep_alloc _ (K0.out)))) | exact keep_alloc _ (keep_alloc _ (keep_alloc _ (keep_alloc _ (keep_alloc _ (K0.out)))))))
      have B' := below_next (w := w) (by repeat' (first | (with_reducible exact Below.refl _ _) | (with_reducible assumption) | (with_reducible refine below_alloc ?_ _) | (with_reducible refine Below.drew ?_) | (with_reducible refine below_drewN ?_ _) | (with_reducible refine Below.setCell ?_ ?_ _) | go_size)) hbw2
      clear hbw2 B K0 K0_0 K0_1 K0_2 K0_3 K0_f K0_z
      have B := B'; clear B'
      have K0 := K0'; clear K0'
      obtain ⟨K0_0, K0_1, K0_2, K0_3, K0_f, K0_z⟩ := cells4 K0.out
      rw [Int.toNat_natCast]
      have A := alloc2 w2 (nblk (a * m % 2 ^ 256)) zblk
      have K1 := Lib.hid A.1; have K2 := Lib.hid A.2
      have hz1 : w.heap.size < w2.heap.size := K0_z
      have K0' := Lib.hid (keep_alloc zblk (keep_alloc (nblk (a * m % 2 ^ 256)) K0.out))
      clear A K0 K0_0 K0_1 K0_2 K0_3 K0_f K0_z
      have EM := Lib.hid (show decide (2 ^ 256 ≤ a * m) = decide (2 ^ 256 ≤ a * m) from rfl)
      generalize hO : decide (2 ^ 256 ≤ a * m) = O at *
      generalize hPr : a * m % 2 ^ 256 = Pr at *
      have HO := Lib.hid hO; have HPr := Lib.hid hPr
      clear hO hPr EM
      go_wp2_with fail
      go_loopw [8, 27] (fun ov ix wr => ∃ k : Nat, k ≤ m ∧ ix = .int .i64 k ∧ ov = .bool (decide (2 ^ 256 ≤ a * k)) ∧ wr.heap[w.heap.size]? = some (nblk a) ∧ wr.heap[w2.heap.size]? = some (nblk Pr) ∧ wr.heap[w2.heap.size + 1]? = some (nblk (a * k % 2 ^ 256)) ∧ Below w.heap.size w wr) (fun _ ix _ => m - (intOf ix).toNat)
      case atStart =>
        refine ⟨0, Nat.zero_le _, rfl, rfl, K0'.out, K1.out, ?_, (by repeat' (first | (with_reducible exact Below.refl _ _) | (with_reducible assumption) | (with_reducible refine below_alloc ?_ _) | (with_reducible refine Below.drew ?_) | (with_reducible refine below_drewN ?_ _) | (with_reducible refine Below.setCell ?_ ?_ _) | go_size))⟩
        rw [Nat.mul_zero, Nat.zero_mod]
        exact K2.out
      case round =>
        obtain ⟨k, hk, rfl, rfl, hr0, hr1, hr2, B⟩ := hrel
        have K0 := Lib.hid hr0; have K1 := Lib.hid hr1; have K2 := Lib.hid hr2
        clear hr0 hr1 hr2 K0'
        obtain ⟨K0_0, K0_1, K0_2, K0_3, K0_f, K0_z⟩ := cells4 K0.out
        obtain ⟨K1_0, K1_1, K1_2, K1_3, K1_f, K1_z⟩ := cells4 K1.out
        obtain ⟨K2_0, K2_1, K2_2, K2_3, K2_f, K2_z⟩ := cells4 K2.out
        have HE := Lib.hid (times_step a k)
        have HM := Lib.hid (Nat.mod_lt (a * k) (show 0 < 2 ^ 256 by omega))
        generalize hS : a * k % 2 ^ 256 = S at *
        have HS := Lib.hid hS; clear hS
        generalize hO2 : decide (2 ^ 256 ≤ a * k) = O2 at *
        have HO2 := Lib.hid hO2; clear hO2
        by_cases hlt : k < m
        · go_wp2_with fail
          refine (add2_any S a HM.out HA.out _ _ _ (heap_new _ _)).mono ?_
          rintro e w3 ⟨rfl, hbw3⟩
          have K0' := Lib.hid (below_keep hbw3 (by first | exact K0.out | exact keep_alloc _ (K0.out) | exact keep_alloc _ (keep_alloc _ (K0.out)) | exact keep_alloc _ (keep_alloc _ (keep_alloc _ (K0.out))) | exact keep_alloc _ (keep_alloc _ (keep_alloc _ (keep_alloc _ (K0.out)))) | exact keep_alloc _ (keep_alloc _ (keep_alloc _ (keep_alloc _ (keep_alloc _ (K0.out)))))))
          have K1' := Lib.hid (below_keep hbw3 (by first | exact K1.out | exact keep_alloc _ (K1.out) | exact keep_alloc _ (keep_alloc _ (K1.out)) | exact keep_alloc _ (keep_alloc _ (keep_alloc _ (K1.out))) | exact keep_alloc _ (keep_alloc _ (keep_alloc _ (keep_alloc _ (K1.out)))) | exact keep_alloc _ (keep_alloc _ (keep_alloc _ (keep_alloc _ (keep_alloc _ (K1.out)))))))
          have K2' := Lib.hid (below_keep hbw3 (by first | exact K2.out | exact keep_alloc _ (K2.out) | exact keep_alloc _ (keep_alloc _ (K2.out)) | exact keep_alloc _ (keep_alloc _ (keep_alloc _ (K2.out))) | exact keep_alloc _ (keep_alloc _ (keep_alloc _ (keep_alloc _ (K2.out)))) | exact keep_alloc _ (keep_alloc _ (keep_alloc _ (keep_alloc _ (keep_alloc _ (K2.out)))))))
          have B' := below_next (w := w) (by repeat' (first | (with_reducible exact Below.refl _ _) | (with_reducible assumption) | (with_reducible refine below_alloc ?_ _) | (with_reducible refine Below.drew ?_) | (with_reducible refine below_drewN ?_ _) | (with_reducible refine Below.setCell ?_ ?_ _) | go_size)) hbw3
          clear hbw3 B K0 K1 K2 K0_0 K0_1 K0_2 K0_3 K0_f K0_z K1_0 K1_1 K1_2 K1_3 K1_f K1_z K2_0 K2_1 K2_2 K2_3 K2_f K2_z
          have B := B'; clear B'
          have K0 := K0'; clear K0'
          obtain ⟨K0_0, K0_1, K0_2, K0_3, K0_f, K0_z⟩ := cells4 K0.out
          have K1 := K1'; clear K1'
          obtain ⟨K1_0, K1_1, K1_2, K1_3, K1_f, K1_z⟩ := cells4 K1.out
          have K2 := K2'; clear K2'
          obtain ⟨K2_0, K2_1, K2_2, K2_3, K2_f, K2_z⟩ := cells4 K2.out
          generalize (S + a) % 2 ^ 256 = S2 at *
          generalize decide (2 ^ 256 ≤ S + a) = o2 at *
          go_wp2_with fail
          all_goals
            go_roundw
            case rel =>
              refine ⟨k + 1, by omega, by go_num, ?_, ?_, ?_, ?_, (by repeat' (first | (with_reducible exact Below.refl _ _) | (with_reducible assumption) | (with_reducible refine below_alloc ?_ _) | (with_reducible refine Below.drew ?_) | (with_reducible refine below_drewN ?_ _) | (with_reducible refine Below.setCell ?_ ?_ _) | go_size))⟩
              · rw [← HE.out.2]
                first
                  | (have hO : O2 = true := by assumption
                     rw [hO]; rfl)
                  | (have hO : ¬ O2 = true := by assumption
                     rw [Bool.eq_false_iff.2 hO]; rfl)
              · exact (set4_other _ _ _ _ (by omega)).trans K0.out
              · exact (set4_other _ _ _ _ (by omega)).trans K1.out
              · rw [← HE.out.1]; exact set4 _ _ _ _ K2.out
            case measure => simp [intOf]; omega
        · have hkm : k = m := by omega
          subst hkm
          have e1 : S = Pr := HS.out.symm.trans HPr.out
          have e2 : O2 = O := HO2.out.symm.trans HO.out
          subst e1 e2
          have qe := eq_num S S HM.out HM.out
          have hd : decide (S = S) = true := decide_eq_true rfl
          go_wp2_with fail
          go_ret
          exact ⟨by simp, (by repeat' (first | (with_reducible exact Below.refl _ _) | (with_reducible assumption) | (with_reducible refine below_alloc ?_ _) | (with_reducible refine Below.drew ?_) | (with_reducible refine below_drewN ?_ _) | (with_reducible refine Below.setCell ?_ ?_ _) | go_size))⟩

set_option maxRecDepth 100000 in
theorem NumTimes_lifted (os : Os) (started : os.Started) (H : Type) (enc : TypeId × Value → H) :
    ReturnsInHanded {} Try.checked os 9 .any (Rows.numTimesSpec.pre6 enc Try.prog Try.f9 Rows.numTimesRow.domain false) (Rows.numTimesSpec.post enc Try.prog Try.f9 false true false false) := by
  refine returnsInHanded_of_change (C := Try.checked) own started (by kernel_rfl) Try.func9
    (ChangeSpec.witness6 (enc := enc) (C := Try.checked) false ⟨#[], #[.agg #[.int .u64 0, .int .u64 0, .int .u64 0, .int .u64 0], .int .i64 0], []⟩ 8 (by kernel_rfl) (by kernel_rfl) (by kernel_rfl) (by kernel_rfl)) ?_
  intro W base args ds gs before hval0 hW hcnd _
  have hval : ∀ (j : Nat) t v, Try.f9.params[j]? = some t → args[j]? = some v → Value.okWide Try.prog W .any base t v := hval0
  have hW' := hW
  obtain ⟨p, q, hA0, hV, rfl, hfz, hnd⟩ := hW
  have hA : DataW.TrodAll enc Try.prog W 0 (fun _ => true) true Try.f9.params.toList args.toList ds p := hA0
  rw [Try.params9] at hA hval
  obtain ⟨v0, vs0, d0, ds0, p0, q0, hargs, rfl, rfl, h0, r0⟩ := trodAll_cons hA
  obtain ⟨v1, vs1, d1, ds1, p1, q1, rfl, rfl, rfl, h1, r1⟩ := trodAll_cons r0
  obtain ⟨rfl, rfl, rfl⟩ := trodAll_nil r1
  obtain rfl : args = #[v0, v1] := by cases args; simp_all
  obtain ⟨rfl, rfl⟩ := trodVars_none hV
  have k0 := h0
  have lt0 := trod_lt_of h0
  obtain ⟨a0, b0, rfl⟩ := open_num (hval 0 24 v0 rfl rfl) h0
  have k1 := h1
  have lt1 := trod_lt_of h1
  obtain ⟨a1, rfl, rfl, rfl, b1⟩ := open_int Try.underlying3 (hval 1 3 v1 rfl rfl) h1
  clear hA0 hval0
  refine (NumTimes_walk a0 b0 a1 b1 W).mono fun e W' ⟨he, bel⟩ => ?_
  subst he
  exact ⟨_, rfl, _, _, _, [], _, [], hW', trodAll_mk1 (shut_bool (by kernel_rfl) _), (trodAll_cons_mk (Below.trod laidOut (by kernel_rfl) (of_decide_eq_true (by kernel_rfl)) k0 bel lt0) (trodAll_cons_mk (Below.trod laidOut (by kernel_rfl) (of_decide_eq_true (by kernel_rfl)) k1 bel lt1) trodAll_mk0)), rfl, bel.frame _, fun h => by cases h⟩

theorem NumTimes_closed : joinedFacts Try.prog 9 Try.f9 Rows.numTimesSpec Rows.numTimesRow = true := by
  simp only [joinedFacts, Bool.and_eq_true]
  repeat' apply And.intro
  all_goals first
    | (with_reducible exact head_enter)
    | (rw [head_make]; kernel_rfl)
    | (rw [head_lift]; kernel_rfl)
    | kernel_rfl

theorem NumTimes_holds : Rows.NumTimesSaid :=
  OpenClaim.holds_of_wide 9 Try.f9 rfl rfl rfl rfl rfl rfl rfl ⟨rfl, rfl, rfl, rfl, rfl⟩ rfl rfl rfl rfl rfl (by kernel_rfl) Try.func9 NumTimes_closed
    (of_decide_eq_true (by kernel_rfl)) (by unfold Func.isWrapper; rw [if_neg (of_decide_eq_false (by kernel_rfl))]; exact ⟨rfl, rfl⟩)
    (fun os started H enc _ => NumTimes_lifted os started H enc)
end Go.Proofs.Ytdffblfofdniaaa
