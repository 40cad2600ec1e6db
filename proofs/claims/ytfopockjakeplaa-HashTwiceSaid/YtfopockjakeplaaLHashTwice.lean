/- The law HashTwice: twice is the sum of the sum. No condition. -/
import Derived.Test.YtfopockjakeplaaHashK
import Derived.Test.YtfopockjakeplaaHead
namespace Go.Proofs.Ytfopockjakeplaa
open Go.ChangeShapes Go.WideShapes Go.ChangeAt Go.RowKit

set_option maxRecDepth 100000 in
set_option maxHeartbeats 4000000 in
theorem HashTwice_walk (v : Value) (l : List Nat) (hl : ∀ y ∈ l, y < 256) (w : World) (hv : BytesIn w v l) :
    Calls Try.prog 5 #[v] w fun e w' => e = .returned (.bool true) ∧ Below w.heap.size w w' := by
  have HV := Lib.hid hv
  obtain ⟨x, c, rfl⟩ := hv.shape
  clear hv
  obtain ⟨n, hn⟩ : ∃ n, n = l.length := ⟨_, rfl⟩
  rw [← hn]
  have HN := Lib.hid hn
  rw [← hn] at HV
  clear hn
  have B : Below w.heap.size w w := Below.refl _ _
  go_enter Try.func5, Try.ntmps5
  go_wp2_with fail
  refine (known_any _).mono ?_
  rintro e w1 ⟨rfl, hb1⟩
  have B1 := below_next (w := w) (by repeat' (first | (with_reducible exact Below.refl _ _) | (with_reducible assumption) | (with_reducible refine below_alloc ?_ _) | (with_reducible refine Below.drew ?_) | (with_reducible refine below_drewN ?_ _) | (with_reducible refine Below.setCell ?_ ?_ _) | go_size)) hb1
  clear hb1 B
  by_cases h3 : 3000 < n
  · have h3' : (3000 : Int) < (n : Int) := by omega
    go_wp2_with fail
    go_ret
    exact ⟨rfl, B1⟩
  · have h3' : ¬ (3000 : Int) < (n : Int) := by omega
    go_wp2_with fail
    have HLL : Hid (l.length ≤ 100000) := Lib.hid (by have := HN.out; omega)
    have HV1 := Lib.hid (HV.out.at.keep B1)
    clear HV
    have c1 := Lib.hid fun (W : World) g (hg : W.heap[g]? = some (.cells #[.slice x n c] 22 (0, 0))) (hb : Below w1.heap.size w1 W) => sum_one _ l g 22 1 W hg (HV1.out.keep hb) hl HLL.out
    have c2 := Lib.hid fun (W : World) g (hg : W.heap[g]? = some (.cells #[.slice x n c] 22 (0, 0))) (hb : Below w1.heap.size w1 W) => twice_one _ l g 22 1 W hg (HV1.out.keep hb) hl HLL.out
    obtain ⟨q, hq⟩ : ∃ q, q = sha l := ⟨_, rfl⟩
    have et : tw l = sha (idb q) := by rw [hq]; rfl
    have HQ : Hid (q < 2 ^ 256) := Lib.hid (by rw [hq]; exact sha_lt l)
    rw [← hq] at c1
    rw [et] at c2
    clear hq et hl HN HLL HV1
    have HZ := Lib.hid B1
    clear B1
    have B : Below w1.heap.size w1 w1 := Below.refl _ _
    refine (c1.out _ _ (heap_new_at rfl) (below_alloc B _)).mono ?_
    rintro e w2 ⟨rfl, hb2⟩
    have B2 := below_next (w := w1) (below_alloc B _) hb2
    clear hb2 B c1
    have ei := iblk_lit
    go_wp2_with (first | refine wpList_store_id rfl (.tmp 3) (.tmp 11) rfl w2.heap.size 0 q rfl rfl (heap_new w2 _) (fun w3 h1 h2 h3 h4 => ?_))
    have K := Lib.hid h1
    have B3 := h4 w1.heap.size w1 B2.size (below_alloc B2 _)
    obtain ⟨g, hg⟩ : ∃ g, g = w2.heap.size := ⟨_, rfl⟩
    rw [← hg] at K
    rw [← hg]
    clear h1 h2 h3 h4 hg B2 ei
    have qa := eq_self (sha (idb q)) (sha_lt _)
    have c3 := Lib.hid fun (W : World) g2 (hg : W.heap[g2]? = some (.cells #[.slice (some ⟨g, 0, none⟩) 32 32] 22 (0, 0))) (hb : W.heap[g]? = some (iblk q)) => sum_one _ (idb q) g2 22 1 W hg (idb_at hb 32) (idb_byte q) (by rw [idb_len]; omega)
    obtain ⟨W, hW⟩ : ∃ W, W = w3 := ⟨_, rfl⟩
    rw [← hW] at K B3
    rw [← hW]
    clear hW
    have c2' := Lib.hid fun (V : World) g (hg : V.heap[g]? = some (.cells #[.slice x n c] 22 (0, 0))) (hb : Below W.heap.size W V) => c2.out V g hg (below_next B3 hb)
    have BF := Lib.hid (below_next HZ.out B3)
    clear c2 B3 HZ
    generalize sha (idb q) = X at *
    have B : Below W.heap.size W W := Below.refl _ _
    have k1 := K.out
    as_aux_lemma =>
     go_region_with (first | (go_at_call 19; refine (c2'.out _ _ (by repeat' (first | (with_reducible assumption) | (refine heap_new_at ?_; first | (with_reducible rfl) | (simp; done)) | (refine keep_alloc _ ?_) | (refine below_keep (by assumption) ?_))) (by repeat' (first | (with_reducible exact Below.refl _ _) | (with_reducible assumption) | (with_reducible refine below_alloc ?_ _) | (with_reducible refine Below.drew ?_) | (with_reducible refine below_drewN ?_ _)))).mono ?_; rintro e wx ⟨rfl, hb0⟩; have hS := below_next (w := W) (by repeat' (first | (with_reducible exact Below.refl _ _) | (with_reducible assumption) | (with_reducible refine below_alloc ?_ _) | (with_reducible refine Below.drew ?_) | (with_reducible refine below_drewN ?_ _))) hb0; have hb := hb0; clear hb0) | (go_at_call 17; refine (c3.out _ _ (by repeat' (first | (with_reducible assumption) | (refine heap_new_at ?_; first | (with_reducible rfl) | (simp; done)) | (refine keep_alloc _ ?_) | (refine below_keep (by assumption) ?_))) (by repeat' (first | (with_reducible assumption) | (refine heap_new_at ?_; first | (with_reducible rfl) | (simp; done)) | (refine keep_alloc _ ?_) | (refine below_keep (by assumption) ?_)))).mono ?_; rintro e wx ⟨rfl, hb0⟩; have hS := below_next (w := W) (by repeat' (first | (with_reducible exact Below.refl _ _) | (with_reducible assumption) | (with_reducible refine below_alloc ?_ _) | (with_reducible refine Below.drew ?_) | (with_reducible refine below_drewN ?_ _))) hb0; have hb := hb0; clear hb0))
     all_goals
      go_wp2_with fail
      go_ret
      exact ⟨rfl, below_next BF.out (by assumption)⟩

set_option maxRecDepth 100000 in
theorem HashTwice_lifted (os : Os) (started : os.Started) (H : Type) (enc : TypeId × Value → H) :
    ReturnsInHanded {} Try.checked os 5 .any (Rows.hashTwiceSpec.pre6 enc Try.prog Try.f5 Rows.hashTwiceRow.domain false) (Rows.hashTwiceSpec.post enc Try.prog Try.f5 false true false false) := by
  refine returnsInHanded_of_change (C := Try.checked) own started (by kernel_rfl) Try.func5
    (ChangeSpec.witness6 (enc := enc) (C := Try.checked) false ⟨#[], #[.slice none 0 0], []⟩ 8 (by kernel_rfl) (by kernel_rfl) (by kernel_rfl) (by kernel_rfl)) ?_
  intro W base args ds gs before hval0 hW hcnd _
  have hval : ∀ (j : Nat) t v, Try.f5.params[j]? = some t → args[j]? = some v → Value.okWide Try.prog W .any base t v := hval0
  have hW' := hW
  obtain ⟨p, q, hA0, hV, rfl, hfz, hnd⟩ := hW
  have hA : DataW.TrodAll enc Try.prog W 0 (fun _ => true) true Try.f5.params.toList args.toList ds p := hA0
  rw [Try.params5] at hA hval
  obtain ⟨v0, vs0, d0, ds0, p0, q0, hargs, rfl, rfl, h0, r0⟩ := trodAll_cons hA
  obtain ⟨rfl, rfl, rfl⟩ := trodAll_nil r0
  obtain rfl : args = #[v0] := by cases args; simp_all
  obtain ⟨rfl, rfl⟩ := trodVars_none hV
  have k0 := h0
  have lt0 := trod_lt_of h0
  obtain ⟨l0, b0, c0⟩ := open_bytes (hval 0 22 v0 rfl rfl) h0
  clear hA0 hval0
  refine (HashTwice_walk v0 l0 b0 W c0).mono fun e W' ⟨he, bel⟩ => ?_
  subst he
  exact ⟨_, rfl, _, _, _, [], _, [], hW', trodAll_mk1 (shut_bool (by kernel_rfl) _), (trodAll_cons_mk (Below.trod laidOut (by kernel_rfl) (of_decide_eq_true (by kernel_rfl)) k0 bel lt0) trodAll_mk0), rfl, bel.frame _, fun h => by cases h⟩

theorem HashTwice_closed : joinedFacts Try.prog 5 Try.f5 Rows.hashTwiceSpec Rows.hashTwiceRow = true := by
  simp only [joinedFacts, Bool.and_eq_true]
  repeat' apply And.intro
  all_goals first
    | (with_reducible exact head_enter)
    | (rw [head_make]; kernel_rfl)
    | (rw [head_lift]; kernel_rfl)
    | kernel_rfl

theorem HashTwice_holds : Rows.HashTwiceSaid :=
  OpenClaim.holds_of_wide 5 Try.f5 rfl rfl rfl rfl rfl rfl rfl ⟨rfl, rfl, rfl, rfl, rfl⟩ rfl rfl rfl rfl rfl (by kernel_rfl) Try.func5 HashTwice_closed
    (of_decide_eq_true (by kernel_rfl)) (by unfold Func.isWrapper; rw [if_neg (of_decide_eq_false (by kernel_rfl))]; exact ⟨rfl, rfl⟩)
    (fun os started H enc _ => HashTwice_lifted os started H enc)
end Go.Proofs.Ytfopockjakeplaa
