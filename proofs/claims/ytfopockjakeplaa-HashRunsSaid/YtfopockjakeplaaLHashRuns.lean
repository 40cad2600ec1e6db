/- The law HashRuns: so many bytes alike have the standard's sum. No condition. -/
import Derived.Test.YtfopockjakeplaaHashK
import Derived.Test.YtfopockjakeplaaRegInv
import Derived.Test.YtfopockjakeplaaRsH
import Derived.Test.YtfopockjakeplaaHead
import Derived.OwnWalk
namespace Go.Proofs.Ytfopockjakeplaa
open Go.ChangeShapes Go.WideShapes Go.ChangeAt Go.RowKit

/-- the first k of n bytes are x, the others nought -/
def runs (x n k : Nat) : List Nat := List.replicate k x ++ List.replicate (n - k) 0
theorem runs_len (x n k : Nat) (h : k ≤ n) : (runs x n k).length = n := by simp [runs]; omega
theorem runs_set (x n k : Nat) (h : k < n) : (runs x n k).set k x = runs x n (k + 1) := by
  unfold runs
  rw [List.set_append_right _ _ (by simp), List.length_replicate, Nat.sub_self, show n - k = (n - (k + 1)) + 1 by omega, List.replicate_succ, List.set_cons_zero, List.replicate_succ', List.append_assoc]
  rfl
theorem runs_byte {x n k : Nat} (hx : x < 256) : ∀ y ∈ runs x n k, y < 256 := by
  intro y hy
  simp only [runs, List.mem_append, List.mem_replicate] at hy
  rcases hy with ⟨_, rfl⟩ | ⟨_, rfl⟩ <;> omega
theorem Owns.made {w : World} {base g n : Nat} (h : w.ownsRow base 5 1 (.slice (some ⟨g, 0, none⟩) n n) n (madeCells (Value.int .u8 0).cells (n * 1)).toList) : Owns w base (.slice (some ⟨g, 0, none⟩) n n) (runs 0 n 0) := by
  have e : u8s (runs 0 n 0) = (madeCells (Value.int .u8 0).cells (n * 1)).toList := by
    rw [Nat.mul_one, show (Value.int .u8 0).cells = #[.int .u8 0] from rfl, toList_madeCells_one]
    simp [u8s, runs]
  unfold Owns
  rw [runs_len 0 n 0 (Nat.zero_le _), e]
  exact h

set_option maxRecDepth 100000 in
set_option maxHeartbeats 4000000 in
theorem HashRuns_walk (x : Int) (hx : (Lit.int .u8 x).wf = true) (i : Int) (_ : (Lit.int .i64 i).wf = true) (w : World) :
    Calls Try.prog 6 #[.int .u8 x, .int .i64 i] w fun e w' => e = .returned (.bool true) ∧ Below w.heap.size w w' := by
  have hx2 : 0 ≤ x ∧ x < 256 := by
    simp [Lit.wf, IntKind.min, IntKind.max, IntKind.signed, IntKind.bits] at hx
    omega
  obtain ⟨y, rfl⟩ := Int.eq_ofNat_of_zero_le hx2.1
  have hy : y < 256 := by omega
  clear hx hx2
  have B : Below w.heap.size w w := Below.refl _ _
  by_cases h0 : i < 0
  · go_enter Try.func6, Try.ntmps6
    go_wp2_with fail
    refine (known_any _).mono ?_
    rintro e w1 ⟨rfl, hb1⟩
    have B1 := below_next (w := w) (by repeat' (first | (with_reducible exact Below.refl _ _) | (with_reducible assumption) | (with_reducible refine below_alloc ?_ _) | (with_reducible refine Below.drew ?_) | (with_reducible refine below_drewN ?_ _) | (with_reducible refine Below.setCell ?_ ?_ _) | go_size)) hb1
    clear hb1 B
    go_wp2_with fail
    go_ret
    exact ⟨rfl, B1⟩
  · by_cases hc : 200 < i
    · go_enter Try.func6, Try.ntmps6
      go_wp2_with fail
      refine (known_any _).mono ?_
      rintro e w1 ⟨rfl, hb1⟩
      have B1 := below_next (w := w) (by repeat' (first | (with_reducible exact Below.refl _ _) | (with_reducible assumption) | (with_reducible refine below_alloc ?_ _) | (with_reducible refine Below.drew ?_) | (with_reducible refine below_drewN ?_ _) | (with_reducible refine Below.setCell ?_ ?_ _) | go_size)) hb1
      clear hb1 B
      go_wp2_with fail
      go_ret
      exact ⟨rfl, B1⟩
    · obtain ⟨n, rfl⟩ := Int.eq_ofNat_of_zero_le (show 0 ≤ i by omega)
      have hn : n ≤ 200 := by omega
      go_enter Try.func6, Try.ntmps6
      go_wp2_with fail
      refine (known_any _).mono ?_
      rintro e w1 ⟨rfl, hb1⟩
      have B1 := below_next (w := w) (by repeat' (first | (with_reducible exact Below.refl _ _) | (with_reducible assumption) | (with_reducible refine below_alloc ?_ _) | (with_reducible refine Below.drew ?_) | (with_reducible refine below_drewN ?_ _) | (with_reducible refine Below.setCell ?_ ?_ _) | go_size)) hb1
      clear hb1 B
      obtain ⟨i0, hi0, hz0, hz1, hz2⟩ := info_parts info_u8
      have HI := Lib.hid ((⟨hi0, hz0, hz1, hz2⟩ : _ ∧ _ ∧ _ ∧ _))
      clear hi0 hz0 hz1 hz2
      go_wp2_with (first | (refine wpList_make_full w1 rfl (.tmp 15) (.tmp 15) 22 rfl w1.heap.size 5 i0 (.int .u8 0) 1 underlying_u8s HI.out.1 HI.out.2.1 HI.out.2.2.1 .i64 .i64 n n n rfl rfl rfl rfl (by rw [HI.out.2.2.2]; omega) (by unfold maxLen; omega) (Nat.le_refl _) (fun w2 hown hgrow => ?_); have HO := Lib.hid (Owns.made hown); have B2 : Below w1.heap.size w1 w2 := (Below.refl _ _).grown hgrow (Nat.le_refl _) (fun j hj => by cases hj); clear hown hgrow))
      obtain ⟨g, hg⟩ : ∃ g, g = w1.heap.size := ⟨_, rfl⟩
      have HGE := Lib.hid hg
      rw [show Value.slice (some ⟨w1.heap.size, 0, none⟩) n n = .slice (some ⟨g, 0, none⟩) n n by rw [hg]] at HO
      rw [← hg]
      clear hg
      go_loopg [19] n (fun gg ix wr => ∃ k : Nat, gg = n - k ∧ k ≤ n ∧ ix = .int .i64 k ∧ Owns wr w1.heap.size (.slice (some ⟨g, 0, none⟩) n n) (runs y n k) ∧ Below w1.heap.size w1 wr)
      case atStart => exact ⟨0, rfl, by omega, rfl, by have := HO.out; simpa [runs] using this, B2⟩
      case round =>
        clear HO B2
        obtain ⟨k, hgg, hk, rfl, hO, B⟩ := hrel
        have HG := Lib.hid hgg; have HO := Lib.hid hO; have HB := Lib.hid B
        clear hgg hO B
        by_cases hlt : k < n
        · obtain ⟨g', e, hgb, hcell, hfr, hset, -⟩ := HO.out.set (runs_len y n k hk) hlt
          obtain rfl := (Addr.mk.inj (Option.some.inj e)).1
          have HS : Hid (Owns (wr.setCell ⟨g, k, none⟩ (.int .u8 (y : Int))) w1.heap.size (.slice (some ⟨g, 0, none⟩) n n) (runs y n (k + 1))) := Lib.hid (by rw [← runs_set y n k hlt]; exact hset y)
          clear hset e
          go_wp2_with fail
          go_roundg (n - (k + 1))
          case measure => have := HG.out; omega
          case rel => exact ⟨k + 1, rfl, by omega, by go_num, HS.out, Below.setCell HB.out hgb _⟩
        · obtain rfl : k = n := by omega
          clear hlt HG HGE
          go_wp2_with fail
          obtain ⟨W, hW⟩ : ∃ W, W = wr := ⟨_, rfl⟩
          rw [← hW] at HO HB
          rw [← hW]
          obtain ⟨q, hq⟩ : ∃ q, q = runs y k k := ⟨_, rfl⟩
          have HQB : Hid (∀ z ∈ q, z < 256) := Lib.hid (by rw [hq]; exact runs_byte hy)
          have hql : q.length = k := by rw [hq]; exact runs_len y k k (Nat.le_refl _)
          have HQL : Hid (q.length ≤ 100000) := Lib.hid (by omega)
          rw [← hq] at HO
          have HV := Lib.hid (HO.out.bytes' hql (Below.refl _ _))
          have cs := Lib.hid fun (V : World) g2 (hg : V.heap[g2]? = some (.cells #[.slice (some ⟨g, 0, none⟩) k k] 22 (0, 0))) (hb : Below W.heap.size W V) => sum_one _ q g2 22 1 V hg (HV.out.keep hb) HQB.out HQL.out
          have cr := Lib.hid fun V => refsum_any q HQB.out HQL.out V
          have cv := Lib.hid fun (V : World) (hb : Below W.heap.size W V) => run_str_at (HV.out.keep hb)
          obtain ⟨X, hX⟩ : ∃ X, X = sha q := ⟨_, rfl⟩
          obtain ⟨sq, hsq⟩ : ∃ sq, sq = str q := ⟨_, rfl⟩
          have qx : ∀ W, (Op.equalIn 10000 25 (iv X) (iv X)).run Try.prog W = .ok true W := by rw [hX]; exact eq_self _ (sha_lt q)
          rw [← hX] at cs cr
          rw [← hsq] at cr cv
          have BF := Lib.hid (below_next B1 HB.out)
          clear hX hsq hq hql HQB HQL HV HO HB B1 hW HI
          refine wp_region_by [Is (.slice (some ⟨g, 0, none⟩) k k), RowOf #[.slice (some ⟨g, 0, none⟩) k k] 22 1 1, Is (iv X), Is (.slice (some ⟨g, 0, none⟩) k k), Is (.string sq), Is (iv X), Is (.bool true), Is (.bool true)] [[], [(0, some 27)], [(1, some 28)], [], [(3, some 30)], [(4, some 31)], [(2, some 29), (5, some 32)], [(6, some 33)]] [(0, some 27), (1, some 28), (2, some 29), (3, some 30), (4, some 31), (5, some 32), (6, some 33), (7, some 4)] [0, 1, 3, 0, 8, 31, 63, 127]
            (by kernel_rfl) (by kernel_rfl) (by kernel_rfl) (by kernel_rfl) ⟨Is.kept _, RowOf.kept _ _ _ _, Is.kept _, Is.kept _, Is.kept _, Is.kept _, Is.kept _, Is.kept _, trivial⟩ ⟨?_, ?_, ?_, ?_, ?_, ?_, ?_, ?_, trivial⟩ ?_
          · as_aux_lemma =>
            refine fun w' hB => ?_
            show wpList _ _ _ _ _ _
            go_wp2_with fail
            exact ⟨.slice (some ⟨g, 0, none⟩) k k, rfl, rfl, Below.refl _ _⟩
          · as_aux_lemma =>
            refine fun w' hB v0 h0 => ?_
            obtain rfl := h0
            show wpList _ _ _ _ _ _
            go_wp2_with fail
            exact ⟨_, rfl, ⟨_, rfl, heap_new _ _⟩, below_alloc (Below.refl _ _) _⟩
          · as_aux_lemma =>
            refine fun w' hB v1 h1 => ?_
            obtain ⟨g1, rfl, hg1⟩ := h1
            show wpList _ _ _ _ _ _
            go_wp2_with fail
            refine (cs.out _ _ hg1 hB).mono ?_
            rintro e w2 ⟨rfl, hb2⟩
            go_wp2_with fail
            exact ⟨iv X, rfl, rfl, hb2⟩
          · as_aux_lemma =>
            refine fun w' hB => ?_
            show wpList _ _ _ _ _ _
            go_wp2_with fail
            exact ⟨.slice (some ⟨g, 0, none⟩) k k, rfl, rfl, Below.refl _ _⟩
          · as_aux_lemma =>
            refine fun w' hB v3 h3 => ?_
            obtain rfl := h3
            show wpList _ _ _ _ _ _
            have hcv := cv.out w' hB
            go_wp2_with fail
            exact ⟨.string sq, rfl, rfl, Below.refl _ _⟩
          · as_aux_lemma =>
            refine fun w' hB v4 h4 => ?_
            obtain rfl := h4
            show wpList _ _ _ _ _ _
            go_wp2_with fail
            refine (cr.out _).mono ?_
            rintro e w2 ⟨rfl, hb2⟩
            go_wp2_with fail
            exact ⟨iv X, rfl, rfl, hb2⟩
          · as_aux_lemma =>
            refine fun w' hB v2 h2 v5 h5 => ?_
            obtain rfl := h2
            obtain rfl := h5
            show wpList _ _ _ _ _ _
            go_wp2_with fail
            exact ⟨.bool true, rfl, rfl, Below.refl _ _⟩
          · as_aux_lemma =>
            refine fun w' hB v6 h6 => ?_
            obtain rfl := h6
            show wpList _ _ _ _ _ _
            go_wp2_with fail
            exact ⟨.bool true, rfl, rfl, Below.refl _ _⟩
          · refine fun w' hB v0 h0 v1 h1 v2 h2 v3 h3 v4 h4 v5 h5 v6 h6 v7 h7 => ?_
            obtain rfl := h7
            simp only [onP]
            go_simp
            clear h0 h1 h2 h3 h4 h5 h6
            go_wp2_with fail
            go_ret
            exact ⟨rfl, below_next BF.out hB⟩

set_option maxRecDepth 100000 in
theorem HashRuns_lifted (os : Os) (started : os.Started) (H : Type) (enc : TypeId × Value → H) :
    ReturnsInHanded {} Try.checked os 6 .any (Rows.hashRunsSpec.pre6 enc Try.prog Try.f6 Rows.hashRunsRow.domain false) (Rows.hashRunsSpec.post enc Try.prog Try.f6 false true false false) := by
  refine returnsInHanded_of_change (C := Try.checked) own started (by kernel_rfl) Try.func6
    (ChangeSpec.witness6 (enc := enc) (C := Try.checked) false ⟨#[], #[.int .u8 0, .int .i64 0], []⟩ 8 (by kernel_rfl) (by kernel_rfl) (by kernel_rfl) (by kernel_rfl)) ?_
  intro W base args ds gs before hval0 hW hcnd _
  have hval : ∀ (j : Nat) t v, Try.f6.params[j]? = some t → args[j]? = some v → Value.okWide Try.prog W .any base t v := hval0
  have hW' := hW
  obtain ⟨p, q, hA0, hV, rfl, hfz, hnd⟩ := hW
  have hA : DataW.TrodAll enc Try.prog W 0 (fun _ => true) true Try.f6.params.toList args.toList ds p := hA0
  rw [Try.params6] at hA hval
  obtain ⟨v0, vs0, d0, ds0, p0, q0, hargs, rfl, rfl, h0, r0⟩ := trodAll_cons hA
  obtain ⟨v1, vs1, d1, ds1, p1, q1, rfl, rfl, rfl, h1, r1⟩ := trodAll_cons r0
  obtain ⟨rfl, rfl, rfl⟩ := trodAll_nil r1
  obtain rfl : args = #[v0, v1] := by cases args; simp_all
  obtain ⟨rfl, rfl⟩ := trodVars_none hV
  have k0 := h0
  have lt0 := trod_lt_of h0
  obtain ⟨a0, rfl, rfl, rfl, b0⟩ := open_int Try.underlying5 (hval 0 5 v0 rfl rfl) h0
  have k1 := h1
  have lt1 := trod_lt_of h1
  obtain ⟨a1, rfl, rfl, rfl, b1⟩ := open_int Try.underlying3 (hval 1 3 v1 rfl rfl) h1
  clear hA0 hval0
  refine (HashRuns_walk a0 b0 a1 b1 W).mono fun e W' ⟨he, bel⟩ => ?_
  subst he
  exact ⟨_, rfl, _, _, _, [], _, [], hW', trodAll_mk1 (shut_bool (by kernel_rfl) _), (trodAll_cons_mk (Below.trod laidOut (by kernel_rfl) (of_decide_eq_true (by kernel_rfl)) k0 bel lt0) (trodAll_cons_mk (Below.trod laidOut (by kernel_rfl) (of_decide_eq_true (by kernel_rfl)) k1 bel lt1) trodAll_mk0)), rfl, bel.frame _, fun h => by cases h⟩

theorem HashRuns_closed : joinedFacts Try.prog 6 Try.f6 Rows.hashRunsSpec Rows.hashRunsRow = true := by
  simp only [joinedFacts, Bool.and_eq_true]
  repeat' apply And.intro
  all_goals first
    | (with_reducible exact head_enter)
    | (rw [head_make]; kernel_rfl)
    | (rw [head_lift]; kernel_rfl)
    | kernel_rfl

theorem HashRuns_holds : Rows.HashRunsSaid :=
  OpenClaim.holds_of_wide 6 Try.f6 rfl rfl rfl rfl rfl rfl rfl ⟨rfl, rfl, rfl, rfl, rfl⟩ rfl rfl rfl rfl rfl (by kernel_rfl) Try.func6 HashRuns_closed
    (of_decide_eq_true (by kernel_rfl)) (by unfold Func.isWrapper; rw [if_neg (of_decide_eq_false (by kernel_rfl))]; exact ⟨rfl, rfl⟩)
    (fun os started H enc _ => HashRuns_lifted os started H enc)
end Go.Proofs.Ytfopockjakeplaa
