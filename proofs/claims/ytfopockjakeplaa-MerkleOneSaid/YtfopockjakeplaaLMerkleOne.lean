/- The law MerkleOne: two lists of as many sums that have one root are the same, or two unlike pairs that were summed have one sum. No condition. -/
import Derived.Test.YtfopockjakeplaaMkO
import Derived.Test.YtfopockjakeplaaHead
namespace Go.Proofs.Ytfopockjakeplaa
open Go.ChangeShapes Go.WideShapes Go.ChangeAt Go.RowKit

theorem eqt_step {a b : List Nat} {n k : Nat} (ha : n = a.length) (hb : n = b.length) (hk : k < n) : decide (a.take (k + 1) = b.take (k + 1)) = (decide (a.take k = b.take k) && decide (a.getD k 0 = b.getD k 0)) := by
  have e1 : a.take (k + 1) = a.take k ++ [a.getD k 0] := by rw [List.take_add_one]; simp [List.getElem?_eq_getElem (show k < a.length by omega)]
  have e2 : b.take (k + 1) = b.take k ++ [b.getD k 0] := by rw [List.take_add_one]; simp [List.getElem?_eq_getElem (show k < b.length by omega)]
  rw [e1, e2, Bool.eq_iff_iff]
  simp only [decide_eq_true_eq, Bool.and_eq_true]
  constructor
  · intro h
    have := List.append_inj h (by rw [List.length_take, List.length_take]; omega)
    exact ⟨this.1, by simpa using this.2⟩
  · rintro ⟨h1, h2⟩
    rw [h1, h2]

set_option maxRecDepth 100000 in
set_option maxHeartbeats 4000000 in
theorem MerkleOne_walk (x : Option Addr) (cap : Nat) (a : List Nat) (ha : ∀ y ∈ a, y < 2 ^ 256) (y : Option Addr) (cap2 : Nat) (b : List Nat) (hb : ∀ y ∈ b, y < 2 ^ 256) (w : World) (hc : a.length ≤ cap) (_hm : cap ≤ maxLen) (_hz : x = none → a = [] ∧ cap = 0) (hx : a ≠ [] → ∃ b o, x = some ⟨b, o, none⟩ ∧ b < w.heap.size ∧ IdsAt w b o a)
    (hc2 : b.length ≤ cap2) (_hm2 : cap2 ≤ maxLen) (_hz2 : y = none → b = [] ∧ cap2 = 0) (hy : b ≠ [] → ∃ g o, y = some ⟨g, o, none⟩ ∧ g < w.heap.size ∧ IdsAt w g o b) :
    Calls Try.prog 12 #[.slice x a.length cap, .slice y b.length cap2] w fun e w' => e = .returned (.bool true) ∧ Below w.heap.size w w' := by
  have HX := Lib.hid hx; have HA := Lib.hid ha; have HY := Lib.hid hy; have HBL := Lib.hid hb; have HZ := Lib.hid _hz; have HZ2 := Lib.hid _hz2
  obtain ⟨n, hnn⟩ : ∃ n, n = a.length := ⟨_, rfl⟩
  obtain ⟨m, hmm⟩ : ∃ m, m = b.length := ⟨_, rfl⟩
  rw [← hnn] at hc
  rw [← hnn, ← hmm]
  rw [← hmm] at hc2
  have HN := Lib.hid hnn; have HM := Lib.hid hmm
  clear hnn hmm hx ha hy hb _hz _hz2
  have B : Below w.heap.size w w := Below.refl _ _
  go_enter Try.func12, Try.ntmps12
  go_wp2_with fail
  refine (joins_any _).mono ?_
  rintro e w1 ⟨rfl, hb1⟩
  have B1 : Below w.heap.size w w1 := below_next B hb1
  clear hb1 B
  by_cases hnm : n = m
  · by_cases h16 : 16 < n
    · have h16' : (16 : Int) < (n : Int) := by omega
      have hnm' : (n : Int) = (m : Int) := by omega
      go_wp2_with fail
      go_ret
      exact ⟨rfl, B1⟩
    · have h16' : ¬ (16 : Int) < (n : Int) := by omega
      have HXI := Lib.hid fun h => (HX.out h).elim fun g h => h.elim fun o h => (⟨g, o, h.1, h.2.2.keep B1⟩ : ∃ g o, x = some ⟨g, o, none⟩ ∧ IdsAt w1 g o a)
      have HYI := Lib.hid fun h => (HY.out h).elim fun g h => h.elim fun o h => (⟨g, o, h.1, h.2.2.keep B1⟩ : ∃ g o, y = some ⟨g, o, none⟩ ∧ IdsAt w1 g o b)
      have HN16 := Lib.hid (show a.length ≤ 16 ∧ b.length ≤ 16 by rw [← HN.out, ← HM.out]; omega)
      have BW := Lib.hid B1
      obtain rfl : n = m := hnm
      clear B1
      have c0 := Lib.hid fun (W : World) (hb : Below w1.heap.size w1 W) => root_any x cap a HA.out (by have := HN16.out; omega) W HZ.out fun h => (HXI.out h).elim fun g h => h.elim fun o h => ⟨g, o, h.1, h.2.keep hb⟩
      have c2 := Lib.hid fun (W : World) (hb : Below w1.heap.size w1 W) => root_any y cap2 b HBL.out (by have := HN16.out; omega) W HZ2.out fun h => (HYI.out h).elim fun g h => h.elim fun o h => ⟨g, o, h.1, h.2.keep hb⟩
      rw [← HN.out] at c0
      rw [← HM.out] at c2
      obtain ⟨R, hR⟩ : ∃ R, R = (Mroot a).1 := ⟨_, rfl⟩
      obtain ⟨S, hS⟩ : ∃ S, S = (Mroot b).1 := ⟨_, rfl⟩
      obtain ⟨F, hF⟩ : ∃ F, F = (Mroot a).2 := ⟨_, rfl⟩
      obtain ⟨G, hG⟩ : ∃ G, G = (Mroot b).2 := ⟨_, rfl⟩
      have q1 := eq_id R S (by rw [hR]; exact mroot_lt _ a _ HA.out) (by rw [hS]; exact mroot_lt _ b _ HBL.out)
      rw [← hR, ← hF] at c0
      rw [← hS, ← hG] at c2
      have HRS : Hid (R = S → clash a.length a b = true ∨ a = b) := Lib.hid fun e => by
        cases hcl : clash a.length a b
        · right
          exact clash_eq a.length a b false false (by rw [← HN.out, ← HM.out]) (by omega) hcl (by rw [hR, hS] at e; unfold Mroot at e; rw [show b.length = a.length by rw [← HN.out, ← HM.out]] at e; exact e)
        · left; rfl
      obtain ⟨d, hd⟩ : ∃ d, d = decide (R = S) := ⟨_, rfl⟩
      rw [← hd] at q1
      have HD := Lib.hid hd
      clear hR hS hF hG hd
      have B1 : Below w1.heap.size w1 w1 := Below.refl _ _
      go_wp2_with fail
      rw [decide_eq_false (show ¬ (16 : Int) < (n : Int) by omega)]
      have ez := iblk_lit
      refine (c0.out _ B1).mono ?_
      rintro e w2 ⟨rfl, hb⟩
      have B2 := Lib.hid (below_alloc hb (iblk 0))
      have h12 : w1.heap.size ≤ w2.heap.size := hb.size
      clear hb B1
      go_wp2_with (first | (refine wpList_store_id rfl (.tmp 5) (.tmp 26) rfl w2.heap.size 0 R rfl rfl (heap_new _ _) (fun w3 h1 h2 h3 h4 => ?_); have K5 := Lib.hid h1; have B3 := Lib.hid (h4 w1.heap.size w1 h12 B2.out); clear h1 h2 h3 h4))
      refine (c2.out _ B3.out).mono ?_
      rintro e w4 ⟨rfl, hb⟩
      have K5b := Lib.hid (keep_alloc (iblk 0) (below_keep hb K5.out))
      have B4 := Lib.hid (below_alloc (below_next B3.out hb) (iblk 0))
      have h24 : w2.heap.size < w4.heap.size := block_lt (below_keep hb K5.out)
      clear hb K5 B2 B3
      cases d
      · go_wp2_with (first | (refine wpList_store_id rfl (.tmp 7) (.tmp 31) rfl w4.heap.size 0 S rfl rfl (heap_new _ _) (fun w5 h1 h2 h3 h4 => ?_); have K7 := Lib.hid h1; have K5c := Lib.hid ((h2 w2.heap.size (by omega)).trans K5b.out); have B5 := Lib.hid (h4 w1.heap.size w1 (by omega) B4.out); clear h1 h2 h3 h4) | refine wpList_load_id rfl (.tmp 5) rfl w2.heap.size R rfl K5c.out ?_ | refine wpList_load_id rfl (.tmp 7) rfl w4.heap.size S rfl K7.out ?_)
        go_ret
        exact ⟨rfl, below_next BW.out B5.out⟩
      · go_wp2_with (first | (refine wpList_store_id rfl (.tmp 7) (.tmp 31) rfl w4.heap.size 0 S rfl rfl (heap_new _ _) (fun w5 h1 h2 h3 h4 => ?_); have K7 := Lib.hid h1; have K5c := Lib.hid ((h2 w2.heap.size (by omega)).trans K5b.out); have B5 := Lib.hid (h4 w1.heap.size w1 (by omega) B4.out); clear h1 h2 h3 h4) | refine wpList_load_id rfl (.tmp 5) rfl w2.heap.size R rfl K5c.out ?_ | refine wpList_load_id rfl (.tmp 7) rfl w4.heap.size S rfl K7.out ?_)
        have hrs := HRS.out (of_decide_eq_true HD.out.symm)
        have HCL := Lib.hid hrs
        clear hrs HRS K5b K7 K5c B4 q1 c0 c2 HD
        go_loopg [9, 38] n (fun g sv ix wr => ∃ k : Nat, g = n - k ∧ k ≤ n ∧ ix = .int .i64 k ∧ sv = .bool (decide (a.take k = b.take k)) ∧ Below w1.heap.size w1 wr)
        case atStart => exact ⟨0, rfl, by omega, rfl, rfl, B5.out⟩
        case round =>
          clear B5
          obtain ⟨k, hg, hk, rfl, rfl, hB⟩ := hrel
          have HG := Lib.hid hg; have HB := Lib.hid hB
          clear hg hB
          by_cases hlt : k < n
          · obtain ⟨ga, oa, rfl, hIa⟩ := HXI.out (by intro e; have := HN.out; rw [e] at this; simp at this; omega)
            obtain ⟨gb, ob, rfl, hIb⟩ := HYI.out (by intro e; have := HM.out; rw [e] at this; simp at this; omega)
            have hka : k < a.length := by rw [← HN.out]; exact hlt
            have hkb : k < b.length := by rw [← HM.out]; exact hlt
            have RA := Lib.hid fun V (hb : Below wr.heap.size wr V) => ((hIa.keep HB.out).keep hb).range hka
            have RB := Lib.hid fun V (hb : Below wr.heap.size wr V) => ((hIb.keep HB.out).keep hb).range hkb
            have HE := Lib.hid (eqt_step HN.out HM.out hlt)
            have qe := eq_id (a.getD k 0) (b.getD k 0) (getD_lt HA.out k) (getD_lt HBL.out k)
            obtain ⟨p, hp⟩ : ∃ p, p = a.getD k 0 := ⟨_, rfl⟩
            obtain ⟨q, hq⟩ : ∃ q, q = b.getD k 0 := ⟨_, rfl⟩
            rw [← hp, ← hq] at HE qe
            rw [← hp] at RA
            rw [← hq] at RB
            obtain ⟨s, hs⟩ : ∃ s, s = decide (a.take k = b.take k) := ⟨_, rfl⟩
            obtain ⟨e, he⟩ : ∃ e, e = decide (p = q) := ⟨_, rfl⟩
            rw [← hs, ← he] at HE
            rw [← he] at qe
            rw [← hs]
            clear hp hq hs he hka hkb hIa hIb
            go_wp2_with fail
            cases s
            · skip
              refine wp_region_tail 12 [Is (.bool false), Is (.bool false), Is (undef), Is (undef), Is (undef), Is (undef), Is (undef), Is (undef), Is (undef), Is (undef), Is (undef), Is (.bool false)] [[], [(0, some 41)], [(1, some 42)], [(1, some 42)], [(1, some 42), (2, some 43), (3, some 44)], [(1, some 42), (4, some 45)], [(1, some 42)], [(1, some 42)], [(1, some 42), (6, some 47), (7, some 48)], [(1, some 42), (8, some 49)], [(1, some 42), (5, some 46), (9, some 50)], [(1, some 42), (10, some 51)], [(11, some 52)]] [(0, some 41), (1, some 42), (2, some 43), (3, some 44), (4, some 45), (5, some 46), (6, some 47), (7, some 48), (8, some 49), (9, some 50), (10, some 51), (11, some 52)] [0, 1, 3, 3, 15, 31, 3, 3, 195, 451, 1023, 2047, 4095]
                (by kernel_rfl) (by kernel_rfl) (by kernel_rfl) (by kernel_rfl) (by kernel_rfl) ⟨Is.kept _, Is.kept _, Is.kept _, Is.kept _, Is.kept _, Is.kept _, Is.kept _, Is.kept _, Is.kept _, Is.kept _, Is.kept _, Is.kept _, trivial⟩ ⟨?_, ?_, ?_, ?_, ?_, ?_, ?_, ?_, ?_, ?_, ?_, ?_, trivial⟩ ?_
              · as_aux_lemma =>
                refine fun w' hB => ?_
                show wpList _ _ _ _ _ _
                go_wp2_with fail
                exact ⟨.bool false, by first | rfl | (go_simp; done), rfl, Below.refl _ _⟩
              · as_aux_lemma =>
                refine fun w' hB v0 h0 => ?_
                obtain rfl := h0
                show wpList _ _ _ _ _ _
                go_wp2_with fail
                exact ⟨.bool false, by first | rfl | (go_simp; done), rfl, Below.refl _ _⟩
              · as_aux_lemma =>
                refine fun w' hB v1 h1 => ?_
                obtain rfl := h1
                show wpList _ _ _ _ _ _
                refine wpList_skip (by rfl) ?_
                go_wp2_with fail
                exact ⟨undef, by first | rfl | (go_simp; done), rfl, Below.refl _ _⟩
              · as_aux_lemma =>
                refine fun w' hB v1 h1 => ?_
                obtain rfl := h1
                show wpList _ _ _ _ _ _
                refine wpList_skip (by rfl) ?_
                go_wp2_with fail
                exact ⟨undef, by first | rfl | (go_simp; done), rfl, Below.refl _ _⟩
              · as_aux_lemma =>
                refine fun w' hB v1 h1 v2 h2 v3 h3 => ?_
                obtain rfl := h1
                obtain rfl := h2
                obtain rfl := h3
                show wpList _ _ _ _ _ _
                refine wpList_skip (by rfl) ?_
                go_wp2_with fail
                exact ⟨undef, by first | rfl | (go_simp; done), rfl, Below.refl _ _⟩
              · as_aux_lemma =>
                refine fun w' hB v1 h1 v4 h4 => ?_
                obtain rfl := h1
                obtain rfl := h4
                show wpList _ _ _ _ _ _
                refine wpList_skip (by rfl) ?_
                go_wp2_with fail
                exact ⟨undef, by first | rfl | (go_simp; done), rfl, Below.refl _ _⟩
              · as_aux_lemma =>
                refine fun w' hB v1 h1 => ?_
                obtain rfl := h1
                show wpList _ _ _ _ _ _
                refine wpList_skip (by rfl) ?_
                go_wp2_with fail
                exact ⟨undef, by first | rfl | (go_simp; done), rfl, Below.refl _ _⟩
              · as_aux_lemma =>
                refine fun w' hB v1 h1 => ?_
                obtain rfl := h1
                show wpList _ _ _ _ _ _
                refine wpList_skip (by rfl) ?_
                go_wp2_with fail
                exact ⟨undef, by first | rfl | (go_simp; done), rfl, Below.refl _ _⟩
              · as_aux_lemma =>
                refine fun w' hB v1 h1 v6 h6 v7 h7 => ?_
                obtain rfl := h1
                obtain rfl := h6
                obtain rfl := h7
                show wpList _ _ _ _ _ _
                refine wpList_skip (by rfl) ?_
                go_wp2_with fail
                exact ⟨undef, by first | rfl | (go_simp; done), rfl, Below.refl _ _⟩
              · as_aux_lemma =>
                refine fun w' hB v1 h1 v8 h8 => ?_
                obtain rfl := h1
                obtain rfl := h8
                show wpList _ _ _ _ _ _
                refine wpList_skip (by rfl) ?_
                go_wp2_with fail
                exact ⟨undef, by first | rfl | (go_simp; done), rfl, Below.refl _ _⟩
              · as_aux_lemma =>
                refine fun w' hB v1 h1 v5 h5 v9 h9 => ?_
                obtain rfl := h1
                obtain rfl := h5
                obtain rfl := h9
                show wpList _ _ _ _ _ _
                refine wpList_skip (by rfl) ?_
                go_wp2_with fail
                exact ⟨undef, by first | rfl | (go_simp; done), rfl, Below.refl _ _⟩
              · as_aux_lemma =>
                refine fun w' hB v1 h1 v10 h10 => ?_
                obtain rfl := h1
                obtain rfl := h10
                show wpList _ _ _ _ _ _
                go_wp2_with fail
                exact ⟨.bool false, by first | rfl | (go_simp; done), rfl, Below.refl _ _⟩
              · refine fun w' hB v0 h0 v1 h1 v2 h2 v3 h3 v4 h4 v5 h5 v6 h6 v7 h7 v8 h8 v9 h9 v10 h10 v11 h11 => ?_
                obtain rfl := h11
                simp only [onP, List.drop_succ_cons, List.drop_zero]
                go_simp
                clear h0 h1 h2 h3 h4 h5 h6 h7 h8 h9 h10
                have B8 := Lib.hid (HB.out.trans (hB.mono HB.out.size))
                clear hB
                go_wp2_with fail
                go_roundg (n - (k + 1))
                case measure => have := HG.out; omega
                case rel => exact ⟨k + 1, rfl, by omega, by go_num, by rw [HE.out]; rfl, B8.out⟩
            · skip
              refine wp_region_tail 12 [Is (.bool true), Is (.bool true), Is (.slice (some ⟨ga, oa, none⟩) n cap), Is (.int .i64 k), Is (.pointer (some ⟨ga, oa + k * 32, none⟩)), Is (iv p), Is (.slice (some ⟨gb, ob, none⟩) n cap2), Is (.int .i64 k), Is (.pointer (some ⟨gb, ob + k * 32, none⟩)), Is (iv q), Is (.bool e), Is (.bool e)] [[], [(0, some 41)], [(1, some 42)], [(1, some 42)], [(1, some 42), (2, some 43), (3, some 44)], [(1, some 42), (4, some 45)], [(1, some 42)], [(1, some 42)], [(1, some 42), (6, some 47), (7, some 48)], [(1, some 42), (8, some 49)], [(1, some 42), (5, some 46), (9, some 50)], [(1, some 42), (10, some 51)], [(11, some 52)]] [(0, some 41), (1, some 42), (2, some 43), (3, some 44), (4, some 45), (5, some 46), (6, some 47), (7, some 48), (8, some 49), (9, some 50), (10, some 51), (11, some 52)] [0, 1, 3, 3, 15, 31, 3, 3, 195, 451, 1023, 2047, 4095]
                (by kernel_rfl) (by kernel_rfl) (by kernel_rfl) (by kernel_rfl) (by kernel_rfl) ⟨Is.kept _, Is.kept _, Is.kept _, Is.kept _, Is.kept _, Is.kept _, Is.kept _, Is.kept _, Is.kept _, Is.kept _, Is.kept _, Is.kept _, trivial⟩ ⟨?_, ?_, ?_, ?_, ?_, ?_, ?_, ?_, ?_, ?_, ?_, ?_, trivial⟩ ?_
              · as_aux_lemma =>
                refine fun w' hB => ?_
                show wpList _ _ _ _ _ _
                go_wp2_with fail
                exact ⟨.bool true, by first | rfl | (go_simp; done), rfl, Below.refl _ _⟩
              · as_aux_lemma =>
                refine fun w' hB v0 h0 => ?_
                obtain rfl := h0
                show wpList _ _ _ _ _ _
                go_wp2_with fail
                exact ⟨.bool true, by first | rfl | (go_simp; done), rfl, Below.refl _ _⟩
              · as_aux_lemma =>
                refine fun w' hB v1 h1 => ?_
                obtain rfl := h1
                show wpList _ _ _ _ _ _
                go_wp2_with fail
                exact ⟨.slice (some ⟨ga, oa, none⟩) n cap, by first | rfl | (go_simp; done), rfl, Below.refl _ _⟩
              · as_aux_lemma =>
                refine fun w' hB v1 h1 => ?_
                obtain rfl := h1
                show wpList _ _ _ _ _ _
                go_wp2_with fail
                exact ⟨.int .i64 k, by first | rfl | (go_simp; done), rfl, Below.refl _ _⟩
              · as_aux_lemma =>
                refine fun w' hB v1 h1 v2 h2 v3 h3 => ?_
                obtain rfl := h1
                obtain rfl := h2
                obtain rfl := h3
                show wpList _ _ _ _ _ _
                go_wp2_with fail
                exact ⟨.pointer (some ⟨ga, oa + k * 32, none⟩), by first | rfl | (go_simp; done), rfl, Below.refl _ _⟩
              · as_aux_lemma =>
                refine fun w' hB v1 h1 v4 h4 => ?_
                obtain rfl := h1
                obtain rfl := h4
                show wpList _ _ _ _ _ _
                refine wpList_unguard rfl ?_
                go_wp2_with (first | refine wpList_load_at rfl (.tmp 45) rfl ga (oa + k * 32) p rfl (RA.out w' hB) ?_)
                exact ⟨iv p, rfl, rfl, Below.refl _ _⟩
              · as_aux_lemma =>
                refine fun w' hB v1 h1 => ?_
                obtain rfl := h1
                show wpList _ _ _ _ _ _
                go_wp2_with fail
                exact ⟨.slice (some ⟨gb, ob, none⟩) n cap2, by first | rfl | (go_simp; done), rfl, Below.refl _ _⟩
              · as_aux_lemma =>
                refine fun w' hB v1 h1 => ?_
                obtain rfl := h1
                show wpList _ _ _ _ _ _
                go_wp2_with fail
                exact ⟨.int .i64 k, by first | rfl | (go_simp; done), rfl, Below.refl _ _⟩
              · as_aux_lemma =>
                refine fun w' hB v1 h1 v6 h6 v7 h7 => ?_
                obtain rfl := h1
                obtain rfl := h6
                obtain rfl := h7
                show wpList _ _ _ _ _ _
                go_wp2_with fail
                exact ⟨.pointer (some ⟨gb, ob + k * 32, none⟩), by first | rfl | (go_simp; done), rfl, Below.refl _ _⟩
              · as_aux_lemma =>
                refine fun w' hB v1 h1 v8 h8 => ?_
                obtain rfl := h1
                obtain rfl := h8
                show wpList _ _ _ _ _ _
                refine wpList_unguard rfl ?_
                go_wp2_with (first | refine wpList_load_at rfl (.tmp 49) rfl gb (ob + k * 32) q rfl (RB.out w' hB) ?_)
                exact ⟨iv q, rfl, rfl, Below.refl _ _⟩
              · as_aux_lemma =>
                refine fun w' hB v1 h1 v5 h5 v9 h9 => ?_
                obtain rfl := h1
                obtain rfl := h5
                obtain rfl := h9
                show wpList _ _ _ _ _ _
                go_wp2_with fail
                exact ⟨.bool e, by first | rfl | (go_simp; done), rfl, Below.refl _ _⟩
              · as_aux_lemma =>
                refine fun w' hB v1 h1 v10 h10 => ?_
                obtain rfl := h1
                obtain rfl := h10
                show wpList _ _ _ _ _ _
                go_wp2_with fail
                exact ⟨.bool e, by first | rfl | (go_simp; done), rfl, Below.refl _ _⟩
              · refine fun w' hB v0 h0 v1 h1 v2 h2 v3 h3 v4 h4 v5 h5 v6 h6 v7 h7 v8 h8 v9 h9 v10 h10 v11 h11 => ?_
                obtain rfl := h11
                simp only [onP, List.drop_succ_cons, List.drop_zero]
                go_simp
                clear h0 h1 h2 h3 h4 h5 h6 h7 h8 h9 h10
                have B8 := Lib.hid (HB.out.trans (hB.mono HB.out.size))
                clear hB
                go_wp2_with fail
                go_roundg (n - (k + 1))
                case measure => have := HG.out; omega
                case rel => exact ⟨k + 1, rfl, by omega, by go_num, by rw [HE.out]; rfl, B8.out⟩
          · obtain rfl : k = n := by omega
            have et1 : a.take k = a := List.take_of_length_le (by rw [HN.out]; exact Nat.le_refl _)
            have et2 : b.take k = b := List.take_of_length_le (by rw [HM.out]; exact Nat.le_refl _)
            rw [et1, et2]
            have HC2 : Hid (decide (a = b) = false → clash a.length a b = true) := Lib.hid fun e => HCL.out.elim id fun h => absurd h (of_decide_eq_false e)
            obtain ⟨s, hs⟩ : ∃ s, s = decide (a = b) := ⟨_, rfl⟩
            rw [← hs] at HC2
            rw [← hs]
            have cc := Lib.hid fun (W : World) (hb : Below w1.heap.size w1 W) => clash_any a b (by rw [← HN.out, ← HM.out]) HA.out HBL.out (by have := HN16.out; omega) x y cap cap2 W (fun h => (HXI.out h).elim fun g h => h.elim fun o h => ⟨g, o, h.1, h.2.keep hb⟩) fun h => (HYI.out h).elim fun g h => h.elim fun o h => ⟨g, o, h.1, h.2.keep hb⟩
            rw [← HN.out] at cc HC2
            clear et1 et2 hs hlt HG
            cases s
            · rw [HC2.out rfl] at cc
              go_wp2_with fail
              refine (cc.out _ HB.out).mono ?_
              rintro e w8 ⟨rfl, hb⟩
              have B8 := Lib.hid (below_next (below_next BW.out HB.out) hb)
              clear hb
              go_wp2_with fail
              go_ret
              exact ⟨rfl, B8.out⟩
            · go_wp2_with fail
              go_ret
              exact ⟨rfl, below_next BW.out HB.out⟩
  · have hnm' : ¬ (n : Int) = (m : Int) := by omega
    go_wp2_with fail
    go_ret
    exact ⟨rfl, B1⟩

set_option maxRecDepth 100000 in
theorem MerkleOne_lifted (os : Os) (started : os.Started) (H : Type) (enc : TypeId × Value → H) :
    ReturnsInHanded {} Try.checked os 12 .any (Rows.merkleOneSpec.pre6 enc Try.prog Try.f12 Rows.merkleOneRow.domain false) (Rows.merkleOneSpec.post enc Try.prog Try.f12 false true false false) := by
  refine returnsInHanded_of_change (C := Try.checked) own started (by kernel_rfl) Try.func12
    (ChangeSpec.witness6 (enc := enc) (C := Try.checked) false ⟨#[], #[.slice none 0 0, .slice none 0 0], []⟩ 8 (by kernel_rfl) (by kernel_rfl) (by kernel_rfl) (by kernel_rfl)) ?_
  intro W base args ds gs before hval0 hW hcnd _
  have hval : ∀ (j : Nat) t v, Try.f12.params[j]? = some t → args[j]? = some v → Value.okWide Try.prog W .any base t v := hval0
  have hW' := hW
  obtain ⟨p, q, hA0, hV, rfl, hfz, hnd⟩ := hW
  have hA : DataW.TrodAll enc Try.prog W 0 (fun _ => true) true Try.f12.params.toList args.toList ds p := hA0
  rw [Try.params12] at hA hval
  obtain ⟨v0, vs0, d0, ds0, p0, q0, hargs, rfl, rfl, h0, r0⟩ := trodAll_cons hA
  obtain ⟨v1, vs1, d1, ds1, p1, q1, rfl, rfl, rfl, h1, r1⟩ := trodAll_cons r0
  obtain ⟨rfl, rfl, rfl⟩ := trodAll_nil r1
  obtain rfl : args = #[v0, v1] := by cases args; simp_all
  obtain ⟨rfl, rfl⟩ := trodVars_none hV
  have k0 := h0
  have lt0 := trod_lt_of h0
  obtain ⟨a0, cap0, l0, b0, rfl, e0, f0, g0, c0⟩ := open_ids (hval 0 37 v0 rfl rfl) h0
  have k1 := h1
  have lt1 := trod_lt_of h1
  obtain ⟨a1, cap1, l1, b1, rfl, e1, f1, g1, c1⟩ := open_ids (hval 1 37 v1 rfl rfl) h1
  clear hA0 hval0
  refine (MerkleOne_walk a0 cap0 l0 b0 a1 cap1 l1 b1 W e0 f0 g0 c0 e1 f1 g1 c1).mono fun e W' ⟨he, bel⟩ => ?_
  subst he
  exact ⟨_, rfl, _, _, _, [], _, [], hW', trodAll_mk1 (shut_bool (by kernel_rfl) _), (trodAll_cons_mk (Below.trod laidOut (by kernel_rfl) (of_decide_eq_true (by kernel_rfl)) k0 bel lt0) (trodAll_cons_mk (Below.trod laidOut (by kernel_rfl) (of_decide_eq_true (by kernel_rfl)) k1 bel lt1) trodAll_mk0)), rfl, bel.frame _, fun h => by cases h⟩

theorem MerkleOne_closed : joinedFacts Try.prog 12 Try.f12 Rows.merkleOneSpec Rows.merkleOneRow = true := by
  simp only [joinedFacts, Bool.and_eq_true]
  repeat' apply And.intro
  all_goals first
    | (with_reducible exact head_enter)
    | (rw [head_make]; kernel_rfl)
    | (rw [head_lift]; kernel_rfl)
    | kernel_rfl

theorem MerkleOne_holds : Rows.MerkleOneSaid :=
  OpenClaim.holds_of_wide 12 Try.f12 rfl rfl rfl rfl rfl rfl rfl ⟨rfl, rfl, rfl, rfl, rfl⟩ rfl rfl rfl rfl rfl (by kernel_rfl) Try.func12 MerkleOne_closed
    (of_decide_eq_true (by kernel_rfl)) (by unfold Func.isWrapper; rw [if_neg (of_decide_eq_false (by kernel_rfl))]; exact ⟨rfl, rfl⟩)
    (fun os started H enc _ => MerkleOne_lifted os started H enc)
end Go.Proofs.Ytfopockjakeplaa
