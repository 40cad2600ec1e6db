/- The law MerkleWays: each of many sums has a way that leads to their root, as long as there are levels. No condition. -/
import Derived.Test.YtfopockjakeplaaMkW
import Derived.Test.YtfopockjakeplaaMkJ
import Derived.Test.YtfopockjakeplaaHead
namespace Go.Proofs.Ytfopockjakeplaa
open Go.ChangeShapes Go.WideShapes Go.ChangeAt Go.RowKit

set_option maxRecDepth 100000 in
set_option maxHeartbeats 4000000 in
theorem MerkleWays_walk (x : Option Addr) (cap : Nat) (l : List Nat) (hl : ∀ y ∈ l, y < 2 ^ 256) (i : Int) (hwf : (Lit.int .i64 i).wf = true) (w : World) (_hc : l.length ≤ cap) (_hm : cap ≤ maxLen) (hz : x = none → l = [] ∧ cap = 0) (hx0 : l ≠ [] → ∃ b o, x = some ⟨b, o, none⟩ ∧ b < w.heap.size ∧ IdsAt w b o l) :
    Calls Try.prog 14 #[.slice x l.length cap, .int .i64 i] w fun e w' => e = .returned (.bool true) ∧ Below w.heap.size w w' := by
  have hx : l ≠ [] → ∃ b o, x = some ⟨b, o, none⟩ ∧ IdsAt w b o l := fun h => by
    obtain ⟨b, o, h1, _, h3⟩ := hx0 h
    exact ⟨b, o, h1, h3⟩
  have hwf2 : -9223372036854775808 ≤ i ∧ i < 9223372036854775808 := by
    have := hwf
    simp [Lit.wf, IntKind.min, IntKind.max, IntKind.signed, IntKind.bits] at this
    omega
  obtain ⟨hlo, hhi⟩ := hwf2
  clear hwf hx0 _hc _hm
  have HX := Lib.hid hx
  obtain ⟨n, hnn⟩ : ∃ n, n = l.length := ⟨_, rfl⟩
  rw [← hnn]
  have HN := Lib.hid hnn
  have HL := Lib.hid hl; have HZ := Lib.hid hz
  clear hnn hx hl hz
  have B : Below w.heap.size w w := Below.refl _ _
  have ez := iblk_lit
  go_enter Try.func14, Try.ntmps14
  go_wp2_with fail
  refine (joins_any _).mono ?_
  rintro e w1 ⟨rfl, hb1⟩
  have B1 : Below w.heap.size w w1 := below_next B hb1
  clear hb1 B
  by_cases hbig : 40 < n
  · have hbig' : (40 : Int) < (n : Int) := by omega
    go_wp2_with fail
    go_ret
    exact ⟨rfl, B1⟩
  have hbig' : ¬ (40 : Int) < (n : Int) := by omega
  have hn : n ≤ 40 := by omega
  clear hbig
  by_cases hin : i < 0 ∨ (n : Int) ≤ i
  · have cw := Lib.hid fun (W : World) => way_none i hlo hhi x cap n hin W
    go_wp2_with fail
    refine (cw.out _).mono ?_
    rintro e w2 ⟨rfl, hb⟩
    have B2 := Lib.hid (below_next B1 hb)
    clear hb
    by_cases h0 : i < 0
    · clear hin
      go_wp2_with fail
      go_ret
      exact ⟨rfl, B2.out⟩
    · have h1 : (n : Int) ≤ i := by omega
      clear hin
      go_wp2_with fail
      go_ret
      exact ⟨rfl, B2.out⟩
  obtain ⟨j, rfl⟩ : ∃ j : Nat, i = (j : Int) := ⟨i.toNat, by omega⟩
  have hjn : j < n := by omega
  have hj0 : ¬ (j : Int) < 0 := by omega
  have hj1 : (j : Int) < (n : Int) := by omega
  clear hin hlo hhi
  obtain ⟨b, o, rfl, hI⟩ := HX.out (by intro e; have := HN.out; rw [e] at this; simp at this; omega)
  have HI := Lib.hid (hI.keep B1)
  have BW := Lib.hid B1
  have cw := Lib.hid (way_any j (some ⟨b, o, none⟩) cap l (by rw [← HN.out]; omega) (by rw [← HN.out]; exact hjn) w1 (fun _ => ⟨b, o, rfl, HI.out⟩))
  have cr := Lib.hid fun (W : World) (hb : Below w1.heap.size w1 W) => root_any (some ⟨b, o, none⟩) cap l HL.out (by rw [← HN.out]; omega) W (fun e => by cases e) (fun _ => ⟨b, o, rfl, HI.out.keep hb⟩)
  rw [← HN.out] at cr cw
  obtain ⟨R, hR⟩ : ∃ R, R = (Mroot l).1 := ⟨_, rfl⟩
  obtain ⟨F, hF⟩ : ∃ F, F = (Mroot l).2 := ⟨_, rfl⟩
  have hRl : R < 2 ^ 256 := by rw [hR]; exact mroot_lt _ l _ HL.out
  rw [← hR, ← hF] at cr
  obtain ⟨L, hL⟩ : ∃ L, L = wayL n l j := ⟨_, rfl⟩
  have hLL : L.length = lev n n := by rw [hL, wayL_len, ← HN.out]
  have hld : led (l.getD j 0) j L = R := by rw [hL, hR]; exact way_leads n l j false (by rw [← HN.out]; exact hjn) (by rw [← HN.out]; omega) |>.trans (by unfold Mroot; rw [← HN.out])
  rw [← hL] at cw
  obtain ⟨a, ha⟩ : ∃ a, a = l.getD j 0 := ⟨_, rfl⟩
  rw [← ha] at hld
  have RA : Hid (∀ V, Below w1.heap.size w1 V → V.rangeAt b (o + j * 32) (ids a)) := Lib.hid fun V hb => by
    have := (HI.out.keep hb).range (i := j) (by rw [← HN.out]; exact hjn)
    rwa [← ha] at this
  have HLL := Lib.hid hLL; have HLD := Lib.hid hld
  have hlv : L.length ≤ 40 := by have := lev_le n n; omega
  have qR : ∀ W, (Op.equalIn 10000 25 (iv R) (iv R)).run Try.prog W = .ok true W := eq_self R hRl
  clear hR hF hL hLL hld ha hI B1 hRl
  go_wp2_with fail
  refine cw.out.mono ?_
  rintro e w2 ⟨v, rfl, hO, hb⟩
  obtain ⟨xw, cww, rfl, hrow⟩ := hO.rows
  obtain ⟨wl, hwl⟩ : ∃ wl, wl = L.length := ⟨_, rfl⟩
  rw [← hwl] at hlv
  rw [← hwl]
  have HWL := Lib.hid hwl
  have HR := Lib.hid hrow
  have B2 := Lib.hid hb
  have cl := Lib.hid fun (W : World) (hb2 : Below w2.heap.size w2 W) => leads_any a j (by omega) xw cww L (by rw [← HWL.out]; omega) W (fun h => by
    obtain ⟨b, o, h1, h2⟩ := HR.out h
    exact ⟨b, o, h1, h2.keep hb2⟩)
  rw [HLD.out, ← HWL.out] at cl
  have HLV : Hid (lev n n = wl) := Lib.hid (by rw [HWL.out, HLL.out])
  clear hO hrow hb hwl cw HLL HLD
  go_wp2_with fail
  go_loopg [7, 8] n (fun g kv nv wr => ∃ (f m k : Nat), g = m ∧ m ≤ f + 1 ∧ 0 < m ∧ m ≤ 40 ∧ kv = .int .i64 k ∧ nv = .int .i64 m ∧ k + lev f m = wl ∧ wr = w2)
  case atStart => exact ⟨n, n, 0, rfl, by omega, by omega, hn, rfl, rfl, by rw [HLV.out]; omega, rfl⟩
  case round =>
    obtain ⟨f, m, k, hg, hf, hm0, hm, rfl, rfl, hk, rfl⟩ := hrel
    have HG := Lib.hid hg
    clear hg
    by_cases h1 : 1 < m
    · obtain ⟨f', hf', he⟩ := lev_step h1 hf
      have h1' : (1 : Int) < (m : Int) := by omega
      have hk40 : k ≤ 40 := by omega
      have HK : Hid (k + 1 + lev f' ((m + 1) / 2) = wl) := Lib.hid (by omega)
      have HF := Lib.hid hf'
      clear he hk hf hf'
      go_wp2_with fail
      go_roundg ((m + 1) / 2)
      case measure => have := HG.out; omega
      case rel => exact ⟨f', (m + 1) / 2, k + 1, rfl, HF.out, by omega, by omega, by go_num, by go_num, HK.out, rfl⟩
    · obtain rfl : m = 1 := by omega
      obtain rfl : k = wl := by rw [lev_end f 1 (Nat.le_refl _)] at hk; omega
      have h1' : ¬ (1 : Int) < ((1 : Nat) : Int) := by omega
      clear hk hf h1 HLV
      go_wp2_with fail
      refine (cr.out _ B2.out).mono ?_
      rintro e w3 ⟨rfl, hb⟩
      have B3 := Lib.hid hb
      have B3a := Lib.hid (below_alloc hb (iblk 0))
      clear hb
      go_wp2_with (first | (refine wpList_store_id rfl (.tmp 9) (.tmp 49) rfl w3.heap.size 0 R rfl rfl (heap_new w3 _) (fun w4 h1 h2 h3 h4 => ?_); have K9 := Lib.hid h1; have B4 := Lib.hid (h4 wr.heap.size wr B3.out.size B3a.out); clear h1 h2 h3 h4))
      obtain ⟨g9, hg9⟩ : ∃ g, g = w3.heap.size := ⟨_, rfl⟩
      rw [← hg9] at K9
      rw [← hg9]
      clear hg9 B3 B3a
      have B14 := Lib.hid (below_next B2.out B4.out)
      refine wp_region_by [Is (.int .i64 0), Is (.bool true), Is (.bool true), Is (.slice xw k cww), Is (.int .i64 k), Is (.int .i64 k), Is (.bool true), Is (.bool true), Is (.bool true), Is (.slice (some ⟨b, o, none⟩) n cap), Is (.int .i64 j), Is (.pointer (some ⟨b, o + j * 32, none⟩)), Is (iv a), Is (.int .i64 j), Is (.slice xw k cww), Is (iv R), Is (iv R), Is (.bool true), Is (.bool true), Is (.bool true)] [[], [(0, some 51)], [(1, some 52)], [(2, some 53)], [(2, some 53), (3, some 54)], [(2, some 53)], [(2, some 53), (4, some 55), (5, some 56)], [(2, some 53), (6, some 57)], [(7, some 58)], [(8, some 59)], [(8, some 59)], [(8, some 59), (9, some 60), (10, some 61)], [(8, some 59), (11, some 62)], [(8, some 59)], [(8, some 59)], [(8, some 59), (12, some 63), (13, some 64), (14, some 65)], [(8, some 59)], [(8, some 59), (15, some 66), (16, some 67)], [(8, some 59), (17, some 68)], [(18, some 69)]] [(0, some 51), (1, some 52), (2, some 53), (3, some 54), (4, some 55), (5, some 56), (6, some 57), (7, some 58), (8, some 59), (9, some 60), (10, some 61), (11, some 62), (12, some 63), (13, some 64), (14, some 65), (15, some 66), (16, some 67), (17, some 68), (18, some 69), (19, some 4)] [0, 1, 3, 7, 15, 7, 63, 127, 255, 511, 511, 2047, 4095, 511, 511, 32767, 511, 131071, 262143, 524287]
        (by kernel_rfl) (by kernel_rfl) (by kernel_rfl) (by kernel_rfl) ⟨Is.kept _, Is.kept _, Is.kept _, Is.kept _, Is.kept _, Is.kept _, Is.kept _, Is.kept _, Is.kept _, Is.kept _, Is.kept _, Is.kept _, Is.kept _, Is.kept _, Is.kept _, Is.kept _, Is.kept _, Is.kept _, Is.kept _, Is.kept _, trivial⟩ ⟨?_, ?_, ?_, ?_, ?_, ?_, ?_, ?_, ?_, ?_, ?_, ?_, ?_, ?_, ?_, ?_, ?_, ?_, ?_, ?_, trivial⟩ ?_
      · as_aux_lemma =>
        refine fun w' hB => ?_
        show wpList _ _ _ _ _ _
        go_wp2_with fail
        exact ⟨.int .i64 0, by first | rfl | (go_simp; done), rfl, Below.refl _ _⟩
      · as_aux_lemma =>
        refine fun w' hB v0 h0 => ?_
        obtain rfl := h0
        show wpList _ _ _ _ _ _
        go_wp2_with fail
        exact ⟨.bool true, by first | rfl | (go_simp; done), rfl, Below.refl _ _⟩
      · as_aux_lemma =>
        refine fun w' hB v1 h1 => ?_
        obtain rfl := h1
        show wpList _ _ _ _ _ _
        go_wp2_with fail
        exact ⟨.bool true, by first | rfl | (go_simp; done), rfl, Below.refl _ _⟩
      · as_aux_lemma =>
        refine fun w' hB v2 h2 => ?_
        obtain rfl := h2
        show wpList _ _ _ _ _ _
        go_wp2_with fail
        exact ⟨.slice xw k cww, by first | rfl | (go_simp; done), rfl, Below.refl _ _⟩
      · as_aux_lemma =>
        refine fun w' hB v2 h2 v3 h3 => ?_
        obtain rfl := h2
        obtain rfl := h3
        show wpList _ _ _ _ _ _
        go_wp2_with fail
        exact ⟨.int .i64 k, by first | rfl | (go_simp; done), rfl, Below.refl _ _⟩
      · as_aux_lemma =>
        refine fun w' hB v2 h2 => ?_
        obtain rfl := h2
        show wpList _ _ _ _ _ _
        go_wp2_with fail
        exact ⟨.int .i64 k, by first | rfl | (go_simp; done), rfl, Below.refl _ _⟩
      · as_aux_lemma =>
        refine fun w' hB v2 h2 v4 h4 v5 h5 => ?_
        obtain rfl := h2
        obtain rfl := h4
        obtain rfl := h5
        show wpList _ _ _ _ _ _
        go_wp2_with fail
        exact ⟨.bool true, by first | rfl | (go_simp; done), rfl, Below.refl _ _⟩
      · as_aux_lemma =>
        refine fun w' hB v2 h2 v6 h6 => ?_
        obtain rfl := h2
        obtain rfl := h6
        show wpList _ _ _ _ _ _
        go_wp2_with fail
        exact ⟨.bool true, by first | rfl | (go_simp; done), rfl, Below.refl _ _⟩
      · as_aux_lemma =>
        refine fun w' hB v7 h7 => ?_
        obtain rfl := h7
        show wpList _ _ _ _ _ _
        go_wp2_with fail
        exact ⟨.bool true, by first | rfl | (go_simp; done), rfl, Below.refl _ _⟩
      · as_aux_lemma =>
        refine fun w' hB v8 h8 => ?_
        obtain rfl := h8
        show wpList _ _ _ _ _ _
        go_wp2_with fail
        exact ⟨.slice (some ⟨b, o, none⟩) n cap, by first | rfl | (go_simp; done), rfl, Below.refl _ _⟩
      · as_aux_lemma =>
        refine fun w' hB v8 h8 => ?_
        obtain rfl := h8
        show wpList _ _ _ _ _ _
        go_wp2_with fail
        exact ⟨.int .i64 j, by first | rfl | (go_simp; done), rfl, Below.refl _ _⟩
      · as_aux_lemma =>
        refine fun w' hB v8 h8 v9 h9 v10 h10 => ?_
        obtain rfl := h8
        obtain rfl := h9
        obtain rfl := h10
        show wpList _ _ _ _ _ _
        go_wp2_with fail
        exact ⟨.pointer (some ⟨b, o + j * 32, none⟩), by first | rfl | (go_simp; done), rfl, Below.refl _ _⟩
      · as_aux_lemma =>
        refine fun w' hB v8 h8 v11 h11 => ?_
        obtain rfl := h8
        obtain rfl := h11
        show wpList _ _ _ _ _ _
        refine wpList_unguard rfl ?_
        go_wp2_with (first | refine wpList_load_at rfl (.tmp 62) rfl b (o + j * 32) a rfl (RA.out w' (below_next B14.out hB)) ?_)
        exact ⟨iv a, rfl, rfl, Below.refl _ _⟩
      · as_aux_lemma =>
        refine fun w' hB v8 h8 => ?_
        obtain rfl := h8
        show wpList _ _ _ _ _ _
        go_wp2_with fail
        exact ⟨.int .i64 j, by first | rfl | (go_simp; done), rfl, Below.refl _ _⟩
      · as_aux_lemma =>
        refine fun w' hB v8 h8 => ?_
        obtain rfl := h8
        show wpList _ _ _ _ _ _
        go_wp2_with fail
        exact ⟨.slice xw k cww, by first | rfl | (go_simp; done), rfl, Below.refl _ _⟩
      · as_aux_lemma =>
        refine fun w' hB v8 h8 v12 h12 v13 h13 v14 h14 => ?_
        obtain rfl := h8
        obtain rfl := h12
        obtain rfl := h13
        obtain rfl := h14
        show wpList _ _ _ _ _ _
        go_wp2_with fail
        refine (cl.out _ (below_next B4.out hB)).mono ?_
        rintro e w2 ⟨rfl, hb2⟩
        go_wp2_with fail
        exact ⟨iv R, by first | rfl | (go_simp; done), rfl, hb2⟩
      · as_aux_lemma =>
        refine fun w' hB v8 h8 => ?_
        obtain rfl := h8
        show wpList _ _ _ _ _ _
        refine wpList_unguard rfl ?_
        go_wp2_with (first | refine wpList_load_id rfl (.tmp 9) rfl g9 R rfl (block_keep hB K9.out) ?_)
        exact ⟨iv R, rfl, rfl, Below.refl _ _⟩
      · as_aux_lemma =>
        refine fun w' hB v8 h8 v15 h15 v16 h16 => ?_
        obtain rfl := h8
        obtain rfl := h15
        obtain rfl := h16
        show wpList _ _ _ _ _ _
        go_wp2_with fail
        exact ⟨.bool true, by first | rfl | (go_simp; done), rfl, Below.refl _ _⟩
      · as_aux_lemma =>
        refine fun w' hB v8 h8 v17 h17 => ?_
        obtain rfl := h8
        obtain rfl := h17
        show wpList _ _ _ _ _ _
        go_wp2_with fail
        exact ⟨.bool true, by first | rfl | (go_simp; done), rfl, Below.refl _ _⟩
      · as_aux_lemma =>
        refine fun w' hB v18 h18 => ?_
        obtain rfl := h18
        show wpList _ _ _ _ _ _
        go_wp2_with fail
        exact ⟨.bool true, by first | rfl | (go_simp; done), rfl, Below.refl _ _⟩
      · refine fun w' hB v0 h0 v1 h1 v2 h2 v3 h3 v4 h4 v5 h5 v6 h6 v7 h7 v8 h8 v9 h9 v10 h10 v11 h11 v12 h12 v13 h13 v14 h14 v15 h15 v16 h16 v17 h17 v18 h18 v19 h19 => ?_
        obtain rfl := h19
        simp only [onP]
        go_simp
        clear h0 h1 h2 h3 h4 h5 h6 h7 h8 h9 h10 h11 h12 h13 h14 h15 h16 h17 h18
        have BZ := Lib.hid (below_next BW.out (below_next B14.out hB))
        go_wp2_with fail
        go_ret
        exact ⟨rfl, BZ.out⟩

set_option maxRecDepth 100000 in
theorem MerkleWays_lifted (os : Os) (started : os.Started) (H : Type) (enc : TypeId × Value → H) :
    ReturnsInHanded {} Try.checked os 14 .any (Rows.merkleWaysSpec.pre6 enc Try.prog Try.f14 Rows.merkleWaysRow.domain false) (Rows.merkleWaysSpec.post enc Try.prog Try.f14 false true false false) := by
  refine returnsInHanded_of_change (C := Try.checked) own started (by kernel_rfl) Try.func14
    (ChangeSpec.witness6 (enc := enc) (C := Try.checked) false ⟨#[], #[.slice none 0 0, .int .i64 0], []⟩ 8 (by kernel_rfl) (by kernel_rfl) (by kernel_rfl) (by kernel_rfl)) ?_
  intro W base args ds gs before hval0 hW hcnd _
  have hval : ∀ (j : Nat) t v, Try.f14.params[j]? = some t → args[j]? = some v → Value.okWide Try.prog W .any base t v := hval0
  have hW' := hW
  obtain ⟨p, q, hA0, hV, rfl, hfz, hnd⟩ := hW
  have hA : DataW.TrodAll enc Try.prog W 0 (fun _ => true) true Try.f14.params.toList args.toList ds p := hA0
  rw [Try.params14] at hA hval
  obtain ⟨v0, vs0, d0, ds0, p0, q0, hargs, rfl, rfl, h0, r0⟩ := trodAll_cons hA
  obtain ⟨v1, vs1, d1, ds1, p1, q1, rfl, rfl, rfl, h1, r1⟩ := trodAll_cons r0
  obtain ⟨rfl, rfl, rfl⟩ := trodAll_nil r1
  obtain rfl : args = #[v0, v1] := by cases args; simp_all
  obtain ⟨rfl, rfl⟩ := trodVars_none hV
  have k0 := h0
  have lt0 := trod_lt_of h0
  obtain ⟨a0, cap0, l0, b0, rfl, e0, f0, g0, c0⟩ := open_ids (hval 0 37 v0 rfl rfl) h0
  have k1 := h1
  have lt1 := trod_lt_of h1
  obtain ⟨a1, rfl, rfl, rfl, b1⟩ := open_int Try.underlying3 (hval 1 3 v1 rfl rfl) h1
  clear hA0 hval0
  refine (MerkleWays_walk a0 cap0 l0 b0 a1 b1 W e0 f0 g0 c0).mono fun e W' ⟨he, bel⟩ => ?_
  subst he
  exact ⟨_, rfl, _, _, _, [], _, [], hW', trodAll_mk1 (shut_bool (by kernel_rfl) _), (trodAll_cons_mk (Below.trod laidOut (by kernel_rfl) (of_decide_eq_true (by kernel_rfl)) k0 bel lt0) (trodAll_cons_mk (Below.trod laidOut (by kernel_rfl) (of_decide_eq_true (by kernel_rfl)) k1 bel lt1) trodAll_mk0)), rfl, bel.frame _, fun h => by cases h⟩

theorem MerkleWays_closed : joinedFacts Try.prog 14 Try.f14 Rows.merkleWaysSpec Rows.merkleWaysRow = true := by
  simp only [joinedFacts, Bool.and_eq_true]
  repeat' apply And.intro
  all_goals first
    | (with_reducible exact head_enter)
    | (rw [head_make]; kernel_rfl)
    | (rw [head_lift]; kernel_rfl)
    | kernel_rfl

theorem MerkleWays_holds : Rows.MerkleWaysSaid :=
  OpenClaim.holds_of_wide 14 Try.f14 rfl rfl rfl rfl rfl rfl rfl ⟨rfl, rfl, rfl, rfl, rfl⟩ rfl rfl rfl rfl rfl (by kernel_rfl) Try.func14 MerkleWays_closed
    (of_decide_eq_true (by kernel_rfl)) (by unfold Func.isWrapper; rw [if_neg (of_decide_eq_false (by kernel_rfl))]; exact ⟨rfl, rfl⟩)
    (fun os started H enc _ => MerkleWays_lifted os started H enc)
end Go.Proofs.Ytfopockjakeplaa
