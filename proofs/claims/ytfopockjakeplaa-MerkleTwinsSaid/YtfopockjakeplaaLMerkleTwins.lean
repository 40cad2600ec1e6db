/- The law MerkleTwins: sums of which the last ones are there twice have the same root; and that is told. No condition. -/
import Derived.Test.YtfopockjakeplaaMkJ
import Derived.Test.YtfopockjakeplaaTwPlain
import Derived.Test.YtfopockjakeplaaHead
import Derived.ArgAppend
namespace Go.Proofs.Ytfopockjakeplaa
open Go.ChangeShapes Go.WideShapes Go.ChangeAt Go.RowKit

/-- IDs are appended to an empty row without room: a new row -/
theorem wpList_append_new {ops : Array Oper} {rest : List Oper} {op : Oper} {a : Act} {w : World} {Q : Exit → Act → World → Prop} (hgd : op.guard = none) (s x : Operand)
    (ho : op.op = .call { callee := .builtin .append, args := #[s, x], argTypes := #[37, 37] })
    (g : Nat) (hs : a.eval s = .slice (some ⟨g, 0, none⟩) 0 0) (l : List Nat) (b o c : Nat) (hx : a.eval x = .slice (some ⟨b, o, none⟩) l.length c) (hI : IdsAt w b o l) (h0 : 0 < l.length) (hL : l.length ≤ 1000000)
    (h : ∀ v' w', OwnsI w' w.heap.size v' l → Below w.heap.size w w' → wpList Try.prog ops Q rest (a.put op.dst v') w') :
    wpList Try.prog ops Q (op :: rest) a w := by
  obtain ⟨i0, hi, hz0, hz1, hz2⟩ := info_parts info_id
  refine wpList_append_grows w hgd s x 37 ho 25 i0 (iv 0) 32 32 underlying_ids hi hz0 hz1 hz2 (by kernel_rfl) (by decide) (some ⟨g, 0, none⟩) 0 0 [] hs (fun e => by cases e) rfl (fun _ _ j u hj => by simp at hj) ⟨b, o, none⟩ l.length c (idsL l) hx (by rw [idsL_len])
      (fun j u hj => ?_) (fun u hu => ?_) (by omega) (by unfold maxLen; omega) (by omega) fun v' w' hown' hgrow => ?_
  · have hjl : j < l.length * 32 := by
      have := (List.getElem?_eq_some_iff.1 hj).1
      rwa [idsL_len] at this
    have ej : j = j / 32 * 32 + j % 32 := by omega
    rw [ej, idsL_get l (j / 32) (j % 32) (by omega) (by omega)] at hj
    rw [Addr.add_lit, ← hj, ← hI (j / 32) (by omega) (j % 32) (by omega)]
    congr 2; omega
  · obtain ⟨j, hj⟩ := List.getElem?_of_mem hu
    have hjl : j < l.length * 32 := by
      have := (List.getElem?_eq_some_iff.1 hj).1
      rwa [idsL_len] at this
    have ej : j = j / 32 * 32 + j % 32 := by omega
    rw [ej, idsL_get l (j / 32) (j % 32) (by omega) (by omega)] at hj
    obtain rfl := Option.some.inj hj
    rfl
  · refine h v' w' ?_ ((Below.refl _ _).grown hgrow (Nat.le_refl _) (fun j hj => by cases hj))
    unfold OwnsI
    simpa using hown'

set_option maxRecDepth 100000 in
set_option maxHeartbeats 4000000 in
theorem MerkleTwins_walk (x : Option Addr) (cap : Nat) (l : List Nat) (hl : ∀ y ∈ l, y < 2 ^ 256) (k : Int) (_hwf : (Lit.int .i64 k).wf = true) (w : World) (hc : l.length ≤ cap) (hm : cap ≤ maxLen) (_hz : x = none → l = [] ∧ cap = 0) (hx : l ≠ [] → ∃ b o, x = some ⟨b, o, none⟩ ∧ b < w.heap.size ∧ IdsAt w b o l) :
    Calls Try.prog 11 #[.slice x l.length cap, .int .i64 k] w fun e w' => e = .returned (.bool true) ∧ Below w.heap.size w w' := by
  have HX := Lib.hid hx; have HL := Lib.hid hl
  unfold maxLen at hm
  obtain ⟨n, hnn⟩ : ∃ n, n = l.length := ⟨_, rfl⟩
  rw [← hnn] at hc
  rw [← hnn]
  have HN := Lib.hid hnn
  clear hnn hx hl _hz
  have B : Below w.heap.size w w := Below.refl _ _
  go_enter Try.func11, Try.ntmps11
  go_wp2_with fail
  refine (joins_any _).mono ?_
  rintro e w1 ⟨rfl, hb1⟩
  have B1 : Below w.heap.size w w1 := below_next B hb1
  clear hb1 B
  by_cases h2 : n < 2
  · have h2' : (n : Int) < 2 := by omega
    go_wp2_with fail
    go_ret
    exact ⟨rfl, B1⟩
  by_cases h30 : 30 < n
  · have h2' : ¬ (n : Int) < 2 := by omega
    have h30' : (30 : Int) < (n : Int) := by omega
    go_wp2_with fail
    go_ret
    exact ⟨rfl, B1⟩
  have h2' : ¬ (n : Int) < 2 := by omega
  have h30' : ¬ (30 : Int) < (n : Int) := by omega
  by_cases hk0 : k < 0
  · go_wp2_with fail
    go_ret
    exact ⟨rfl, B1⟩
  by_cases hk4 : 4 < k
  · go_wp2_with fail
    go_ret
    exact ⟨rfl, B1⟩
  obtain ⟨j, rfl⟩ : ∃ j : Nat, k = (j : Int) := ⟨k.toNat, by omega⟩
  obtain ⟨p, hp⟩ : ∃ p, p = 2 ^ j := ⟨_, rfl⟩
  have hj : j ≤ 4 := by omega
  have hp1 : 1 ≤ p := by rw [hp]; exact Nat.one_le_two_pow
  have hp2 : p ≤ 16 := by rw [hp]; exact Nat.pow_le_pow_right (by omega) hj
  have HP := Lib.hid hp
  have hsh : (2 : Int) ^ j = (p : Int) := by rw [hp]; simp
  clear hp
  obtain ⟨r, hr⟩ : ∃ r, r = n % (2 * p) := ⟨_, rfl⟩
  have hr1 : (n : Int) % (2 * (p : Int)) = (r : Int) := by rw [hr]; simp
  have hr2 : Int.tmod (n : Int) (2 * (p : Int)) = (r : Int) := by rw [Int.tmod_eq_emod_of_nonneg (by omega)]; exact hr1
  have HR := Lib.hid hr
  clear hr
  by_cases hrp : r = p
  · by_cases hnp : n ≤ p
    · have hrp' : (r : Int) = (p : Int) := by omega
      have hnp' : (n : Int) ≤ (p : Int) := by omega
      go_wp2_with fail
      go_ret
      exact ⟨rfl, B1⟩
    · have hrp' : (r : Int) = (p : Int) := by omega
      have hnp' : ¬ (n : Int) ≤ (p : Int) := by omega
      obtain ⟨b, o, rfl, hb, hI⟩ := HX.out (by intro e; have := HN.out; rw [e] at this; simp at this; omega)
      have HI := Lib.hid (hI.keep B1)
      have T := twins_root j l (by rw [← HN.out, ← HP.out, ← HR.out, hrp]) (by rw [← HN.out, ← HP.out]; omega)
      rw [← HP.out, ← HN.out] at T
      obtain ⟨s, hs⟩ : ∃ s, s = n - p := ⟨_, rfl⟩
      rw [← hs] at T
      have hs2 : (n : Int) - (p : Int) = (s : Int) := by omega
      have HBE := Lib.hid B1
      have HLD : Hid ((l.drop s).length = p) := Lib.hid (by rw [List.length_drop, ← HN.out]; omega)
      clear hI hb
      have hsn : s + p = n := by omega
      have hsn2 : (n : Int) - (s : Int) = (p : Int) := by omega
      have hsc : s < cap := by omega
      clear hs
      have hID : Hid (IdsAt w1 b (o + s * 32) (l.drop s)) := Lib.hid fun i hi j hj => by
        rw [List.length_drop] at hi
        have := HI.out (s + i) (by omega) j hj
        rw [show o + s * 32 + i * 32 + j = o + (s + i) * 32 + j by omega, this]
        simp [List.getD_eq_getElem?_getD, List.getElem?_drop]
      have HSL : Hid (Value.slice (some ⟨b, o, none⟩) n cap = .slice (some ⟨b, o, none⟩) l.length cap) := Lib.hid (by rw [HN.out])
      have HSL2 : Hid (Value.slice (some ⟨b, o + s * 32, none⟩) p (cap - s) = .slice (some ⟨b, o + s * 32, none⟩) (l.drop s).length (cap - s)) := Lib.hid (by rw [HLD.out])
      have HNL := Lib.hid (show 0 < l.length ∧ l.length ≤ 30 by rw [← HN.out]; omega)
      have hLD : ∀ y ∈ l ++ l.drop s, y < 2 ^ 256 := fun y hy => (List.mem_append.1 hy).elim (HL.out y) fun h => HL.out y (List.mem_of_mem_drop h)
      have HLL := Lib.hid hLD
      have c0 := Lib.hid fun (W : World) (hb : Below w1.heap.size w1 W) => root_any (some ⟨b, o, none⟩) cap l HL.out (by have := HNL.out; omega) W (fun e => by cases e) (fun _ => ⟨b, o, rfl, HI.out.keep hb⟩)
      rw [← HN.out] at c0
      obtain ⟨R, hR⟩ : ∃ R, R = (Mroot l).1 := ⟨_, rfl⟩
      obtain ⟨F, hF⟩ : ∃ F, F = (Mroot l).2 := ⟨_, rfl⟩
      have HRL : Hid (R < 2 ^ 256) := Lib.hid (by rw [hR]; exact mroot_lt _ l _ HL.out)
      rw [← hR] at T
      rw [← hR, ← hF] at c0
      have HT := Lib.hid T
      obtain ⟨d, hd⟩ : ∃ d, d = l ++ l.drop s := ⟨_, rfl⟩
      have HD := Lib.hid hd
      have hdl : d.length = n + p := by rw [hd, List.length_append, HLD.out, HN.out]
      have HDL := Lib.hid hdl
      rw [← hd] at HT HLL
      go_wp2_with fail
      clear hR hF hd T hdl hLD hr1 hr2 hrp hrp' hsh
      have ez := iblk_lit
      refine wp_region_tail 9 [RowOf #[] 25 0 0, Is (.slice (some ⟨b, o, none⟩) n cap), (fun v W => OwnsI W w1.heap.size v l), Is (.slice (some ⟨b, o, none⟩) n cap), Is (.slice (some ⟨b, o, none⟩) n cap), Is (.int .i64 n), Is (.int .i64 p), Is (.int .i64 s), Is (.slice (some ⟨b, o + s * 32, none⟩) p (cap - s))] [[], [], [(0, some 44), (1, some 45)], [], [], [(4, some 48)], [], [(5, some 49), (6, some 50)], [(3, some 47), (7, some 51)], [(2, some 46), (8, some 52)], [(9, some 53)]] [(0, some 44), (1, some 45), (2, some 46), (3, some 47), (4, some 48), (5, some 49), (6, some 50), (7, some 51), (8, some 52)] [0, 0, 3, 0, 0, 16, 0, 112, 248, 511, 1023]
        (by kernel_rfl) (by kernel_rfl) (by kernel_rfl) (by kernel_rfl) (by kernel_rfl) ⟨RowOf.kept _ _ _ _, Is.kept _, (fun _ _ _ hb h => OwnsI.keep h hb), Is.kept _, Is.kept _, Is.kept _, Is.kept _, Is.kept _, Is.kept _, trivial⟩ ⟨?_, ?_, ?_, ?_, ?_, ?_, ?_, ?_, ?_, trivial⟩ ?_
      · as_aux_lemma =>
        refine fun w' hB => ?_
        show wpList _ _ _ _ _ _
        go_wp2_with fail
        exact ⟨_, rfl, ⟨_, rfl, heap_new _ _⟩, below_alloc (Below.refl _ _) _⟩
      · as_aux_lemma =>
        refine fun w' hB => ?_
        show wpList _ _ _ _ _ _
        go_wp2_with fail
        exact ⟨.slice (some ⟨b, o, none⟩) n cap, by first | rfl | (go_simp; done), rfl, Below.refl _ _⟩
      · as_aux_lemma =>
        refine fun w' hB v0 h0 v1 h1 => ?_
        obtain ⟨g0, rfl, hg0⟩ := h0
        obtain rfl := h1
        show wpList _ _ _ _ _ _
        go_wp2_with (at_builtin; refine wpList_append_new rfl (.tmp 44) (.tmp 45) rfl g0 rfl l b o cap HSL.out (HI.out.keep hB) HNL.out.1 (by have := HNL.out.2; omega) (fun v' w2 ho hbel => ?_))
        exact ⟨v', rfl, OwnsI.mono ho hB.size, hbel⟩
      · as_aux_lemma =>
        refine fun w' hB => ?_
        show wpList _ _ _ _ _ _
        go_wp2_with fail
        exact ⟨.slice (some ⟨b, o, none⟩) n cap, by first | rfl | (go_simp; done), rfl, Below.refl _ _⟩
      · as_aux_lemma =>
        refine fun w' hB => ?_
        show wpList _ _ _ _ _ _
        go_wp2_with fail
        exact ⟨.slice (some ⟨b, o, none⟩) n cap, by first | rfl | (go_simp; done), rfl, Below.refl _ _⟩
      · as_aux_lemma =>
        refine fun w' hB v4 h4 => ?_
        obtain rfl := h4
        show wpList _ _ _ _ _ _
        go_wp2_with fail
        exact ⟨.int .i64 n, by first | rfl | (go_simp; done), rfl, Below.refl _ _⟩
      · as_aux_lemma =>
        refine fun w' hB => ?_
        show wpList _ _ _ _ _ _
        go_wp2_with fail
        exact ⟨.int .i64 p, by first | rfl | (go_simp; done), rfl, Below.refl _ _⟩
      · as_aux_lemma =>
        refine fun w' hB v5 h5 v6 h6 => ?_
        obtain rfl := h5
        obtain rfl := h6
        show wpList _ _ _ _ _ _
        go_wp2_with fail
        exact ⟨.int .i64 s, by first | rfl | (go_simp; done), rfl, Below.refl _ _⟩
      · as_aux_lemma =>
        refine fun w' hB v3 h3 v7 h7 => ?_
        obtain rfl := h3
        obtain rfl := h7
        show wpList _ _ _ _ _ _
        go_wp2_with fail
        exact ⟨_, rfl, congrArg (fun z => Value.slice (some ⟨b, o + s * 32, none⟩) z (cap - s)) (show n - s = p by omega), Below.refl _ _⟩
      · refine fun w' hB v0 h0 v1 h1 v2 h2 v3 h3 v4 h4 v5 h5 v6 h6 v7 h7 v8 h8 => ?_
        obtain rfl := h8
        simp only [onP, List.drop_succ_cons, List.drop_zero]
        go_simp
        clear h0 h1 h3 h4 h5 h6 h7
        have hO : Hid (OwnsI w' w1.heap.size v2 l) := Lib.hid h2
        clear h2
        go_wp2_with (at_builtin; refine wpList_append_ids rfl (.tmp 46) (.tmp 52) rfl w1.heap.size _ l rfl hO.out (l.drop s) (some ⟨b, o + s * 32, none⟩) (cap - s) HSL2.out (fun e => by cases e) (fun _ => ⟨b, _, rfl, hID.out.keep hB⟩) (by rw [HLD.out, ← HN.out]; omega) hB.size (fun v' w5 hown' hbel => ?_))
        have B5 : Below w1.heap.size w1 w5 := hbel _ _ (Nat.le_refl _) hB
        rw [← HD.out] at hown'
        obtain ⟨g, c3, rfl, hgb, hgw, hIg⟩ := hown'.at HDL.out (by omega)
        have c2 := Lib.hid fun (W : World) (hb : Below w5.heap.size w5 W) => root_any (some ⟨g, 0, none⟩) c3 d HLL.out (by have := HDL.out; omega) W (fun e => by cases e) (fun _ => ⟨g, 0, rfl, hIg.keep hb⟩)
        rw [HT.out.1, HT.out.2, HDL.out] at c2
        have q1 : ∀ W, (Op.equalIn 10000 25 (iv R) (iv R)).run Try.prog W = .ok true W := eq_self R HRL.out
        clear hown' hbel hIg hgb hgw
        refine (c0.out _ B5).mono ?_
        rintro e w6 ⟨rfl, hb⟩
        have B6 := Lib.hid (below_alloc hb (iblk 0))
        have h56 : w5.heap.size ≤ w6.heap.size := hb.size
        have BW := Lib.hid (below_next B1 B5)
        clear hb B5 hB B1
        go_wp2_with (first | (refine wpList_store_id rfl (.tmp 7) (.tmp 57) rfl w6.heap.size 0 R rfl rfl (heap_new _ _) (fun w7 h1 h2 h3 h4 => ?_); have K7 := Lib.hid h1; have B7 := Lib.hid (h4 w5.heap.size w5 h56 B6.out); clear h1 h2 h3 h4))
        refine (c2.out _ B7.out).mono ?_
        rintro e w8 ⟨rfl, hb⟩
        have K7b := Lib.hid (keep_alloc (iblk 0) (below_keep hb K7.out))
        have B8 := Lib.hid (below_alloc (below_next B7.out hb) (iblk 0))
        have h68 : w6.heap.size < w8.heap.size := block_lt (below_keep hb K7.out)
        clear hb K7 B6 B7
        go_wp2_with (first | (refine wpList_store_id rfl (.tmp 9) (.tmp 62) rfl w8.heap.size 0 R rfl rfl (heap_new _ _) (fun w9 h1 h2 h3 h4 => ?_); have K9 := Lib.hid h1; have K7c := Lib.hid ((h2 w6.heap.size (by omega)).trans K7b.out); have B9 := Lib.hid (h4 w5.heap.size w5 (by omega) B8.out); clear h1 h2 h3 h4) | refine wpList_load_id rfl (.tmp 7) rfl w6.heap.size R rfl K7c.out ?_ | refine wpList_load_id rfl (.tmp 9) rfl w8.heap.size R rfl K9.out ?_)
        exact bodyPost_ret (v := .bool true) (by simp [results, Try.results11, asAddr]) rfl ⟨rfl, below_next BW.out B9.out⟩
  · have hrp' : ¬ (r : Int) = (p : Int) := by omega
    go_wp2_with fail
    go_ret
    exact ⟨rfl, B1⟩

set_option maxRecDepth 100000 in
theorem MerkleTwins_lifted (os : Os) (started : os.Started) (H : Type) (enc : TypeId × Value → H) :
    ReturnsInHanded {} Try.checked os 11 .any (Rows.merkleTwinsSpec.pre6 enc Try.prog Try.f11 Rows.merkleTwinsRow.domain false) (Rows.merkleTwinsSpec.post enc Try.prog Try.f11 false true false false) := by
  refine returnsInHanded_of_change (C := Try.checked) own started (by kernel_rfl) Try.func11
    (ChangeSpec.witness6 (enc := enc) (C := Try.checked) false ⟨#[], #[.slice none 0 0, .int .i64 0], []⟩ 8 (by kernel_rfl) (by kernel_rfl) (by kernel_rfl) (by kernel_rfl)) ?_
  intro W base args ds gs before hval0 hW hcnd _
  have hval : ∀ (j : Nat) t v, Try.f11.params[j]? = some t → args[j]? = some v → Value.okWide Try.prog W .any base t v := hval0
  have hW' := hW
  obtain ⟨p, q, hA0, hV, rfl, hfz, hnd⟩ := hW
  have hA : DataW.TrodAll enc Try.prog W 0 (fun _ => true) true Try.f11.params.toList args.toList ds p := hA0
  rw [Try.params11] at hA hval
  obtain ⟨v0, vs0, d0, ds0, p0, q0, hargs, rfl, rfl, h0, r0⟩ := trodAll_cons hA
  obtain ⟨v1, vs1, d1, ds1, p1, q1, rfl, rfl, rfl, h1, r1⟩ := trodAll_cons r0
  obtain ⟨rfl, rfl, rfl⟩ := trodAll_nil r1
  obtain rfl : args = #[v0, v1] := by cases args; simp_all
  obtain ⟨rfl, rfl⟩ := trodVars_none hV
  have k0 := h0
  have lt0 := trod_lt_of h0
  obtain ⟨a0, cap0, l0, b0, rfl, e0, f0, g0, c0⟩ := open_ids (hval 0 37 v0 rfl rfl) h0
  have k1 := h1
  have lt1 := trod_lt_of h1
  obtain ⟨a1, rfl, rfl, rfl, b1⟩ := open_int Try.underlying3 (hval 1 3 v1 rfl rfl) h1
  clear hA0 hval0
  refine (MerkleTwins_walk a0 cap0 l0 b0 a1 b1 W e0 f0 g0 c0).mono fun e W' ⟨he, bel⟩ => ?_
  subst he
  exact ⟨_, rfl, _, _, _, [], _, [], hW', trodAll_mk1 (shut_bool (by kernel_rfl) _), (trodAll_cons_mk (Below.trod laidOut (by kernel_rfl) (of_decide_eq_true (by kernel_rfl)) k0 bel lt0) (trodAll_cons_mk (Below.trod laidOut (by kernel_rfl) (of_decide_eq_true (by kernel_rfl)) k1 bel lt1) trodAll_mk0)), rfl, bel.frame _, fun h => by cases h⟩

theorem MerkleTwins_closed : joinedFacts Try.prog 11 Try.f11 Rows.merkleTwinsSpec Rows.merkleTwinsRow = true := by
  simp only [joinedFacts, Bool.and_eq_true]
  repeat' apply And.intro
  all_goals first
    | (with_reducible exact head_enter)
    | (rw [head_make]; kernel_rfl)
    | (rw [head_lift]; kernel_rfl)
    | kernel_rfl

theorem MerkleTwins_holds : Rows.MerkleTwinsSaid :=
  OpenClaim.holds_of_wide 11 Try.f11 rfl rfl rfl rfl rfl rfl rfl ⟨rfl, rfl, rfl, rfl, rfl⟩ rfl rfl rfl rfl rfl (by kernel_rfl) Try.func11 MerkleTwins_closed
    (of_decide_eq_true (by kernel_rfl)) (by unfold Func.isWrapper; rw [if_neg (of_decide_eq_false (by kernel_rfl))]; exact ⟨rfl, rfl⟩)
    (fun os started H enc _ => MerkleTwins_lifted os started H enc)
end Go.Proofs.Ytfopockjakeplaa
