/- The law MerkleLeads: a way leads from a sum to where its parts lead, one behind the other. No condition. -/
import Derived.Test.YtfopockjakeplaaMkJ
import Derived.Test.YtfopockjakeplaaHead
namespace Go.Proofs.Ytfopockjakeplaa
open Go.ChangeShapes Go.WideShapes Go.ChangeAt Go.RowKit

set_option maxRecDepth 100000 in
set_option maxHeartbeats 4000000 in
theorem MerkleLeads_walk (a : Nat) (ha : a < 2 ^ 256) (i : Int) (hwf : (Lit.int .i64 i).wf = true) (x : Option Addr) (cap : Nat) (l : List Nat) (_hl : ∀ y ∈ l, y < 2 ^ 256) (w : World) (_hc : l.length ≤ cap) (_hm : cap ≤ maxLen) (_hz : x = none → l = [] ∧ cap = 0) (hx0 : l ≠ [] → ∃ b o, x = some ⟨b, o, none⟩ ∧ b < w.heap.size ∧ IdsAt w b o l) :
    Calls Try.prog 13 #[iv a, .int .i64 i, .slice x l.length cap] w fun e w' => e = .returned (.bool true) ∧ Below w.heap.size w w' := by
  have hx : l ≠ [] → ∃ b o, x = some ⟨b, o, none⟩ ∧ IdsAt w b o l := fun h => by
    obtain ⟨b, o, h1, _, h3⟩ := hx0 h
    exact ⟨b, o, h1, h3⟩
  have hi2 : i < 9223372036854775808 := by
    have := hwf
    simp [Lit.wf, IntKind.min, IntKind.max, IntKind.signed, IntKind.bits] at this
    omega
  clear hwf hx0 _hl _hc _hm _hz
  have HX := Lib.hid hx
  obtain ⟨n, hnn⟩ : ∃ n, n = l.length := ⟨_, rfl⟩
  rw [← hnn]
  have HN := Lib.hid hnn
  have HA := Lib.hid ha
  clear hnn hx ha
  have B : Below w.heap.size w w := Below.refl _ _
  have ez := iblk_lit
  go_enter Try.func13, Try.ntmps13
  go_wp2_with fail
  refine (joins_any _).mono ?_
  rintro e w1 ⟨rfl, hb1⟩
  have K0 : Hid (w1.heap[w.heap.size]? = some (iblk a)) := Lib.hid (below_keep hb1 (heap_new w _))
  have B1 : Below w.heap.size w w1 := below_next (below_alloc B _) hb1
  clear hb1 B
  by_cases hneg : i < 0
  · go_wp2_with fail
    go_ret
    exact ⟨rfl, B1⟩
  by_cases hbig : 40 < n
  · have hbig' : (40 : Int) < (n : Int) := by omega
    go_wp2_with fail
    go_ret
    exact ⟨rfl, B1⟩
  obtain ⟨j, rfl⟩ : ∃ j : Nat, i = (j : Int) := ⟨i.toNat, by omega⟩
  have hbig' : ¬ (40 : Int) < (n : Int) := by omega
  have hn : n ≤ 40 := by omega
  have hj : j < 9223372036854775808 := by omega
  have hj0 : ¬ (j : Int) < 0 := by omega
  clear hneg hbig hi2
  have cA := Lib.hid fun (W : World) (hb : Below w.heap.size w W) => leads_any a j hj x cap l (by have := HN.out; omega) W (fun h => by
    obtain ⟨b, o, h1, h2⟩ := HX.out h
    exact ⟨b, o, h1, h2.keep hb⟩)
  have cZ := Lib.hid fun (W : World) => leads_any a j hj none 0 [] (by simp) W (fun h => absurd rfl h)
  have cS := Lib.hid fun (z k y : Nat) (W : World) (g : Nat) (h : W.heap[g]? = some (.cells (idsL [y]).toArray 25 (0, 0))) =>
    leads_any z (j / 2 ^ k) (Nat.lt_of_le_of_lt (Nat.div_le_self _ _) hj) (some ⟨g, 0, none⟩) 1 [y] (by simp) W (fun _ => ⟨g, 0, rfl, IdsAt.row h⟩)
  simp only [← HN.out, led, List.length_nil, List.length_singleton] at cA cZ cS
  obtain ⟨R, hR⟩ : ∃ R, R = led a j l := ⟨_, rfl⟩
  rw [← hR] at cA
  have HR := Lib.hid hR
  clear hR
  go_wp2_with (first | refine wpList_load_id rfl (.tmp 3) rfl w.heap.size a rfl K0.out ?_)
  refine (cA.out _ B1).mono ?_
  rintro e w2 ⟨rfl, hb⟩
  have K0b := Lib.hid (keep_alloc (iblk 0) (below_keep hb K0.out))
  have B2 : Hid (Below w.heap.size w (w2.alloc (iblk 0))) := Lib.hid (below_alloc (below_next B1 hb) _)
  have h02 : w.heap.size < w2.heap.size := block_lt (below_keep hb K0.out)
  clear hb B1 K0
  go_wp2_with (first | (refine wpList_store_id rfl (.tmp 7) (.tmp 23) rfl w2.heap.size 0 R rfl rfl (heap_new _ _) (fun w3 h1 h2 h3 h4 => ?_); have K7 := Lib.hid (keep_alloc (iblk 0) h1); have K0c := Lib.hid ((h2 w.heap.size (by omega)).trans K0b.out); have K0d := Lib.hid (keep_alloc (iblk 0) K0c.out); have B3 : Hid (Below w.heap.size w (w3.alloc (iblk 0))) := Lib.hid (below_alloc (h4 w.heap.size w (by omega) B2.out) _); have h73 : w2.heap.size < w3.heap.size := block_lt h1; clear h1 h2 h3 h4) | refine wpList_load_id rfl (.tmp 3) rfl w.heap.size a rfl K0c.out ?_ | (refine wpList_store_id rfl (.tmp 8) (.tmp 24) rfl w3.heap.size 0 a rfl rfl (heap_new _ _) (fun w4 h1 h2 h3 h4 => ?_); have K8 := Lib.hid h1; have K0 := Lib.hid ((h2 w.heap.size (by omega)).trans K0d.out); have K7b := Lib.hid ((h2 w2.heap.size (by omega)).trans K7.out); have B4 := Lib.hid (h4 w.heap.size w (by omega) B3.out); clear h1 h2 h3 h4))
  clear K0b K0c K0d K7 B2 B3
  obtain ⟨g0, hg0⟩ : ∃ g, g = w.heap.size := ⟨_, rfl⟩
  obtain ⟨g7, hg7⟩ : ∃ g, g = w2.heap.size := ⟨_, rfl⟩
  obtain ⟨g8, hg8⟩ : ∃ g, g = w3.heap.size := ⟨_, rfl⟩
  rw [← hg0] at K0 h02
  rw [← hg7] at K7b h02 h73
  rw [← hg8] at K8 h73
  simp only [← hg0, ← hg7, ← hg8]
  have HG0 := Lib.hid hg0
  clear hg0 hg7 hg8
  go_loopg [27] n (fun g ix wr => ∃ k : Nat, g = n - k ∧ k ≤ n ∧ ix = .int .i64 k ∧ wr.heap[g0]? = some (iblk a) ∧ wr.heap[g7]? = some (iblk R) ∧ wr.heap[g8]? = some (iblk (led a j (l.take k))) ∧ Below w.heap.size w wr)
  case atStart => exact ⟨0, rfl, by omega, rfl, K0.out, K7b.out, K8.out, B4.out⟩
  case round =>
    clear K0 K7b K8 B4
    obtain ⟨k, hg, hk, rfl, h0, h7, h8, hB⟩ := hrel
    have HG := Lib.hid hg; have K0 := Lib.hid h0; have K7 := Lib.hid h7; have K8 := Lib.hid h8; have HB := Lib.hid hB
    clear hg h0 h7 h8 hB
    by_cases hlt : k < n
    · have hkl : k < l.length := by rw [← HN.out]; exact hlt
      obtain ⟨b, o, rfl, hI⟩ := HX.out (by intro e; rw [e] at hkl; simp at hkl)
      have HS := Lib.hid (led_take a j l k hkl)
      obtain ⟨y, hy⟩ : ∃ y, y = l.getD k 0 := ⟨_, rfl⟩
      have hr := (hI.keep HB.out).range hkl
      rw [← hy] at HS hr
      have HRG := Lib.hid hr
      obtain ⟨z, hz⟩ : ∃ z, z = led a j (l.take k) := ⟨_, rfl⟩
      rw [← hz] at HS K8
      have cs := Lib.hid (cS.out z k y)
      obtain ⟨z2, hz2⟩ : ∃ z2, z2 = ledS z (j / 2 ^ k) y := ⟨_, rfl⟩
      rw [← hz2] at HS cs
      obtain ⟨q, hq⟩ : ∃ q, q = j / 2 ^ k := ⟨_, rfl⟩
      rw [← hq] at cs
      have HQ := Lib.hid hq
      have hw0 : g0 < wr.heap.size := block_lt K0.out
      have hw7 : g7 < wr.heap.size := block_lt K7.out
      have hw8 : g8 < wr.heap.size := block_lt K8.out
      have hww : w.heap.size ≤ wr.heap.size := HB.out.size
      clear hy hI hr hz hz2 hq hkl cA cZ cS
      go_wp2_with (first | refine wpList_load_at rfl (.tmp 30) rfl b (o + k * 32) y rfl HRG.out ?_ | (refine wpList_store_id rfl (.tmp 10) (.tmp 31) rfl wr.heap.size 0 y rfl rfl (heap_new wr _) (fun w5 h1 h2 h3 h4 => ?_); have K10 := Lib.hid h1; have K0' := Lib.hid ((h2 g0 (by omega)).trans (keep_alloc _ K0.out)); have K7' := Lib.hid ((h2 g7 (by omega)).trans (keep_alloc _ K7.out)); have K8' := Lib.hid ((h2 g8 (by omega)).trans (keep_alloc _ K8.out)); have HB5 := Lib.hid (h4 w.heap.size w hww (below_alloc HB.out _)); clear h1 h2 h3 h4))
      obtain ⟨g10, hg10⟩ : ∃ g, g = wr.heap.size := ⟨_, rfl⟩
      rw [← hg10] at K10
      simp only [← hg10]
      have hk0 : ¬ (k : Int) < 0 := by omega
      clear hg10 K0 K7 K8
      refine wp_region_tail 7 [Is (iv z), Is (.int .i64 j), Is (.int .i64 k), Is (.int .i64 q), Is (iv y), RowOf (idsL [y]).toArray 25 1 1, Is (iv z2)] [[], [], [], [(1, some 33), (2, some 34)], [], [(4, some 36)], [(0, some 32), (3, some 35), (5, some 37)], [(6, some 38)]] [(0, some 32), (1, some 33), (2, some 34), (3, some 35), (4, some 36), (5, some 37), (6, some 38)] [0, 0, 0, 6, 0, 16, 63, 127]
        (by kernel_rfl) (by kernel_rfl) (by kernel_rfl) (by kernel_rfl) (by kernel_rfl) ⟨Is.kept _, Is.kept _, Is.kept _, Is.kept _, Is.kept _, RowOf.kept _ _ _ _, Is.kept _, trivial⟩ ⟨?_, ?_, ?_, ?_, ?_, ?_, ?_, trivial⟩ ?_
      · as_aux_lemma =>
        refine fun w' hB => ?_
        show wpList _ _ _ _ _ _
        go_wp2_with (first | refine wpList_load_id rfl (.tmp 8) rfl g8 z rfl (block_keep hB K8'.out) ?_)
        exact ⟨iv z, rfl, rfl, Below.refl _ _⟩
      · as_aux_lemma =>
        refine fun w' hB => ?_
        show wpList _ _ _ _ _ _
        go_wp2_with fail
        exact ⟨.int .i64 j, by first | rfl | (go_simp; done), rfl, Below.refl _ _⟩
      · as_aux_lemma =>
        refine fun w' hB => ?_
        show wpList _ _ _ _ _ _
        go_wp2_with fail
        exact ⟨.int .i64 k, by first | rfl | (go_simp; done), rfl, Below.refl _ _⟩
      · as_aux_lemma =>
        refine fun w' hB v1 h1 v2 h2 => ?_
        obtain rfl := h1
        obtain rfl := h2
        show wpList _ _ _ _ _ _
        go_wp2_with fail
        refine ⟨_, rfl, congrArg (Value.int .i64) ?_, Below.refl _ _⟩
        rw [HQ.out]
        simp
      · as_aux_lemma =>
        refine fun w' hB => ?_
        show wpList _ _ _ _ _ _
        go_wp2_with (first | refine wpList_load_id rfl (.tmp 10) rfl g10 y rfl (block_keep hB K10.out) ?_)
        exact ⟨iv y, rfl, rfl, Below.refl _ _⟩
      · as_aux_lemma =>
        refine fun w' hB v4 h4 => ?_
        obtain rfl := h4
        show wpList _ _ _ _ _ _
        go_wp2_with (first | refine wpList_build_1 rfl (.tmp 36) y rfl rfl ?_)
        exact ⟨_, rfl, ⟨_, rfl, heap_new _ _⟩, below_alloc (Below.refl _ _) _⟩
      · as_aux_lemma =>
        refine fun w' hB v0 h0 v3 h3 v5 h5 => ?_
        obtain rfl := h0
        obtain rfl := h3
        obtain ⟨g5, rfl, hg5⟩ := h5
        show wpList _ _ _ _ _ _
        go_wp2_with fail
        refine (cs.out _ _ hg5).mono ?_
        rintro e w2 ⟨rfl, hb2⟩
        go_wp2_with fail
        exact ⟨iv z2, by first | rfl | (go_simp; done), rfl, hb2⟩
      · refine fun w' hB v0 h0 v1 h1 v2 h2 v3 h3 v4 h4 v5 h5 v6 h6 => ?_
        obtain rfl := h6
        simp only [onP, List.drop_succ_cons, List.drop_zero]
        go_simp
        clear h0 h1 h2 h3 h4 h5
        have K8b := Lib.hid (block_keep hB K8'.out); have K0b := Lib.hid (block_keep hB K0'.out); have K7b := Lib.hid (block_keep hB K7'.out)
        have HB6 := Lib.hid (below_next HB5.out hB)
        go_wp2_with (first | (refine wpList_store_id rfl (.tmp 8) (.tmp 38) rfl g8 z z2 rfl rfl K8b.out (fun w7 h1 h2 h3 h4 => ?_); have K8c := Lib.hid h1; have K0c := Lib.hid ((h2 g0 (by omega)).trans K0b.out); have K7c := Lib.hid ((h2 g7 (by omega)).trans K7b.out); have HB7 := Lib.hid (h4 w.heap.size w (by have := HG0.out; omega) HB6.out); clear h1 h2 h3 h4))

        go_roundg (n - (k + 1))
        case measure => have := HG.out; omega
        case rel => exact ⟨k + 1, rfl, by omega, by go_num, K0c.out, K7c.out, by rw [HS.out]; exact K8c.out, HB7.out⟩
    · obtain rfl : k = n := by omega
      have HT : Hid (led a j (l.take k) = R) := Lib.hid (by rw [HN.out, List.take_length, HR.out])
      rw [HT.out] at K8
      have hRl : R < 2 ^ 256 := by rw [HR.out]; exact led_lt _ _ _ HA.out
      have q1 : ∀ W, (Op.equalIn 10000 25 (iv R) (iv R)).run Try.prog W = .ok true W := eq_self R hRl
      have q2 : ∀ W, (Op.equalIn 10000 25 (iv a) (iv a)).run Try.prog W = .ok true W := eq_self a HA.out
      clear hRl hlt
      go_wp2_with fail
      refine wp_region_by [Is (iv R), Is (iv R), Is (.bool true), Is (.bool true), Is (iv a), Is (.int .i64 j), Is (iv a), Is (iv a), Is (.bool true), Is (.bool true), Is (.bool true)] [[], [], [(0, some 40), (1, some 41)], [(2, some 42)], [(3, some 43)], [(3, some 43)], [(3, some 43), (4, some 44), (5, some 45)], [(3, some 43)], [(3, some 43), (6, some 46), (7, some 47)], [(3, some 43), (8, some 48)], [(9, some 49)]] [(0, some 40), (1, some 41), (2, some 42), (3, some 43), (4, some 44), (5, some 45), (6, some 46), (7, some 47), (8, some 48), (9, some 49), (10, some 6)] [0, 0, 3, 7, 15, 15, 63, 15, 255, 511, 1023]
        (by kernel_rfl) (by kernel_rfl) (by kernel_rfl) (by kernel_rfl) ⟨Is.kept _, Is.kept _, Is.kept _, Is.kept _, Is.kept _, Is.kept _, Is.kept _, Is.kept _, Is.kept _, Is.kept _, Is.kept _, trivial⟩ ⟨?_, ?_, ?_, ?_, ?_, ?_, ?_, ?_, ?_, ?_, ?_, trivial⟩ ?_
      · as_aux_lemma =>
        refine fun w' hB => ?_
        show wpList _ _ _ _ _ _
        go_wp2_with (first | refine wpList_load_id rfl (.tmp 7) rfl g7 R rfl (block_keep hB K7.out) ?_)
        exact ⟨iv R, rfl, rfl, Below.refl _ _⟩
      · as_aux_lemma =>
        refine fun w' hB => ?_
        show wpList _ _ _ _ _ _
        go_wp2_with (first | refine wpList_load_id rfl (.tmp 8) rfl g8 R rfl (block_keep hB K8.out) ?_)
        exact ⟨iv R, rfl, rfl, Below.refl _ _⟩
      · as_aux_lemma =>
        refine fun w' hB v0 h0 v1 h1 => ?_
        obtain rfl := h0
        obtain rfl := h1
        show wpList _ _ _ _ _ _
        go_wp2_with fail
        exact ⟨.bool true, by first | rfl | (go_simp; done), rfl, Below.refl _ _⟩
      · as_aux_lemma =>
        refine fun w' hB v2 h2 => ?_
        obtain rfl := h2
        show wpList _ _ _ _ _ _
        go_wp2_with fail
        exact ⟨.bool true, by first | rfl | (go_simp; done), rfl, Below.refl _ _⟩
      · as_aux_lemma =>
        refine fun w' hB v3 h3 => ?_
        obtain rfl := h3
        show wpList _ _ _ _ _ _
        refine wpList_unguard rfl ?_
        go_wp2_with (first | refine wpList_load_id rfl (.tmp 3) rfl g0 a rfl (block_keep hB K0.out) ?_)
        exact ⟨iv a, rfl, rfl, Below.refl _ _⟩
      · as_aux_lemma =>
        refine fun w' hB v3 h3 => ?_
        obtain rfl := h3
        show wpList _ _ _ _ _ _
        go_wp2_with fail
        exact ⟨.int .i64 j, by first | rfl | (go_simp; done), rfl, Below.refl _ _⟩
      · as_aux_lemma =>
        refine fun w' hB v3 h3 v4 h4 v5 h5 => ?_
        obtain rfl := h3
        obtain rfl := h4
        obtain rfl := h5
        show wpList _ _ _ _ _ _
        go_wp2_with fail
        refine (cZ.out _).mono ?_
        rintro e w2 ⟨rfl, hb2⟩
        go_wp2_with fail
        exact ⟨iv a, by first | rfl | (go_simp; done), rfl, hb2⟩
      · as_aux_lemma =>
        refine fun w' hB v3 h3 => ?_
        obtain rfl := h3
        show wpList _ _ _ _ _ _
        refine wpList_unguard rfl ?_
        go_wp2_with (first | refine wpList_load_id rfl (.tmp 3) rfl g0 a rfl (block_keep hB K0.out) ?_)
        exact ⟨iv a, rfl, rfl, Below.refl _ _⟩
      · as_aux_lemma =>
        refine fun w' hB v3 h3 v6 h6 v7 h7 => ?_
        obtain rfl := h3
        obtain rfl := h6
        obtain rfl := h7
        show wpList _ _ _ _ _ _
        go_wp2_with fail
        exact ⟨.bool true, by first | rfl | (go_simp; done), rfl, Below.refl _ _⟩
      · as_aux_lemma =>
        refine fun w' hB v3 h3 v8 h8 => ?_
        obtain rfl := h3
        obtain rfl := h8
        show wpList _ _ _ _ _ _
        go_wp2_with fail
        exact ⟨.bool true, by first | rfl | (go_simp; done), rfl, Below.refl _ _⟩
      · as_aux_lemma =>
        refine fun w' hB v9 h9 => ?_
        obtain rfl := h9
        show wpList _ _ _ _ _ _
        go_wp2_with fail
        exact ⟨.bool true, by first | rfl | (go_simp; done), rfl, Below.refl _ _⟩
      · refine fun w' hB v0 h0 v1 h1 v2 h2 v3 h3 v4 h4 v5 h5 v6 h6 v7 h7 v8 h8 v9 h9 v10 h10 => ?_
        obtain rfl := h10
        simp only [onP]
        go_simp
        clear h0 h1 h2 h3 h4 h5 h6 h7 h8 h9
        have BZ : Below w.heap.size w w' := below_next HB.out hB
        go_wp2_with fail
        exact bodyPost_ret (v := .bool true) (by simp [results, Try.results13, asAddr]) rfl ⟨rfl, BZ⟩

set_option maxRecDepth 100000 in
theorem MerkleLeads_lifted (os : Os) (started : os.Started) (H : Type) (enc : TypeId × Value → H) :
    ReturnsInHanded {} Try.checked os 13 .any (Rows.merkleLeadsSpec.pre6 enc Try.prog Try.f13 Rows.merkleLeadsRow.domain false) (Rows.merkleLeadsSpec.post enc Try.prog Try.f13 false true false false) := by
  refine returnsInHanded_of_change (C := Try.checked) own started (by kernel_rfl) Try.func13
    (ChangeSpec.witness6 (enc := enc) (C := Try.checked) false ⟨#[], #[.agg #[.int .u8 0, .int .u8 0, .int .u8 0, .int .u8 0, .int .u8 0, .int .u8 0, .int .u8 0, .int .u8 0, .int .u8 0, .int .u8 0, .int .u8 0, .int .u8 0, .int .u8 0, .int .u8 0, .int .u8 0, .int .u8 0, .int .u8 0, .int .u8 0, .int .u8 0, .int .u8 0, .int .u8 0, .int .u8 0, .int .u8 0, .int .u8 0, .int .u8 0, .int .u8 0, .int .u8 0, .int .u8 0, .int .u8 0, .int .u8 0, .int .u8 0, .int .u8 0], .int .i64 0, .slice none 0 0], []⟩ 8 (by kernel_rfl) (by kernel_rfl) (by kernel_rfl) (by kernel_rfl)) ?_
  intro W base args ds gs before hval0 hW hcnd _
  have hval : ∀ (j : Nat) t v, Try.f13.params[j]? = some t → args[j]? = some v → Value.okWide Try.prog W .any base t v := hval0
  have hW' := hW
  obtain ⟨p, q, hA0, hV, rfl, hfz, hnd⟩ := hW
  have hA : DataW.TrodAll enc Try.prog W 0 (fun _ => true) true Try.f13.params.toList args.toList ds p := hA0
  rw [Try.params13] at hA hval
  obtain ⟨v0, vs0, d0, ds0, p0, q0, hargs, rfl, rfl, h0, r0⟩ := trodAll_cons hA
  obtain ⟨v1, vs1, d1, ds1, p1, q1, rfl, rfl, rfl, h1, r1⟩ := trodAll_cons r0
  obtain ⟨v2, vs2, d2, ds2, p2, q2, rfl, rfl, rfl, h2, r2⟩ := trodAll_cons r1
  obtain ⟨rfl, rfl, rfl⟩ := trodAll_nil r2
  obtain rfl : args = #[v0, v1, v2] := by cases args; simp_all
  obtain ⟨rfl, rfl⟩ := trodVars_none hV
  have k0 := h0
  have lt0 := trod_lt_of h0
  obtain ⟨a0, b0, rfl⟩ := open_id (hval 0 25 v0 rfl rfl) h0
  have k1 := h1
  have lt1 := trod_lt_of h1
  obtain ⟨a1, rfl, rfl, rfl, b1⟩ := open_int Try.underlying3 (hval 1 3 v1 rfl rfl) h1
  have k2 := h2
  have lt2 := trod_lt_of h2
  obtain ⟨a2, cap2, l2, b2, rfl, e2, f2, g2, c2⟩ := open_ids (hval 2 37 v2 rfl rfl) h2
  clear hA0 hval0
  refine (MerkleLeads_walk a0 b0 a1 b1 a2 cap2 l2 b2 W e2 f2 g2 c2).mono fun e W' ⟨he, bel⟩ => ?_
  subst he
  exact ⟨_, rfl, _, _, _, [], _, [], hW', trodAll_mk1 (shut_bool (by kernel_rfl) _), (trodAll_cons_mk (Below.trod laidOut (by kernel_rfl) (of_decide_eq_true (by kernel_rfl)) k0 bel lt0) (trodAll_cons_mk (Below.trod laidOut (by kernel_rfl) (of_decide_eq_true (by kernel_rfl)) k1 bel lt1) (trodAll_cons_mk (Below.trod laidOut (by kernel_rfl) (of_decide_eq_true (by kernel_rfl)) k2 bel lt2) trodAll_mk0))), rfl, bel.frame _, fun h => by cases h⟩

theorem MerkleLeads_closed : joinedFacts Try.prog 13 Try.f13 Rows.merkleLeadsSpec Rows.merkleLeadsRow = true := by
  simp only [joinedFacts, Bool.and_eq_true]
  repeat' apply And.intro
  all_goals first
    | (with_reducible exact head_enter)
    | (rw [head_make]; kernel_rfl)
    | (rw [head_lift]; kernel_rfl)
    | kernel_rfl

theorem MerkleLeads_holds : Rows.MerkleLeadsSaid :=
  OpenClaim.holds_of_wide 13 Try.f13 rfl rfl rfl rfl rfl rfl rfl ⟨rfl, rfl, rfl, rfl, rfl⟩ rfl rfl rfl rfl rfl (by kernel_rfl) Try.func13 MerkleLeads_closed
    (of_decide_eq_true (by kernel_rfl)) (by unfold Func.isWrapper; rw [if_neg (of_decide_eq_false (by kernel_rfl))]; exact ⟨rfl, rfl⟩)
    (fun os started H enc _ => MerkleLeads_lifted os started H enc)
end Go.Proofs.Ytfopockjakeplaa
