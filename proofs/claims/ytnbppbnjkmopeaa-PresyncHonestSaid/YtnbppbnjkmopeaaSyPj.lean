/- The statements' own helper: what is behind a name in a line. No condition. -/
import Derived.Test.YtnbppbnjkmopeaaSyPk
namespace Go.Proofs.Ytnbppbnjkmopeaa
open Go.RowKit

/-- a part of a row of headers -/
def AftTo (w w' : World) (x : Option Addr) (l : List Hd) (e : Ending) : Prop := ∃ x' c', e = .returned (.slice x' l.length c') ∧ l.length ≤ c' ∧ c' ≤ maxLen ∧ (0 < l.length → ∃ b o o', x = some ⟨b, o, none⟩ ∧ x' = some ⟨b, o', none⟩ ∧ HdsAt w b o' l) ∧ Below w.heap.size w w'
set_option maxRecDepth 100000 in
set_option maxHeartbeats 4000000 in
theorem after_any (x : Option Addr) (c : Nat) (l : List Hd) (hlo : ∀ h ∈ l, h.ok) (id : Nat) (hid : id < 2 ^ 256) (w : World) (hl : l.length ≤ 1000000) (hc : l.length ≤ c) (hc2 : c ≤ maxLen) (hx : 0 < l.length → ∃ b o, x = some ⟨b, o, none⟩ ∧ HdsAt w b o l) :
    Calls Try.prog 37 #[.slice x l.length c, iv id] w fun e w' => AftTo w w' x (afterP l id) e := by
  obtain ⟨R, hR⟩ : ∃ R, R = afterP l id := ⟨_, rfl⟩
  rw [← hR]
  have HR := Lib.hid hR
  have HLO := Lib.hid hlo; have HX := Lib.hid hx; have HID := Lib.hid hid
  have KI := Lib.hid (heap_new w (iblk id))
  have B := Lib.hid (below_alloc (Below.refl w.heap.size w) (iblk id))
  obtain ⟨L, hL⟩ : ∃ L, L = l.length := ⟨_, rfl⟩
  have HL := Lib.hid hL
  rw [← hL] at hl hc
  rw [← hL]
  have HC2 := Lib.hid hc2
  have hc2' : c ≤ 9223372036854775807 := by unfold maxLen at hc2; omega
  clear hR hlo hx hid hL hc2
  go_enter Try.func37, Try.ntmps37
  go_wp2_with fail
  obtain ⟨gi, hgi⟩ : ∃ g, g = w.heap.size := ⟨_, rfl⟩
  have HGI := Lib.hid hgi
  rw [← hgi] at KI
  rw [← hgi]
  clear hgi
  go_loopg [9] L (fun gm ix wr => ∃ j : Nat, gm = L - j ∧ j ≤ L ∧ ix = .int .i64 j ∧ wr.heap[gi]? = some (iblk id) ∧ (∀ i, i < j → hdid (l.getD i hd0) ≠ id) ∧ Below w.heap.size w wr)
  case atStart => exact ⟨0, rfl, Nat.zero_le _, rfl, KI.out, fun i hi => by omega, B.out⟩
  case round =>
    clear KI B
    obtain ⟨j, hgm, hj, rfl, hki, hne, hb⟩ := hrel
    have HGM := Lib.hid hgm; have KI := Lib.hid hki; have HNE := Lib.hid hne; have B := Lib.hid hb
    clear hgm hki hne hb
    by_cases hlt : j < L
    · obtain ⟨b, o, rfl, hmm⟩ := HX.out (by rw [← HL.out]; omega)
      have HMM := Lib.hid hmm
      have hj2 : j < l.length := by rw [← HL.out]; exact hlt
      obtain ⟨h, hh⟩ : ∃ h, h = l.getD j hd0 := ⟨_, rfl⟩
      have hok : h.ok := by rw [hh]; exact HLO.out _ (by rw [List.getD_eq_getElem?_getD, List.getElem?_eq_getElem hj2]; exact List.getElem_mem _)
      have HM : Hid (wr.rangeAt b (o + j * 68) (hdcs h)) := Lib.hid (hh ▸ (hmm.keep B.out).at j hj2)
      have HH := Lib.hid hh
      have ch := Lib.hid fun V => hid_any h hok V
      obtain ⟨hi, hhi⟩ : ∃ v, v = hdid h := ⟨_, rfl⟩
      have hil : hi < 2 ^ 256 := hhi ▸ hdid_lt h
      rw [← hhi] at ch
      have HHI := Lib.hid hhi
      have EQ := Lib.hid fun V => eq_id hi id hil HID.out V
      have HZ := Lib.hid (show Obj.cells Try.zeroCells26 26 = hdblk hd0 from by unfold hdblk; rw [hdz]; rfl)
      clear hmm hj2 hh hok hhi hil
      go_upto_region 4 with ((with_reducible show wpList _ _ _ _ _ _); first | refine ld_hd rfl (.tmp 12) rfl b (o + j * 68) h rfl HM.out ?_ | (refine wpList_store_hd rfl (.tmp 6) (.tmp 13) rfl wr.heap.size hd0 h rfl rfl ((heap_new wr _).trans (congrArg some HZ.out)) (fun w3 h1 h2 h3 h4 => ?_); have hB3 := h4 _ _ (Nat.le_refl _) (below_alloc (Below.refl _ _) _); have KH := Lib.hid h1; have KI3 := Lib.hid (block_keep hB3 KI.out); have B3 := Lib.hid (below_next B.out hB3); clear h1 h2 h3 h4 hB3))
      obtain ⟨g6, hg6⟩ : ∃ g, g = wr.heap.size := ⟨_, rfl⟩
      rw [← hg6] at KH
      rw [← hg6]
      clear hg6 KI B HM
      have KI := KI3; have B := B3
      clear KI3 B3
      by_cases he : hi = id
      · rw [decide_eq_true he] at EQ
        have hR : R = l.drop (j + 1) := by rw [HR.out]; exact aft_at j (by rw [← HL.out]; exact hlt) (by rw [← HH.out, ← HHI.out]; exact he) HNE.out
        have HRR := Lib.hid hR
        clear he hR
        refine wp_region_by [Is (hdv h), Is (iv hi), Is (iv id), Is (.bool true)] [[], [(0, some 14)], [], [(1, some 15), (2, some 16)]] [(0, some 14), (1, some 15), (2, some 16), (3, some 17)] [0, 1, 0, 7]
          (by kernel_rfl) (by kernel_rfl) (by kernel_rfl) (by kernel_rfl) ⟨Is.kept _, Is.kept _, Is.kept _, Is.kept _, trivial⟩ ⟨?_, ?_, ?_, ?_, trivial⟩ ?_
        · as_aux_lemma =>
          refine fun w' hB => ?_
          show wpList _ _ _ _ _ _
          go_wp2_with ((with_reducible show wpList _ _ _ _ _ _); refine wpList_load_hd rfl (.tmp 6) rfl g6 h rfl (block_keep hB KH.out) ?_)
          exact ⟨_, rfl, rfl, Below.refl _ _⟩
        · as_aux_lemma =>
          refine fun w' hB v0 h0 => ?_
          obtain rfl := h0
          show wpList _ _ _ _ _ _
          go_wp2_with fail
          refine (ch.out w').mono ?_
          rintro e w2 ⟨rfl, hb2⟩
          go_wp2_with fail
          exact ⟨iv hi, by first | rfl | (go_simp; done), rfl, hb2⟩
        · as_aux_lemma =>
          refine fun w' hB => ?_
          show wpList _ _ _ _ _ _
          go_wp2_with ((with_reducible show wpList _ _ _ _ _ _); refine wpList_load_id rfl (.tmp 3) rfl gi id rfl (block_keep hB KI.out) ?_)
          exact ⟨_, rfl, rfl, Below.refl _ _⟩
        · as_aux_lemma =>
          refine fun w' hB v1 h1 v2 h2 => ?_
          obtain rfl := h1
          obtain rfl := h2
          show wpList _ _ _ _ _ _
          have eq := EQ.out w'
          go_wp2_with fail
          exact ⟨_, rfl, rfl, Below.refl _ _⟩
        · refine fun w' hB v0 h0 v1 h1 v2 h2 v3 h3 => ?_
          obtain rfl := h3
          simp only [onP]
          go_simp
          clear h0 h1 h2
          have B4 := Lib.hid (below_next B.out hB)
          clear hB
          have hlen : R.length = L - (j + 1) := by rw [HRR.out, List.length_drop, ← HL.out]
          have HLEN := Lib.hid hlen
          clear hlen
          by_cases hjc : j + 1 < c
          · go_wp2_with fail
            go_ret
            exact ⟨some ⟨b, o + (j + 1) * 68, none⟩, c - (j + 1), by rw [HLEN.out]; rfl, by rw [HLEN.out]; omega, by have := HC2.out; omega, fun _ => ⟨b, o, _, rfl, rfl, HRR.out ▸ HMM.out.drop (j + 1)⟩, B4.out⟩
          · obtain rfl : c = j + 1 := by omega
            obtain rfl : L = j + 1 := by omega
            go_wp2_with fail
            go_ret
            exact ⟨some ⟨b, o, none⟩, 0, by rw [HLEN.out, Nat.sub_self]; rfl, by rw [HLEN.out]; omega, Nat.zero_le _, fun hp => by rw [HLEN.out] at hp; omega, B4.out⟩
      · rw [decide_eq_false he] at EQ
        have HNE2 : Hid (∀ i, i < j + 1 → hdid (l.getD i hd0) ≠ id) := Lib.hid fun i hi2 => by
          by_cases e : i = j
          · rw [e, ← HH.out, ← HHI.out]; exact he
          · exact HNE.out i (by omega)
        clear he
        refine wp_region_by [Is (hdv h), Is (iv hi), Is (iv id), Is (.bool false)] [[], [(0, some 14)], [], [(1, some 15), (2, some 16)]] [(0, some 14), (1, some 15), (2, some 16), (3, some 17)] [0, 1, 0, 7]
          (by kernel_rfl) (by kernel_rfl) (by kernel_rfl) (by kernel_rfl) ⟨Is.kept _, Is.kept _, Is.kept _, Is.kept _, trivial⟩ ⟨?_, ?_, ?_, ?_, trivial⟩ ?_
        · as_aux_lemma =>
          refine fun w' hB => ?_
          show wpList _ _ _ _ _ _
          go_wp2_with ((with_reducible show wpList _ _ _ _ _ _); refine wpList_load_hd rfl (.tmp 6) rfl g6 h rfl (block_keep hB KH.out) ?_)
          exact ⟨_, rfl, rfl, Below.refl _ _⟩
        · as_aux_lemma =>
          refine fun w' hB v0 h0 => ?_
          obtain rfl := h0
          show wpList _ _ _ _ _ _
          go_wp2_with fail
          refine (ch.out w').mono ?_
          rintro e w2 ⟨rfl, hb2⟩
          go_wp2_with fail
          exact ⟨iv hi, by first | rfl | (go_simp; done), rfl, hb2⟩
        · as_aux_lemma =>
          refine fun w' hB => ?_
          show wpList _ _ _ _ _ _
          go_wp2_with ((with_reducible show wpList _ _ _ _ _ _); refine wpList_load_id rfl (.tmp 3) rfl gi id rfl (block_keep hB KI.out) ?_)
          exact ⟨_, rfl, rfl, Below.refl _ _⟩
        · as_aux_lemma =>
          refine fun w' hB v1 h1 v2 h2 => ?_
          obtain rfl := h1
          obtain rfl := h2
          show wpList _ _ _ _ _ _
          have eq := EQ.out w'
          go_wp2_with fail
          exact ⟨_, rfl, rfl, Below.refl _ _⟩
        · refine fun w' hB v0 h0 v1 h1 v2 h2 v3 h3 => ?_
          obtain rfl := h3
          simp only [onP]
          go_simp
          clear h0 h1 h2
          have B4 := Lib.hid (below_next B.out hB); have KI4 := Lib.hid (block_keep hB KI.out)
          clear hB
          go_wp2_with fail
          go_roundg (L - (j + 1))
          case measure => have := HGM.out; omega
          case rel => exact ⟨j + 1, rfl, by omega, by go_num, KI4.out, HNE2.out, B4.out⟩
    · obtain rfl : j = L := by omega
      have hR : R = l := by
        rw [HR.out]
        refine aft_none fun y hy e => ?_
        obtain ⟨i, hi⟩ := List.getElem?_of_mem hy
        have hil := (List.getElem?_eq_some_iff.1 hi).1
        exact HNE.out i (by rw [HL.out]; exact hil) (by rw [List.getD_eq_getElem?_getD, hi]; exact e)
      have HRR := Lib.hid hR
      clear hR
      go_wp2_with fail
      go_ret
      refine ⟨x, c, by rw [HRR.out, ← HL.out]; rfl, by rw [HRR.out, ← HL.out]; exact hc, HC2.out, fun hp => ?_, B.out⟩
      rw [HRR.out] at hp ⊢
      obtain ⟨b, o, e1, e2⟩ := HX.out hp
      exact ⟨b, o, o, e1, e1, e2⟩
end Go.Proofs.Ytnbppbnjkmopeaa
