/- tallystickref01: more, mul. No condition. -/
import Derived.Test.YtfopockjakeplaaPrA
import Derived.StillTailTactics
import Derived.OwnWalk
namespace Go.Proofs.Ytfopockjakeplaa
open Go.RowKit

set_option maxRecDepth 100000 in
set_option maxHeartbeats 1000000 in
theorem more_any (a b : List Nat) (ha : canon a) (hb : canon b) (hal : a.length ≤ 100) (hbl : b.length ≤ 100) (va vb : Value) (w : World) (hva : DAt w va a) (hvb : DAt w vb b) :
    Calls Try.prog 42 #[va, vb] w fun e w' => e = .returned (.bool (decide (val b < val a))) ∧ Below w.heap.size w w' := by
  obtain ⟨R, hR⟩ : ∃ R, R = decide (val b < val a) := ⟨_, rfl⟩
  rw [← hR]
  have HR := Lib.hid hR; have HA := Lib.hid ha; have HB := Lib.hid hb
  obtain ⟨x, c, rfl, hx⟩ := hva
  obtain ⟨y, d, rfl, hy⟩ := hvb
  have HX := Lib.hid hx; have HY := Lib.hid hy
  obtain ⟨n, hn⟩ : ∃ n, n = a.length := ⟨_, rfl⟩
  obtain ⟨m, hm⟩ : ∃ m, m = b.length := ⟨_, rfl⟩
  rw [← hn] at hal
  rw [← hm] at hbl
  rw [← hn, ← hm]
  have HN := Lib.hid hn; have HM := Lib.hid hm
  clear hR ha hb hx hy hn hm
  go_enter Try.func42, Try.ntmps42
  by_cases hnm : n = m
  · subst hnm
    go_wp2_with fail
    go_loopg [5] n (fun g iv' wr => ∃ k : Nat, g = k ∧ k ≤ n ∧ iv' = .int .i64 ((k : Int) - 1) ∧ a.drop k = b.drop k ∧ Below w.heap.size w wr)
    case atStart => exact ⟨n, rfl, Nat.le_refl _, rfl, by rw [List.drop_of_length_le (by rw [← HN.out]; exact Nat.le_refl _), List.drop_of_length_le (by rw [← HM.out]; exact Nat.le_refl _)], Below.refl _ _⟩
    case round =>
      obtain ⟨k, hg, hk, rfl, hd, hBB⟩ := hrel
      have HG := Lib.hid hg; have HD := Lib.hid hd; have HBB := Lib.hid hBB
      clear hg hd hBB
      by_cases h0 : k = 0
      · subst h0
        have hd := HD.out
        rw [List.drop_zero, List.drop_zero] at hd
        have hr : R = false := by rw [HR.out, hd, decide_eq_false (by omega)]
        subst hr
        rw [show (((0 : Nat) : Int) - 1) = -1 from rfl]
        clear HD HR hd
        go_wp2_with fail
        go_ret
        exact ⟨rfl, HBB.out⟩
      · obtain ⟨j, rfl⟩ : ∃ j, k = j + 1 := ⟨k - 1, by omega⟩
        rw [show (((j + 1 : Nat) : Int) - 1) = (j : Int) by omega]
        obtain ⟨ga, rfl, ca⟩ := HX.out (by intro e; have := HN.out; rw [e] at this; simp at this; omega)
        obtain ⟨gb, rfl, cb⟩ := HY.out (by intro e; have := HM.out; rw [e] at this; simp at this; omega)
        have c1 := ca j (by rw [← HN.out]; omega)
        have c2 := cb j (by rw [← HM.out]; omega)
        have C1 := Lib.hid fun V (hb : Below w.heap.size w V) => (hb.cell (p := ⟨ga, j, none⟩) (block_lt_of_cell c1)).trans c1
        have C2 := Lib.hid fun V (hb : Below w.heap.size w V) => (hb.cell (p := ⟨gb, j, none⟩) (block_lt_of_cell c2)).trans c2
        clear ca cb c1 c2
        have hja : j < a.length := by rw [← HN.out]; omega
        have hjb : j < b.length := by rw [← HM.out]; omega
        have hpa : a.getD j 0 < 16777216 := by rw [List.getD_eq_getElem?_getD, List.getElem?_eq_getElem hja]; exact canon_dig a HA.out _ (List.getElem_mem _)
        have hpb : b.getD j 0 < 16777216 := by rw [List.getD_eq_getElem?_getD, List.getElem?_eq_getElem hjb]; exact canon_dig b HB.out _ (List.getElem_mem _)
        have HV1 := Lib.hid fun h => val_more a b j (by rw [← HN.out, ← HM.out]) (canon_dig a HA.out) (canon_dig b HB.out) hja HD.out h
        have HV2 := Lib.hid fun h => val_more b a j (by rw [← HN.out, ← HM.out]) (canon_dig b HB.out) (canon_dig a HA.out) hjb HD.out.symm h
        have HD2 : Hid (a.getD j 0 = b.getD j 0 → a.drop j = b.drop j) := Lib.hid fun e => by
          rw [List.drop_eq_getElem_cons hja, List.drop_eq_getElem_cons hjb, HD.out]
          rw [List.getD_eq_getElem?_getD, List.getElem?_eq_getElem hja, List.getD_eq_getElem?_getD, List.getElem?_eq_getElem hjb] at e
          congr 1
        obtain ⟨p, hp⟩ : ∃ p, p = a.getD j 0 := ⟨_, rfl⟩
        obtain ⟨q, hq⟩ : ∃ q, q = b.getD j 0 := ⟨_, rfl⟩
        rw [← hp] at C1 HV1 HV2 HD2 hpa
        rw [← hq] at C2 HV1 HV2 HD2 hpb
        have c1 := C1.out _ HBB.out; have c2 := C2.out _ HBB.out
        clear hp hq hja hjb HD
        by_cases hpq : p = q
        · have hpq' : (p : Int) = (q : Int) := by omega
          go_wp2_with fail
          go_quiet (fail)
          go_wp2_with fail
          go_roundg j
          case measure => have := HG.out; omega
          case rel => exact ⟨j, rfl, by omega, rfl, HD2.out hpq, below_drewN HBB.out _⟩
        · have hpq' : ¬ (p : Int) = (q : Int) := by omega
          have hr : R = decide (q < p) := by
            rw [HR.out, Bool.eq_iff_iff, decide_eq_true_iff, decide_eq_true_iff]
            constructor
            · intro h
              rcases Nat.lt_or_ge q p with h1 | h1
              · exact h1
              · have := HV2.out (by omega)
                omega
            · exact fun h => HV1.out h
          have HRR : Hid (decide (q < p) = R) := Lib.hid hr.symm
          clear hr HR HV1 HV2 HD2
          go_wp2_with fail
          go_quiet (fail)
          go_wp2_with fail
          refine wp_abs (fun W => Below w.heap.size w W) (below_drewN HBB.out _) ?_
          clear c1 c2 HBB
          rintro W hW
          have HW := Lib.hid hW
          have c1 := C1.out _ hW; have c2 := C2.out _ hW
          clear hW
          go_quiet (fail)
          go_wp2_with fail
          go_ret
          exact ⟨by rw [← HRR.out]; rfl, below_drewN HW.out _⟩
  · have hnm' : ¬ (n : Int) = (m : Int) := by omega
    have hr : R = decide (m < n) := by
      rw [HR.out, Bool.eq_iff_iff, decide_eq_true_iff, decide_eq_true_iff]
      constructor
      · intro h
        rcases Nat.lt_or_ge m n with h1 | h1
        · exact h1
        · exfalso
          have := val_len HB.out HA.out (by rw [← HN.out, ← HM.out]; omega)
          omega
      · intro h
        exact val_len HA.out HB.out (by rw [← HN.out, ← HM.out]; exact h)
    have HRR : Hid (decide (m < n) = R) := Lib.hid hr.symm
    clear hr HR HX HY
    go_wp2_with fail
    go_ret
    exact ⟨by rw [← HRR.out]; rfl, Below.refl _ _⟩
end Go.Proofs.Ytfopockjakeplaa
