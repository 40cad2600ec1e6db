/- tallystickref01.Sum: a block's numbers are added to the old ones. No condition. -/
import Derived.Test.YtfopockjakeplaaRsD
namespace Go.Proofs.Ytfopockjakeplaa
open Go.RowKit

/-- the first k numbers are the sums -/
def mix (h q : List Nat) (k : Nat) : List Nat := (List.range 8).map fun j => if j < k then add32 (h.getD j 0) (q.getD j 0) else h.getD j 0
theorem mix_len (h q : List Nat) (k : Nat) : (mix h q k).length = 8 := by simp [mix]
theorem mix_get (h q : List Nat) (k j : Nat) (hj : j < 8) : (mix h q k).getD j 0 = if j < k then add32 (h.getD j 0) (q.getD j 0) else h.getD j 0 := by simp [mix, hj]
theorem mix_zero {h q : List Nat} (hl : h.length = 8) : mix h q 0 = h := by
  apply List.ext_getElem?
  intro j
  by_cases hj : j < 8
  · simp [mix, hj, show j < h.length by omega]
  · rw [List.getElem?_eq_none (by rw [mix_len]; omega), List.getElem?_eq_none (by omega)]
theorem mix_all {h q : List Nat} (hl : h.length = 8) (hq : q.length = 8) : mix h q 8 = List.zipWith add32 h q := by
  apply List.ext_getElem?
  intro j
  by_cases hj : j < 8
  · rw [List.getElem?_zipWith]
    simp [mix, hj, show j < h.length by omega, show j < q.length by omega]
  · rw [List.getElem?_eq_none (by rw [mix_len]; omega), List.getElem?_eq_none (by simp; omega)]
theorem mix_step (h q : List Nat) (k : Nat) (hk : k < 8) : (us (mix h q k)).toArray.setIfInBounds k (.int .u32 (add32 (h.getD k 0) (q.getD k 0) : Nat)) = (us (mix h q (k + 1))).toArray := by
  apply Array.ext_getElem?
  intro j
  rw [Array.getElem?_setIfInBounds]
  simp only [List.getElem?_toArray, List.size_toArray, us_len, mix_len]
  by_cases hj : j < 8
  · rw [us_get _ _ (by rw [mix_len]; exact hj), us_get _ _ (by rw [mix_len]; exact hj), mix_get _ _ _ _ hj, mix_get _ _ _ _ hj]
    by_cases e : k = j
    · subst e; simp [hk]
    · rw [if_neg e]
      have : (j < k) ↔ (j < k + 1) := by omega
      simp [this]
  · rw [List.getElem?_eq_none (by rw [us_len, mix_len]; omega), List.getElem?_eq_none (by rw [us_len, mix_len]; omega)]
    simp; omega
def hrow (h : List Nat) : Obj := .cells (us h).toArray 34 (0, 0)
theorem hrow_cell {w : World} {g : Nat} {h : List Nat} (hg : w.heap[g]? = some (hrow h)) (j : Nat) (hj : j < h.length) : w.cell? ⟨g, j, none⟩ = some (.int .u32 (h.getD j 0 : Nat)) := by
  rw [cell_of_row _ _ _ _ _ _ hg, List.getElem?_toArray, us_get h j hj]

set_option maxRecDepth 1000000 in
set_option maxHeartbeats 4000000 in
theorem loop8 (A : Array Value) (h q : List Nat) (hl : h.length = 8) (hq : q.length = 8) (gh : Nat) (vv : Value) (w : World) (hs : A.size = 306) (h7 : A[7]? = some (.slice (some ⟨gh, 0, none⟩) 8 8)) (h16 : A[16]? = some vv) (h22 : A[22]? = some (.int .i64 0))
    (hh : w.heap[gh]? = some (hrow h)) (hv : U32At w vv q) (hne : ∀ g, (∃ c, vv = .slice (some ⟨g, 0, none⟩) 8 c) → g ≠ gh)
    (Q : Exit → Act → World → Prop)
    (hQ : ∀ A' w', Keeps A A' → w'.heap[gh]? = some (hrow (List.zipWith add32 h q)) → w'.heap.size = w.heap.size → Below gh w w' → Q (.exit 14) ⟨A', []⟩ w') : Code.wp Try.prog (Code.loop (rsBody 7)) Q ⟨A, []⟩ w := by
  obtain ⟨f, rfl⟩ := lit306 A hs
  have e7 : f 7 = .slice (some ⟨gh, 0, none⟩) 8 8 := by simpa using h7
  have e16 : f 16 = vv := by simpa using h16
  have e22 : f 22 = .int .i64 0 := by simpa using h22
  clear h7 h16 h22 hs
  have HQ := Lib.hid hQ
  obtain ⟨gv, cv, rfl, hvc⟩ := hv
  rw [hq] at hvc e16 hne
  have hne' : gv ≠ gh := hne gv ⟨cv, rfl⟩
  have HVC := Lib.hid hvc
  have HH := Lib.hid hh
  have E7 := Lib.hid e7
  have HALL := Lib.hid (mix_all hl hq)
  have HZERO := Lib.hid (@mix_zero h q hl)
  clear hQ hvc hne hh hl hq
  conv => arg 2; arg 1; whnf
  rw [e7, e16, e22]
  clear e7 e16 e22
  go_loopg [22] 8 (fun g ix wr => ∃ k : Nat, g = 8 - k ∧ k ≤ 8 ∧ ix = .int .i64 k ∧ wr.heap[gh]? = some (hrow (mix h q k)) ∧ wr.heap.size = w.heap.size ∧ (∀ b, b ≠ gh → wr.heap[b]? = w.heap[b]?) ∧ Below gh w wr)
  case atStart => exact ⟨0, rfl, by omega, rfl, by rw [HZERO.out]; exact HH.out, rfl, fun _ _ => rfl, Below.refl _ _⟩
  case round =>
    clear HH
    obtain ⟨k, hg, hk, rfl, hr, hz, ho, B⟩ := hrel
    have HG := Lib.hid hg; have HR := Lib.hid hr; have HZ := Lib.hid hz; have HO := Lib.hid ho
    clear hg hr hz ho
    by_cases hlt : k < 8
    · have ch := hrow_cell HR.out k (by rw [mix_len]; exact hlt)
      rw [mix_get _ _ _ _ hlt, if_neg (by omega)] at ch
      have cv0 := HVC.out k (by omega)
      have cq : wr.cell? ⟨gv, k, none⟩ = some (.int .u32 (q.getD k 0 : Nat)) := by
        rw [← cv0]
        unfold World.cell?
        simp only [HO.out gv hne']
      have fz : wr.frozen? ⟨gh, k, none⟩ = false := frozen_of_row _ _ _ _ _ HR.out
      obtain ⟨x, hx⟩ : ∃ x, x = h.getD k 0 := ⟨_, rfl⟩
      obtain ⟨y, hy⟩ : ∃ y, y = q.getD k 0 := ⟨_, rfl⟩
      obtain ⟨z, hz⟩ : ∃ z, z = add32 x y := ⟨_, rfl⟩
      have ez : ((x : Int) + (y : Int)) % 4294967296 = (z : Int) := by rw [hz]; unfold add32; omega
      have hzb : z < 4294967296 := by rw [hz]; exact add32_lt _ _
      have HST : Hid ((us (mix h q k)).toArray.setIfInBounds k (.int .u32 (z : Int)) = (us (mix h q (k + 1))).toArray) := Lib.hid (by rw [hz, hx, hy]; exact mix_step h q k hlt)
      rw [← hx] at ch
      rw [← hy] at cq
      clear hx hy hz cv0
      go_wp2_with fail
      go_region
      all_goals
        go_wp2_with fail
        go_roundg (8 - (k + 1))
        case measure => have := HG.out; omega
        case rel =>
          refine ⟨k + 1, rfl, by omega, by go_num, ?_, ?_, fun b hb => ?_, Below.drew (Below.setCell B (Nat.le_refl _) _)⟩
          · show (wr.setCell _ _).heap[gh]? = _
            have := heap_setCell_same wr gh k _ 34 (.int .u32 (z : Int)) HR.out
            rw [HST.out] at this
            exact this
          · show (wr.setCell _ _).heap.size = _
            rw [← HZ.out]; simp [World.setCell]
          · exact (heap_setCell_other _ _ _ _ hb).trans (HO.out b hb)
    · obtain rfl : k = 8 := by omega
      rw [HALL.out] at HR
      go_wp2_with fail
      exact HQ.out _ _ ⟨rfl, rfl, rfl, rfl, by simp [E7.out], rfl⟩ HR.out HZ.out B
end Go.Proofs.Ytfopockjakeplaa
