/- What num.Add answers: the sum of a list of numbers. -/
import Derived.Test.YtnbppbnjkmopeaaNumA
namespace Go.Proofs.Ytnbppbnjkmopeaa
open Go.RowKit

def NumsAt (w : World) (b o : Nat) (xs : List Nat) : Prop := ∀ i, i < xs.length → ∀ j, j < 4 → w.cell? ⟨b, o + i * 4 + j, none⟩ = some (.int .u64 (lw (xs.getD i 0) j))
theorem cells4 {w : World} {b : Nat} {t : TypeId} {v0 v1 v2 v3 : Value} (h : w.heap[b]? = some (.cells #[v0, v1, v2, v3] t (0, 0))) :
    w.cell? ⟨b, 0, none⟩ = some v0 ∧ w.cell? ⟨b, 1, none⟩ = some v1 ∧ w.cell? ⟨b, 2, none⟩ = some v2 ∧ w.cell? ⟨b, 3, none⟩ = some v3 ∧ (∀ j, w.frozen? ⟨b, j, none⟩ = false) ∧ b < w.heap.size := by
  refine ⟨?_, ?_, ?_, ?_, fun j => frozen_of_row _ _ _ _ _ h, ?_⟩
  · rw [cell_of_row _ _ _ _ _ _ h]; rfl
  · rw [cell_of_row _ _ _ _ _ _ h]; rfl
  · rw [cell_of_row _ _ _ _ _ _ h]; rfl
  · rw [cell_of_row _ _ _ _ _ _ h]; rfl
  · exact (Array.getElem?_eq_some_iff.1 h).1

def addStep (p : Nat × Bool) (x : Nat) : Nat × Bool := ((p.1 + x) % 2 ^ 256, p.2 || decide (2 ^ 256 ≤ p.1 + x))
def addAll (xs : List Nat) : Nat × Bool := xs.foldl addStep (0, false)

theorem addAll_snoc (xs : List Nat) (k : Nat) (h : k < xs.length) : addAll (xs.take (k + 1)) = addStep (addAll (xs.take k)) (xs.getD k 0) := by
  unfold addAll
  rw [List.take_add_one, List.foldl_append]
  simp [List.getD, List.getElem?_eq_getElem h]
theorem set4 {w : World} {b : Nat} {t : TypeId} {x0 x1 x2 x3 : Value} (v0 v1 v2 v3 : Value) (h : w.heap[b]? = some (.cells #[x0, x1, x2, x3] t (0, 0))) :
    ((((w.setCell ⟨b, 0, none⟩ v0).setCell ⟨b, 1, none⟩ v1).setCell ⟨b, 2, none⟩ v2).setCell ⟨b, 3, none⟩ v3).heap[b]? = some (.cells #[v0, v1, v2, v3] t (0, 0)) := by
  have h0 := heap_setCell_same w b 0 _ t v0 h
  have h1 := heap_setCell_same _ b 1 _ t v1 h0
  have h2 := heap_setCell_same _ b 2 _ t v2 h1
  have h3 := heap_setCell_same _ b 3 _ t v3 h2
  simpa using h3
theorem set4_other {w : World} {b k : Nat} (v0 v1 v2 v3 : Value) (hk : k ≠ b) :
    ((((w.setCell ⟨b, 0, none⟩ v0).setCell ⟨b, 1, none⟩ v1).setCell ⟨b, 2, none⟩ v2).setCell ⟨b, 3, none⟩ v3).heap[k]? = w.heap[k]? := by
  rw [heap_setCell_other _ _ _ _ hk, heap_setCell_other _ _ _ _ hk, heap_setCell_other _ _ _ _ hk, heap_setCell_other _ _ _ _ hk]
theorem set4_size (w : World) (b : Nat) (v0 v1 v2 v3 : Value) : ((((w.setCell ⟨b, 0, none⟩ v0).setCell ⟨b, 1, none⟩ v1).setCell ⟨b, 2, none⟩ v2).setCell ⟨b, 3, none⟩ v3).heap.size = w.heap.size := by
  simp [World.setCell]

set_option maxRecDepth 100000 in
set_option maxHeartbeats 1000000 in
theorem add_row (xs : List Nat) (b o cap : Nat) (w : World) (hx : ∀ x ∈ xs, x < 2 ^ 256) (hn : xs.length ≤ 1000000) (hb : b < w.heap.size) (hc : NumsAt w b o xs) :
    Calls Try.prog 58 #[.slice (some ⟨b, o, none⟩) xs.length cap] w fun e w' => e = .returned (.tuple #[nv (addAll xs).1, .bool (addAll xs).2]) ∧ Below w.heap.size w w' := by
  have H := Lib.hid hx; have HC := Lib.hid hc; clear hx hc
  generalize hl : xs.length = n at *
  have HL := Lib.hid hl; clear hl
  have hs := call_add
  have s0 := addc_0
  have s1 := addc_1
  have x0 := lw_0
  have x1 := lw_m
  go_enter Try.func58, Try.ntmps58
  go_wp2
  have hz0 : w.heap.size = w.heap.size := rfl
  go_loopw [5, 12] (fun ov ix wr => ∃ k : Nat, k ≤ n ∧ ix = .int .i64 k ∧ ov = .bool (addAll (xs.take k)).2 ∧ (addAll (xs.take k)).1 < 2 ^ 256 ∧
      wr.heap[w.heap.size]? = some (.cells #[.int .u64 0, .int .u64 0, .int .u64 0, .int .u64 0] 47 (0, 0)) ∧
      wr.heap[w.heap.size + 1]? = some (.cells (nv (addAll (xs.take k)).1).cells 47 (0, 0)) ∧ Below w.heap.size w wr) (fun _ ix _ => n - (intOf ix).toNat)
  case atStart => exact ⟨0, Nat.zero_le _, rfl, rfl, by simp [addAll], heap_alloc2_old w _ _, by rw [show (addAll (xs.take 0)).1 = 0 from rfl, nv_zero]; exact heap_alloc2_new w _ _, (by repeat' (first | (with_reducible exact Below.refl _ _) | (with_reducible assumption) | (with_reducible refine Below.alloc ?_ ?_ _) | (with_reducible refine Below.drew ?_) | (with_reducible refine below_drewN ?_ _) | (with_reducible refine Below.setCell ?_ ?_ _) | go_size))⟩
  case round =>
    obtain ⟨k, hk, rfl, rfl, hS, hr, ho, hb1⟩ := hrel
    have HS := Lib.hid hS
    have HR := Lib.hid hr
    have HO := Lib.hid ho
    clear hS hr ho
    by_cases hlt : k < n
    · obtain ⟨c0, c1, c2, c3, cf, cz⟩ := cells4 HO.out
      generalize hq : (addAll (xs.take k)).1 = S at *
      generalize hq2 : (addAll (xs.take k)).2 = O at *
      have HQ := Lib.hid hq; have HQ2 := Lib.hid hq2
      clear hq hq2
      have d0 : wr.cell? ⟨b, o + k * 4, none⟩ = _ := (hb1.cell (p := ⟨b, o + k * 4, none⟩) hb).trans (HC.out k (by rw [HL.out]; exact hlt) 0 (by omega))
      have d1 := (hb1.cell (p := ⟨b, o + k * 4 + 1, none⟩) hb).trans (HC.out k (by rw [HL.out]; exact hlt) 1 (by omega))
      have d2 := (hb1.cell (p := ⟨b, o + k * 4 + 2, none⟩) hb).trans (HC.out k (by rw [HL.out]; exact hlt) 2 (by omega))
      have d3 := (hb1.cell (p := ⟨b, o + k * 4 + 3, none⟩) hb).trans (HC.out k (by rw [HL.out]; exact hlt) 3 (by omega))
      generalize hxk : xs.getD k 0 = X at *
      have HX := Lib.hid hxk; clear hxk
      go_wp2
      refine wp_loop_rounds 5 ?_
      rw [rounds_succ]; go_wp2
      go_region; go_wp2
      trace "1"
      rw [rounds_succ]; go_wp2
      go_region; go_wp2
      trace "2"
      rw [rounds_succ]; go_wp2
      go_region; go_wp2
      trace "3"
      rw [rounds_succ]; go_wp2
      go_region; go_wp2
      trace "4"
      rw [rounds_succ]; go_wp2
      all_goals
        go_roundw
        case rel =>
          have hxs : k < xs.length := by rw [HL.out]; exact hlt
          have hX : X < 2 ^ 256 := by rw [← HX.out, List.getD_eq_getElem?_getD, List.getElem?_eq_getElem hxs]; exact H.out _ (List.getElem_mem hxs)
          have e := addAll_snoc xs k hxs
          unfold addStep at e
          rw [HQ.out, HQ2.out, HX.out] at e
          obtain ⟨e1, e2⟩ := add_words S X HS.out hX
          refine ⟨k + 1, by omega, by go_num, ?_, ?_, ?_, ?_, (by repeat' (first | (with_reducible exact Below.refl _ _) | (with_reducible assumption) | (with_reducible refine Below.alloc ?_ ?_ _) | (with_reducible refine Below.drew ?_) | (with_reducible refine below_drewN ?_ _) | (with_reducible refine Below.setCell ?_ ?_ _) | go_size))⟩
          · rw [e, ← e2]
            first
              | (have hO : O = true := by assumption
                 rw [hO]; rfl)
              | (have hO : ¬ O = true := by assumption
                 rw [Bool.eq_false_iff.2 hO]; rfl)
          · rw [e]; exact Nat.mod_lt _ (by omega)
          · exact (Below.heap_alloc _ _ _ (by rw [set4_size]; omega)).trans ((set4_other _ _ _ _ (by omega)).trans HR.out)
          · rw [e, e1]; exact (Below.heap_alloc _ _ _ (by rw [set4_size]; exact cz)).trans (set4 _ _ _ _ HO.out)
        case measure => simp [intOf]; omega
    · have hkn : k = n := by omega
      subst hkn
      have et : xs.take k = xs := List.take_of_length_le (by rw [HL.out]; exact Nat.le_refl _)
      have HO' := HO.out
      rw [et] at HO'
      obtain ⟨c0, c1, c2, c3, cf, cz⟩ := cells4 HO'
      obtain ⟨r0, r1, r2, r3, rf, rz⟩ := cells4 HR.out
      rw [et]
      clear et HO'
      go_wp2
      exact bodyPost_ret (v := .tuple #[nv (addAll xs).1, .bool (addAll xs).2]) (by simp [results, Try.results58, go_sem, r0, r1, r2, r3]) rfl ⟨rfl, (by repeat' (first | (with_reducible exact Below.refl _ _) | (with_reducible assumption) | (with_reducible refine Below.alloc ?_ ?_ _) | (with_reducible refine Below.drew ?_) | (with_reducible refine below_drewN ?_ _) | (with_reducible refine Below.setCell ?_ ?_ _) | go_size))⟩
end Go.Proofs.Ytnbppbnjkmopeaa
