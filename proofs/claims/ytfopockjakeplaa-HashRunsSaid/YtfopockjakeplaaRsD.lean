/- tallystickref01.Sum: the rounds of a block. No condition. -/
import Derived.Test.YtfopockjakeplaaRsC
import Derived.StillTailTactics
namespace Go.Proofs.Ytfopockjakeplaa
open Go.RowKit

/-- a slice of numbers of 32 bits reads as these -/
def U32At (w : World) (v : Value) (h : List Nat) : Prop := ∃ g cap, v = .slice (some ⟨g, 0, none⟩) h.length cap ∧ ∀ j, j < h.length → w.cell? ⟨g, j, none⟩ = some (.int .u32 (h.getD j 0 : Nat))
theorem U32At.keep {w w' : World} {v : Value} {h : List Nat} (k : U32At w v h) (hb : Below w.heap.size w w') : U32At w' v h := by
  obtain ⟨g, c, rfl, hc⟩ := k
  exact ⟨g, c, rfl, fun j hj => (hb.cell (p := ⟨g, j, none⟩) (block_lt_of_cell (hc j hj))).trans (hc j hj)⟩
theorem U32At.row {w : World} {g c : Nat} {h : List Nat} {t : TypeId} {fr : Nat × Nat} (hg : w.heap[g]? = some (.cells (us h).toArray t fr)) : U32At w (.slice (some ⟨g, 0, none⟩) h.length c) h :=
  ⟨g, c, rfl, fun j hj => by rw [cell_of_row _ _ _ _ _ _ hg, List.getElem?_toArray, us_get h j hj]⟩
theorem OwnsU.u32At {w : World} {base : Nat} {v : Value} {q : List Nat} (h : OwnsU w base v q) (h0 : 0 < q.length) : U32At w v q := by
  obtain ⟨g, cap, rfl, -, -, hc⟩ := h.at rfl h0
  exact ⟨g, cap, rfl, hc⟩
theorem U32At.eight {w : World} {g cap a b c d e f h i : Nat} (k : w.cell? ⟨g, 0, none⟩ = some (.int .u32 (a : Int)) ∧ w.cell? ⟨g, 1, none⟩ = some (.int .u32 (b : Int)) ∧ w.cell? ⟨g, 2, none⟩ = some (.int .u32 (c : Int)) ∧ w.cell? ⟨g, 3, none⟩ = some (.int .u32 (d : Int)) ∧
    w.cell? ⟨g, 4, none⟩ = some (.int .u32 (e : Int)) ∧ w.cell? ⟨g, 5, none⟩ = some (.int .u32 (f : Int)) ∧ w.cell? ⟨g, 6, none⟩ = some (.int .u32 (h : Int)) ∧ w.cell? ⟨g, 7, none⟩ = some (.int .u32 (i : Int))) : U32At w (.slice (some ⟨g, 0, none⟩) 8 cap) [a, b, c, d, e, f, h, i] :=
  ⟨g, cap, rfl, fun j hj => by
    obtain ⟨c0, c1, c2, c3, c4, c5, c6, c7⟩ := k
    simp only [List.length_cons, List.length_nil] at hj
    have : j = 0 ∨ j = 1 ∨ j = 2 ∨ j = 3 ∨ j = 4 ∨ j = 5 ∨ j = 6 ∨ j = 7 := by omega
    rcases this with rfl | rfl | rfl | rfl | rfl | rfl | rfl | rfl
    · exact c0
    · exact c1
    · exact c2
    · exact c3
    · exact c4
    · exact c5
    · exact c6
    · exact c7⟩
/-- the values of a round, one by one -/
theorem round_parts {k w a b c d e f g h : Nat} :
    rnd1 k w [a, b, c, d, e, f, g, h] = [add32 (rt k w e f g h) (add32 (bs0 a) (maj a b c)), a, b, c, add32 d (rt k w e f g h), e, f, g] := by
  have ha : ∀ t b m : Nat, add32 (add32 t b) m = add32 t (add32 b m) := fun t b m => by unfold add32; omega
  show [add32 (add32 (rt k w e f g h) (bs0 a)) (maj a b c), _, _, _, _, _, _, _] = _
  rw [ha]

set_option maxRecDepth 1000000 in
set_option maxHeartbeats 8000000 in
theorem loop64 (A : Array Value) (M h : List Nat) (hM : ∀ x ∈ M, x < 4294967296) (hh : H8 h) (vk vw vv : Value) (w : World) (hs : A.size = 306) (h3 : A[3]? = some vk) (h9 : A[9]? = some vw) (h16 : A[16]? = some vv) (h17 : A[17]? = some (.int .i64 0))
    (hk : U32At w vk ks) (hw : U32At w vw (wjs M 64)) (hv : U32At w vv h)
    (Q : Exit → Act → World → Prop)
    (hQ : ∀ A' w' v, Keeps A A' → A'[16]? = some v → U32At w' v (rds (wj M) h 64) → (∃ g, v = .slice (some ⟨g, 0, none⟩) 8 8 ∧ w.heap.size ≤ g) → Below w.heap.size w w' → Q (.exit 12) ⟨A', []⟩ w') : Code.wp Try.prog (Code.loop (rsBody 6)) Q ⟨A, []⟩ w := by
  obtain ⟨f, rfl⟩ := lit306 A hs
  have e3 : f 3 = vk := by simpa using h3
  have e9 : f 9 = vw := by simpa using h9
  have e16 : f 16 = vv := by simpa using h16
  have e17 : f 17 = .int .i64 0 := by simpa using h17
  clear h3 h9 h16 h17 hs
  have HQ := Lib.hid hQ
  have HL := Lib.hid (wj_lt hM)
  have HR := Lib.hid fun k => H8.rds (wj M) hh k
  obtain ⟨gks, ck, rfl, hkc⟩ := hk
  obtain ⟨gw, cw, rfl, hwc⟩ := hw
  rw [wjs_len] at hwc e9
  have HKC : Hid (∀ w' j, Below w.heap.size w w' → j < 64 → w'.cell? ⟨gks, j, none⟩ = some (.int .u32 (ks.getD j 0 : Nat))) := Lib.hid fun w' j hb hj => (hb.cell (p := ⟨gks, j, none⟩) (block_lt_of_cell (hkc j hj))).trans (hkc j hj)
  have HWC : Hid (∀ w' j, Below w.heap.size w w' → j < 64 → w'.cell? ⟨gw, j, none⟩ = some (.int .u32 (wj M j : Nat))) := Lib.hid fun w' j hb hj => by
    have := hwc j hj
    rw [wjs_get _ _ _ hj] at this
    exact (hb.cell (p := ⟨gw, j, none⟩) (block_lt_of_cell this)).trans this
  have HV := Lib.hid hv
  have E3 := Lib.hid e3
  clear hQ hM hkc hwc hv hh
  conv => arg 2; arg 1; whnf
  rw [e3, e9, e16, e17]
  rw [show ks.length = 64 from rfl]
  clear e3 e9 e16 e17
  go_loopg [16, 17] 64 (fun g sv ix wr => ∃ k : Nat, g = 64 - k ∧ k ≤ 64 ∧ ix = .int .i64 k ∧ U32At wr sv (rds (wj M) h k) ∧ Below w.heap.size w wr ∧ (0 < k → ∃ g, sv = .slice (some ⟨g, 0, none⟩) 8 8 ∧ w.heap.size ≤ g))
  case atStart => exact ⟨0, rfl, by omega, rfl, HV.out, Below.refl _ _, fun h => by omega⟩
  case round =>
    clear HV
    obtain ⟨k, hg, hk, rfl, hv, B, hnew⟩ := hrel
    have HG := Lib.hid hg; have HB := Lib.hid B
    have HNEW := Lib.hid hnew
    clear hnew
    obtain ⟨va, vb, vc, vd, ve, vf, vg, vh, hv8, l0, l1, l2, l3, l4, l5, l6, l7⟩ := (HR.out k).eight
    have HV8 := Lib.hid hv8
    rw [hv8] at hv
    obtain ⟨gv, cv, rfl, hvc⟩ := hv
    rw [show [va, vb, vc, vd, ve, vf, vg, vh].length = 8 from rfl] at HNEW
    have c0 : wr.cell? ⟨gv, 0, none⟩ = some (.int .u32 va) := hvc 0 (by simp)
    have c1 : wr.cell? ⟨gv, 1, none⟩ = some (.int .u32 vb) := hvc 1 (by simp)
    have c2 : wr.cell? ⟨gv, 2, none⟩ = some (.int .u32 vc) := hvc 2 (by simp)
    have c3 : wr.cell? ⟨gv, 3, none⟩ = some (.int .u32 vd) := hvc 3 (by simp)
    have c4 : wr.cell? ⟨gv, 4, none⟩ = some (.int .u32 ve) := hvc 4 (by simp)
    have c5 : wr.cell? ⟨gv, 5, none⟩ = some (.int .u32 vf) := hvc 5 (by simp)
    have c6 : wr.cell? ⟨gv, 6, none⟩ = some (.int .u32 vg) := hvc 6 (by simp)
    have c7 : wr.cell? ⟨gv, 7, none⟩ = some (.int .u32 vh) := hvc 7 (by simp)
    rw [show [va, vb, vc, vd, ve, vf, vg, vh].length = 8 from rfl]
    clear hg B hv8 hvc
    by_cases hlt : k < 64
    · have HC := Lib.hid ((⟨c0, c1, c2, c3, c4, c5, c6, c7⟩ : _ ∧ _ ∧ _ ∧ _ ∧ _ ∧ _ ∧ _ ∧ _))
      have s1 := bs1_bits l4
      go_wp2_with fail
      go_quiet ((go_at_call 31; exact Calls.quiet_of_same (turn_q _ _ (by exact l4) (by omega) (by omega) _)))
      clear s1
      go_wp2_with fail
      -- t1
      obtain ⟨t1, ht1⟩ : ∃ t1, t1 = rt (ks.getD k 0) (wj M k) ve vf vg vh := ⟨_, rfl⟩
      have T1L : Hid (t1 < 4294967296) := Lib.hid (by rw [ht1]; exact add32_lt _ _)
      have T1 := Lib.hid ht1
      clear ht1
      refine wp_abs (fun W => Below w.heap.size w W ∧ (W.cell? ⟨gv, 0, none⟩ = some (.int .u32 va) ∧ W.cell? ⟨gv, 1, none⟩ = some (.int .u32 vb) ∧ W.cell? ⟨gv, 2, none⟩ = some (.int .u32 vc) ∧ W.cell? ⟨gv, 3, none⟩ = some (.int .u32 vd) ∧ W.cell? ⟨gv, 4, none⟩ = some (.int .u32 ve) ∧ W.cell? ⟨gv, 5, none⟩ = some (.int .u32 vf) ∧ W.cell? ⟨gv, 6, none⟩ = some (.int .u32 vg) ∧ W.cell? ⟨gv, 7, none⟩ = some (.int .u32 vh))) ⟨below_drewN HB.out _, by simpa using HC.out⟩ ?_
      clear HB HC c0 c1 c2 c3 c4 c5 c6 c7
      rintro W1 ⟨hB, hC⟩
      have HB := Lib.hid hB; have HC := Lib.hid hC
      obtain ⟨c0, c1, c2, c3, c4, c5, c6, c7⟩ := hC
      clear hB
      have kk := HKC.out W1 k HB.out hlt
      have ww := HWC.out W1 k HB.out hlt
      have ch := chs_bits l4 l5 l6
      obtain ⟨y0, hy0⟩ : ∃ y0, y0 = bs1 ve := ⟨_, rfl⟩
      obtain ⟨y1, hy1⟩ : ∃ y1, y1 = chs ve vf vg := ⟨_, rfl⟩
      have hs1 : ((vh : Int) + (bs1 ve : Nat)) % 4294967296 = ((add32 vh (bs1 ve) : Nat) : Int) := by unfold add32; omega
      obtain ⟨z1, hz1⟩ : ∃ z1, z1 = add32 vh (bs1 ve) := ⟨_, rfl⟩
      obtain ⟨z2, hz2⟩ : ∃ z2, z2 = add32 z1 y1 := ⟨_, rfl⟩
      obtain ⟨kz, hkz⟩ : ∃ kz, kz = ks.getD k 0 := ⟨_, rfl⟩
      obtain ⟨z3, hz3⟩ : ∃ z3, z3 = add32 z2 kz := ⟨_, rfl⟩
      have Z1 : ((vh : Int) + (y0 : Int)) % 4294967296 = (z1 : Int) := by rw [hz1, hy0]; unfold add32; omega
      have Z2 : ((z1 : Int) + (y1 : Int)) % 4294967296 = (z2 : Int) := by rw [hz2]; unfold add32; omega
      have Z3 : ((z2 : Int) + (kz : Int)) % 4294967296 = (z3 : Int) := by rw [hz3]; unfold add32; omega
      have Z4 : ((z3 : Int) + (wj M k : Nat)) % 4294967296 = (t1 : Int) := by rw [T1.out, hz3, hz2, hz1, hy1, hkz]; unfold rt add32; omega
      rw [← hy0]
      rw [← hy1] at ch
      rw [← hkz] at kk
      clear hs1 hz1 hz2 hz3 hy0 hy1 hkz
      go_quiet (fail)
      rw [Z4]
      go_wp2_with fail
      clear kk ww ch Z1 Z2 Z3 Z4
      refine wp_abs (fun W => Below w.heap.size w W ∧ (W.cell? ⟨gv, 0, none⟩ = some (.int .u32 va) ∧ W.cell? ⟨gv, 1, none⟩ = some (.int .u32 vb) ∧ W.cell? ⟨gv, 2, none⟩ = some (.int .u32 vc) ∧ W.cell? ⟨gv, 3, none⟩ = some (.int .u32 vd) ∧ W.cell? ⟨gv, 4, none⟩ = some (.int .u32 ve) ∧ W.cell? ⟨gv, 5, none⟩ = some (.int .u32 vf) ∧ W.cell? ⟨gv, 6, none⟩ = some (.int .u32 vg) ∧ W.cell? ⟨gv, 7, none⟩ = some (.int .u32 vh))) ⟨below_drewN HB.out _, by simpa using HC.out⟩ ?_
      clear HB HC c0 c1 c2 c3 c4 c5 c6 c7
      rintro W2 ⟨hB, hC⟩
      have HB := Lib.hid hB; have HC := Lib.hid hC
      obtain ⟨c0, c1, c2, c3, c4, c5, c6, c7⟩ := hC
      clear hB
      have s0 := bs0_bits l0
      go_quiet ((go_at_call 31; exact Calls.quiet_of_same (turn_q _ _ (by exact l0) (by omega) (by omega) _)))
      go_wp2_with fail
      clear s0
      refine wp_abs (fun W => Below w.heap.size w W ∧ (W.cell? ⟨gv, 0, none⟩ = some (.int .u32 va) ∧ W.cell? ⟨gv, 1, none⟩ = some (.int .u32 vb) ∧ W.cell? ⟨gv, 2, none⟩ = some (.int .u32 vc) ∧ W.cell? ⟨gv, 3, none⟩ = some (.int .u32 vd) ∧ W.cell? ⟨gv, 4, none⟩ = some (.int .u32 ve) ∧ W.cell? ⟨gv, 5, none⟩ = some (.int .u32 vf) ∧ W.cell? ⟨gv, 6, none⟩ = some (.int .u32 vg) ∧ W.cell? ⟨gv, 7, none⟩ = some (.int .u32 vh))) ⟨below_drewN HB.out _, by simpa using HC.out⟩ ?_
      clear HB HC c0 c1 c2 c3 c4 c5 c6 c7
      rintro W3 ⟨hB, hC⟩
      have HB := Lib.hid hB; have HC := Lib.hid hC
      obtain ⟨c0, c1, c2, c3, c4, c5, c6, c7⟩ := hC
      clear hB
      have mj := maj_bits l0 l1 l2
      have B0 := bs0_lt l0
      obtain ⟨b0, hb0⟩ : ∃ b0, b0 = bs0 va := ⟨_, rfl⟩
      obtain ⟨m0, hm0⟩ : ∃ m0, m0 = maj va vb vc := ⟨_, rfl⟩
      have HSTEP : Hid (rds (wj M) h (k + 1) = [add32 t1 (add32 b0 m0), va, vb, vc, add32 vd t1, ve, vf, vg]) := Lib.hid (by
        rw [rds, HV8.out, round_parts, ← T1.out, hb0, hm0])
      obtain ⟨t2, ht2⟩ : ∃ t2, t2 = add32 b0 m0 := ⟨_, rfl⟩
      obtain ⟨n0, hn0⟩ : ∃ n0, n0 = add32 t1 t2 := ⟨_, rfl⟩
      obtain ⟨n4, hn4⟩ : ∃ n4, n4 = add32 vd t1 := ⟨_, rfl⟩
      have Y1 : ((b0 : Int) + (m0 : Int)) % 4294967296 = (t2 : Int) := by rw [ht2]; unfold add32; omega
      have Y2 : ((t1 : Int) + (t2 : Int)) % 4294967296 = (n0 : Int) := by rw [hn0]; unfold add32; omega
      have Y3 : ((vd : Int) + (t1 : Int)) % 4294967296 = (n4 : Int) := by rw [hn4]; unfold add32; omega
      have M0 : m0 < 4294967296 := by rw [hm0]; exact maj_lt l0 l1
      have T2 : t2 < 4294967296 := by rw [ht2]; exact add32_lt _ _
      have TL := T1L.out
      rw [← hb0]
      rw [← hm0] at mj
      rw [← hb0] at B0
      rw [← ht2, ← hn0, ← hn4] at HSTEP
      clear hb0 hm0 ht2 hn0 hn4
      go_quiet (fail)
      rw [Y1]
      go_wp2_with fail
      clear mj Y1 B0 M0
      refine wp_abs (fun W => Below w.heap.size w W ∧ (W.cell? ⟨gv, 0, none⟩ = some (.int .u32 va) ∧ W.cell? ⟨gv, 1, none⟩ = some (.int .u32 vb) ∧ W.cell? ⟨gv, 2, none⟩ = some (.int .u32 vc) ∧ W.cell? ⟨gv, 3, none⟩ = some (.int .u32 vd) ∧ W.cell? ⟨gv, 4, none⟩ = some (.int .u32 ve) ∧ W.cell? ⟨gv, 5, none⟩ = some (.int .u32 vf) ∧ W.cell? ⟨gv, 6, none⟩ = some (.int .u32 vg) ∧ W.cell? ⟨gv, 7, none⟩ = some (.int .u32 vh))) ⟨below_drewN HB.out _, by simpa using HC.out⟩ ?_
      clear HB HC c0 c1 c2 c3 c4 c5 c6 c7
      rintro W4 ⟨hB, hC⟩
      have HB := Lib.hid hB; have HC := Lib.hid hC
      obtain ⟨c0, c1, c2, c3, c4, c5, c6, c7⟩ := hC
      clear hB
      go_still_tail 26, (by kernel_rfl)
      try rw [Y2]
      try rw [Y3]
      go_wp2_with fail
      go_roundg (64 - (k + 1))
      case measure => have := HG.out; omega
      case rel => exact ⟨k + 1, rfl, by omega, by go_num, by rw [HSTEP.out]; exact U32At.row (h := [n0, va, vb, vc, n4, ve, vf, vg]) (t := 34) (fr := (0, 0)) (heap_new W4 (.cells (us [n0, va, vb, vc, n4, ve, vf, vg]).toArray 34 (0, 0))), by repeat' (first | (with_reducible exact HB.out) | (with_reducible refine below_alloc ?_ _) | (refine below_alloc (Below.drew ?_) _) | (refine Below.drew ?_)), fun _ => ⟨_, rfl, HB.out.size⟩⟩
    · obtain rfl : k = 64 := by omega
      have e3 := E3.out
      rw [show ks.length = 64 from rfl] at e3
      go_wp2_with fail
      exact HQ.out _ _ _ ⟨rfl, rfl, rfl, (congrArg some e3).symm, rfl, rfl⟩ rfl (by rw [HV8.out]; exact U32At.eight ⟨c0, c1, c2, c3, c4, c5, c6, c7⟩) (HNEW.out (by omega)) HB.out
end Go.Proofs.Ytfopockjakeplaa
