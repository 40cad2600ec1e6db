/- tallystickref01.Sum: a block's numbers are added to the old ones. No condition. tallystickref01.Sum: the loop over the blocks. No condition. tallystickref01.Sum: what stands around the loop over the blocks: the text is filled up, the digest laid out. No condition. tallystickref01.Twice; bytes as a text. No condition. -/
import Derived.Test.YtnbppbnjkmopeaaRs2
import Derived.Test.YtnbppbnjkmopeaaHash2
import Derived.Lib.Strings
namespace Go.Proofs.Ytnbppbnjkmopeaa
open Go.RowKit

/-- the first k numbers are the sums -/
def mix (h q : List Nat) (k : Nat) : List Nat := (List.range 8).map fun j => if j < k then add32 (h.getD j 0) (q.getD j 0) else h.getD j 0
theorem mix_len (h q : List Nat) (k : Nat) : (mix h q k).length = 8 := by simp [mix]
theorem mix_get (h q : List Nat) (k j : Nat) (hj : j < 8) : (mix h q k).getD j 0 = if j < k then add32 (h.getD j 0) (q.getD j 0) else h.getD j 0 := by simp [mix, hj]
theorem mix_zero {h q : List Nat} (hl : h.length = 8) : mix h q 0 = h := by
  apply List.ext_getElem?
  intro j
  by_cases hj : j < 8
  · simp [mix, hj, show j < h.length by omega]
  · rw [List.getElem?_eq_none (by rw [mix_len]; omega), List.getElem?_eq_none (by omega)]
theorem mix_all {h q : List Nat} (hl : h.length = 8) (hq : q.length = 8) : mix h q 8 = List.zipWith add32 h q := by
  apply List.ext_getElem?
  intro j
  by_cases hj : j < 8
  · rw [List.getElem?_zipWith]
    simp [mix, hj, show j < h.length by omega, show j < q.length by omega]
  · rw [List.getElem?_eq_none (by rw [mix_len]; omega), List.getElem?_eq_none (by simp; omega)]
theorem mix_step (h q : List Nat) (k : Nat) (hk : k < 8) : (us (mix h q k)).toArray.setIfInBounds k (.int .u32 (add32 (h.getD k 0) (q.getD k 0) : Nat)) = (us (mix h q (k + 1))).toArray := by
  apply Array.ext_getElem?
  intro j
  rw [Array.getElem?_setIfInBounds]
  simp only [List.getElem?_toArray, List.size_toArray, us_len, mix_len]
  by_cases hj : j < 8
  · rw [us_get _ _ (by rw [mix_len]; exact hj), us_get _ _ (by rw [mix_len]; exact hj), mix_get _ _ _ _ hj, mix_get _ _ _ _ hj]
    by_cases e : k = j
    · subst e; simp [hk]
    · rw [if_neg e]
      have : (j < k) ↔ (j < k + 1) := by omega
      simp [this]
  · rw [List.getElem?_eq_none (by rw [us_len, mix_len]; omega), List.getElem?_eq_none (by rw [us_len, mix_len]; omega)]
    simp; omega
def hrow (h : List Nat) : Obj := .cells (us h).toArray 22 (0, 0)
theorem hrow_cell {w : World} {g : Nat} {h : List Nat} (hg : w.heap[g]? = some (hrow h)) (j : Nat) (hj : j < h.length) : w.cell? ⟨g, j, none⟩ = some (.int .u32 (h.getD j 0 : Nat)) := by
  rw [cell_of_row _ _ _ _ _ _ hg, List.getElem?_toArray, us_get h j hj]

set_option maxRecDepth 1000000 in
set_option maxHeartbeats 4000000 in
theorem loop8 (A : Array Value) (h q : List Nat) (hl : h.length = 8) (hq : q.length = 8) (gh : Nat) (vv : Value) (w : World) (hs : A.size = 306) (h7 : A[7]? = some (.slice (some ⟨gh, 0, none⟩) 8 8)) (h16 : A[16]? = some vv) (h22 : A[22]? = some (.int .i64 0))
    (hh : w.heap[gh]? = some (hrow h)) (hv : U32At w vv q) (hne : ∀ g, (∃ c, vv = .slice (some ⟨g, 0, none⟩) 8 c) → g ≠ gh)
    (Q : Exit → Act → World → Prop)
    (hQ : ∀ A' w', Keeps A A' → w'.heap[gh]? = some (hrow (List.zipWith add32 h q)) → w'.heap.size = w.heap.size → Below gh w w' → Q (.exit 14) ⟨A', []⟩ w') : Code.wp Try.prog (Code.loop (rsBody 7)) Q ⟨A, []⟩ w := by
  obtain ⟨f, rfl⟩ := lit306 A hs
  have e7 : f 7 = .slice (some ⟨gh, 0, none⟩) 8 8 := by simpa using h7
  have e16 : f 16 = vv := by simpa using h16
  have e22 : f 22 = .int .i64 0 := by simpa using h22
  clear h7 h16 h22 hs
  have HQ := Lib.hid hQ
  obtain ⟨gv, cv, rfl, hvc⟩ := hv
  rw [hq] at hvc e16 hne
  have hne' : gv ≠ gh := hne gv ⟨cv, rfl⟩
  have HVC := Lib.hid hvc
  have HH := Lib.hid hh
  have E7 := Lib.hid e7
  have HALL := Lib.hid (mix_all hl hq)
  have HZERO := Lib.hid (@mix_zero h q hl)
  clear hQ hvc hne hh hl hq
  conv => arg 2; arg 1; whnf
  rw [e7, e16, e22]
  clear e7 e16 e22
  go_loopg [22] 8 (fun g ix wr => ∃ k : Nat, g = 8 - k ∧ k ≤ 8 ∧ ix = .int .i64 k ∧ wr.heap[gh]? = some (hrow (mix h q k)) ∧ wr.heap.size = w.heap.size ∧ (∀ b, b ≠ gh → wr.heap[b]? = w.heap[b]?) ∧ Below gh w wr)
  case atStart => exact ⟨0, rfl, by omega, rfl, by rw [HZERO.out]; exact HH.out, rfl, fun _ _ => rfl, Below.refl _ _⟩
  case round =>
    clear HH
    obtain ⟨k, hg, hk, rfl, hr, hz, ho, B⟩ := hrel
    have HG := Lib.hid hg; have HR := Lib.hid hr; have HZ := Lib.hid hz; have HO := Lib.hid ho
    clear hg hr hz ho
    by_cases hlt : k < 8
    · have ch := hrow_cell HR.out k (by rw [mix_len]; exact hlt)
      rw [mix_get _ _ _ _ hlt, if_neg (by omega)] at ch
      have cv0 := HVC.out k (by omega)
      have cq : wr.cell? ⟨gv, k, none⟩ = some (.int .u32 (q.getD k 0 : Nat)) := by
        rw [← cv0]
        unfold World.cell?
        simp only [HO.out gv hne']
      have fz : wr.frozen? ⟨gh, k, none⟩ = false := frozen_of_row _ _ _ _ _ HR.out
      obtain ⟨x, hx⟩ : ∃ x, x = h.getD k 0 := ⟨_, rfl⟩
      obtain ⟨y, hy⟩ : ∃ y, y = q.getD k 0 := ⟨_, rfl⟩
      obtain ⟨z, hz⟩ : ∃ z, z = add32 x y := ⟨_, rfl⟩
      have ez : ((x : Int) + (y : Int)) % 4294967296 = (z : Int) := by rw [hz]; unfold add32; omega
      have hzb : z < 4294967296 := by rw [hz]; exact add32_lt _ _
      have HST : Hid ((us (mix h q k)).toArray.setIfInBounds k (.int .u32 (z : Int)) = (us (mix h q (k + 1))).toArray) := Lib.hid (by rw [hz, hx, hy]; exact mix_step h q k hlt)
      rw [← hx] at ch
      rw [← hy] at cq
      clear hx hy hz cv0
      go_wp2_with fail
      go_region
      all_goals
        go_wp2_with fail
        go_roundg (8 - (k + 1))
        case measure => have := HG.out; omega
        case rel =>
          refine ⟨k + 1, rfl, by omega, by go_num, ?_, ?_, fun b hb => ?_, Below.drew (Below.setCell B (Nat.le_refl _) _)⟩
          · show (wr.setCell _ _).heap[gh]? = _
            have := heap_setCell_same wr gh k _ 22 (.int .u32 (z : Int)) HR.out
            rw [HST.out] at this
            exact this
          · show (wr.setCell _ _).heap.size = _
            rw [← HZ.out]; simp [World.setCell]
          · exact (heap_setCell_other _ _ _ _ hb).trans (HO.out b hb)
    · obtain rfl : k = 8 := by omega
      rw [HALL.out] at HR
      go_wp2_with fail
      exact HQ.out _ _ ⟨rfl, rfl, rfl, rfl, by simp [E7.out], rfl⟩ HR.out HZ.out B
end Go.Proofs.Ytnbppbnjkmopeaa
namespace Go.Proofs.Ytnbppbnjkmopeaa
open Go.RowKit

theorem OwnsU.new (w : World) (base : Nat) (hb : base ≤ w.heap.size) : OwnsU (w.alloc (.cells #[] 22 (0, 0))) base (.slice (some ⟨w.heap.size, 0, none⟩) 0 0) [] :=
  World.ownsRow_lit w #[] 0 hb (by unfold maxLen; omega) rfl
theorem wsAt_str {q : List Nat} (hq : ∀ x ∈ q, x < 256) (m : Nat) : wsAt (str q) (64 * m) 16 = mwl (q.drop (64 * m)) := by
  unfold wsAt mwl wd
  apply List.map_congr_left
  intro k _
  simp only [str_bt hq, List.getD_eq_getElem?_getD, List.getElem?_drop]
  simp only [Nat.add_assoc]
theorem mwl_lt {q : List Nat} (hq : ∀ x ∈ q, x < 256) : ∀ x ∈ mwl q, x < 4294967296 := by
  intro x hx
  simp only [mwl, List.mem_map] at hx
  obtain ⟨i, _, rfl⟩ := hx
  have hb : ∀ j, q.getD j 0 < 256 := fun j => by
    rw [List.getD_eq_getElem?_getD]
    rcases h : q[j]? with _ | y
    · simp
    · exact hq y (List.mem_of_getElem? h)
  have := hb (4 * i); have := hb (4 * i + 1); have := hb (4 * i + 2); have := hb (4 * i + 3)
  omega
theorem mwl_len (q : List Nat) : (mwl q).length = 16 := by simp [mwl]

/-- the slots that are kept, read off -/
theorem keeps_eq {A A' : Array Value} (h : Keeps A A') {s : ByteArray} {v2 v3 v7 v8 : Value} (e0 : A[0]? = some (.string s)) (e2 : A[2]? = some v2) (e3 : A[3]? = some v3) (e7 : A[7]? = some v7) (e8 : A[8]? = some v8) :
    A'.size = 306 ∧ A'[0]? = some (.string s) ∧ A'[2]? = some v2 ∧ A'[3]? = some v3 ∧ A'[7]? = some v7 ∧ A'[8]? = some v8 :=
  ⟨h.1, h.2.1.trans e0, h.2.2.1.trans e2, h.2.2.2.1.trans e3, h.2.2.2.2.1.trans e7, h.2.2.2.2.2.trans e8⟩

set_option maxRecDepth 1000000 in
set_option maxHeartbeats 8000000 in
theorem loopAt (A : Array Value) (q : List Nat) (hq : ∀ x ∈ q, x < 256) (nb : Nat) (hlen : q.length = 64 * nb) (hsz : q.length < 1000000) (gk gh : Nat) (w : World) (hs : A.size = 306)
    (h0 : A[0]? = some (.string (str q))) (h3 : A[3]? = some (.slice (some ⟨gk, 0, none⟩) 64 64)) (h7 : A[7]? = some (.slice (some ⟨gh, 0, none⟩) 8 8)) (h8 : A[8]? = some (.int .i64 0))
    (hk : w.heap[gk]? = some (hrow ks)) (hh : w.heap[gh]? = some (hrow h0s)) (hkh : gk < gh)
    (Q : Exit → Act → World → Prop)
    (hQ : ∀ A' w', A'.size = 306 → A'[2]? = A[2]? → A'[7]? = A[7]? → w'.heap[gh]? = some (hrow (shs q nb)) → w.heap.size ≤ w'.heap.size → Below gh w w' → Q (.exit 4) ⟨A', []⟩ w') : Code.wp Try.prog (Code.loop (rsBody 2)) Q ⟨A, []⟩ w := by
  refine wp_loop_ghost (fun n a w' => ∃ (A' : Array Value) (m : Nat), n = nb - m ∧ m ≤ nb ∧ a = ⟨A', []⟩ ∧ A'.size = 306 ∧ A'[0]? = some (.string (str q)) ∧ A'[2]? = A[2]? ∧ A'[3]? = some (.slice (some ⟨gk, 0, none⟩) 64 64) ∧ A'[7]? = some (.slice (some ⟨gh, 0, none⟩) 8 8) ∧ A'[8]? = some (.int .i64 ((64 * m : Nat) : Int)) ∧ w'.heap[gh]? = some (hrow (shs q m)) ∧ w.heap.size ≤ w'.heap.size ∧ Below gh w w') nb ⟨A, 0, rfl, by omega, rfl, hs, h0, rfl, h3, h7, h8, hh, Nat.le_refl _, Below.refl _ _⟩ ?_
  rintro n a w1 ⟨A1, m, rfl, hm, rfl, s1, a0, a2, a3, a7, a8, hr, hzz, B⟩
  obtain ⟨f, rfl⟩ := lit306 A1 s1
  have e0 : f 0 = .string (str q) := by simpa using a0
  have e3 : f 3 = .slice (some ⟨gk, 0, none⟩) 64 64 := by simpa using a3
  have e7 : f 7 = .slice (some ⟨gh, 0, none⟩) 8 8 := by simpa using a7
  have e8 : f 8 = .int .i64 ((64 * m : Nat) : Int) := by simpa using a8
  have E2 : Hid (some (f 2) = A[2]?) := Lib.hid (by rw [← a2]; simp)
  have E7 : Hid (A[7]? = some (.slice (some ⟨gh, 0, none⟩) 8 8)) := Lib.hid h7
  have HQ := Lib.hid hQ; have HLEN := Lib.hid hlen; have HSZ := Lib.hid hsz; have HK := Lib.hid hk; have HR := Lib.hid hr; have HB := Lib.hid B; have HQB := Lib.hid hq
  have HZZ := Lib.hid hzz
  clear a0 a2 a3 a7 a8 s1 h0 h3 h7 h8 hs hQ hlen hsz hk hr B hh hq hzz
  obtain ⟨sq, hsq⟩ : ∃ sq, sq = str q := ⟨_, rfl⟩
  have HSQ := Lib.hid hsq
  have hss : sq.size = 64 * nb := by rw [hsq, str_size, HLEN.out]
  rw [← hsq] at e0
  obtain ⟨p, hp⟩ : ∃ p, p = 64 * m := ⟨_, rfl⟩
  rw [← hp] at e8
  have HP := Lib.hid hp; have HSS := Lib.hid hss
  clear hsq
  conv => arg 2; whnf
  by_cases hlt : m < nb
  · have hps : (p : Int) < (sq.size : Int) := by omega
    have hps2 : p + 64 ≤ sq.size := by omega
    have hps3 : sq.size < 1000000 := by have := HSZ.out; have := HLEN.out; omega
    clear hp hss
    rw [e0, e3, e7, e8]
    clear e0 e3 e7 e8
    go_wp2_with fail
    refine loop16 _ sq p w1 rfl rfl rfl rfl rfl hps2 hps3 _ ?_
    intro A2 w2 v hK h9 hO hB2
    obtain ⟨sz, k0, k2, k3, k7, k8⟩ := keeps_eq hK rfl rfl rfl rfl rfl
    obtain ⟨f2, rfl⟩ := lit306 A2 sz
    have e0 : f2 0 = .string sq := by simpa using k0
    have e2 : f2 2 = f 2 := by simpa using k2
    have e3 : f2 3 = .slice (some ⟨gk, 0, none⟩) 64 64 := by simpa using k3
    have e7 : f2 7 = .slice (some ⟨gh, 0, none⟩) 8 8 := by simpa using k7
    have e8 : f2 8 = .int .i64 (p : Int) := by simpa using k8
    have e9 : f2 9 = v := by simpa using h9
    rw [e0, e2, e3, e7, e8, e9]
    clear sz k0 k2 k3 k7 k8 hK e0 e2 e3 e7 e8 e9 h9
    have HEW : wsAt sq p 16 = mwl (q.drop p) := by rw [HSQ.out, HP.out]; exact wsAt_str HQB.out m
    rw [HEW] at hO
    clear HEW
    have HM := Lib.hid (mwl_lt (fun x hx => HQB.out x (List.mem_of_mem_drop hx)) : ∀ x ∈ mwl (q.drop p), x < 4294967296)
    have HML := Lib.hid (mwl_len (q.drop p))
    have HGH : Hid (gh < w1.heap.size) := Lib.hid (block_lt HR.out)
    have HO := Lib.hid hO
    have HB2 := Lib.hid hB2
    clear hO hB2
    go_wp2_with fail
    refine loop48 _ (mwl (q.drop p)) HML.out HM.out w1.heap.size v w2 HB2.out.size rfl rfl rfl HO.out _ ?_
    intro A3 w3 v3 hK h9 hO3 hB3
    obtain ⟨sz, k0, k2, k3, k7, k8⟩ := keeps_eq hK rfl rfl rfl rfl rfl
    obtain ⟨f3, rfl⟩ := lit306 A3 sz
    have e0 : f3 0 = .string sq := by simpa using k0
    have e2 : f3 2 = f 2 := by simpa using k2
    have e3 : f3 3 = .slice (some ⟨gk, 0, none⟩) 64 64 := by simpa using k3
    have e7 : f3 7 = .slice (some ⟨gh, 0, none⟩) 8 8 := by simpa using k7
    have e8 : f3 8 = .int .i64 (p : Int) := by simpa using k8
    have e9 : f3 9 = v3 := by simpa using h9
    rw [e0, e2, e3, e7, e8, e9]
    clear sz k0 k2 k3 k7 k8 hK e0 e2 e3 e7 e8 e9 h9
    have HO3 := Lib.hid hO3
    have HB3 : Hid (Below w1.heap.size w1 w3) := Lib.hid (HB2.out.trans hB3)
    have HR3 : Hid (w3.heap[gh]? = some (hrow (shs q m))) := Lib.hid (below_keep HB3.out HR.out)
    clear hO3 hB3 HO HB2
    have HL8 : Hid ((shs q m).length = 8) := Lib.hid (shs_8 q m).1
    have hsz3 := HB3.out.size
    have hsz3' : gh < w3.heap.size := by have := HGH.out; omega
    have hnew : gh ≠ w3.heap.size := by omega
    have HROW : Hid (∀ j, j < (shs q m).length → (w3.alloc (.cells #[] 22 (0, 0))).cell? ⟨gh, j, none⟩ = some (.int .u32 ((shs q m).getD j 0 : Nat))) := Lib.hid fun j hj => hrow_cell (keep_alloc _ HR3.out) j hj
    have HLE : Hid (([] : List Nat).length + (shs q m).length ≤ 1000000) := Lib.hid (by rw [HL8.out]; simp)
    have HSL : Hid (Value.slice (some ⟨gh, 0, none⟩) 8 8 = .slice (some ⟨gh, 0, none⟩) (shs q m).length 8) := Lib.hid (by rw [HL8.out])
    clear hsz3'
    go_wp2_with (at_builtin; refine wpList_append_u32 rfl (.tmp 149) (.tmp 150) rfl w3.heap.size _ [] rfl (OwnsU.new w3 _ (Nat.le_refl _)) (shs q m) gh 8 HSL.out HROW.out HLE.out (by simp) (fun v4 w4 hown' hbel => ?_))
    rw [List.nil_append] at hown'
    have B4 : Below w3.heap.size w3 w4 := hbel _ _ (Nat.le_refl _) (below_alloc (Below.refl _ _) _)
    have HB4 : Hid (Below w1.heap.size w1 w4) := Lib.hid (below_next HB3.out B4)
    have HO4 := Lib.hid (HO3.out.keep B4)
    have HV4 := Lib.hid hown'
    have HK4 : Hid (w4.heap[gk]? = some (hrow ks)) := Lib.hid (below_keep HB4.out ((HB.out.block gk hkh).trans HK.out))
    have HR4 : Hid (w4.heap[gh]? = some (hrow (shs q m))) := Lib.hid (below_keep HB4.out HR.out)
    clear hown' hbel B4 HROW HLE HSL HO3 HR3 HB3 hsz3 hnew
    refine loop64 _ (mwl (q.drop p)) (shs q m) HM.out (shs_8 q m) (.slice (some ⟨gk, 0, none⟩) 64 64) v3 v4 w4 rfl rfl rfl rfl rfl (U32At.row (h := ks) HK4.out) (HO4.out.u32At (by rw [wjs_len]; omega)) (HV4.out.u32At (by rw [HL8.out]; omega)) _ ?_
    intro A5 w5 v5 hK h16 hv5 hnew5 hB5
    obtain ⟨sz, k0, k2, k3, k7, k8⟩ := keeps_eq hK rfl rfl rfl rfl rfl
    obtain ⟨f5, rfl⟩ := lit306 A5 sz
    have e0 : f5 0 = .string sq := by simpa using k0
    have e2 : f5 2 = f 2 := by simpa using k2
    have e3 : f5 3 = .slice (some ⟨gk, 0, none⟩) 64 64 := by simpa using k3
    have e7 : f5 7 = .slice (some ⟨gh, 0, none⟩) 8 8 := by simpa using k7
    have e8 : f5 8 = .int .i64 (p : Int) := by simpa using k8
    have e16 : f5 16 = v5 := by simpa using h16
    rw [e0, e2, e3, e7, e8, e16]
    clear sz k0 k2 k3 k7 k8 hK e0 e2 e3 e7 e8 e16 h16
    have HR5 : Hid (w5.heap[gh]? = some (hrow (shs q m))) := Lib.hid (below_keep hB5 HR4.out)
    have HV5 := Lib.hid hv5
    have HB5 : Hid (Below w1.heap.size w1 w5) := Lib.hid (below_next HB4.out hB5)
    have HNE : Hid (∀ g, (∃ c, v5 = .slice (some ⟨g, 0, none⟩) 8 c) → g ≠ gh) := Lib.hid fun g ⟨c, hc⟩ => by
      obtain ⟨g', e, hg'⟩ := hnew5
      rw [e] at hc
      obtain ⟨e2, -, -⟩ := Value.slice.inj hc
      have e3 := (Addr.mk.inj (Option.some.inj e2)).1
      have := block_lt HR4.out
      omega
    have HRL : Hid ((rds (wj (mwl (q.drop p))) (shs q m) 64).length = 8) := Lib.hid (H8.rds _ (shs_8 q m) 64).1
    clear hv5 hnew5 hB5 HR4 HK4 HV4 HO4 HB4
    go_wp2_with fail
    refine loop8 _ (shs q m) (rds (wj (mwl (q.drop p))) (shs q m) 64) HL8.out HRL.out gh v5 w5 rfl rfl rfl rfl HR5.out HV5.out HNE.out _ ?_
    intro A6 w6 hK hr6 hz6 hB6
    obtain ⟨sz, k0, k2, k3, k7, k8⟩ := keeps_eq hK rfl rfl rfl rfl rfl
    obtain ⟨f6, rfl⟩ := lit306 A6 sz
    have e0 : f6 0 = .string sq := by simpa using k0
    have e2 : f6 2 = f 2 := by simpa using k2
    have e3 : f6 3 = .slice (some ⟨gk, 0, none⟩) 64 64 := by simpa using k3
    have e7 : f6 7 = .slice (some ⟨gh, 0, none⟩) 8 8 := by simpa using k7
    have e8 : f6 8 = .int .i64 (p : Int) := by simpa using k8
    rw [e0, e2, e3, e7, e8]
    clear sz k0 k2 k3 k7 k8 hK e0 e2 e3 e7 e8
    have HR6 : Hid (w6.heap[gh]? = some (hrow (shs q (m + 1)))) := Lib.hid (by rw [hr6, HP.out]; rfl)
    have HB6 : Hid (Below gh w w6) := Lib.hid ((HB.out.trans (HB5.out.mono (Nat.le_of_lt HGH.out))).trans hB6)
    have HZ6 : Hid (w.heap.size ≤ w6.heap.size) := Lib.hid (by rw [hz6]; have := HB5.out.size; have := HZZ.out; omega)
    clear hr6 hz6 hB6
    go_wp2_with fail
    refine ⟨_, by omega, _, m + 1, rfl, by omega, rfl, rfl, by rw [HSQ.out]; rfl, E2.out, rfl, rfl, ?_, HR6.out, HZ6.out, HB6.out⟩
    show some (Value.int .i64 ((p : Int) + 64)) = some (Value.int .i64 ((64 * (m + 1) : Nat) : Int))
    rw [show (p : Int) + 64 = ((64 * (m + 1) : Nat) : Int) by have := HP.out; omega]
  · obtain rfl : m = nb := by omega
    have hps : ¬ (p : Int) < (sq.size : Int) := by omega
    have hps2 : (sq.size : Int) = (p : Int) := by omega
    clear hp hss
    rw [e0, e3, e7, e8]
    clear e0 e3 e7 e8
    go_wp2_with fail
    exact HQ.out _ _ rfl E2.out E7.out.symm HR.out HZZ.out HB.out
end Go.Proofs.Ytnbppbnjkmopeaa
namespace Go.Proofs.Ytnbppbnjkmopeaa
open Go.RowKit

def rblk (n : Nat) : Obj := .cells (ids n).toArray 23 (0, 0)
theorem rblk_lit : Obj.cells #[.int .u8 0, .int .u8 0, .int .u8 0, .int .u8 0, .int .u8 0, .int .u8 0, .int .u8 0, .int .u8 0, .int .u8 0, .int .u8 0, .int .u8 0, .int .u8 0, .int .u8 0, .int .u8 0, .int .u8 0, .int .u8 0, .int .u8 0, .int .u8 0, .int .u8 0, .int .u8 0, .int .u8 0, .int .u8 0, .int .u8 0, .int .u8 0, .int .u8 0, .int .u8 0, .int .u8 0, .int .u8 0, .int .u8 0, .int .u8 0, .int .u8 0, .int .u8 0] 23 (0, 0) = rblk 0 := by kernel_rfl
theorem rid_range {w : World} {g n : Nat} (h : w.heap[g]? = some (rblk n)) : w.rangeAt g 0 (ids n) := fun j v hv => by
  rw [Nat.zero_add, cell_of_row w g j _ _ _ h]; simpa using hv
theorem rid_there {w : World} {g n : Nat} (h : w.heap[g]? = some (rblk n)) : w.there g 0 32 := fun j hj => by
  refine ⟨?_, frozen_of_row _ _ _ _ _ h⟩
  rw [Nat.zero_add, cell_of_row w g j _ _ _ h, ids_aget n j hj]; rfl
theorem rid_cell {w : World} {g n : Nat} (h : w.heap[g]? = some (rblk n)) (k : Nat) (hk : k < 32) : w.cell? ⟨g, k, none⟩ = some (.int .u8 (lb n k)) := by
  rw [cell_of_row w g k _ _ _ h, ids_aget n k hk]
theorem wpList_load_rid {ops : Array Oper} {rest : List Oper} {op : Oper} {a : Act} {w : World} {Q : Exit → Act → World → Prop} (hgd : op.guard = none) (x : Operand) (ho : op.op = .load 23 x)
    (g n : Nat) (hx : a.eval x = .pointer (some ⟨g, 0, none⟩)) (hb : w.heap[g]? = some (rblk n)) (h : wpList Try.prog ops Q rest (a.put op.dst (iv n)) w) : wpList Try.prog ops Q (op :: rest) a w :=
  wpList_load_mid hgd 23 x ho g 0 hx (ids n) (.array 32 5) (rid_range hb) (by kernel_rfl) rfl (by rw [ids_len]; kernel_rfl) h
theorem wpList_store_rid {ops : Array Oper} {rest : List Oper} {op : Oper} {a : Act} {w : World} {Q : Exit → Act → World → Prop} (hgd : op.guard = none) (x y : Operand) (ho : op.op = .store 23 x y)
    (g m n : Nat) (hx : a.eval x = .pointer (some ⟨g, 0, none⟩)) (hy : a.eval y = iv n) (hb : w.heap[g]? = some (rblk m))
    (h : ∀ w', w'.heap[g]? = some (rblk n) → (∀ b, b ≠ g → w'.heap[b]? = w.heap[b]?) → w'.heap.size = w.heap.size → (∀ B u, B ≤ g → Below B u w → Below B u w') → wpList Try.prog ops Q rest (a.put op.dst undef) w') :
    wpList Try.prog ops Q (op :: rest) a w := by
  refine wpList_store_mid hgd 23 x y ho g 0 (ids n).toArray hx hy ?_ (by rw [ids_size]; kernel_rfl) ?_ (h _ ?_ (fun b hne => heap_setCells_far g _ _ _ b hne) (size_setCells_id g _ _ _) fun B u hB hu => below_setCells_id g hB _ _ _ hu)
  · rw [ids_size]; exact rid_there hb
  · exact all_oneCell_toArray fun v hv => by
      simp only [ids, List.mem_map] at hv
      obtain ⟨i, _, rfl⟩ := hv
      rfl
  · exact heap_setCells_row g 23 (ids n) (ids m) [] w (by rw [ids_len, ids_len]) hb
theorem loadVar_rid {w : World} {g n : Nat} (h : w.heap[g]? = some (rblk n)) : (loadVar 23 ⟨g, 0, none⟩).run Try.prog w = .ok (iv n) w :=
  run_loadVar_mid w g 0 23 (ids n) (.array 32 5) (rid_range h) (by kernel_rfl) rfl (by rw [ids_len]; kernel_rfl)

theorem ids_step (D k : Nat) : (ids (D % 2 ^ (8 * k))).toArray.setIfInBounds k (.int .u8 (lb D k)) = (ids (D % 2 ^ (8 * (k + 1)))).toArray := by
  apply Array.ext_getElem?
  intro i
  by_cases hi : i < 32
  · rw [ids_aget _ _ hi, Array.getElem?_setIfInBounds, ids_size]
    by_cases hik : k = i
    · subst hik
      rw [if_pos rfl, if_pos hi, lb_low _ _ _ (by omega)]
    · rw [if_neg hik, ids_aget _ _ hi]
      by_cases hl : i < k
      · rw [lb_low _ _ _ (by omega), lb_low _ _ _ (by omega)]
      · rw [lb_high _ _ _ (by omega), lb_high _ _ _ (by omega)]
  · rw [Array.getElem?_eq_none (by rw [Array.size_setIfInBounds, ids_size]; omega), Array.getElem?_eq_none (by rw [ids_size]; omega)]
theorem str_app (q l : List Nat) : str q ++ str l = str (q ++ l) := by
  unfold str
  simp [ByteArray.ext_iff]

theorem set_back (xs : Array Value) {m m1 m2 m3 : Nat} {a0 a1 a2 a3 : Value} (n01 : m ≠ m1) (n02 : m ≠ m2) (n03 : m ≠ m3) (n12 : m1 ≠ m2) (n13 : m1 ≠ m3) (n23 : m2 ≠ m3) :
    (((xs.setIfInBounds m3 a3).setIfInBounds m2 a2).setIfInBounds m1 a1).setIfInBounds m a0 = (((xs.setIfInBounds m a0).setIfInBounds m1 a1).setIfInBounds m2 a2).setIfInBounds m3 a3 := by
  apply Array.ext_getElem?
  intro i
  simp only [Array.getElem?_setIfInBounds, Array.size_setIfInBounds]
  by_cases h0 : m = i
  · subst h0; simp [n01.symm, n02.symm, n03.symm]
  · by_cases h1 : m1 = i
    · subst h1; simp [n01, n12.symm, n13.symm]
    · by_cases h2 : m2 = i
      · subst h2; simp [n02, n12, n23.symm]
      · simp [h0, h1, h2]
/-- four bytes of the digest, the last one first -/
theorem dig_set_back {w : World} {g k : Nat} {hh : List Nat} (hl : hh.length = 8) (hk : k < 8) {y0 y1 y2 y3 : Nat} (e0 : y0 = hh.getD k 0 / 16777216 % 256) (e1 : y1 = hh.getD k 0 / 65536 % 256) (e2 : y2 = hh.getD k 0 / 256 % 256) (e3 : y3 = hh.getD k 0 % 256)
    (h : w.heap[g]? = some (rblk (dig hh % 2 ^ (8 * (4 * k))))) :
    ((((w.setCell ⟨g, 4 * k + 3, none⟩ (.int .u8 (y3 : Int))).setCell ⟨g, 4 * k + 2, none⟩ (.int .u8 (y2 : Int))).setCell ⟨g, 4 * k + 1, none⟩ (.int .u8 (y1 : Int))).setCell ⟨g, 4 * k, none⟩ (.int .u8 (y0 : Int))).heap[g]? =
      some (rblk (dig hh % 2 ^ (8 * (4 * (k + 1))))) := by
  have d0 := dig_b0 hh k (by omega)
  have d1 := dig_b1 hh k (by omega)
  have d2 := dig_b2 hh k (by omega)
  have d3 := dig_b3 hh k (by omega)
  rw [← e0] at d0
  rw [← e1] at d1
  rw [← e2] at d2
  rw [← e3] at d3
  rw [← d0, ← d1, ← d2, ← d3]
  generalize dig hh = D at *
  have h1 := heap_setCell_same w g (4 * k + 3) _ _ (.int .u8 (lb D (4 * k + 3))) h
  have h2 := heap_setCell_same _ g (4 * k + 2) _ _ (.int .u8 (lb D (4 * k + 2))) h1
  have h3 := heap_setCell_same _ g (4 * k + 1) _ _ (.int .u8 (lb D (4 * k + 1))) h2
  have h4 := heap_setCell_same _ g (4 * k) _ _ (.int .u8 (lb D (4 * k))) h3
  rw [h4, set_back _ (by omega) (by omega) (by omega) (by omega) (by omega) (by omega), ids_step D (4 * k), ids_step D (4 * k + 1), ids_step D (4 * k + 2), ids_step D (4 * k + 3)]
  rfl
theorem pad8_get (n i : Nat) (hi : i < 8) : (pad8 n).getD i 0 = n * 8 / 2 ^ (56 - 8 * i) % 256 := by simp [pad8, hi]

set_option maxRecDepth 1000000 in
set_option maxHeartbeats 8000000 in
theorem refsum_any (q : List Nat) (hb : ∀ y ∈ q, y < 256) (hlen : q.length ≤ 100000) (w : World) :
    Calls Try.prog 78 #[.string (str q)] w fun e w' => e = .returned (iv (sha q)) ∧ Below w.heap.size w w' := by
  have HB := Lib.hid hb; have HLEN := Lib.hid hlen
  obtain ⟨sq, hsq⟩ : ∃ sq, sq = str q := ⟨_, rfl⟩
  have hss : sq.size = q.length := by rw [hsq, str_size]
  have hsm : sq.size ≤ 100000 := by omega
  rw [← hsq]
  have HSQ := Lib.hid hsq; have HSS := Lib.hid hss
  have B : Below w.heap.size w w := Below.refl _ _
  clear hsq hb hlen hss
  go_enter Try.func78, Try.ntmps78
  go_wp2_with fail
  rw [rblk_lit]
  refine (list_any _).mono ?_
  rintro e w1 ⟨gks, rfl, hk, hgk, hb1⟩
  have KR : Hid (w1.heap[w.heap.size]? = some (rblk 0)) := Lib.hid (below_keep hb1 (heap_new w _))
  have HK : Hid (w1.heap[gks]? = some (hrow ks)) := Lib.hid hk
  have HGK : Hid (w.heap.size < gks) := Lib.hid (by simp at hgk; omega)
  have HBB : Hid (Below w.heap.size w w1) := Lib.hid (below_next (w := w) (by repeat' (first | (with_reducible exact Below.refl _ _) | (with_reducible assumption) | (with_reducible refine below_alloc ?_ _) | (with_reducible refine Below.drew ?_) | (with_reducible refine below_drewN ?_ _) | (with_reducible refine Below.setCell ?_ ?_ _) | go_size)) hb1)
  clear hk hgk hb1 B
  go_wp2_with fail
  obtain ⟨N, hN⟩ : ∃ N, N = q.length := ⟨_, rfl⟩
  have HN := Lib.hid hN
  have eN : (sq.size : Int) * 8 = ((N * 8 : Nat) : Int) := by have := HSS.out; omega
  rw [eN]
  have HNL : Hid (N ≤ 100000) := Lib.hid (by rw [hN]; exact HLEN.out)
  have e128 : (sq ++ ⟨#[128]⟩ : ByteArray) = str (q ++ [128]) := by rw [HSQ.out]; exact str_app q [128]
  rw [e128]
  clear hN eN e128
  go_loopg [0] (zpad N) (fun g sv wr => ∃ k : Nat, g = zpad N - k ∧ k ≤ zpad N ∧ sv = .string (str (q ++ [128] ++ List.replicate k 0)) ∧ w1 = wr)
  case atStart => exact ⟨0, rfl, by omega, by rw [List.replicate_zero, List.append_nil], rfl⟩
  case round =>
    obtain ⟨k, hg, hk, rfl, rfl⟩ := hrel
    have HG := Lib.hid hg
    obtain ⟨r, hr⟩ : ∃ r, r = q ++ [128] ++ List.replicate k 0 := ⟨_, rfl⟩
    rw [← hr]
    obtain ⟨sr, hsr⟩ : ∃ sr, sr = str r := ⟨_, rfl⟩
    rw [← hsr]
    have HR := Lib.hid hr; have HSR := Lib.hid hsr
    have HRL : Hid (sr.size = N + 1 + k) := Lib.hid (by rw [hsr, str_size, hr, HN.out]; simp; omega)
    have HZ := Lib.hid (zpad_lt N)
    have hrs : sr.size ≤ 200000 := by have := HRL.out; have := HNL.out; have := HZ.out; omega
    obtain ⟨m, hm⟩ : ∃ m, m = sr.size % 64 := ⟨_, rfl⟩
    have et : Int.tmod (sr.size : Int) 64 = (m : Int) := by rw [Int.tmod_eq_emod_of_nonneg (by omega)]; omega
    have et2 : (sr.size : Int) % 64 = (m : Int) := by omega
    clear hg hr hsr
    by_cases hlt : k < zpad N
    · have hne : ¬ (m : Int) = 56 := by
        have := zpad_not N k hlt
        rw [← HRL.out] at this; omega
      have e0 : (sr ++ ⟨#[0]⟩ : ByteArray) = str (q ++ [128] ++ List.replicate (k + 1) 0) := by
        rw [HSR.out, HR.out, List.replicate_succ', ← List.append_assoc]
        exact str_app _ [0]
      clear hm
      have E0 := Lib.hid e0
      clear e0
      go_wp2_with fail
      go_roundg (zpad N - (k + 1))
      case measure => have := HG.out; omega
      case rel => exact ⟨k + 1, rfl, by omega, by rw [E0.out], rfl⟩
    · have he : (m : Int) = 56 := by
        have := zpad_end N
        have := HRL.out
        obtain rfl : k = zpad N := by omega
        omega
      obtain rfl : k = zpad N := by omega
      rw [he] at et et2
      clear hm he hlt HG hk
      go_wp2_with fail
      go_loopg [4, 5, 6] 8 (fun g nv tv ix wr => ∃ j : Nat, g = 8 - j ∧ j ≤ 8 ∧ ix = .int .i64 j ∧ nv = .int .u64 ((N * 8 / 256 ^ j : Nat) : Int) ∧ tv = .string (str ((pad8 N).drop (8 - j))) ∧ Below w1.heap.size w1 wr)
      case atStart => exact ⟨0, rfl, by omega, rfl, by rw [Nat.pow_zero, Nat.div_one], by rw [List.drop_of_length_le (by rw [pad8_len]; omega)]; rfl, Below.refl _ _⟩
      case round =>
        obtain ⟨j, hg, hj, rfl, rfl, rfl, B⟩ := hrel
        have HG := Lib.hid hg
        clear hg
        obtain ⟨n, hn⟩ : ∃ n, n = N * 8 / 256 ^ j := ⟨_, rfl⟩
        have hnl : n ≤ 800000 := by rw [hn]; exact Nat.le_trans (Nat.div_le_self _ _) (by have := HNL.out; omega)
        rw [← hn]
        obtain ⟨tl, htl⟩ : ∃ tl, tl = (pad8 N).drop (8 - j) := ⟨_, rfl⟩
        rw [← htl]
        have HT := Lib.hid htl; have HNN := Lib.hid hn
        by_cases hlt : j < 8
        · obtain ⟨y, hy⟩ : ∃ y, y = n % 256 := ⟨_, rfl⟩
          have ey : (n : Int) % 256 = (y : Int) := by omega
          have hyb : y < 256 := by omega
          have HTS : Hid (y :: tl = (pad8 N).drop (8 - (j + 1))) := Lib.hid (by
            have hd : (pad8 N).drop (8 - (j + 1)) = (pad8 N).getD (8 - (j + 1)) 0 :: (pad8 N).drop (8 - j) := by
              rw [List.drop_eq_getElem_cons (by rw [pad8_len]; omega)]
              congr 1
              · rw [List.getD_eq_getElem?_getD, List.getElem?_eq_getElem (by rw [pad8_len]; omega)]; rfl
              · congr 1; omega
            rw [hd, ← htl]
            congr 1
            rw [hy, hn, pad8_get _ _ (by omega), show 56 - 8 * (8 - (j + 1)) = 8 * j by omega, Nat.pow_mul])
          have HNS : Hid (n / 256 = N * 8 / 256 ^ (j + 1)) := Lib.hid (by rw [hn, Nat.pow_succ, Nat.div_div_eq_div_mul])
          obtain ⟨n2, hn2⟩ : ∃ n2, n2 = n / 256 := ⟨_, rfl⟩
          have en2 : (n : Int) / 256 = (n2 : Int) := by omega
          rw [← hn2] at HNS
          obtain ⟨sy, hsy⟩ : ∃ sy, sy = str [y] := ⟨_, rfl⟩
          obtain ⟨st, hst⟩ : ∃ st, st = str tl := ⟨_, rfl⟩
          have hsyz : sy.size ≤ 1 := by rw [hsy, str_size]; simp
          have hstz : st.size ≤ 8 := by rw [hst, str_size, HT.out, List.length_drop, pad8_len]; omega
          have hcv : ∀ W : World, (convert 27 9 (.slice (some ⟨W.heap.size, 0, none⟩) 1 1)).run Try.prog (W.alloc (.cells #[.int .u8 (y : Int)] 5 (0, 0))) = .ok (.string sy) (W.alloc (.cells #[.int .u8 (y : Int)] 5 (0, 0))) := fun W => by
            rw [hsy]
            exact run_str_own (base := W.heap.size) (World.ownsRow_lit W #[.int .u8 (y : Int)] 1 (Nat.le_refl _) (by unfold maxLen; omega) rfl)
          have HS1 : Hid (sy ++ st = str (y :: tl)) := Lib.hid (by rw [hsy, hst]; exact str_app [y] tl)
          rw [← hst]
          clear hy hn htl hn2 hsy hst
          go_wp2_with fail
          go_roundg (8 - (j + 1))
          case measure => have := HG.out; omega
          case rel => exact ⟨j + 1, rfl, by omega, by go_num, by rw [← HNS.out], by rw [HS1.out, HTS.out], below_alloc B _⟩
        · obtain rfl : j = 8 := by omega
          clear hn htl hlt HG hnl
          have htl : tl = pad8 N := by rw [HT.out]; rfl
          have HP : Hid (sr ++ str tl = str (padded q)) := Lib.hid (by rw [HSR.out, HR.out, htl, str_app, HN.out]; rfl)
          obtain ⟨p, hp⟩ : ∃ p, p = padded q := ⟨_, rfl⟩
          rw [← hp] at HP
          obtain ⟨st, hst⟩ : ∃ st, st = str tl := ⟨_, rfl⟩
          have hstz : st.size ≤ 8 := by rw [hst, str_size, htl, pad8_len]; omega
          rw [← hst] at HP
          rw [← hst]
          have hP := HP.out
          have HPP := Lib.hid hp
          clear hst
          clear hp htl HT HNN HZ et et2 hj
          go_wp2_with fail
          obtain ⟨nb, hnb⟩ : ∃ nb, nb = p.length / 64 := ⟨_, rfl⟩
          have HNB : Hid (p.length = 64 * nb) := Lib.hid (by rw [hnb, HPP.out]; exact padded_64 q)
          have HPB : Hid (∀ y ∈ p, y < 256) := Lib.hid (by rw [HPP.out]; exact padded_byte HB.out)
          have HPL : Hid (p.length < 1000000) := Lib.hid (by rw [HPP.out, padded_len]; have := zpad_lt q.length; have := HLEN.out; omega)
          have HSH : Hid (sha q = dig (shs p nb)) := Lib.hid (by rw [hnb, HPP.out]; rfl)
          have HKR : Hid (wr.heap[gks]? = some (hrow ks)) := Lib.hid (below_keep B HK.out)
          have HBW : Hid (Below w.heap.size w wr) := Lib.hid (below_next HBB.out B)
          have HKR0 : Hid (wr.heap[w.heap.size]? = some (rblk 0)) := Lib.hid (below_keep B KR.out)
          obtain ⟨gh, hgh⟩ : ∃ gh, gh = wr.heap.size := ⟨_, rfl⟩
          have HGH := Lib.hid hgh
          have hkh : gks < gh := by rw [hgh]; exact block_lt HKR.out
          rw [← hgh]
          clear hnb hP hgh B hsm hrs hstz HP HPP HSR HR HRL HSQ HSS HB HLEN KR HK HBB
          refine loopAt _ p HPB.out nb HNB.out HPL.out gks gh (wr.alloc (hrow h0s)) rfl rfl rfl rfl rfl (keep_alloc _ HKR.out) (heap_new_at HGH.out.symm) hkh _ ?_
          intro A2 w2 sz h2 h7 hr hz hB2
          obtain ⟨f, rfl⟩ := lit306 A2 sz
          have e2 : f 2 = .pointer (some ⟨w.heap.size, 0, none⟩) := by simpa using h2
          have e7 : f 7 = .slice (some ⟨gh, 0, none⟩) 8 8 := by simpa using h7
          rw [e2, e7]
          have HR := Lib.hid hr
          have HH8 : Hid (H8 (shs p nb)) := Lib.hid (shs_8 p nb)
          have HWR : Hid (w.heap.size < gh) := Lib.hid (by have := HGK.out; omega)
          have HBF : Hid (Below w.heap.size w w2) := Lib.hid ((below_alloc HBW.out (hrow h0s)).trans (hB2.mono (by have := HWR.out; omega)))
          have HKR2 : Hid (w2.heap[w.heap.size]? = some (rblk 0)) := Lib.hid ((hB2.block _ HWR.out).trans (keep_alloc _ HKR0.out))
          obtain ⟨hh, hhh⟩ : ∃ hh, hh = shs p nb := ⟨_, rfl⟩
          rw [← hhh] at HR HH8 HSH
          clear sz h2 h7 hr hz hB2 e2 e7 HKR HBW HKR0 HGH hkh HPB HNB HPL hhh HGK
          have ez := rblk_lit
          go_wp2_with (first | (refine wpList_store_rid rfl (.tmp 23) (.tmp 282) rfl w2.heap.size 0 0 rfl rfl (heap_new w2 _) (fun w3 h1 h2 h3 h4 => ?_)))
          have K3 := Lib.hid h1
          obtain ⟨go, hgo⟩ : ∃ go, go = w2.heap.size := ⟨_, rfl⟩
          have hgh2 : gh ≠ w2.heap.size := by have := block_lt HR.out; omega
          have hwr2 : w.heap.size ≠ w2.heap.size := by have := block_lt HKR2.out; omega
          have HR3 : Hid (w3.heap[gh]? = some (hrow hh)) := Lib.hid ((h2 gh hgh2).trans (keep_alloc _ HR.out))
          have HKR3 : Hid (w3.heap[w.heap.size]? = some (rblk 0)) := Lib.hid ((h2 _ hwr2).trans (keep_alloc _ HKR2.out))
          have HB3 : Hid (Below w.heap.size w w3) := Lib.hid (h4 _ _ HBF.out.size (below_alloc HBF.out _))
          have HGO : Hid (w.heap.size < go ∧ gh ≠ go) := Lib.hid (by rw [hgo]; exact ⟨block_lt HKR2.out, hgh2⟩)
          rw [← hgo] at K3
          rw [← hgo]
          clear h1 h2 h3 h4 hgo hgh2 hwr2 HR HKR2 HBF ez
          go_loopg [24] 8 (fun g ix wr => ∃ k : Nat, g = 8 - k ∧ k ≤ 8 ∧ ix = .int .i64 k ∧ wr.heap[go]? = some (rblk (dig hh % 2 ^ (8 * (4 * k)))) ∧ wr.heap[gh]? = some (hrow hh) ∧ wr.heap[w.heap.size]? = some (rblk 0) ∧ Below w.heap.size w wr)
          case atStart => exact ⟨0, rfl, by omega, rfl, by simp only [Nat.mul_zero, Nat.pow_zero, Nat.mod_one]; exact K3.out, HR3.out, HKR3.out, HB3.out⟩
          case round =>
            clear K3 HR3 HKR3 HB3
            obtain ⟨k, hg, hk, rfl, hr0, hr1, hr2, B⟩ := hrel
            have HG := Lib.hid hg; have K0 := Lib.hid hr0; have K1 := Lib.hid hr1; have K2 := Lib.hid hr2
            clear hg hr0 hr1 hr2
            by_cases hlt : k < 8
            · have hh8 := HH8.out.1
              have ch := hrow_cell K1.out k (by omega)
              obtain ⟨x, hx⟩ : ∃ x, x = hh.getD k 0 := ⟨_, rfl⟩
              have hxl : x < 4294967296 := by
                rw [hx, List.getD_eq_getElem?_getD, List.getElem?_eq_getElem (by omega)]
                exact HH8.out.2 _ (List.getElem_mem _)
              rw [← hx] at ch
              obtain ⟨x1, hx1⟩ : ∃ x1, x1 = x / 256 := ⟨_, rfl⟩
              obtain ⟨x2, hx2⟩ : ∃ x2, x2 = x1 / 256 := ⟨_, rfl⟩
              obtain ⟨x3, hx3⟩ : ∃ x3, x3 = x2 / 256 := ⟨_, rfl⟩
              obtain ⟨y3, hy3⟩ : ∃ y3, y3 = x % 256 := ⟨_, rfl⟩
              obtain ⟨y2, hy2⟩ : ∃ y2, y2 = x1 % 256 := ⟨_, rfl⟩
              obtain ⟨y1, hy1⟩ : ∃ y1, y1 = x2 % 256 := ⟨_, rfl⟩
              obtain ⟨y0, hy0⟩ : ∃ y0, y0 = x3 % 256 := ⟨_, rfl⟩
              have ex1 : (x : Int) / 256 = (x1 : Int) := by omega
              have ex2 : (x1 : Int) / 256 = (x2 : Int) := by omega
              have ex3 : (x2 : Int) / 256 = (x3 : Int) := by omega
              have ey3 : (x : Int) % 256 = (y3 : Int) := by omega
              have ey2 : (x1 : Int) % 256 = (y2 : Int) := by omega
              have ey1 : (x2 : Int) % 256 = (y1 : Int) := by omega
              have ey0 : (x3 : Int) % 256 = (y0 : Int) := by omega
              have b3 : y3 < 256 := by omega
              have b2 : y2 < 256 := by omega
              have b1 : y1 < 256 := by omega
              have b0 : y0 < 256 := by omega
              have HSET := Lib.hid (dig_set_back hh8 hlt (y0 := y0) (y1 := y1) (y2 := y2) (y3 := y3) (by omega) (by omega) (by omega) (by omega) K0.out)
              obtain ⟨m, hm⟩ : ∃ m, m = 4 * k := ⟨_, rfl⟩
              obtain ⟨m1, hm1⟩ : ∃ m1, m1 = m + 1 := ⟨_, rfl⟩
              obtain ⟨m2, hm2⟩ : ∃ m2, m2 = m + 2 := ⟨_, rfl⟩
              obtain ⟨m3, hm3⟩ : ∃ m3, m3 = m + 3 := ⟨_, rfl⟩
              have c0 := rid_cell K0.out m (by omega)
              have c1 := rid_cell K0.out m1 (by omega)
              have c2 := rid_cell K0.out m2 (by omega)
              have c3 := rid_cell K0.out m3 (by omega)
              have fz : ∀ j, wr.frozen? ⟨go, j, none⟩ = false := fun j => frozen_of_row _ _ _ _ _ K0.out
              rw [← hm, ← hm1, ← hm2, ← hm3] at HSET
              have e0 : 4 * (k : Int) = (m : Int) := by omega
              have e1 : (m : Int) + 1 = (m1 : Int) := by omega
              have e2 : (m : Int) + 2 = (m2 : Int) := by omega
              have e3 : (m : Int) + 3 = (m3 : Int) := by omega
              have l0 : m < 32 := by omega
              have l1 : m1 < 32 := by omega
              have l2 : m2 < 32 := by omega
              have l3 : m3 < 32 := by omega
              have n01 : ¬ m = m1 := by omega
              have n02 : ¬ m = m2 := by omega
              have n03 : ¬ m = m3 := by omega
              have n12 : ¬ m1 = m2 := by omega
              have n13 : ¬ m1 = m3 := by omega
              have n23 : ¬ m2 = m3 := by omega
              have HGO1 := HGO.out.1
              have HGO2 := HGO.out.2
              clear hm hm1 hm2 hm3 hx hx1 hx2 hx3 hy0 hy1 hy2 hy3 hh8
              go_wp2_with fail
              refine wp_loop_rounds 5 ?_
              rw [rounds_succ]
              go_wp2_with fail
              rw [rounds_succ]
              go_wp2_with fail
              rw [rounds_succ]
              go_wp2_with fail
              rw [rounds_succ]
              go_wp2_with fail
              rw [rounds_succ]
              go_wp2_with fail
              go_roundg (8 - (k + 1))
              case measure => have := HG.out; omega
              case rel => exact ⟨k + 1, rfl, by omega, by go_num, HSET.out, (far4 HGO2 _ _ _ _ _ _ _ _).trans K1.out, (far4 (by omega) _ _ _ _ _ _ _ _).trans K2.out, (by repeat' (first | (with_reducible exact Below.refl _ _) | (with_reducible assumption) | (with_reducible refine below_alloc ?_ _) | (with_reducible refine Below.drew ?_) | (with_reducible refine below_drewN ?_ _) | (with_reducible refine Below.setCell ?_ ?_ _) | go_size))⟩
            · obtain rfl : k = 8 := by omega
              have HDL : Hid (dig hh < 2 ^ (8 * 32)) := Lib.hid (by rw [← HSH.out]; exact sha_lt q)
              rw [show 8 * (4 * 8) = 8 * 32 from rfl, Nat.mod_eq_of_lt HDL.out] at K0
              have hpq := HSH.out
              have HGO1 := HGO.out.1
              clear hlt HG HSH HDL
              go_wp2_with (first | refine wpList_load_rid rfl (.tmp 23) rfl go (dig hh) rfl K0.out ?_ | refine wpList_store_rid rfl (.tmp 2) (.tmp 305) rfl w.heap.size 0 (dig hh) rfl rfl K2.out (fun w' h1 h2 h3 h4 => ?_))
              have hl := loadVar_rid h1
              exact bodyPost_ret (v := iv (dig hh)) (by simp [results, Try.results78, Act.put, asAddr, hl]) rfl ⟨by rw [hpq], h4 _ _ (Nat.le_refl _) B⟩
end Go.Proofs.Ytnbppbnjkmopeaa
namespace Go.Proofs.Ytnbppbnjkmopeaa
open Go.RowKit

/-- bytes as a text -/
theorem run_str_at {w : World} {v : Value} {q : List Nat} (hb : BytesAt w v q) : (convert 27 9 v).run Try.prog w = .ok (.string (str q)) w := by
  obtain ⟨x, cap, rfl⟩ := hb.shape
  rw [run_convert_bytes_string w 27 9 5 x q.length cap underlying_u8s (by kernel_rfl) (by kernel_rfl)]
  rcases hb with ⟨e, rfl⟩ | ⟨a, c, e, hc⟩
  · obtain ⟨rfl, -, -⟩ := Value.slice.inj e
    rfl
  · obtain ⟨rfl, -, rfl⟩ := Value.slice.inj e
    rw [run_bytesToString w a q.length cap (q.map fun (x : Nat) => (x : Int)) ?_, fold_str]
    · have e2 : (q.map fun (x : Nat) => (x : Int)).map (fun n => UInt8.ofNat n.toNat) = q.map UInt8.ofNat := by
        rw [List.map_map]
        exact List.map_congr_left fun x _ => by simp
      rw [e2]
      rfl
    · have e3 : (q.map fun (x : Nat) => (x : Int)).map (Value.int .u8) = u8s q := by
        unfold u8s
        rw [List.map_map]
        rfl
      rw [e3]
      have := run_loadCells_list (P := Try.prog) (w := w) a (u8s q) fun j v hj => by
        have hjl : j < q.length := by
          have := (List.getElem?_eq_some_iff.1 hj).1
          rwa [u8s_len] at this
        rw [u8s_get q j hjl] at hj
        rw [hc j hjl]; exact hj
      rwa [u8s_len] at this
theorem idb_rat {w : World} {g n : Nat} (h : w.heap[g]? = some (rblk n)) (c : Nat) : BytesAt w (.slice (some ⟨g, 0, none⟩) 32 c) (idb n) :=
  .inr ⟨⟨g, 0, none⟩, c, by rw [idb_len], fun j hj => by
    rw [idb_len] at hj
    rw [Addr.add_lit, Nat.zero_add, rid_cell h j hj, idb_get n j hj]⟩

set_option maxRecDepth 100000 in
set_option maxHeartbeats 1000000 in
theorem reftwice_any (q : List Nat) (hb : ∀ y ∈ q, y < 256) (hlen : q.length ≤ 100000) (w : World) :
    Calls Try.prog 24 #[.string (str q)] w fun e w' => e = .returned (iv (tw q)) ∧ Below w.heap.size w w' := by
  have C1 := Lib.hid fun w => refsum_any q hb hlen w
  obtain ⟨X, hX⟩ : ∃ X, X = sha q := ⟨_, rfl⟩
  have et : tw q = sha (idb X) := by rw [hX]; rfl
  rw [et]
  rw [← hX] at C1
  have C2 := Lib.hid fun w => refsum_any (idb X) (idb_byte X) (by rw [idb_len]; omega) w
  obtain ⟨sq, hsq⟩ : ∃ sq, sq = str q := ⟨_, rfl⟩
  rw [← hsq] at C1
  rw [← hsq]
  obtain ⟨Y, hY⟩ : ∃ Y, Y = sha (idb X) := ⟨_, rfl⟩
  rw [← hY] at C2
  rw [← hY]
  have B : Below w.heap.size w w := Below.refl _ _
  clear hX et hb hlen hsq hY
  go_enter Try.func24, Try.ntmps24
  go_wp2_with fail
  rw [rblk_lit]
  refine (C1.out _).mono ?_
  rintro e w1 ⟨rfl, hb1⟩
  have K0 := Lib.hid (below_keep hb1 (heap_new w (rblk 0)))
  have B1 := below_next (w := w) (by repeat' (first | (with_reducible exact Below.refl _ _) | (with_reducible assumption) | (with_reducible refine below_alloc ?_ _) | (with_reducible refine Below.drew ?_) | (with_reducible refine below_drewN ?_ _) | (with_reducible refine Below.setCell ?_ ?_ _) | go_size)) hb1
  have hz0 : w.heap.size < w1.heap.size := by have := hb1.size; simp at this; omega
  clear hb1 C1 B
  have ei := rblk_lit
  go_wp2_with (first | (refine wpList_store_rid rfl (.tmp 3) (.tmp 5) rfl w1.heap.size 0 X rfl rfl (heap_new w1 _) (fun w2 h1 h2 h3 h4 => ?_); have K := Lib.hid h1; have K0' := Lib.hid ((h2 _ (by omega)).trans (keep_alloc _ K0.out)); have B2 := h4 w.heap.size w (by omega) (below_alloc B1 _); have hcv := run_str_at (idb_rat h1 32); clear h1 h2 h3 h4))
  refine (C2.out _).mono ?_
  rintro e w3 ⟨rfl, hb3⟩
  have K3 := below_keep hb3 K0'.out
  have B3 := below_next (w := w) B2 hb3
  clear hb3 hcv
  go_wp2_with (first | refine wpList_store_rid rfl (.tmp 2) (.tmp 8) rfl w.heap.size 0 Y rfl rfl K3 (fun w' h1 h2 h3 h4 => ?_))
  have hl := loadVar_rid h1
  exact bodyPost_ret (v := iv Y) (by simp [results, Try.results24, Act.put, asAddr, hl]) rfl ⟨rfl, h4 _ _ (Nat.le_refl _) B3⟩
end Go.Proofs.Ytnbppbnjkmopeaa
