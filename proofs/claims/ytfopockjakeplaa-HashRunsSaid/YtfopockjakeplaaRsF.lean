/- tallystickref01.Sum: the loop over the blocks. No condition. -/
import Derived.Test.YtfopockjakeplaaRsE
namespace Go.Proofs.Ytfopockjakeplaa
open Go.RowKit

theorem OwnsU.new (w : World) (base : Nat) (hb : base ≤ w.heap.size) : OwnsU (w.alloc (.cells #[] 34 (0, 0))) base (.slice (some ⟨w.heap.size, 0, none⟩) 0 0) [] :=
  World.ownsRow_lit w #[] 0 hb (by unfold maxLen; omega) rfl
theorem wsAt_str {q : List Nat} (hq : ∀ x ∈ q, x < 256) (m : Nat) : wsAt (str q) (64 * m) 16 = mwl (q.drop (64 * m)) := by
  unfold wsAt mwl wd
  apply List.map_congr_left
  intro k _
  simp only [str_bt hq, List.getD_eq_getElem?_getD, List.getElem?_drop]
  simp only [Nat.add_assoc]
theorem mwl_lt {q : List Nat} (hq : ∀ x ∈ q, x < 256) : ∀ x ∈ mwl q, x < 4294967296 := by
  intro x hx
  simp only [mwl, List.mem_map] at hx
  obtain ⟨i, _, rfl⟩ := hx
  have hb : ∀ j, q.getD j 0 < 256 := fun j => by
    rw [List.getD_eq_getElem?_getD]
    rcases h : q[j]? with _ | y
    · simp
    · exact hq y (List.mem_of_getElem? h)
  have := hb (4 * i); have := hb (4 * i + 1); have := hb (4 * i + 2); have := hb (4 * i + 3)
  omega
theorem mwl_len (q : List Nat) : (mwl q).length = 16 := by simp [mwl]

/-- the slots that are kept, read off -/
theorem keeps_eq {A A' : Array Value} (h : Keeps A A') {s : ByteArray} {v2 v3 v7 v8 : Value} (e0 : A[0]? = some (.string s)) (e2 : A[2]? = some v2) (e3 : A[3]? = some v3) (e7 : A[7]? = some v7) (e8 : A[8]? = some v8) :
    A'.size = 306 ∧ A'[0]? = some (.string s) ∧ A'[2]? = some v2 ∧ A'[3]? = some v3 ∧ A'[7]? = some v7 ∧ A'[8]? = some v8 :=
  ⟨h.1, h.2.1.trans e0, h.2.2.1.trans e2, h.2.2.2.1.trans e3, h.2.2.2.2.1.trans e7, h.2.2.2.2.2.trans e8⟩

set_option maxRecDepth 1000000 in
set_option maxHeartbeats 8000000 in
theorem loopAt (A : Array Value) (q : List Nat) (hq : ∀ x ∈ q, x < 256) (nb : Nat) (hlen : q.length = 64 * nb) (hsz : q.length < 1000000) (gk gh : Nat) (w : World) (hs : A.size = 306)
    (h0 : A[0]? = some (.string (str q))) (h3 : A[3]? = some (.slice (some ⟨gk, 0, none⟩) 64 64)) (h7 : A[7]? = some (.slice (some ⟨gh, 0, none⟩) 8 8)) (h8 : A[8]? = some (.int .i64 0))
    (hk : w.heap[gk]? = some (hrow ks)) (hh : w.heap[gh]? = some (hrow h0s)) (hkh : gk < gh)
    (Q : Exit → Act → World → Prop)
    (hQ : ∀ A' w', A'.size = 306 → A'[2]? = A[2]? → A'[7]? = A[7]? → w'.heap[gh]? = some (hrow (shs q nb)) → w.heap.size ≤ w'.heap.size → Below gh w w' → Q (.exit 4) ⟨A', []⟩ w') : Code.wp Try.prog (Code.loop (rsBody 2)) Q ⟨A, []⟩ w := by
  refine wp_loop_ghost (fun n a w' => ∃ (A' : Array Value) (m : Nat), n = nb - m ∧ m ≤ nb ∧ a = ⟨A', []⟩ ∧ A'.size = 306 ∧ A'[0]? = some (.string (str q)) ∧ A'[2]? = A[2]? ∧ A'[3]? = some (.slice (some ⟨gk, 0, none⟩) 64 64) ∧ A'[7]? = some (.slice (some ⟨gh, 0, none⟩) 8 8) ∧ A'[8]? = some (.int .i64 ((64 * m : Nat) : Int)) ∧ w'.heap[gh]? = some (hrow (shs q m)) ∧ w.heap.size ≤ w'.heap.size ∧ Below gh w w') nb ⟨A, 0, rfl, by omega, rfl, hs, h0, rfl, h3, h7, h8, hh, Nat.le_refl _, Below.refl _ _⟩ ?_
  rintro n a w1 ⟨A1, m, rfl, hm, rfl, s1, a0, a2, a3, a7, a8, hr, hzz, B⟩
  obtain ⟨f, rfl⟩ := lit306 A1 s1
  have e0 : f 0 = .string (str q) := by simpa using a0
  have e3 : f 3 = .slice (some ⟨gk, 0, none⟩) 64 64 := by simpa using a3
  have e7 : f 7 = .slice (some ⟨gh, 0, none⟩) 8 8 := by simpa using a7
  have e8 : f 8 = .int .i64 ((64 * m : Nat) : Int) := by simpa using a8
  have E2 : Hid (some (f 2) = A[2]?) := Lib.hid (by rw [← a2]; simp)
  have E7 : Hid (A[7]? = some (.slice (some ⟨gh, 0, none⟩) 8 8)) := Lib.hid h7
  have HQ := Lib.hid hQ; have HLEN := Lib.hid hlen; have HSZ := Lib.hid hsz; have HK := Lib.hid hk; have HR := Lib.hid hr; have HB := Lib.hid B; have HQB := Lib.hid hq
  have HZZ := Lib.hid hzz
  clear a0 a2 a3 a7 a8 s1 h0 h3 h7 h8 hs hQ hlen hsz hk hr B hh hq hzz
  obtain ⟨sq, hsq⟩ : ∃ sq, sq = str q := ⟨_, rfl⟩
  have HSQ := Lib.hid hsq
  have hss : sq.size = 64 * nb := by rw [hsq, str_size, HLEN.out]
  rw [← hsq] at e0
  obtain ⟨p, hp⟩ : ∃ p, p = 64 * m := ⟨_, rfl⟩
  rw [← hp] at e8
  have HP := Lib.hid hp; have HSS := Lib.hid hss
  clear hsq
  conv => arg 2; whnf
  by_cases hlt : m < nb
  · have hps : (p : Int) < (sq.size : Int) := by omega
    have hps2 : p + 64 ≤ sq.size := by omega
    have hps3 : sq.size < 1000000 := by have := HSZ.out; have := HLEN.out; omega
    clear hp hss
    rw [e0, e3, e7, e8]
    clear e0 e3 e7 e8
    go_wp2_with fail
    refine loop16 _ sq p w1 rfl rfl rfl rfl rfl hps2 hps3 _ ?_
    intro A2 w2 v hK h9 hO hB2
    obtain ⟨sz, k0, k2, k3, k7, k8⟩ := keeps_eq hK rfl rfl rfl rfl rfl
    obtain ⟨f2, rfl⟩ := lit306 A2 sz
    have e0 : f2 0 = .string sq := by simpa using k0
    have e2 : f2 2 = f 2 := by simpa using k2
    have e3 : f2 3 = .slice (some ⟨gk, 0, none⟩) 64 64 := by simpa using k3
    have e7 : f2 7 = .slice (some ⟨gh, 0, none⟩) 8 8 := by simpa using k7
    have e8 : f2 8 = .int .i64 (p : Int) := by simpa using k8
    have e9 : f2 9 = v := by simpa using h9
    rw [e0, e2, e3, e7, e8, e9]
    clear sz k0 k2 k3 k7 k8 hK e0 e2 e3 e7 e8 e9 h9
    have HEW : wsAt sq p 16 = mwl (q.drop p) := by rw [HSQ.out, HP.out]; exact wsAt_str HQB.out m
    rw [HEW] at hO
    clear HEW
    have HM := Lib.hid (mwl_lt (fun x hx => HQB.out x (List.mem_of_mem_drop hx)) : ∀ x ∈ mwl (q.drop p), x < 4294967296)
    have HML := Lib.hid (mwl_len (q.drop p))
    have HGH : Hid (gh < w1.heap.size) := Lib.hid (block_lt HR.out)
    have HO := Lib.hid hO
    have HB2 := Lib.hid hB2
    clear hO hB2
    go_wp2_with fail
    refine loop48 _ (mwl (q.drop p)) HML.out HM.out w1.heap.size v w2 HB2.out.size rfl rfl rfl HO.out _ ?_
    intro A3 w3 v3 hK h9 hO3 hB3
    obtain ⟨sz, k0, k2, k3, k7, k8⟩ := keeps_eq hK rfl rfl rfl rfl rfl
    obtain ⟨f3, rfl⟩ := lit306 A3 sz
    have e0 : f3 0 = .string sq := by simpa using k0
    have e2 : f3 2 = f 2 := by simpa using k2
    have e3 : f3 3 = .slice (some ⟨gk, 0, none⟩) 64 64 := by simpa using k3
    have e7 : f3 7 = .slice (some ⟨gh, 0, none⟩) 8 8 := by simpa using k7
    have e8 : f3 8 = .int .i64 (p : Int) := by simpa using k8
    have e9 : f3 9 = v3 := by simpa using h9
    rw [e0, e2, e3, e7, e8, e9]
    clear sz k0 k2 k3 k7 k8 hK e0 e2 e3 e7 e8 e9 h9
    have HO3 := Lib.hid hO3
    have HB3 : Hid (Below w1.heap.size w1 w3) := Lib.hid (HB2.out.trans hB3)
    have HR3 : Hid (w3.heap[gh]? = some (hrow (shs q m))) := Lib.hid (below_keep HB3.out HR.out)
    clear hO3 hB3 HO HB2
    have HL8 : Hid ((shs q m).length = 8) := Lib.hid (shs_8 q m).1
    have hsz3 := HB3.out.size
    have hsz3' : gh < w3.heap.size := by have := HGH.out; omega
    have hnew : gh ≠ w3.heap.size := by omega
    have HROW : Hid (∀ j, j < (shs q m).length → (w3.alloc (.cells #[] 34 (0, 0))).cell? ⟨gh, j, none⟩ = some (.int .u32 ((shs q m).getD j 0 : Nat))) := Lib.hid fun j hj => hrow_cell (keep_alloc _ HR3.out) j hj
    have HLE : Hid (([] : List Nat).length + (shs q m).length ≤ 1000000) := Lib.hid (by rw [HL8.out]; simp)
    have HSL : Hid (Value.slice (some ⟨gh, 0, none⟩) 8 8 = .slice (some ⟨gh, 0, none⟩) (shs q m).length 8) := Lib.hid (by rw [HL8.out])
    clear hsz3'
    go_wp2_with (at_builtin; refine wpList_append_u32 rfl (.tmp 149) (.tmp 150) rfl w3.heap.size _ [] rfl (OwnsU.new w3 _ (Nat.le_refl _)) (shs q m) gh 8 HSL.out HROW.out HLE.out (by simp) (fun v4 w4 hown' hbel => ?_))
    rw [List.nil_append] at hown'
    have B4 : Below w3.heap.size w3 w4 := hbel _ _ (Nat.le_refl _) (below_alloc (Below.refl _ _) _)
    have HB4 : Hid (Below w1.heap.size w1 w4) := Lib.hid (below_next HB3.out B4)
    have HO4 := Lib.hid (HO3.out.keep B4)
    have HV4 := Lib.hid hown'
    have HK4 : Hid (w4.heap[gk]? = some (hrow ks)) := Lib.hid (below_keep HB4.out ((HB.out.block gk hkh).trans HK.out))
    have HR4 : Hid (w4.heap[gh]? = some (hrow (shs q m))) := Lib.hid (below_keep HB4.out HR.out)
    clear hown' hbel B4 HROW HLE HSL HO3 HR3 HB3 hsz3 hnew
    refine loop64 _ (mwl (q.drop p)) (shs q m) HM.out (shs_8 q m) (.slice (some ⟨gk, 0, none⟩) 64 64) v3 v4 w4 rfl rfl rfl rfl rfl (U32At.row (h := ks) HK4.out) (HO4.out.u32At (by rw [wjs_len]; omega)) (HV4.out.u32At (by rw [HL8.out]; omega)) _ ?_
    intro A5 w5 v5 hK h16 hv5 hnew5 hB5
    obtain ⟨sz, k0, k2, k3, k7, k8⟩ := keeps_eq hK rfl rfl rfl rfl rfl
    obtain ⟨f5, rfl⟩ := lit306 A5 sz
    have e0 : f5 0 = .string sq := by simpa using k0
    have e2 : f5 2 = f 2 := by simpa using k2
    have e3 : f5 3 = .slice (some ⟨gk, 0, none⟩) 64 64 := by simpa using k3
    have e7 : f5 7 = .slice (some ⟨gh, 0, none⟩) 8 8 := by simpa using k7
    have e8 : f5 8 = .int .i64 (p : Int) := by simpa using k8
    have e16 : f5 16 = v5 := by simpa using h16
    rw [e0, e2, e3, e7, e8, e16]
    clear sz k0 k2 k3 k7 k8 hK e0 e2 e3 e7 e8 e16 h16
    have HR5 : Hid (w5.heap[gh]? = some (hrow (shs q m))) := Lib.hid (below_keep hB5 HR4.out)
    have HV5 := Lib.hid hv5
    have HB5 : Hid (Below w1.heap.size w1 w5) := Lib.hid (below_next HB4.out hB5)
    have HNE : Hid (∀ g, (∃ c, v5 = .slice (some ⟨g, 0, none⟩) 8 c) → g ≠ gh) := Lib.hid fun g ⟨c, hc⟩ => by
      obtain ⟨g', e, hg'⟩ := hnew5
      rw [e] at hc
      obtain ⟨e2, -, -⟩ := Value.slice.inj hc
      have e3 := (Addr.mk.inj (Option.some.inj e2)).1
      have := block_lt HR4.out
      omega
    have HRL : Hid ((rds (wj (mwl (q.drop p))) (shs q m) 64).length = 8) := Lib.hid (H8.rds _ (shs_8 q m) 64).1
    clear hv5 hnew5 hB5 HR4 HK4 HV4 HO4 HB4
    go_wp2_with fail
    refine loop8 _ (shs q m) (rds (wj (mwl (q.drop p))) (shs q m) 64) HL8.out HRL.out gh v5 w5 rfl rfl rfl rfl HR5.out HV5.out HNE.out _ ?_
    intro A6 w6 hK hr6 hz6 hB6
    obtain ⟨sz, k0, k2, k3, k7, k8⟩ := keeps_eq hK rfl rfl rfl rfl rfl
    obtain ⟨f6, rfl⟩ := lit306 A6 sz
    have e0 : f6 0 = .string sq := by simpa using k0
    have e2 : f6 2 = f 2 := by simpa using k2
    have e3 : f6 3 = .slice (some ⟨gk, 0, none⟩) 64 64 := by simpa using k3
    have e7 : f6 7 = .slice (some ⟨gh, 0, none⟩) 8 8 := by simpa using k7
    have e8 : f6 8 = .int .i64 (p : Int) := by simpa using k8
    rw [e0, e2, e3, e7, e8]
    clear sz k0 k2 k3 k7 k8 hK e0 e2 e3 e7 e8
    have HR6 : Hid (w6.heap[gh]? = some (hrow (shs q (m + 1)))) := Lib.hid (by rw [hr6, HP.out]; rfl)
    have HB6 : Hid (Below gh w w6) := Lib.hid ((HB.out.trans (HB5.out.mono (Nat.le_of_lt HGH.out))).trans hB6)
    have HZ6 : Hid (w.heap.size ≤ w6.heap.size) := Lib.hid (by rw [hz6]; have := HB5.out.size; have := HZZ.out; omega)
    clear hr6 hz6 hB6
    go_wp2_with fail
    refine ⟨_, by omega, _, m + 1, rfl, by omega, rfl, rfl, by rw [HSQ.out]; rfl, E2.out, rfl, rfl, ?_, HR6.out, HZ6.out, HB6.out⟩
    show some (Value.int .i64 ((p : Int) + 64)) = some (Value.int .i64 ((64 * (m + 1) : Nat) : Int))
    rw [show (p : Int) + 64 = ((64 * (m + 1) : Nat) : Int) by have := HP.out; omega]
  · obtain rfl : m = nb := by omega
    have hps : ¬ (p : Int) < (sq.size : Int) := by omega
    have hps2 : (sq.size : Int) = (p : Int) := by omega
    clear hp hss
    rw [e0, e3, e7, e8]
    clear e0 e3 e7 e8
    go_wp2_with fail
    exact HQ.out _ _ rfl E2.out E7.out.symm HR.out HZZ.out HB.out
end Go.Proofs.Ytfopockjakeplaa
