/- bits.Work. No condition. -/
import Derived.Test.YtnbppbnjkmopeaaBt1
import Derived.Test.YtnbppbnjkmopeaaNumAr
namespace Go.Proofs.Ytnbppbnjkmopeaa
open Go.RowKit

/-- how much work a target means -/
def wrk (t : Nat) : Nat := if 2 ^ 256 ≤ t + 1 then 1 else ((2 ^ 256 - 1 - t) / (t + 1) + 1) % 2 ^ 256

theorem set4z {w : World} {b : Nat} (n : Nat) (h : w.heap[b]? = some zblk) :
    ((((w.setCell ⟨b, 0, none⟩ (.int .u64 (lw n 0))).setCell ⟨b, 1, none⟩ (.int .u64 (lw n 1))).setCell ⟨b, 2, none⟩ (.int .u64 (lw n 2))).setCell ⟨b, 3, none⟩ (.int .u64 (lw n 3))).heap[b]? = some (nblk n) := set4 _ _ _ _ h

theorem set4_new (w : World) (b : Nat) (v0 v1 v2 v3 : Value) (o : Obj) : (((((w.setCell ⟨b, 0, none⟩ v0).setCell ⟨b, 1, none⟩ v1).setCell ⟨b, 2, none⟩ v2).setCell ⟨b, 3, none⟩ v3).alloc o).heap[w.heap.size]? = some o := by
  have := heap_new ((((w.setCell ⟨b, 0, none⟩ v0).setCell ⟨b, 1, none⟩ v1).setCell ⟨b, 2, none⟩ v2).setCell ⟨b, 3, none⟩ v3) o
  rwa [set4_size] at this

set_option maxRecDepth 100000 in
set_option maxHeartbeats 40000000 in
theorem work_any (t : Nat) (ht : t < 2 ^ 256) (w : World) :
    Calls Try.prog 62 #[nv t] w fun e w' => e = .returned (nv (wrk t)) ∧ Below w.heap.size w w' := by
  have HT := Lib.hid ht
  have B : Below w.heap.size w w := Below.refl _ _
  have A := alloc2 w (nblk t) zblk
  have K0 := Lib.hid A.1; have K1 := Lib.hid A.2
  clear A
  have hw : wrk t = if 2 ^ 256 ≤ t + 1 then 1 else ((2 ^ 256 - 1 - t) / (t + 1) + 1) % 2 ^ 256 := rfl
  generalize wrk t = R at *
  have HW := Lib.hid hw
  clear hw
  obtain ⟨T1, hT1⟩ : ∃ T1, T1 = (t + 1) % 2 ^ 256 := ⟨_, rfl⟩
  obtain ⟨o1, ho1⟩ : ∃ o1, o1 = decide (2 ^ 256 ≤ t + 1) := ⟨_, rfl⟩
  have c1 := Lib.hid fun w => of_nat 1 w (by omega)
  have ca : ∀ g ty w, w.heap[g]? = some (.cells #[.int .u64 (lw t 0), .int .u64 (lw t 1), .int .u64 (lw t 2), .int .u64 (lw t 3), .int .u64 (lw 1 0), .int .u64 (lw 1 1), .int .u64 (lw 1 2), .int .u64 (lw 1 3)] ty (0, 0)) →
      Calls Try.prog 58 #[.slice (some ⟨g, 0, none⟩) 2 2] w fun e w' => e = .returned (.tuple #[nv T1, .bool o1]) ∧ Below w.heap.size w w' := fun g ty w h => by
    have := add2_any t 1 ht (by omega) g ty w h
    rwa [← hT1, ← ho1] at this
  have ca1 := Lib.hid fun W ty => ca _ ty _ (heap_new W _)
  have ca3 := Lib.hid fun W ty o => ca _ ty _ (alloc2 W o _).2
  have ca2 := Lib.hid fun W ty o => ca _ ty _ (keep_alloc o (heap_new W _))
  have HT1 := Lib.hid hT1; have HO1 := Lib.hid ho1
  clear ca hT1 ho1 ht
  go_enter Try.func62, Try.ntmps62
  go_wp2_with fail
  refine wp_abs (fun W => W.heap[w.heap.size]? = some (nblk t) ∧ W.heap[w.heap.size + 1]? = some zblk ∧ Below w.heap.size w W) ⟨K0.out, K1.out, (by repeat' (first | (with_reducible exact Below.refl _ _) | (with_reducible assumption) | (with_reducible refine below_alloc ?_ _) | (with_reducible refine Below.drew ?_) | (with_reducible refine below_drewN ?_ _) | (with_reducible refine Below.setCell ?_ ?_ _) | go_size))⟩ ?_
  clear K0 K1 B
  rintro W ⟨k0, k1, B⟩
  have K0 := Lib.hid k0; have K1 := Lib.hid k1
  clear k0 k1
  obtain ⟨K0_0, K0_1, K0_2, K0_3, K0_f, K0_z⟩ := cells4 K0.out
  have L0 : ∀ w', Below W.heap.size W w' → w'.cell? ⟨w.heap.size, 0, none⟩ = some (.int .u64 (lw t 0)) := fun w' h => (h.cell (p := ⟨_, 0, none⟩) K0_z).trans K0_0
  have L1 : ∀ w', Below W.heap.size W w' → w'.cell? ⟨w.heap.size, 1, none⟩ = some (.int .u64 (lw t 1)) := fun w' h => (h.cell (p := ⟨_, 1, none⟩) K0_z).trans K0_1
  have L2 : ∀ w', Below W.heap.size W w' → w'.cell? ⟨w.heap.size, 2, none⟩ = some (.int .u64 (lw t 2)) := fun w' h => (h.cell (p := ⟨_, 2, none⟩) K0_z).trans K0_2
  have L3 : ∀ w', Below W.heap.size W w' → w'.cell? ⟨w.heap.size, 3, none⟩ = some (.int .u64 (lw t 3)) := fun w' h => (h.cell (p := ⟨_, 3, none⟩) K0_z).trans K0_3
  go_cut [3, 4] (fun s3 s4 wc => ∃ p, s3 = .pointer (some ⟨p, 0, none⟩) ∧ s4 = .bool o1 ∧ W.heap.size ≤ p ∧ wc.heap[p]? = some (nblk T1) ∧ Below W.heap.size W wc)
  case first =>
    go_region_held3 (fun w' => Below W.heap.size W w') (first | (with_reducible assumption) | exact (by repeat' (first | (with_reducible exact Below.refl _ _) | (with_reducible assumption) | (with_reducible refine below_alloc ?_ _) | (with_reducible refine Below.drew ?_) | (with_reducible refine below_drewN ?_ _) | (with_reducible refine Below.setCell ?_ ?_ _) | go_size))) (first | (go_at_call 55; refine (c1.out _).mono ?_; rintro e wx ⟨rfl, hbx⟩; have hSx := below_next (w := W) (by repeat' (first | (with_reducible exact Below.refl _ _) | (with_reducible assumption) | (with_reducible refine below_alloc ?_ _) | (with_reducible refine Below.drew ?_) | (with_reducible refine below_drewN ?_ _) | (with_reducible refine Below.setCell ?_ ?_ _) | go_size)) hbx; have hzx := hSx.size; (try have hst : W.heap.size < wx.heap.size := by (have h0 := hbx.size; simp only [World.size_alloc, World.size_drew] at h0; omega)); (try have hZ1 : wx.heap[W.heap.size]? = some zblk := below_keep hbx (heap_new W.drew zblk)); obtain ⟨hcx, hfx⟩ := bcell hbx) | (go_at_call 58; (first | with_reducible refine (ca1.out _ _).mono ?_ | with_reducible refine (ca2.out _ _ _).mono ?_ | with_reducible refine (ca3.out _ _ _).mono ?_); rintro e wy ⟨rfl, hby⟩; have hSy := below_next (w := W) (by repeat' (first | (with_reducible exact Below.refl _ _) | (with_reducible assumption) | (with_reducible refine below_alloc ?_ _) | (with_reducible refine Below.drew ?_) | (with_reducible refine below_drewN ?_ _) | (with_reducible refine Below.setCell ?_ ?_ _) | go_size)) hby; have hzy := hSy.size; have hzq := hby.size; (try have hst : W.heap.size < wy.heap.size := by (simp only [World.size_alloc] at hzq; omega)); (try have hst : wx.heap.size < wy.heap.size := by (simp only [World.size_alloc] at hzq; omega)); clear hzq; (try have hZ2 : wy.heap[wx.heap.size]? = some zblk := below_keep hby (keep_alloc _ (heap_new wx zblk))); (try have hZ3 : wy.heap[wx.heap.size + 1]? = some zblk := below_keep hby (alloc2 wx _ zblk).2); (try have hZ4 : wy.heap[W.heap.size]? = some zblk := below_keep hby (keep_alloc _ hZ1)); obtain ⟨hcy, hfy⟩ := bcell hby))
    all_goals
      go_wp2_with fail
      go_meet
      case rel =>
        refine ⟨_, rfl, rfl, by omega, ?_, (by repeat' (first | (with_reducible exact Below.refl _ _) | (with_reducible assumption) | (with_reducible refine below_alloc ?_ _) | (with_reducible refine Below.drew ?_) | (with_reducible refine below_drewN ?_ _) | (with_reducible refine Below.setCell ?_ ?_ _) | go_size))⟩
        first
          | (with_reducible exact heap_new _ _)
          | (with_reducible exact set4 _ _ _ _ hZ2)
          | (with_reducible exact set4 _ _ _ _ hZ3)
          | (with_reducible exact set4 _ _ _ _ hZ4)
  case rest =>
    obtain ⟨p, rfl, rfl, hp, k4, hbc⟩ := hcut
    have Ka := Lib.hid (below_keep hbc K0.out); have Kb := Lib.hid (below_keep hbc K1.out); have K3 := Lib.hid k4
    have B2 := below_next (w := w) B hbc
    clear hbc k4 B K0 K1 K0_0 K0_1 K0_2 K0_3 K0_f K0_z L0 L1 L2 L3 ca1 ca2 ca3 hp
    have B := B2; have K0 := Ka; have K1 := Kb
    clear B2 Ka Kb
    by_cases h1 : 2 ^ 256 ≤ t + 1
    · have ho : o1 = true := by rw [HO1.out, decide_eq_true h1]
      have hR : R = 1 := by rw [HW.out, if_pos h1]
      subst ho hR
      go_wp2_with fail
      refine (c1.out _).mono ?_
      rintro e w2 ⟨rfl, hb2⟩
      have K1' := Lib.hid (below_keep hb2 K1.out)
      have B' := below_next (w := w) (by repeat' (first | (with_reducible exact Below.refl _ _) | (with_reducible assumption) | (with_reducible refine below_alloc ?_ _) | (with_reducible refine Below.drew ?_) | (with_reducible refine below_drewN ?_ _) | (with_reducible refine Below.setCell ?_ ?_ _) | go_size)) hb2
      clear hb2 B K0 K1 K3
      have B := B'; have K1 := K1'
      obtain ⟨K1_0, K1_1, K1_2, K1_3, K1_f, K1_z⟩ := cells4 K1.out
      go_wp2_with fail
      obtain ⟨r0, r1, r2, r3, rf, rz⟩ := cells4 (set4 (.int .u64 (lw 1 0)) (.int .u64 (lw 1 1)) (.int .u64 (lw 1 2)) (.int .u64 (lw 1 3)) K1.out)
      exact bodyPost_ret (v := nv 1) (by simp [results, Try.results62, go_sem, r0, r1, r2, r3]) rfl ⟨rfl, (by repeat' (first | (with_reducible exact Below.refl _ _) | (with_reducible assumption) | (with_reducible refine below_alloc ?_ _) | (with_reducible refine Below.drew ?_) | (with_reducible refine below_drewN ?_ _) | (with_reducible refine Below.setCell ?_ ?_ _) | go_size))⟩
    · have ho : o1 = false := by rw [HO1.out, decide_eq_false h1]
      have hT : T1 = t + 1 := by rw [HT1.out]; omega
      have hR : R = ((2 ^ 256 - 1 - t) / (t + 1) + 1) % 2 ^ 256 := by rw [HW.out, if_neg h1]
      subst ho hT
      go_wp2_with fail
      obtain ⟨W2, hW2⟩ : ∃ W2, W2 = wc := ⟨_, rfl⟩
      subst hW2
      have HNT := Lib.hid (show 2 ^ 256 - 1 - t < 2 ^ 256 by omega)
      have cn := Lib.hid fun w => not_any t HT.out w
      have cd := Lib.hid fun w => div_walk (2 ^ 256 - 1 - t) (t + 1) HNT.out (by omega) (by omega) w
      have hQ : (2 ^ 256 - 1 - t) / (t + 1) < 2 ^ 256 := Nat.lt_of_le_of_lt (Nat.div_le_self _ _) HNT.out
      generalize (2 ^ 256 - 1 - t) / (t + 1) = Q at *
      generalize (2 ^ 256 - 1 - t) % (t + 1) = Rm at *
      generalize 2 ^ 256 - 1 - t = NT at *
      have HQ := Lib.hid hQ; have HR := Lib.hid hR
      clear hQ hR h1
      obtain ⟨K0_0, K0_1, K0_2, K0_3, K0_f, K0_z⟩ := cells4 K0.out
      obtain ⟨K3_0, K3_1, K3_2, K3_3, K3_f, K3_z⟩ := cells4 K3.out
      have L0 : ∀ w', Below W2.heap.size W2 w' → w'.cell? ⟨w.heap.size, 0, none⟩ = some (.int .u64 (lw t 0)) := fun w' h => (h.cell (p := ⟨_, 0, none⟩) K0_z).trans K0_0
      have L1 : ∀ w', Below W2.heap.size W2 w' → w'.cell? ⟨w.heap.size, 1, none⟩ = some (.int .u64 (lw t 1)) := fun w' h => (h.cell (p := ⟨_, 1, none⟩) K0_z).trans K0_1
      have L2 : ∀ w', Below W2.heap.size W2 w' → w'.cell? ⟨w.heap.size, 2, none⟩ = some (.int .u64 (lw t 2)) := fun w' h => (h.cell (p := ⟨_, 2, none⟩) K0_z).trans K0_2
      have L3 : ∀ w', Below W2.heap.size W2 w' → w'.cell? ⟨w.heap.size, 3, none⟩ = some (.int .u64 (lw t 3)) := fun w' h => (h.cell (p := ⟨_, 3, none⟩) K0_z).trans K0_3
      have M0 : ∀ w', Below W2.heap.size W2 w' → w'.cell? ⟨p, 0, none⟩ = some (.int .u64 (lw (t + 1) 0)) := fun w' h => (h.cell (p := ⟨_, 0, none⟩) K3_z).trans K3_0
      have M1 : ∀ w', Below W2.heap.size W2 w' → w'.cell? ⟨p, 1, none⟩ = some (.int .u64 (lw (t + 1) 1)) := fun w' h => (h.cell (p := ⟨_, 1, none⟩) K3_z).trans K3_1
      have M2 : ∀ w', Below W2.heap.size W2 w' → w'.cell? ⟨p, 2, none⟩ = some (.int .u64 (lw (t + 1) 2)) := fun w' h => (h.cell (p := ⟨_, 2, none⟩) K3_z).trans K3_2
      have M3 : ∀ w', Below W2.heap.size W2 w' → w'.cell? ⟨p, 3, none⟩ = some (.int .u64 (lw (t + 1) 3)) := fun w' h => (h.cell (p := ⟨_, 3, none⟩) K3_z).trans K3_3
      clear K0_0 K0_1 K0_2 K0_3 K0_f K3_0 K3_1 K3_2 K3_3 K3_f
      go_cut [5] (fun s5 wd => ∃ q, s5 = .pointer (some ⟨q, 0, none⟩) ∧ W2.heap.size ≤ q ∧ wd.heap[q]? = some (nblk Q) ∧ Below W2.heap.size W2 wd)
      case first =>
        go_region_held3 (fun w' => Below W2.heap.size W2 w') (first | (with_reducible assumption) | exact (by repeat' (first | (with_reducible exact Below.refl _ _) | (with_reducible assumption) | (with_reducible refine below_alloc ?_ _) | (with_reducible refine Below.drew ?_) | (with_reducible refine below_drewN ?_ _) | (with_reducible refine Below.setCell ?_ ?_ _) | go_size))) (first | (go_at_call 95; refine (cn.out _).mono ?_; rintro e wx ⟨rfl, hbx⟩; have hSx := below_next (w := W2) (by repeat' (first | (with_reducible exact Below.refl _ _) | (with_reducible assumption) | (with_reducible refine below_alloc ?_ _) | (with_reducible refine Below.drew ?_) | (with_reducible refine below_drewN ?_ _) | (with_reducible refine Below.setCell ?_ ?_ _) | go_size)) hbx; have hzx := hSx.size; have hzq := hbx.size; (try simp only [World.size_drew] at hzq); (try simp only [World.size_alloc] at hzq); (try (have hX1 : wx.heap[W2.heap.size]? = some zblk := (by first | exact below_keep hbx (heap_new W2.drew zblk) | exact below_keep hbx (alloc2 W2.drew zblk zblk).1); obtain ⟨X1_0, X1_1, X1_2, X1_3, X1_f, X1_z⟩ := cells4 hX1)); (try (have hX2 : wx.heap[W2.heap.size + 1]? = some zblk := below_keep hbx (alloc2 W2.drew zblk zblk).2; obtain ⟨X2_0, X2_1, X2_2, X2_3, X2_f, X2_z⟩ := cells4 hX2))) | (go_at_call 61; refine (cd.out _).mono ?_; rintro e wy ⟨rfl, hby⟩; have hSy := below_next (w := W2) (by repeat' (first | (with_reducible exact Below.refl _ _) | (with_reducible assumption) | (with_reducible refine below_alloc ?_ _) | (with_reducible refine Below.drew ?_) | (with_reducible refine below_drewN ?_ _) | (with_reducible refine Below.setCell ?_ ?_ _) | go_size)) hby; have hzy := hSy.size; have hzr := hby.size; (try simp only [World.size_alloc] at hzr); (try (have hY1 : wy.heap[wx.heap.size]? = some zblk := (by first | exact below_keep hby (heap_new wx zblk) | exact below_keep hby (alloc2 wx zblk zblk).1); obtain ⟨Y1_0, Y1_1, Y1_2, Y1_3, Y1_f, Y1_z⟩ := cells4 hY1)); (try (have hY2 : wy.heap[wx.heap.size + 1]? = some zblk := below_keep hby (alloc2 wx zblk zblk).2; obtain ⟨Y2_0, Y2_1, Y2_2, Y2_3, Y2_f, Y2_z⟩ := cells4 hY2)); (try (have hY3 : wy.heap[W2.heap.size]? = some zblk := (by first | exact below_keep hby hX1 | exact below_keep hby (keep_alloc _ hX1)); obtain ⟨Y3_0, Y3_1, Y3_2, Y3_3, Y3_f, Y3_z⟩ := cells4 hY3)); (try (have hY4 : wy.heap[W2.heap.size + 1]? = some zblk := (by first | exact below_keep hby hX2 | exact below_keep hby (keep_alloc _ hX2)); obtain ⟨Y4_0, Y4_1, Y4_2, Y4_3, Y4_f, Y4_z⟩ := cells4 hY4))))
        all_goals
          go_wp2_with fail
          go_meet
          case rel =>
            refine ⟨_, rfl, by omega, ?_, (by repeat' (first | (with_reducible exact Below.refl _ _) | (with_reducible assumption) | (with_reducible refine below_alloc ?_ _) | (with_reducible refine Below.drew ?_) | (with_reducible refine below_drewN ?_ _) | (with_reducible refine Below.setCell ?_ ?_ _) | go_size))⟩
            repeat' (first | (with_reducible exact heap_new _ _) | (with_reducible exact set4_new _ _ _ _ _ _ _) | (with_reducible exact (alloc2 _ _ _).1) | (with_reducible exact (alloc2 _ _ _).2) | (with_reducible assumption) | (with_reducible refine set4z _ ?_) | (with_reducible refine keep_alloc _ ?_) | (with_reducible refine (set4_other _ _ _ _ ?_).trans ?_) | omega)
      case rest =>
        obtain ⟨q, rfl, hq, k5, hbc⟩ := hcut
        have Ka := Lib.hid (below_keep hbc K1.out); have Kb := Lib.hid k5
        have hne := Lib.hid (show w.heap.size + 1 < q by have := block_lt K1.out; omega)
        have B2 := below_next (w := w) B hbc
        clear hbc k5 B K0 K1 K3 L0 L1 L2 L3 M0 M1 M2 M3 K0_z K3_z cn cd hq
        have B := B2; have K1 := Ka; have K5 := Kb
        clear B2 Ka Kb
        obtain ⟨W3, hW3⟩ : ∃ W3, W3 = wc := ⟨_, rfl⟩
        subst hW3
        obtain ⟨S, hS⟩ : ∃ S, S = (Q + 1) % 2 ^ 256 := ⟨_, rfl⟩
        obtain ⟨o4, ho4⟩ : ∃ o4, o4 = decide (2 ^ 256 ≤ Q + 1) := ⟨_, rfl⟩
        have ca : ∀ g ty w, w.heap[g]? = some (.cells #[.int .u64 (lw Q 0), .int .u64 (lw Q 1), .int .u64 (lw Q 2), .int .u64 (lw Q 3), .int .u64 (lw 1 0), .int .u64 (lw 1 1), .int .u64 (lw 1 2), .int .u64 (lw 1 3)] ty (0, 0)) →
            Calls Try.prog 58 #[.slice (some ⟨g, 0, none⟩) 2 2] w fun e w' => e = .returned (.tuple #[nv S, .bool o4]) ∧ Below w.heap.size w w' := fun g ty w h => by
          have := add2_any Q 1 HQ.out (by omega) g ty w h
          rwa [← hS, ← ho4] at this
        have ca1 := Lib.hid fun W ty => ca _ ty _ (heap_new W _)
        have HRS := Lib.hid (show R = S by rw [HR.out, hS])
        clear ca ho4 hS
        obtain ⟨K5_0, K5_1, K5_2, K5_3, K5_f, K5_z⟩ := cells4 K5.out
        go_wp2_with fail
        go_region_with (first | (go_at_call 55; refine (c1.out _).mono ?_; rintro e wx ⟨rfl, hbx⟩; have hSx := below_next (w := w) (by repeat' (first | (with_reducible exact Below.refl _ _) | (with_reducible assumption) | (with_reducible refine below_alloc ?_ _) | (with_reducible refine Below.drew ?_) | (with_reducible refine below_drewN ?_ _) | (with_reducible refine Below.setCell ?_ ?_ _) | go_size)) hbx; have hzx := hSx.size; have X1 := Lib.hid (below_keep hbx K1.out); have X5 := Lib.hid (below_keep hbx K5.out); obtain ⟨X5_0, X5_1, X5_2, X5_3, X5_f, X5_z⟩ := cells4 X5.out) | (go_at_call 58; refine (ca1.out _ _).mono ?_; rintro e wy ⟨rfl, hby⟩; have hSy := below_next (w := w) (by repeat' (first | (with_reducible exact Below.refl _ _) | (with_reducible assumption) | (with_reducible refine below_alloc ?_ _) | (with_reducible refine Below.drew ?_) | (with_reducible refine below_drewN ?_ _) | (with_reducible refine Below.setCell ?_ ?_ _) | go_size)) hby; have hzy := hSy.size; have Y1 := Lib.hid (below_keep hby (keep_alloc _ X1.out)); have Y5 := Lib.hid (below_keep hby (keep_alloc _ X5.out)); obtain ⟨Y5_0, Y5_1, Y5_2, Y5_3, Y5_f, Y5_z⟩ := cells4 Y5.out; obtain ⟨Y1_0, Y1_1, Y1_2, Y1_3, Y1_f, Y1_z⟩ := cells4 Y1.out))
        all_goals
          have hne1 : w.heap.size + 1 ≠ q := by have := hne.out; omega
          have hne2 : q ≠ w.heap.size + 1 := by have := hne.out; omega
          go_wp2_with fail
          obtain ⟨r0, r1, r2, r3, rf, rz⟩ := cells4 (set4 (.int .u64 (lw S 0)) (.int .u64 (lw S 1)) (.int .u64 (lw S 2)) (.int .u64 (lw S 3)) ((set4_other (.int .u64 (lw S 0)) (.int .u64 (lw S 1)) (.int .u64 (lw S 2)) (.int .u64 (lw S 3)) (show w.heap.size + 1 ≠ q by have := hne.out; omega)).trans Y1.out))
          exact bodyPost_ret (v := nv S) (by simp [results, Try.results62, go_sem, r0, r1, r2, r3]) rfl ⟨by rw [HRS.out], by have := hne.out; exact (by repeat' (first | (with_reducible exact Below.refl _ _) | (with_reducible assumption) | (with_reducible refine below_alloc ?_ _) | (with_reducible refine Below.drew ?_) | (with_reducible refine below_drewN ?_ _) | (with_reducible refine Below.setCell ?_ ?_ _) | go_size))⟩
end Go.Proofs.Ytnbppbnjkmopeaa
