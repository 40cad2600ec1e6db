/- What num.Add answers: the sum of a list of numbers. What bits.Mul64 and num.Mul answer. What num.Div answers: quotient and rest, bit by bit. num.Add of two numbers, num.Of of a natural number. No condition. -/
import Derived.Test.YtnbppbnjkmopeaaNumA
import Derived.Test.YtnbppbnjkmopeaaShPlain
import Derived.Test.YtnbppbnjkmopeaaNumSh
import Derived.Test.YtnbppbnjkmopeaaMem
namespace Go.Proofs.Ytnbppbnjkmopeaa
open Go.RowKit

def NumsAt (w : World) (b o : Nat) (xs : List Nat) : Prop := ∀ i, i < xs.length → ∀ j, j < 4 → w.cell? ⟨b, o + i * 4 + j, none⟩ = some (.int .u64 (lw (xs.getD i 0) j))
theorem cells4 {w : World} {b : Nat} {t : TypeId} {v0 v1 v2 v3 : Value} (h : w.heap[b]? = some (.cells #[v0, v1, v2, v3] t (0, 0))) :
    w.cell? ⟨b, 0, none⟩ = some v0 ∧ w.cell? ⟨b, 1, none⟩ = some v1 ∧ w.cell? ⟨b, 2, none⟩ = some v2 ∧ w.cell? ⟨b, 3, none⟩ = some v3 ∧ (∀ j, w.frozen? ⟨b, j, none⟩ = false) ∧ b < w.heap.size := by
  refine ⟨?_, ?_, ?_, ?_, fun j => frozen_of_row _ _ _ _ _ h, ?_⟩
  · rw [cell_of_row _ _ _ _ _ _ h]; rfl
  · rw [cell_of_row _ _ _ _ _ _ h]; rfl
  · rw [cell_of_row _ _ _ _ _ _ h]; rfl
  · rw [cell_of_row _ _ _ _ _ _ h]; rfl
  · exact (Array.getElem?_eq_some_iff.1 h).1

def addStep (p : Nat × Bool) (x : Nat) : Nat × Bool := ((p.1 + x) % 2 ^ 256, p.2 || decide (2 ^ 256 ≤ p.1 + x))
def addAll (xs : List Nat) : Nat × Bool := xs.foldl addStep (0, false)

theorem addAll_snoc (xs : List Nat) (k : Nat) (h : k < xs.length) : addAll (xs.take (k + 1)) = addStep (addAll (xs.take k)) (xs.getD k 0) := by
  unfold addAll
  rw [List.take_add_one, List.foldl_append]
  simp [List.getD, List.getElem?_eq_getElem h]
theorem set4 {w : World} {b : Nat} {t : TypeId} {x0 x1 x2 x3 : Value} (v0 v1 v2 v3 : Value) (h : w.heap[b]? = some (.cells #[x0, x1, x2, x3] t (0, 0))) :
    ((((w.setCell ⟨b, 0, none⟩ v0).setCell ⟨b, 1, none⟩ v1).setCell ⟨b, 2, none⟩ v2).setCell ⟨b, 3, none⟩ v3).heap[b]? = some (.cells #[v0, v1, v2, v3] t (0, 0)) := by
  have h0 := heap_setCell_same w b 0 _ t v0 h
  have h1 := heap_setCell_same _ b 1 _ t v1 h0
  have h2 := heap_setCell_same _ b 2 _ t v2 h1
  have h3 := heap_setCell_same _ b 3 _ t v3 h2
  simpa using h3
theorem set4_other {w : World} {b k : Nat} (v0 v1 v2 v3 : Value) (hk : k ≠ b) :
    ((((w.setCell ⟨b, 0, none⟩ v0).setCell ⟨b, 1, none⟩ v1).setCell ⟨b, 2, none⟩ v2).setCell ⟨b, 3, none⟩ v3).heap[k]? = w.heap[k]? := by
  rw [heap_setCell_other _ _ _ _ hk, heap_setCell_other _ _ _ _ hk, heap_setCell_other _ _ _ _ hk, heap_setCell_other _ _ _ _ hk]
theorem set4_size (w : World) (b : Nat) (v0 v1 v2 v3 : Value) : ((((w.setCell ⟨b, 0, none⟩ v0).setCell ⟨b, 1, none⟩ v1).setCell ⟨b, 2, none⟩ v2).setCell ⟨b, 3, none⟩ v3).heap.size = w.heap.size := by
  simp [World.setCell]

set_option maxRecDepth 100000 in
set_option maxHeartbeats 1000000 in
theorem add_row (xs : List Nat) (b o cap : Nat) (w : World) (hx : ∀ x ∈ xs, x < 2 ^ 256) (hn : xs.length ≤ 1000000) (hb : b < w.heap.size) (hc : NumsAt w b o xs) :
    Calls Try.prog 58 #[.slice (some ⟨b, o, none⟩) xs.length cap] w fun e w' => e = .returned (.tuple #[nv (addAll xs).1, .bool (addAll xs).2]) ∧ Below w.heap.size w w' := by
  have H := Lib.hid hx; have HC := Lib.hid hc; clear hx hc
  generalize hl : xs.length = n at *
  have HL := Lib.hid hl; clear hl
  have hs := call_add
  have s0 := addc_0
  have s1 := addc_1
  have x0 := lw_0
  have x1 := lw_m
  go_enter Try.func58, Try.ntmps58
  go_wp2
  have hz0 : w.heap.size = w.heap.size := rfl
  go_loopw [5, 12] (fun ov ix wr => ∃ k : Nat, k ≤ n ∧ ix = .int .i64 k ∧ ov = .bool (addAll (xs.take k)).2 ∧ (addAll (xs.take k)).1 < 2 ^ 256 ∧
      wr.heap[w.heap.size]? = some (.cells #[.int .u64 0, .int .u64 0, .int .u64 0, .int .u64 0] 47 (0, 0)) ∧
      wr.heap[w.heap.size + 1]? = some (.cells (nv (addAll (xs.take k)).1).cells 47 (0, 0)) ∧ Below w.heap.size w wr) (fun _ ix _ => n - (intOf ix).toNat)
  case atStart => exact ⟨0, Nat.zero_le _, rfl, rfl, by simp [addAll], heap_alloc2_old w _ _, by rw [show (addAll (xs.take 0)).1 = 0 from rfl, nv_zero]; exact heap_alloc2_new w _ _, (by repeat' (first | (with_reducible exact Below.refl _ _) | (with_reducible assumption) | (with_reducible refine Below.alloc ?_ ?_ _) | (with_reducible refine Below.drew ?_) | (with_reducible refine below_drewN ?_ _) | (with_reducible refine Below.setCell ?_ ?_ _) | go_size))⟩
  case round =>
    obtain ⟨k, hk, rfl, rfl, hS, hr, ho, hb1⟩ := hrel
    have HS := Lib.hid hS
    have HR := Lib.hid hr
    have HO := Lib.hid ho
    clear hS hr ho
    by_cases hlt : k < n
    · obtain ⟨c0, c1, c2, c3, cf, cz⟩ := cells4 HO.out
      generalize hq : (addAll (xs.take k)).1 = S at *
      generalize hq2 : (addAll (xs.take k)).2 = O at *
      have HQ := Lib.hid hq; have HQ2 := Lib.hid hq2
      clear hq hq2
      have d0 : wr.cell? ⟨b, o + k * 4, none⟩ = _ := (hb1.cell (p := ⟨b, o + k * 4, none⟩) hb).trans (HC.out k (by rw [HL.out]; exact hlt) 0 (by omega))
      have d1 := (hb1.cell (p := ⟨b, o + k * 4 + 1, none⟩) hb).trans (HC.out k (by rw [HL.out]; exact hlt) 1 (by omega))
      have d2 := (hb1.cell (p := ⟨b, o + k * 4 + 2, none⟩) hb).trans (HC.out k (by rw [HL.out]; exact hlt) 2 (by omega))
      have d3 := (hb1.cell (p := ⟨b, o + k * 4 + 3, none⟩) hb).trans (HC.out k (by rw [HL.out]; exact hlt) 3 (by omega))
      generalize hxk : xs.getD k 0 = X at *
      have HX := Lib.hid hxk; clear hxk
      go_wp2
      refine wp_loop_rounds 5 ?_
      rw [rounds_succ]; go_wp2
      go_region; go_wp2
      trace "1"
      rw [rounds_succ]; go_wp2
      go_region; go_wp2
      trace "2"
      rw [rounds_succ]; go_wp2
      go_region; go_wp2
      trace "3"
      rw [rounds_succ]; go_wp2
      go_region; go_wp2
      trace "4"
      rw [rounds_succ]; go_wp2
      all_goals
        go_roundw
        case rel =>
          have hxs : k < xs.length := by rw [HL.out]; exact hlt
          have hX : X < 2 ^ 256 := by rw [← HX.out, List.getD_eq_getElem?_getD, List.getElem?_eq_getElem hxs]; exact H.out _ (List.getElem_mem hxs)
          have e := addAll_snoc xs k hxs
          unfold addStep at e
          rw [HQ.out, HQ2.out, HX.out] at e
          obtain ⟨e1, e2⟩ := add_words S X HS.out hX
          refine ⟨k + 1, by omega, by go_num, ?_, ?_, ?_, ?_, (by repeat' (first | (with_reducible exact Below.refl _ _) | (with_reducible assumption) | (with_reducible refine Below.alloc ?_ ?_ _) | (with_reducible refine Below.drew ?_) | (with_reducible refine below_drewN ?_ _) | (with_reducible refine Below.setCell ?_ ?_ _) | go_size))⟩
          · rw [e, ← e2]
            first
              | (have hO : O = true := by assumption
                 rw [hO]; rfl)
              | (have hO : ¬ O = true := by assumption
                 rw [Bool.eq_false_iff.2 hO]; rfl)
          · rw [e]; exact Nat.mod_lt _ (by omega)
          · exact (Below.heap_alloc _ _ _ (by rw [set4_size]; omega)).trans ((set4_other _ _ _ _ (by omega)).trans HR.out)
          · rw [e, e1]; exact (Below.heap_alloc _ _ _ (by rw [set4_size]; exact cz)).trans (set4 _ _ _ _ HO.out)
        case measure => simp [intOf]; omega
    · have hkn : k = n := by omega
      subst hkn
      have et : xs.take k = xs := List.take_of_length_le (by rw [HL.out]; exact Nat.le_refl _)
      have HO' := HO.out
      rw [et] at HO'
      obtain ⟨c0, c1, c2, c3, cf, cz⟩ := cells4 HO'
      obtain ⟨r0, r1, r2, r3, rf, rz⟩ := cells4 HR.out
      rw [et]
      clear et HO'
      go_wp2
      exact bodyPost_ret (v := .tuple #[nv (addAll xs).1, .bool (addAll xs).2]) (by simp [results, Try.results58, go_sem, r0, r1, r2, r3]) rfl ⟨rfl, (by repeat' (first | (with_reducible exact Below.refl _ _) | (with_reducible assumption) | (with_reducible refine Below.alloc ?_ ?_ _) | (with_reducible refine Below.drew ?_) | (with_reducible refine below_drewN ?_ _) | (with_reducible refine Below.setCell ?_ ?_ _) | go_size))⟩
end Go.Proofs.Ytnbppbnjkmopeaa
namespace Go.Proofs.Ytnbppbnjkmopeaa
open Go.RowKit

def mhi (x n : Int) : Int := x * n / 18446744073709551616
def mlo (x n : Int) : Int := x * n % 18446744073709551616
theorem mlo_0 (x n : Int) : 0 ≤ mlo x n := by unfold mlo; omega
theorem mlo_m (x n : Int) : mlo x n < 18446744073709551616 := by unfold mlo; omega
theorem wrap_m (z : Int) : IntKind.u64.wrap z < 18446744073709551616 := by rw [IntKind.wrap_u64]; omega
theorem wrap_0 (z : Int) : 0 ≤ IntKind.u64.wrap z := by rw [IntKind.wrap_u64]; omega
namespace Mul64
theorem maskN (a : Nat) (ha : a < 18446744073709551616) : bits .and .u64 (a : Int) 4294967295 = ((a % 4294967296 : Nat) : Int) := by
  have h := bits_and_u64_nat a 4294967295 ha (by omega)
  have e : a &&& 4294967295 = a % 4294967296 := Nat.and_two_pow_sub_one_eq_mod a 32
  rw [e] at h
  exact h
theorem divN (a : Nat) : (a : Int) / 4294967296 = ((a / 4294967296 : Nat) : Int) := by omega
theorem mulN (a b : Nat) : (a : Int) * (b : Int) = ((a * b : Nat) : Int) := (Int.natCast_mul a b).symm
theorem addN (a b : Nat) : (a : Int) + (b : Int) = ((a + b : Nat) : Int) := (Int.natCast_add a b).symm
theorem wrapN (a : Nat) (ha : a < 18446744073709551616) : IntKind.u64.wrap (a : Int) = (a : Int) := by rw [IntKind.wrap_u64]; omega
theorem wrapM (a : Nat) : IntKind.u64.wrap (a : Int) = ((a % 18446744073709551616 : Nat) : Int) := by rw [IntKind.wrap_u64]; omega
end Mul64

set_option maxHeartbeats 1000000 in
theorem mul64_nat (x y : Nat) (hx : x < 18446744073709551616) (hy : y < 18446744073709551616) (w : World) :
    Calls Try.prog 102 #[.int .u64 x, .int .u64 y] w fun e w' => e = .returned (.tuple #[.int .u64 ((x * y / 18446744073709551616 : Nat) : Int), .int .u64 ((x * y % 18446744073709551616 : Nat) : Int)]) ∧ w = w' := by
  obtain ⟨bd, bt, bw, hhi⟩ := Lib.mul64_hi x y hx hy
  have ba := Lib.half_mul_le (a := x / 4294967296) (b := y / 4294967296) (by omega) (by omega)
  have bb := Lib.half_mul_le (a := x / 4294967296) (b := y % 4294967296) (by omega) (by omega)
  have bc := Lib.half_mul_le (a := x % 4294967296) (b := y / 4294967296) (by omega) (by omega)
  have ba' : x / 4294967296 * (y / 4294967296) < 18446744073709551616 := by omega
  have bb' : x / 4294967296 * (y % 4294967296) < 18446744073709551616 := by omega
  have bc' : x % 4294967296 * (y / 4294967296) < 18446744073709551616 := by omega
  have bh1 : x / 4294967296 * (y / 4294967296) + (x / 4294967296 * (y % 4294967296) + x % 4294967296 * (y % 4294967296) / 4294967296) / 4294967296 < 18446744073709551616 := by omega
  have bh : x / 4294967296 * (y / 4294967296) + (x / 4294967296 * (y % 4294967296) + x % 4294967296 * (y % 4294967296) / 4294967296) / 4294967296 + ((x / 4294967296 * (y % 4294967296) + x % 4294967296 * (y % 4294967296) / 4294967296) % 4294967296 + x % 4294967296 * (y / 4294967296)) / 4294967296 < 18446744073709551616 := by omega
  have H := Lib.hid hhi; clear hhi
  go_enter Try.func102, Try.ntmps102
  go_wp2
  simp only [Mul64.maskN x hx, Mul64.maskN y hy, Mul64.divN, Mul64.mulN, Mul64.addN, Mul64.wrapN _ bd, Mul64.wrapN _ bb', Mul64.wrapN _ bt, Mul64.maskN _ bt, Mul64.wrapN _ bc', Mul64.wrapN _ bw, Mul64.wrapN _ ba', Mul64.wrapN _ bh1, Mul64.wrapN _ bh, Mul64.wrapM (x * y)]
  rw [H.out]
  go_ret2
  exact ⟨rfl, rfl⟩

theorem mul64_any (x y : Int) (w : World) (hx0 : 0 ≤ x) (hx : x < 18446744073709551616) (hy0 : 0 ≤ y) (hy : y < 18446744073709551616) :
    Calls Try.prog 102 #[.int .u64 x, .int .u64 y] w fun e w' => e = .returned (.tuple #[.int .u64 (mhi x y), .int .u64 (mlo x y)]) ∧ w = w' := by
  obtain ⟨X, rfl⟩ := Int.eq_ofNat_of_zero_le hx0
  obtain ⟨Y, rfl⟩ := Int.eq_ofNat_of_zero_le hy0
  have e1 : mhi X Y = ((X * Y / 18446744073709551616 : Nat) : Int) := by unfold mhi; rw [← Int.natCast_mul]; omega
  have e2 : mlo X Y = ((X * Y % 18446744073709551616 : Nat) : Int) := by unfold mlo; rw [← Int.natCast_mul]; omega
  rw [e1, e2]
  exact mul64_nat X Y (by omega) (by omega) w

/-- the carry behind a word -/
def mc (x n c : Int) : Int := IntKind.u64.wrap (mhi x n + addc (mlo x n) c 0)
theorem mc_0 (x n c : Int) : 0 ≤ mc x n c := wrap_0 _
theorem mc_m (x n c : Int) : mc x n c < 18446744073709551616 := wrap_m _
theorem mc_eq (x n c : Int) (hx0 : 0 ≤ x) (hx : x < 18446744073709551616) (hn0 : 0 ≤ n) (hn : n < 18446744073709551616) (hc0 : 0 ≤ c) (hc : c < 18446744073709551616) :
    mc x n c * 18446744073709551616 + addw (mlo x n) c 0 = x * n + c ∧ mc x n c < 18446744073709551616 ∧ 0 ≤ addw (mlo x n) c 0 ∧ addw (mlo x n) c 0 < 18446744073709551616 := by
  have hb : x * n ≤ 18446744073709551615 * 18446744073709551615 := Int.mul_le_mul (by omega) (by omega) hn0 (by omega)
  have h0 : 0 ≤ x * n := Int.mul_nonneg hx0 hn0
  unfold mc addc addw mhi mlo
  rw [IntKind.wrap_u64]
  generalize x * n = p at *
  split <;> omega

set_option maxRecDepth 100000 in
set_option maxHeartbeats 1000000 in
theorem mul_walk (a : Nat) (n : Int) (hn0 : 0 ≤ n) (hn : n < 18446744073709551616) (w : World) :
    Calls Try.prog 60 #[nv a, .int .u64 n] w fun e w' =>
      e = .returned (.tuple #[.agg #[.int .u64 (addw (mlo (lw a 0) n) 0 0), .int .u64 (addw (mlo (lw a 1) n) (mc (lw a 0) n 0) 0), .int .u64 (addw (mlo (lw a 2) n) (mc (lw a 1) n (mc (lw a 0) n 0)) 0), .int .u64 (addw (mlo (lw a 3) n) (mc (lw a 2) n (mc (lw a 1) n (mc (lw a 0) n 0))) 0)],
        .bool (mc (lw a 3) n (mc (lw a 2) n (mc (lw a 1) n (mc (lw a 0) n 0))) != 0)]) ∧ Below w.heap.size w w' := by
  have hs := call_add
  have m0 := mlo_0
  have m1 := mc_0
  have m2 := mlo_m
  have m3 := mc_m
  have x0 := lw_0
  have x1 := lw_m
  have mf : ∀ x c, IntKind.u64.wrap (mhi x n + addc (mlo x n) c 0) = mc x n c := fun _ _ => rfl
  have i0 : ∀ w, (Instr.index 47 (nv a) (.int .i64 0)).run Try.prog w = .ok (.int .u64 (lw a 0)) w := fun _ => by kernel_rfl
  have i1 : ∀ w, (Instr.index 47 (nv a) (.int .i64 1)).run Try.prog w = .ok (.int .u64 (lw a 1)) w := fun _ => by kernel_rfl
  have i2 : ∀ w, (Instr.index 47 (nv a) (.int .i64 2)).run Try.prog w = .ok (.int .u64 (lw a 2)) w := fun _ => by kernel_rfl
  have i3 : ∀ w, (Instr.index 47 (nv a) (.int .i64 3)).run Try.prog w = .ok (.int .u64 (lw a 3)) w := fun _ => by kernel_rfl
  go_enter Try.func60, Try.ntmps60
  go_wp2
  refine wp_loop_rounds 5 ?_
  rw [rounds_succ]; go_wp2_with (go_at_call 102; refine (mul64_any _ _ _ (x0 _ _) (x1 _ _) hn0 hn).mono ?_; rintro e w' ⟨rfl, rfl⟩)
  trace "1"
  rw [rounds_succ]; go_wp2_with (go_at_call 102; refine (mul64_any _ _ _ (x0 _ _) (x1 _ _) hn0 hn).mono ?_; rintro e w' ⟨rfl, rfl⟩)
  trace "2"
  rw [rounds_succ]; go_wp2_with (go_at_call 102; refine (mul64_any _ _ _ (x0 _ _) (x1 _ _) hn0 hn).mono ?_; rintro e w' ⟨rfl, rfl⟩)
  trace "3"
  rw [rounds_succ]; go_wp2_with (go_at_call 102; refine (mul64_any _ _ _ (x0 _ _) (x1 _ _) hn0 hn).mono ?_; rintro e w' ⟨rfl, rfl⟩)
  trace "4"
  rw [rounds_succ]; go_wp2_with fail
  exact bodyPost_ret (v := .tuple #[.agg #[.int .u64 (addw (mlo (lw a 0) n) 0 0), .int .u64 (addw (mlo (lw a 1) n) (mc (lw a 0) n 0) 0), .int .u64 (addw (mlo (lw a 2) n) (mc (lw a 1) n (mc (lw a 0) n 0)) 0), .int .u64 (addw (mlo (lw a 3) n) (mc (lw a 2) n (mc (lw a 1) n (mc (lw a 0) n 0))) 0)],
        .bool (mc (lw a 3) n (mc (lw a 2) n (mc (lw a 1) n (mc (lw a 0) n 0))) != 0)]) (by simp [results, Try.results60, go_sem]) rfl ⟨rfl, (by repeat' (first | (with_reducible exact Below.refl _ _) | (with_reducible assumption) | (with_reducible refine Below.alloc ?_ ?_ _) | (with_reducible refine Below.drew ?_) | (with_reducible refine below_drewN ?_ _) | (with_reducible refine Below.setCell ?_ ?_ _) | go_size))⟩

theorem mul_any (a : Nat) (ha : a < 2 ^ 256) (n : Int) (hn0 : 0 ≤ n) (hn : n < 18446744073709551616) (w : World) :
    Calls Try.prog 60 #[nv a, .int .u64 n] w fun e w' =>
      e = .returned (.tuple #[nv (a * n.toNat % 2 ^ 256), .bool (decide (2 ^ 256 ≤ a * n.toNat))]) ∧ Below w.heap.size w w' := by
  have h := mul_walk a n hn0 hn w
  obtain ⟨e0, c0, p0, q0⟩ := mc_eq (lw a 0) n 0 (lw_0 a 0) (lw_m a 0) hn0 hn (by omega) (by omega)
  have z0 := mc_0 (lw a 0) n 0
  generalize mc (lw a 0) n 0 = k0 at *
  obtain ⟨e1, c1, p1, q1⟩ := mc_eq (lw a 1) n k0 (lw_0 a 1) (lw_m a 1) hn0 hn z0 c0
  have z1 := mc_0 (lw a 1) n k0
  generalize mc (lw a 1) n k0 = k1 at *
  obtain ⟨e2, c2, p2, q2⟩ := mc_eq (lw a 2) n k1 (lw_0 a 2) (lw_m a 2) hn0 hn z1 c1
  have z2 := mc_0 (lw a 2) n k1
  generalize mc (lw a 2) n k1 = k2 at *
  obtain ⟨e3, c3, p3, q3⟩ := mc_eq (lw a 3) n k2 (lw_0 a 3) (lw_m a 3) hn0 hn z2 c2
  have z3 := mc_0 (lw a 3) n k2
  generalize mc (lw a 3) n k2 = k3 at *
  have ea := nOf_lw ha
  have x0 := lw_0 a 0; have x1 := lw_0 a 1; have x2 := lw_0 a 2; have x3 := lw_0 a 3
  generalize hr0 : addw (mlo (lw a 0) n) 0 0 = r0 at *; generalize hr1 : addw (mlo (lw a 1) n) k0 0 = r1 at *; generalize hr2 : addw (mlo (lw a 2) n) k1 0 = r2 at *; generalize hr3 : addw (mlo (lw a 3) n) k2 0 = r3 at *
  have A : (a : Int) = lw a 0 + 18446744073709551616 * lw a 1 + 340282366920938463463374607431768211456 * lw a 2 + 6277101735386680763835789423207666416102355444464034512896 * lw a 3 := by unfold nOf at ea; omega
  obtain ⟨N, rfl⟩ := Int.eq_ofNat_of_zero_le hn0
  have T : ((a * N : Nat) : Int) = r0 + 18446744073709551616 * r1 + 340282366920938463463374607431768211456 * r2 + 6277101735386680763835789423207666416102355444464034512896 * r3 + 115792089237316195423570985008687907853269984665640564039457584007913129639936 * k3 := by
    rw [Int.natCast_mul, A]
    have : (lw a 0 + 18446744073709551616 * lw a 1 + 340282366920938463463374607431768211456 * lw a 2 + 6277101735386680763835789423207666416102355444464034512896 * lw a 3) * (N : Int) = lw a 0 * N + 18446744073709551616 * (lw a 1 * N) + 340282366920938463463374607431768211456 * (lw a 2 * N) + 6277101735386680763835789423207666416102355444464034512896 * (lw a 3 * N) := by grind
    rw [this]
    generalize lw a 0 * (N : Int) = m0 at *; generalize lw a 1 * (N : Int) = m1 at *; generalize lw a 2 * (N : Int) = m2 at *; generalize lw a 3 * (N : Int) = m3 at *
    clear A ea x0 x1 x2 x3 this p0 q0 p1 q1 p2 q2 p3 q3 hr0 hr1 hr2 hr3 h
    omega
  rw [Int.toNat_natCast]
  generalize a * N = M at *
  have E1 : M % 2 ^ 256 = nOf r0 r1 r2 r3 := by
    clear A ea x0 x1 x2 x3 e0 e1 e2 e3 hr0 hr1 hr2 hr3 h
    unfold nOf; omega
  have E2 : (k3 != 0) = decide (2 ^ 256 ≤ M) := by
    clear A ea x0 x1 x2 x3 e0 e1 e2 e3 hr0 hr1 hr2 hr3 h
    by_cases hk : k3 = 0
    · have : ¬ 2 ^ 256 ≤ M := by omega
      simp [hk, this]
    · have : 2 ^ 256 ≤ M := by omega
      simp [hk, this]
  rw [E1, nv_mk p0 p1 p2 p3 q0 q1 q2 q3, ← E2]
  exact h
end Go.Proofs.Ytnbppbnjkmopeaa
namespace Go.Proofs.Ytnbppbnjkmopeaa
open Go.RowKit

abbrev nblk (n : Nat) : Obj := .cells #[.int .u64 (lw n 0), .int .u64 (lw n 1), .int .u64 (lw n 2), .int .u64 (lw n 3)] 47 (0, 0)
abbrev zblk : Obj := .cells #[.int .u64 0, .int .u64 0, .int .u64 0, .int .u64 0] 47 (0, 0)

set_option maxRecDepth 100000 in
set_option maxHeartbeats 1000000 in
theorem div0 (a : Nat) (w : World) :
    Calls Try.prog 61 #[nv a, nv 0] w fun e w' => e = .returned (.tuple #[nv 0, nv 0, .int .i64 1]) ∧ Below w.heap.size w w' := by
  rw [nv_zero]
  go_enter Try.func61, Try.ntmps61
  go_wp2_with fail
  refine (zero_any 0 (by omega) _).mono ?_
  rintro e w1 ⟨rfl, hb1⟩
  obtain ⟨hc, hf⟩ := bcell hb1
  have hz : w.heap.size + 3 < w1.heap.size := by have := hb1.size; simp at this; omega
  have hB : Below w.heap.size w w1 := Below.trans (b := ((((w.alloc (nblk a)).alloc zblk).alloc zblk).alloc zblk)) (by repeat' (first | (with_reducible exact Below.refl _ _) | (with_reducible assumption) | (with_reducible refine Below.alloc ?_ ?_ _) | (with_reducible refine Below.drew ?_) | (with_reducible refine below_drewN ?_ _) | (with_reducible refine Below.setCell ?_ ?_ _) | go_size)) (hb1.mono (by simp; omega))
  clear hb1
  go_wp2
  exact bodyPost_ret (v := .tuple #[.agg #[.int .u64 0, .int .u64 0, .int .u64 0, .int .u64 0], .agg #[.int .u64 0, .int .u64 0, .int .u64 0, .int .u64 0], .int .i64 1])
    (by simp [results, Try.results61, go_sem, hc]) rfl ⟨rfl, (by repeat' (first | (with_reducible exact Below.refl _ _) | (with_reducible assumption) | (with_reducible refine Below.alloc ?_ ?_ _) | (with_reducible refine Below.drew ?_) | (with_reducible refine below_drewN ?_ _) | (with_reducible refine Below.setCell ?_ ?_ _) | go_size))⟩

/-- the memory while it divides: what is left, the divisor, two results, the quotient -/
structure DivW (s t : Nat) (w0 W : World) (b r q : Nat) : Prop where
  hr : W.heap[s]? = some (nblk r)
  hd : W.heap[s + 1]? = some (nblk b)
  h2 : W.heap[s + 2]? = some zblk
  h3 : W.heap[s + 3]? = some zblk
  hq : W.heap[t]? = some (nblk q)
  below : Below s w0 W

theorem DivW.next {s t : Nat} {w0 W W' : World} {b r q : Nat} (h : DivW s t w0 W b r q) (hb : Below W.heap.size W W') : DivW s t w0 W' b r q :=
  ⟨below_keep hb h.hr, below_keep hb h.hd, below_keep hb h.h2, below_keep hb h.h3, below_keep hb h.hq, h.below.trans (hb.mono (by have := block_lt h.hr; omega))⟩
theorem DivW.alloc {s t : Nat} {w0 W : World} {b r q : Nat} (h : DivW s t w0 W b r q) (o : Obj) : DivW s t w0 (W.alloc o) b r q :=
  h.next ((Below.refl _ _).alloc (Nat.le_refl _) _)

theorem DivW.store {s t : Nat} {w0 W : World} {b r q : Nat} (h : DivW s t w0 W b r q) (hst : s + 3 < t) (r' q' c : Nat) (v : Int) (hc : c < 4)
    (hq : ∀ i, i < 4 → lw q' i = if i = c then v else lw q i) :
    DivW s t w0 (((((W.setCell ⟨s, 0, none⟩ (.int .u64 (lw r' 0))).setCell ⟨s, 1, none⟩ (.int .u64 (lw r' 1))).setCell ⟨s, 2, none⟩ (.int .u64 (lw r' 2))).setCell ⟨s, 3, none⟩ (.int .u64 (lw r' 3))).setCell ⟨t, c, none⟩ (.int .u64 v)) b r' q' := by
  have o : ∀ k, k ≠ s → k ≠ t → (((((W.setCell ⟨s, 0, none⟩ (.int .u64 (lw r' 0))).setCell ⟨s, 1, none⟩ (.int .u64 (lw r' 1))).setCell ⟨s, 2, none⟩ (.int .u64 (lw r' 2))).setCell ⟨s, 3, none⟩ (.int .u64 (lw r' 3))).setCell ⟨t, c, none⟩ (.int .u64 v)).heap[k]? = W.heap[k]? := fun k h1 h2 => by
    rw [heap_setCell_other _ _ _ _ h2, set4_other _ _ _ _ h1]
  refine ⟨?_, (o _ (by omega) (by omega)).trans h.hd, (o _ (by omega) (by omega)).trans h.h2, (o _ (by omega) (by omega)).trans h.h3, ?_, ?_⟩
  · rw [heap_setCell_other _ _ _ _ (by show s ≠ t; omega)]
    exact set4 _ _ _ _ h.hr
  · have hq' := heap_setCell_same _ t c _ _ (.int .u64 v) ((set4_other (w := W) (b := s) (k := t) (.int .u64 (lw r' 0)) (.int .u64 (lw r' 1)) (.int .u64 (lw r' 2)) (.int .u64 (lw r' 3)) (by omega)).trans h.hq)
    rw [hq', nblk, hq 0 (by omega), hq 1 (by omega), hq 2 (by omega), hq 3 (by omega)]
    have hc4 : c = 0 ∨ c = 1 ∨ c = 2 ∨ c = 3 := by omega
    rcases hc4 with rfl | rfl | rfl | rfl <;> rfl
  · have := h.below
    exact ((((h.below.setCell (Nat.le_refl _) _).setCell (Nat.le_refl _) _).setCell (Nat.le_refl _) _).setCell (Nat.le_refl _) _).setCell (by show s ≤ t; omega) _

theorem pow_word (k i : Nat) : 2 ^ k / 2 ^ (64 * i) % 2 ^ 64 = if i = k / 64 then 2 ^ (k % 64) else 0 := by
  by_cases h : i = k / 64
  · rw [if_pos h, Nat.pow_div (by omega) (by omega), show k - 64 * i = k % 64 by omega]
    exact Nat.mod_eq_of_lt (Nat.pow_lt_pow_right (by omega) (by omega))
  · rw [if_neg h]
    by_cases h2 : i < k / 64
    · rw [Nat.pow_div (by omega) (by omega), show k - 64 * i = 64 + (k - 64 * i - 64) by omega, Nat.pow_add]
      exact Nat.mul_mod_right _ _
    · rw [Nat.div_eq_of_lt (Nat.pow_lt_pow_right (by omega) (by omega))]

/-- one more bit of the quotient -/
theorem quo_bit (q : Nat) (j : Int) (h0 : 0 ≤ j) (h1 : j ≤ 255) (hd : 2 ^ (j.toNat + 1) ∣ q) (i : Nat) :
    lw (q + 2 ^ j.toNat) i = if (i : Int) = j / 64 then bits .or .u64 (lw q i) (IntKind.u64.wrap (2 ^ (j % 64).toNat)) else lw q i := by
  obtain ⟨k, rfl⟩ := Int.eq_ofNat_of_zero_le h0
  simp only [Int.toNat_natCast] at hd ⊢
  have hk : ((k : Int) % 64).toNat = k % 64 := by omega
  rw [hk]
  have e : q + 2 ^ k = q ||| 2 ^ k := by
    refine (nat_join (k + 1) q (2 ^ k) ?_ (Nat.pow_lt_pow_right (by omega) (by omega))).symm
    exact Nat.mod_eq_zero_of_dvd hd
  have e2 : (q ||| 2 ^ k) / 2 ^ (64 * i) % 2 ^ 64 = q / 2 ^ (64 * i) % 2 ^ 64 ||| 2 ^ k / 2 ^ (64 * i) % 2 ^ 64 := by
    rw [← Nat.shiftRight_eq_div_pow, Nat.shiftRight_or_distrib, Nat.or_mod_two_pow, Nat.shiftRight_eq_div_pow, Nat.shiftRight_eq_div_pow]
  have hlw : lw (q + 2 ^ k) i = ((q / 2 ^ (64 * i) % 2 ^ 64 ||| 2 ^ k / 2 ^ (64 * i) % 2 ^ 64 : Nat) : Int) := by
    rw [e, ← e2]; rfl
  rw [hlw, pow_word]
  by_cases h : i = k / 64
  · rw [if_pos h, if_pos (by omega)]
    have b0 : 2 ^ (k % 64) < 2 ^ 64 := Nat.pow_lt_pow_right (by omega) (by omega)
    have b2 : 2 ^ (k % 64) < 18446744073709551616 := b0
    have hw : IntKind.u64.wrap (2 ^ (k % 64)) = ((2 ^ (k % 64) : Nat) : Int) := by
      have e3 := wrap_mul 1 (k % 64)
      rw [Int.natCast_one, Int.one_mul, Nat.one_mul, Nat.mod_eq_of_lt b2] at e3
      exact e3
    have b1 : q / 2 ^ (64 * i) % 2 ^ 64 < 18446744073709551616 := Nat.mod_lt _ (by omega)
    rw [hw, show lw q i = ((q / 2 ^ (64 * i) % 2 ^ 64 : Nat) : Int) from rfl, u64_or_nat _ _ b1 b2]
  · rw [if_neg h, if_neg (by omega), Nat.or_zero]; rfl

/-- what holds before the round for bit i -/
def DivI (a b : Nat) (L i : Int) (r q : Nat) : Prop :=
  a = q * b + r ∧ (i < 0 → r < b) ∧ (0 ≤ i → i ≤ L ∧ 2 ^ (i.toNat + 1) ∣ q ∧ r < b * 2 ^ (i.toNat + 1))

theorem div_start (a b : Nat) (hb : b ≠ 0) : DivI a b ((bitLen a : Int) - bitLen b) ((bitLen a : Int) - bitLen b) a 0 := by
  obtain ⟨a1, a2⟩ := bitLen_spec a
  obtain ⟨b1, b2⟩ := bitLen_spec b
  have b3 := b2 hb
  have hb4 : 1 ≤ bitLen b := by unfold bitLen; rw [if_neg hb]; omega
  refine ⟨by omega, fun h => ?_, fun h => ⟨by omega, Nat.dvd_zero _, ?_⟩⟩
  · have : bitLen a ≤ bitLen b - 1 := by omega
    exact Nat.lt_of_lt_of_le a1 (Nat.le_trans (Nat.pow_le_pow_right (by omega) this) b3)
  · have e : ((bitLen a : Int) - bitLen b).toNat + 1 = bitLen a - (bitLen b - 1) := by omega
    rw [e]
    have : 2 ^ bitLen a = 2 ^ (bitLen b - 1) * 2 ^ (bitLen a - (bitLen b - 1)) := by rw [← Nat.pow_add]; congr 1; omega
    rw [this] at a1
    exact Nat.lt_of_lt_of_le a1 (Nat.mul_le_mul_right _ b3)

theorem div_shift (a b : Nat) (ha : a < 2 ^ 256) (hb : b ≠ 0) (i : Int) (h0 : 0 ≤ i) (hi : i ≤ (bitLen a : Int) - bitLen b) : i ≤ 255 ∧ b * 2 ^ i.toNat < 2 ^ 256 ∧ shlN b i = b * 2 ^ i.toNat := by
  obtain ⟨b1, b2⟩ := bitLen_spec b
  have hb4 : 1 ≤ bitLen b := by unfold bitLen; rw [if_neg hb]; omega
  have ha4 : bitLen a ≤ 256 := by
    unfold bitLen
    split
    · omega
    · rename_i hne
      exact (Nat.log2_lt hne).2 ha
  have h1 : b * 2 ^ i.toNat < 2 ^ 256 := by
    calc b * 2 ^ i.toNat < 2 ^ bitLen b * 2 ^ i.toNat := Nat.mul_lt_mul_of_pos_right b1 (Nat.two_pow_pos _)
      _ = 2 ^ (bitLen b + i.toNat) := by rw [Nat.pow_add]
      _ ≤ 2 ^ 256 := Nat.pow_le_pow_right (by omega) (by omega)
  refine ⟨by omega, h1, ?_⟩
  unfold shlN
  rw [if_neg (by omega), Nat.mod_eq_of_lt h1]

theorem div_yes {a b : Nat} {L i : Int} {r q : Nat} (h0 : 0 ≤ i) (h : DivI a b L i r q) (hle : b * 2 ^ i.toNat ≤ r) : DivI a b L (i - 1) (r - b * 2 ^ i.toNat) (q + 2 ^ i.toNat) := by
  obtain ⟨e, _, h2⟩ := h
  obtain ⟨h3, ⟨c, rfl⟩, h5⟩ := h2 h0
  have ep : 2 ^ (i.toNat + 1) = 2 * 2 ^ i.toNat := by rw [Nat.pow_succ]; omega
  have h6 : r - b * 2 ^ i.toNat < b * 2 ^ i.toNat := by rw [ep, Nat.mul_left_comm] at h5; omega
  refine ⟨?_, fun h => ?_, fun h => ⟨by omega, ?_, ?_⟩⟩
  · rw [Nat.add_mul, Nat.mul_comm (2 ^ i.toNat) b]; omega
  · have : i.toNat = 0 := by omega
    rw [this] at h6 ⊢; simpa using h6
  · have : (i - 1).toNat + 1 = i.toNat := by omega
    rw [this, ep]
    exact ⟨2 * c + 1, by grind⟩
  · have : (i - 1).toNat + 1 = i.toNat := by omega
    rw [this]; exact h6

theorem div_no {a b : Nat} {L i : Int} {r q : Nat} (h0 : 0 ≤ i) (h : DivI a b L i r q) (hlt : r < b * 2 ^ i.toNat) : DivI a b L (i - 1) r q := by
  obtain ⟨e, _, h2⟩ := h
  obtain ⟨h3, ⟨c, rfl⟩, h5⟩ := h2 h0
  have ep : 2 ^ (i.toNat + 1) = 2 * 2 ^ i.toNat := by rw [Nat.pow_succ]; omega
  refine ⟨e, fun h => ?_, fun h => ⟨by omega, ?_, ?_⟩⟩
  · have : i.toNat = 0 := by omega
    rw [this] at hlt; simpa using hlt
  · have : (i - 1).toNat + 1 = i.toNat := by omega
    rw [this, ep]
    exact ⟨2 * c, by grind⟩
  · have : (i - 1).toNat + 1 = i.toNat := by omega
    rw [this]; exact hlt

theorem bitLen_num (a : Nat) (ha : a < 2 ^ 256) : (bitLen a : Int) ≤ 256 := by
  unfold bitLen
  split
  · omega
  · rename_i hne
    have := (Nat.log2_lt hne).2 ha
    omega

theorem div_bound {a b : Nat} {L i : Int} {r q : Nat} (hb : b ≠ 0) (h : DivI a b L i r q) : q ≤ a ∧ r ≤ a := by
  have e := h.1
  have : q ≤ q * b := Nat.le_mul_of_pos_right _ (by omega)
  omega

set_option maxRecDepth 100000 in
set_option maxHeartbeats 2000000 in
theorem div_walk (a b : Nat) (ha : a < 2 ^ 256) (hb : b < 2 ^ 256) (hne : b ≠ 0) (w : World) :
    Calls Try.prog 61 #[nv a, nv b] w fun e w' => e = .returned (.tuple #[nv (a / b), nv (a % b), .int .i64 0]) ∧ Below w.heap.size w w' := by
  have HA := Lib.hid ha; have HB := Lib.hid hb
  have hd : decide (b = 0) = false := by simpa using hne
  have HS := Lib.hid (div_start a b hne)
  have HSh := Lib.hid (div_shift a b ha hne)
  have la := bitLen_num a ha
  have lb := bitLen_num b hb
  have HNe := Lib.hid hne
  clear ha hb hne
  go_enter Try.func61, Try.ntmps61
  go_wp2_with fail
  refine (zero_any b HB.out _).mono ?_
  rintro e w1 ⟨rfl, hb1⟩
  obtain ⟨hc, hf⟩ := bcell hb1
  have hz : w.heap.size + 3 < w1.heap.size := by have := hb1.size; simp at this; omega
  have hB : Below w.heap.size w w1 := Below.trans (b := ((((w.alloc (nblk a)).alloc (nblk b)).alloc zblk).alloc zblk)) (by repeat' (first | (with_reducible exact Below.refl _ _) | (with_reducible assumption) | (with_reducible refine Below.alloc ?_ ?_ _) | (with_reducible refine Below.drew ?_) | (with_reducible refine below_drewN ?_ _) | (with_reducible refine Below.setCell ?_ ?_ _) | go_size)) (hb1.mono (by simp; omega))
  rw [hd]
  go_wp2_with fail
  have A4 := alloc4 w (nblk a) (nblk b) zblk zblk
  refine wp_abs (fun W => DivW w.heap.size w1.heap.size w W b a 0 ∧ w1.heap.size < W.heap.size) ⟨⟨?_, ?_, ?_, ?_, ?_, (by repeat' (first | (with_reducible exact Below.refl _ _) | (with_reducible assumption) | (with_reducible refine Below.alloc ?_ ?_ _) | (with_reducible refine Below.drew ?_) | (with_reducible refine below_drewN ?_ _) | (with_reducible refine Below.setCell ?_ ?_ _) | go_size))⟩, by simp⟩ ?_
  · exact (Below.heap_alloc w1 _ _ (by omega)).trans (below_keep hb1 A4.1)
  · exact (Below.heap_alloc w1 _ _ (by omega)).trans (below_keep hb1 A4.2.1)
  · exact (Below.heap_alloc w1 _ _ (by omega)).trans (below_keep hb1 A4.2.2.1)
  · exact (Below.heap_alloc w1 _ _ (by omega)).trans (below_keep hb1 A4.2.2.2)
  · exact heap_new w1 _
  rintro W ⟨dW, hW⟩
  clear hc hf hB hb1 A4
  have hst : w.heap.size + 3 < w1.heap.size := hz
  generalize hs : w.heap.size = s at *
  generalize ht : w1.heap.size = t at *
  have Hs := Lib.hid hs; have Ht := Lib.hid ht
  clear hs ht
  obtain ⟨r0, r1, r2, r3, rf, rz⟩ := cells4 dW.hr
  obtain ⟨d0, d1, d2, d3, df, dz⟩ := cells4 dW.hd
  have R0 := cell_regrown r0; have R1 := cell_regrown r1; have R2 := cell_regrown r2; have R3 := cell_regrown r3
  have D0 := cell_regrown d0; have D1 := cell_regrown d1; have D2 := cell_regrown d2; have D3 := cell_regrown d3
  refine wp_region_quiet_below (by kernel_rfl) (by kernel_rfl) ?_
  repeat (go_big_quiet_step ((go_at_call 54; exact Calls.regrown_of (len_any _ (by first | exact HA.out | exact HB.out) _))))
  refine wpQuiet_nil ?_
  intro W2 hW2
  have hb2 := below_of_regrown hW2
  clear hW2
  have dW2 : DivW s t w W2 b a 0 := ⟨below_keep hb2 dW.hr, below_keep hb2 dW.hd, below_keep hb2 dW.h2, below_keep hb2 dW.h3, below_keep hb2 dW.hq, dW.below.trans (hb2.mono (by omega))⟩
  have HW := Lib.hid dW2
  clear dW2 dW hb2 r0 r1 r2 r3 rf d0 d1 d2 d3 df R0 R1 R2 R3 D0 D1 D2 D3 rz dz hW W
  go_wp2_with fail
  go_loopw [8] (fun ix wr => ∃ (j : Int) (r q : Nat), ix = .int .i64 j ∧ j ≤ 256 ∧ -257 ≤ j ∧ DivI a b ((bitLen a : Int) - bitLen b) j r q ∧ DivW s t w wr b r q) (fun ix _ => (intOf ix + 1).toNat)
  case atStart => exact ⟨_, a, 0, rfl, by omega, by omega, HS.out, HW.out⟩
  case round =>
    obtain ⟨j, r, q, rfl, hj1, hj2, hI, hD⟩ := hrel
    have HI := Lib.hid hI
    have HD := Lib.hid hD
    obtain ⟨r0, r1, r2, r3, rf, rz⟩ := cells4 hD.hr
    obtain ⟨d0, d1, d2, d3, df, dz⟩ := cells4 hD.hd
    obtain ⟨q0, q1, q2, q3, qf, qz⟩ := cells4 hD.hq
    obtain ⟨u0, u1, u2, u3, uf, uz⟩ := cells4 hD.h2
    obtain ⟨v0, v1, v2, v3, vf, vz⟩ := cells4 hD.h3
    clear hI hD
    by_cases h0 : 0 ≤ j
    · obtain ⟨i1, i2, i3⟩ := HSh.out j h0 (HI.out.2.2 h0).1
      have hr : r < 2 ^ 256 := Nat.lt_of_le_of_lt (div_bound HNe.out HI.out).2 HA.out
      have Hi2 := Lib.hid i2; have Hi3 := Lib.hid i3; have Hr := Lib.hid hr
      clear i2 i3 hr
      go_wp2_with fail
      refine (shl_any b HB.out j _).mono ?_
      rintro e w2 ⟨rfl, hb2⟩
      rw [Hi3.out]
      generalize hX : b * 2 ^ j.toNat = X at *
      have HX := Lib.hid hX; clear hX
      have HD2 := Lib.hid (HD.out.next hb2)
      clear hb2 HD r0 r1 r2 r3 rf rz d0 d1 d2 d3 df dz q0 q1 q2 q3 qf qz u0 u1 u2 u3 uf uz v0 v1 v2 v3 vf vz
      obtain ⟨r0, r1, r2, r3, rf, rz⟩ := cells4 HD2.out.hr
      go_wp2_with fail
      refine (cmp_any X r Hi2.out Hr.out _).mono ?_
      rintro e w3 ⟨rfl, hb3⟩
      have HD3 := Lib.hid ((HD2.out.alloc _).next hb3)
      have HXb := Lib.hid (below_keep hb3 (heap_new w2 _))
      generalize w2.heap.size = x at *
      clear hb3 HD2 r0 r1 r2 r3 rf rz
      obtain ⟨r0, r1, r2, r3, rf, rz⟩ := cells4 HD3.out.hr
      obtain ⟨x0, x1, x2, x3, xf, xz⟩ := cells4 HXb.out
      by_cases hle : X ≤ r
      · have hcm : cmpn X r ≤ 0 := by unfold cmpn; split <;> (try split) <;> omega
        go_wp2_with fail
        refine (sub_any r X Hr.out Hi2.out _).mono ?_
        rintro e w4 ⟨rfl, hb4⟩
        rw [show (r + 2 ^ 256 - X) % 2 ^ 256 = r - X from by have := Hr.out; omega]
        have HD4 := Lib.hid (HD3.out.next hb4)
        clear hb4 HD3 r0 r1 r2 r3 rf rz x0 x1 x2 x3 xf xz HXb
        obtain ⟨r0, r1, r2, r3, rf, rz⟩ := cells4 HD4.out.hr
        obtain ⟨q0, q1, q2, q3, qf, qz⟩ := cells4 HD4.out.hq
        have hst' : ¬ t = s := by omega
        have hq4 : j / 64 = 0 ∨ j / 64 = 1 ∨ j / 64 = 2 ∨ j / 64 = 3 := by omega
        rcases hq4 with hq4 | hq4 | hq4 | hq4
        · go_wp2_with fail
          go_roundw
          case rel =>
            refine ⟨j - 1, r - X, q + 2 ^ j.toNat, rfl, by omega, by omega, ?_, ?_⟩
            · have := div_yes h0 HI.out (by rw [HX.out]; exact hle)
              rwa [HX.out] at this
            · refine HD4.out.store hst _ _ 0 _ (by omega) (fun i _ => ?_)
              rw [quo_bit q j h0 i1 (HI.out.2.2 h0).2.1 i, hq4]
              by_cases hic : i = 0
              · subst hic; rfl
              · rw [if_neg (by omega), if_neg hic]
          case measure => simp [intOf]; omega
        · go_wp2_with fail
          go_roundw
          case rel =>
            refine ⟨j - 1, r - X, q + 2 ^ j.toNat, rfl, by omega, by omega, ?_, ?_⟩
            · have := div_yes h0 HI.out (by rw [HX.out]; exact hle)
              rwa [HX.out] at this
            · refine HD4.out.store hst _ _ 1 _ (by omega) (fun i _ => ?_)
              rw [quo_bit q j h0 i1 (HI.out.2.2 h0).2.1 i, hq4]
              by_cases hic : i = 1
              · subst hic; rfl
              · rw [if_neg (by omega), if_neg hic]
          case measure => simp [intOf]; omega
        · go_wp2_with fail
          go_roundw
          case rel =>
            refine ⟨j - 1, r - X, q + 2 ^ j.toNat, rfl, by omega, by omega, ?_, ?_⟩
            · have := div_yes h0 HI.out (by rw [HX.out]; exact hle)
              rwa [HX.out] at this
            · refine HD4.out.store hst _ _ 2 _ (by omega) (fun i _ => ?_)
              rw [quo_bit q j h0 i1 (HI.out.2.2 h0).2.1 i, hq4]
              by_cases hic : i = 2
              · subst hic; rfl
              · rw [if_neg (by omega), if_neg hic]
          case measure => simp [intOf]; omega
        · go_wp2_with fail
          go_roundw
          case rel =>
            refine ⟨j - 1, r - X, q + 2 ^ j.toNat, rfl, by omega, by omega, ?_, ?_⟩
            · have := div_yes h0 HI.out (by rw [HX.out]; exact hle)
              rwa [HX.out] at this
            · refine HD4.out.store hst _ _ 3 _ (by omega) (fun i _ => ?_)
              rw [quo_bit q j h0 i1 (HI.out.2.2 h0).2.1 i, hq4]
              by_cases hic : i = 3
              · subst hic; rfl
              · rw [if_neg (by omega), if_neg hic]
          case measure => simp [intOf]; omega
      · have hcm : 0 < cmpn X r := by unfold cmpn; rw [if_neg (by omega), if_neg (by omega)]; omega
        go_wp2_with fail
        go_roundw
        case rel => exact ⟨j - 1, r, q, rfl, by omega, by omega, div_no h0 HI.out (by rw [HX.out]; omega), HD3.out⟩
        case measure => simp [intOf]; omega
    · obtain ⟨hI1, hI2, hI3⟩ := HI.out
      have eq : a / b = q := by
        rw [hI1, Nat.mul_comm q b, Nat.mul_add_div (by have := HNe.out; omega), Nat.div_eq_of_lt (hI2 (by omega)), Nat.add_zero]
      have er : a % b = r := by
        rw [hI1, Nat.mul_comm q b, Nat.mul_add_mod, Nat.mod_eq_of_lt (hI2 (by omega))]
      have bw := HD.out.below
      have Eq := Lib.hid eq; have Er := Lib.hid er
      clear eq er hI1 hI2 hI3
      go_wp2_with fail
      go_region
      all_goals
        go_wp2_with fail
        rw [Eq.out, Er.out]
        exact bodyPost_ret (v := .tuple #[nv q, nv r, .int .i64 0]) (by simp [results, Try.results61, go_sem, u0, u1, u2, u3, v0, v1, v2, v3]) rfl ⟨rfl, by rw [Hs.out]; exact (by repeat' (first | (with_reducible exact Below.refl _ _) | (with_reducible assumption) | (with_reducible refine Below.alloc ?_ ?_ _) | (with_reducible refine Below.drew ?_) | (with_reducible refine below_drewN ?_ _) | (with_reducible refine Below.setCell ?_ ?_ _) | go_size))⟩

/-- quotient, rest, and whether it went -/
theorem div_any (a b : Nat) (ha : a < 2 ^ 256) (hb : b < 2 ^ 256) (w : World) :
    Calls Try.prog 61 #[nv a, nv b] w fun e w' => e = .returned (.tuple #[nv (if b = 0 then 0 else a / b), nv (if b = 0 then 0 else a % b), .int .i64 (if b = 0 then 1 else 0)]) ∧ Below w.heap.size w w' := by
  by_cases h : b = 0
  · subst h; exact div0 a w
  · rw [if_neg h, if_neg h, if_neg h]; exact div_walk a b ha hb h w
end Go.Proofs.Ytnbppbnjkmopeaa
namespace Go.Proofs.Ytnbppbnjkmopeaa
open Go.RowKit

/-- the sum of two numbers in a new row -/
theorem add2_any (a b : Nat) (ha : a < 2 ^ 256) (hb : b < 2 ^ 256) (g : Nat) (t : TypeId) (w : World)
    (h : w.heap[g]? = some (.cells #[.int .u64 (lw a 0), .int .u64 (lw a 1), .int .u64 (lw a 2), .int .u64 (lw a 3), .int .u64 (lw b 0), .int .u64 (lw b 1), .int .u64 (lw b 2), .int .u64 (lw b 3)] t (0, 0))) :
    Calls Try.prog 58 #[.slice (some ⟨g, 0, none⟩) 2 2] w fun e w' => e = .returned (.tuple #[nv ((a + b) % 2 ^ 256), .bool (decide (2 ^ 256 ≤ a + b))]) ∧ Below w.heap.size w w' := by
  have hr := add_row [a, b] g 0 2 w (by intro x hx; simp at hx; rcases hx with rfl | rfl <;> assumption) (by simp) (block_lt h) (by
    intro i hi j hj
    have hi' : i = 0 ∨ i = 1 := by simp at hi; omega
    have hj' : j = 0 ∨ j = 1 ∨ j = 2 ∨ j = 3 := by omega
    rw [cell_of_row _ _ _ _ _ _ h]
    rcases hi' with rfl | rfl <;> rcases hj' with rfl | rfl | rfl | rfl <;> rfl)
  have e : addAll [a, b] = ((a + b) % 2 ^ 256, decide (2 ^ 256 ≤ a + b)) := by
    simp only [addAll, addStep, List.foldl_cons, List.foldl_nil, Nat.zero_add, Nat.mod_eq_of_lt ha]
    congr 1
    simp; omega
  rw [e] at hr
  exact hr

theorem of_nat (n : Nat) (w : World) (h : n < 18446744073709551616) : Calls Try.prog 55 #[.int .u64 (n : Int)] w fun e w' => e = .returned (nv n) ∧ Below w.heap.size w w' := by
  have := of_any n w (by omega) (by omega)
  simpa using this
end Go.Proofs.Ytnbppbnjkmopeaa
