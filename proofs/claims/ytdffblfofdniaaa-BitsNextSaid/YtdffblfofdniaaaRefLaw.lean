/- The laws' own words over bits: of, is. No condition. -/
import Derived.Test.YtdffblfofdniaaaRefWords
import Derived.Test.YtdffblfofdniaaaRefShift
import Derived.Test.YtdffblfofdniaaaNumDiv
namespace Go.Proofs.Ytdffblfofdniaaa
open Go.RowKit

set_option maxRecDepth 100000 in
set_option maxHeartbeats 1000000 in
theorem of2_any (a : Nat) (w : World) :
    Calls Try.prog 24 #[nv a] w fun e w' => ∃ v, e = .returned v ∧ BitsIs w' w.heap.size v a 256 ∧ Below w.heap.size w w' := by
  have B : Below w.heap.size w w := Below.refl _ _
  go_enter Try.func24, Try.ntmps24
  go_wp2_with fail
  refine (refof_any a _).mono ?_
  rintro e w1 ⟨v, rfl, hv, hb⟩
  have B1 := below_next (w := w) (by repeat' (first | (with_reducible exact Below.refl _ _) | (with_reducible assumption) | (with_reducible refine below_alloc ?_ _) | (with_reducible refine Below.drew ?_) | (with_reducible refine below_drewN ?_ _) | (with_reducible refine Below.setCell ?_ ?_ _) | go_size)) hb
  have HV := Lib.hid (hv.mono (base' := w.heap.size) (by simp))
  clear hb hv
  go_wp2_with fail
  go_ret
  exact ⟨_, rfl, HV.out, B1⟩

set_option maxRecDepth 100000 in
set_option maxHeartbeats 1000000 in
theorem is2_any (s : Nat) (hs : s < 2 ^ 256) (o : Bool) (b1 : Nat) (v : Value) (n L : Nat) (hn : n < 2 ^ L) (hL : L ≤ 100000) (w : World) (h1 : BitsIs w b1 v n L) :
    Calls Try.prog 27 #[nv s, .bool o, v] w fun e w' => e = .returned (.bool (decide (s = n % 2 ^ 256) && (o == decide (2 ^ 256 ≤ n)))) ∧ Below w.heap.size w w' := by
  have cw := Lib.hid fun w1 (hb : Below w.heap.size w w1) => words_any b1 v n L hn hL w1 (h1.keep hb)
  have HM := Lib.hid (Nat.mod_lt n (show 0 < 2 ^ 256 by omega))
  obtain ⟨m, hm⟩ : ∃ m, m = n % 2 ^ 256 := ⟨_, rfl⟩
  obtain ⟨oo, hoo⟩ : ∃ oo, oo = decide (2 ^ 256 ≤ n) := ⟨_, rfl⟩
  rw [← hm] at HM
  rw [← hm, ← hoo] at cw
  rw [← hm, ← hoo]
  obtain ⟨xv, capv, rfl⟩ := h1.shape
  clear hm hoo h1 hn
  have hq := eq_num s m hs HM.out
  clear hs
  have B : Below w.heap.size w w := Below.refl _ _
  have K0 := Lib.hid (heap_new w (nblk s))
  go_enter Try.func27, Try.ntmps27
  go_wp2_with fail
  refine (cw.out _ (by repeat' (first | (with_reducible exact Below.refl _ _) | (with_reducible assumption) | (with_reducible refine below_alloc ?_ _) | (with_reducible refine Below.drew ?_) | (with_reducible refine below_drewN ?_ _) | (with_reducible refine Below.setCell ?_ ?_ _) | go_size))).mono ?_
  rintro e w1 ⟨rfl, hb⟩
  have K1 := Lib.hid (below_keep hb K0.out)
  have B1 := below_next (w := w) (by repeat' (first | (with_reducible exact Below.refl _ _) | (with_reducible assumption) | (with_reducible refine below_alloc ?_ _) | (with_reducible refine Below.drew ?_) | (with_reducible refine below_drewN ?_ _) | (with_reducible refine Below.setCell ?_ ?_ _) | go_size)) hb
  clear hb K0 cw
  obtain ⟨K1_0, K1_1, K1_2, K1_3, K1_f, K1_z⟩ := cells4 K1.out
  by_cases he : s = m
  · have h := decide_eq_true he
    rw [h] at hq
    have HE := Lib.hid he
    clear h he
    go_wp2_with fail
    go_ret
    exact ⟨by rw [decide_eq_true HE.out]; rfl, (by repeat' (first | (with_reducible exact Below.refl _ _) | (with_reducible assumption) | (with_reducible refine below_alloc ?_ _) | (with_reducible refine Below.drew ?_) | (with_reducible refine below_drewN ?_ _) | (with_reducible refine Below.setCell ?_ ?_ _) | go_size))⟩
  · have h := decide_eq_false he
    rw [h] at hq
    clear h
    go_wp2_with fail
    go_ret
    exact ⟨by rw [decide_eq_false he]; rfl, (by repeat' (first | (with_reducible exact Below.refl _ _) | (with_reducible assumption) | (with_reducible refine below_alloc ?_ _) | (with_reducible refine Below.drew ?_) | (with_reducible refine below_drewN ?_ _) | (with_reducible refine Below.setCell ?_ ?_ _) | go_size))⟩

theorem borrow_lt (a b : Nat) (ha : a < 2 ^ 256) (hb : b < 2 ^ 256) : borrow a b 256 = decide (a < b) := by
  unfold borrow; rw [Nat.mod_eq_of_lt ha, Nat.mod_eq_of_lt hb]
theorem subz_lt (a b : Nat) : subz a b < 2 ^ 258 ∨ 2 ^ 256 ≤ a := by unfold subz; omega
theorem BitsIs.low {w : World} {base : Nat} {v : Value} {n : Nat} (h : BitsIs w base v n 256) : BitsIs w base v (n % 2 ^ 256) 256 :=
  h.congr fun i hi => by rw [Nat.testBit_mod_two_pow]; simp [hi]
/-- the calls as the laws make them: over numbers' own bits -/
theorem numsub_any {w : World} {b1 b2 : Nat} {v u : Value} {a b : Nat} (h1 : BitsIs w b1 v a 256) (h2 : BitsIs w b2 u b 256) (ha : a < 2 ^ 256) (hb : b < 2 ^ 256) :
    Calls Try.prog 23 #[v, u] w fun e w' => ∃ x, e = .returned (.tuple #[x, .bool (decide (a < b))]) ∧ BitsIs w' w.heap.size x ((a + 2 ^ 256 - b) % 2 ^ 256) 256 ∧ Below w.heap.size w w' := by
  refine (refsub_any b1 v a 256 ha b2 u b 256 hb w h1 h2).mono fun e w' ⟨x, he, hx, hbl⟩ => ⟨x, by rw [he, borrow_lt a b ha hb], ?_, hbl⟩
  have e2 : (a + 2 ^ 256 - b) % 2 ^ 256 = subz a b % 2 ^ 256 := by unfold subz; rw [Nat.mod_eq_of_lt hb]; congr 1; omega
  rw [e2]
  exact hx.low
theorem numadd_any {w : World} {b1 b2 : Nat} {v u : Value} {a b : Nat} (h1 : BitsIs w b1 v a 256) (h2 : BitsIs w b2 u b 256) (ha : a < 2 ^ 256) (hb : b < 2 ^ 256) :
    Calls Try.prog 28 #[v, u] w fun e w' => ∃ x, e = .returned x ∧ BitsIs w' w.heap.size x (a + b) 257 ∧ Below w.heap.size w w' :=
  refadd_any b1 v a 256 ha b2 u b 256 hb (by omega) (by omega) w h1 h2
theorem numless_any {w : World} {b1 b2 : Nat} {v u : Value} {a b : Nat} (h1 : BitsIs w b1 v a 256) (h2 : BitsIs w b2 u b 256) (ha : a < 2 ^ 256) (hb : b < 2 ^ 256) :
    Calls Try.prog 29 #[v, u] w fun e w' => e = .returned (.bool (decide (a < b))) ∧ Below w.heap.size w w' :=
  less_any b1 v a 256 ha b2 u b 256 hb (by omega) (by omega) w h1 h2
theorem numwords_any {w : World} {b1 : Nat} {v : Value} {n : Nat} (h1 : BitsIs w b1 v n 256) (hn : n < 2 ^ 256) :
    Calls Try.prog 25 #[v] w fun e w' => e = .returned (.tuple #[nv n, .bool false]) ∧ Below w.heap.size w w' := by
  have := words_any b1 v n 256 hn (by omega) w h1
  rwa [Nat.mod_eq_of_lt hn, decide_eq_false (by omega)] at this
end Go.Proofs.Ytdffblfofdniaaa
