/- tallystickref02.Add, Sub: sums and differences of bits. No condition. -/
import Derived.Test.YtdffblfofdniaaaRefAt
import Derived.Test.YtdffblfofdniaaaRefPlain
namespace Go.Proofs.Ytdffblfofdniaaa
open Go.RowKit

/-- 'at' of a row that lies in an old world -/
theorem at_old {base : Nat} {v : Value} {n L : Nat} {w : World} (hn : n < 2 ^ L) (h : BitsIs w base v n L) : ∀ (k : Nat) (w1 : World), Below w.heap.size w w1 →
    Calls Try.prog 59 #[v, .int .i64 k] w1 fun e w' => e = .returned (.bool (n.testBit k)) ∧ Below w1.heap.size w1 w' := fun k w1 hb => by
  have := at_any base v n L hn (k : Int) w1 (h.keep hb)
  rwa [decide_eq_true (show (0 : Int) ≤ (k : Int) by omega), Bool.true_and, Int.toNat_natCast] at this

def carry (n m k : Nat) : Bool := decide (2 ^ k ≤ n % 2 ^ k + m % 2 ^ k)
def borrow (n m k : Nat) : Bool := decide (n % 2 ^ k < m % 2 ^ k)
theorem carry_zero (n m : Nat) : carry n m 0 = false := by unfold carry; simp [Nat.mod_one]
theorem borrow_zero (n m : Nat) : borrow n m 0 = false := by unfold borrow; simp [Nat.mod_one]
theorem carry_next (n m k : Nat) : carry n m (k + 1) = (n.testBit k && m.testBit k || carry n m k && (n.testBit k || m.testBit k)) := carry_step n m k
theorem borrow_next (n m k : Nat) : borrow n m (k + 1) = ((!n.testBit k) && (m.testBit k || borrow n m k) || m.testBit k && borrow n m k) := borrow_step n m k
theorem sum_bit (n m k : Nat) : (n + m).testBit k = ((n.testBit k != m.testBit k) != carry n m k) := add_bit n m k
theorem diff_bit (n m k : Nat) (hk : k < 256) : (subz n m).testBit k = ((n.testBit k != m.testBit k) != borrow n m k) := sub_bit n m k hk

attribute [local irreducible] carry borrow subz
set_option maxRecDepth 100000 in
set_option maxHeartbeats 4000000 in
theorem refadd_any (b1 : Nat) (v : Value) (n L : Nat) (hn : n < 2 ^ L) (b2 : Nat) (u : Value) (m K : Nat) (hm : m < 2 ^ K) (hL : L ≤ 100000) (hK : K ≤ 100000) (w : World) (h1 : BitsIs w b1 v n L) (h2 : BitsIs w b2 u m K) :
    Calls Try.prog 28 #[v, u] w fun e w' => ∃ x, e = .returned x ∧ BitsIs w' w.heap.size x (n + m) (max L K + 1) ∧ Below w.heap.size w w' := by
  have cx := Lib.hid (at_old hn h1)
  have cy := Lib.hid (at_old hm h2)
  obtain ⟨xv, capv, rfl⟩ := h1.shape
  obtain ⟨xu, capu, rfl⟩ := h2.shape
  obtain ⟨M, hM⟩ : ∃ M, M = max L K := ⟨_, rfl⟩
  have em : max (L : Int) (K : Int) = (M : Int) := by omega
  have hM2 : M ≤ 100000 := by omega
  rw [← hM]
  clear hn hm h1 h2 hM hL hK
  have B : Below w.heap.size w w := Below.refl _ _
  go_enter Try.func28, Try.ntmps28
  go_wp2_with fail
  go_loopw [6, 7, 8] (fun ov cv ix wr => ∃ k : Nat, k ≤ M + 1 ∧ ix = .int .i64 k ∧ cv = .bool (carry n m k) ∧ BitsIs wr w.heap.size ov (n + m) k ∧ Below w.heap.size w wr) (fun _ _ ix _ => M + 1 - (intOf ix).toNat)
  case atStart => exact ⟨0, by omega, rfl, by rw [carry_zero], BitsIs.nil _ _ _, B⟩
  case round =>
    obtain ⟨k, hk, rfl, rfl, hO, B⟩ := hrel
    have HO := Lib.hid hO
    clear hO em
    by_cases hlt : k < M + 1
    · have hlt' : (k : Int) < (M : Int) + 1 := by omega
      have HB := Lib.hid (sum_bit n m k)
      have HC := Lib.hid (carry_next n m k)
      have cx := Lib.hid fun w1 hb => cx.out k w1 hb
      have cy := Lib.hid fun w1 hb => cy.out k w1 hb
      generalize n.testBit k = X at *
      generalize m.testBit k = Y at *
      generalize hcc : carry n m k = C at *
      have HCC := Lib.hid hcc
      clear hcc
      go_wp2_with fail
      refine (cx.out _ B).mono ?_
      rintro e w2 ⟨rfl, hb2⟩
      have HO2 := Lib.hid (HO.out.keep hb2)
      have B2 := below_next B hb2
      clear hb2 cx HO B
      go_wp2_with fail
      refine (cy.out _ B2).mono ?_
      rintro e w3 ⟨rfl, hb3⟩
      have HO3 := Lib.hid (HO2.out.keep hb3)
      have B3 := below_next B2 hb3
      clear hb3 cy HO2 B2
      cases X <;> cases Y <;> cases C
      all_goals
        go_wp2_with (at_builtin; refine wpList_append_bit rfl (.tmp 28) (.tmp 34) rfl w.heap.size _ (n + m) (n + m) k rfl (HO3.out.alloc _) _ _ rfl (cell_new _ _ _) (fun _ _ => rfl) (by rw [HB.out]; rfl) (by omega) (by have := B3.size; simp; omega) (fun v' w4 hown' hbel => ?_))
        have B4 := hbel w.heap.size w (Nat.le_refl _) (below_alloc B3 _)
        have HO4 := Lib.hid hown'
        clear hbel hown' HO3 B3
        go_wp2_with fail
        go_roundw
        case rel => exact ⟨k + 1, by omega, by go_num, by rw [HC.out]; rfl, HO4.out, B4⟩
        case measure => simp [intOf]; omega
    · obtain rfl : k = M + 1 := by omega
      go_wp2_with fail
      go_ret
      exact ⟨_, rfl, HO.out, B⟩

set_option maxRecDepth 100000 in
set_option maxHeartbeats 4000000 in
theorem refsub_any (b1 : Nat) (v : Value) (n L : Nat) (hn : n < 2 ^ L) (b2 : Nat) (u : Value) (m K : Nat) (hm : m < 2 ^ K) (w : World) (h1 : BitsIs w b1 v n L) (h2 : BitsIs w b2 u m K) :
    Calls Try.prog 23 #[v, u] w fun e w' => ∃ x, e = .returned (.tuple #[x, .bool (borrow n m 256)]) ∧ BitsIs w' w.heap.size x (subz n m) 256 ∧ Below w.heap.size w w' := by
  have cx := Lib.hid (at_old hn h1)
  have cy := Lib.hid (at_old hm h2)
  obtain ⟨xv, capv, rfl⟩ := h1.shape
  obtain ⟨xu, capu, rfl⟩ := h2.shape
  clear hn hm h1 h2
  have B : Below w.heap.size w w := Below.refl _ _
  go_enter Try.func23, Try.ntmps23
  go_wp2_with fail
  go_loopw [6, 7, 8] (fun ov cv ix wr => ∃ k : Nat, k ≤ 256 ∧ ix = .int .i64 k ∧ cv = .bool (borrow n m k) ∧ BitsIs wr w.heap.size ov (subz n m) k ∧ Below w.heap.size w wr) (fun _ _ ix _ => 256 - (intOf ix).toNat)
  case atStart => exact ⟨0, by omega, rfl, by rw [borrow_zero], BitsIs.nil _ _ _, B⟩
  case round =>
    obtain ⟨k, hk, rfl, rfl, hO, B⟩ := hrel
    have HO := Lib.hid hO
    clear hO
    by_cases hlt : k < 256
    · have hlt' : (k : Int) < 256 := by omega
      have HB := Lib.hid (diff_bit n m k hlt)
      have HC := Lib.hid (borrow_next n m k)
      have cx := Lib.hid fun w1 hb => cx.out k w1 hb
      have cy := Lib.hid fun w1 hb => cy.out k w1 hb
      generalize n.testBit k = X at *
      generalize m.testBit k = Y at *
      generalize hcc : borrow n m k = C at *
      clear hcc
      go_wp2_with fail
      refine (cx.out _ B).mono ?_
      rintro e w2 ⟨rfl, hb2⟩
      have HO2 := Lib.hid (HO.out.keep hb2)
      have B2 := below_next B hb2
      clear hb2 cx HO B
      go_wp2_with fail
      refine (cy.out _ B2).mono ?_
      rintro e w3 ⟨rfl, hb3⟩
      have HO3 := Lib.hid (HO2.out.keep hb3)
      have B3 := below_next B2 hb3
      clear hb3 cy HO2 B2
      cases X <;> cases Y <;> cases C
      all_goals
        go_wp2_with (at_builtin; refine wpList_append_bit rfl (.tmp 21) (.tmp 27) rfl w.heap.size _ (subz n m) (subz n m) k rfl (HO3.out.alloc _) _ _ rfl (cell_new _ _ _) (fun _ _ => rfl) (by rw [HB.out]; rfl) (by omega) (by have := B3.size; simp; omega) (fun v' w4 hown' hbel => ?_))
        have B4 := hbel w.heap.size w (Nat.le_refl _) (below_alloc B3 _)
        have HO4 := Lib.hid hown'
        clear hbel hown' HO3 B3
        go_wp2_with fail
        go_roundw
        case rel => exact ⟨k + 1, by omega, by go_num, by rw [HC.out]; rfl, HO4.out, B4⟩
        case measure => simp [intOf]; omega
    · obtain rfl : k = 256 := by omega
      go_wp2_with fail
      exact bodyPost_ret (by simp [results, Try.results23, go_sem]) rfl ⟨_, rfl, HO.out, B⟩
end Go.Proofs.Ytdffblfofdniaaa
