/- merkle.Leads. No condition. -/
import Derived.Test.YtfopockjakeplaaMkC
namespace Go.Proofs.Ytfopockjakeplaa
open Go.RowKit

def ledS (a at' x : Nat) : Nat := if at' % 2 = 0 then prs a x else prs x a
/-- where a way leads -/
def led : Nat → Nat → List Nat → Nat
  | a, _, [] => a
  | a, i, x :: l => led (ledS a i x) (i / 2) l
theorem led_snoc : ∀ (l : List Nat) (a i x : Nat), led a i (l ++ [x]) = ledS (led a i l) (i / 2 ^ l.length) x
  | [], a, i, x => by simp [led]
  | y :: l, a, i, x => by
    rw [List.cons_append, led, led_snoc l, led, List.length_cons, Nat.pow_succ, Nat.div_div_eq_div_mul, Nat.mul_comm 2]
theorem ledS_lt (a i x : Nat) : ledS a i x < 2 ^ 256 := by unfold ledS; split <;> exact prs_lt _ _
theorem led_lt : ∀ (l : List Nat) (a i : Nat), a < 2 ^ 256 → led a i l < 2 ^ 256
  | [], _, _, h => h
  | x :: l, a, i, _ => led_lt l _ _ (ledS_lt a i x)
theorem led_take (a i : Nat) (l : List Nat) (k : Nat) (h : k < l.length) : led a i (l.take (k + 1)) = ledS (led a i (l.take k)) (i / 2 ^ k) (l.getD k 0) := by
  have e : l.take (k + 1) = l.take k ++ [l.getD k 0] := by
    rw [List.take_add_one]; simp [List.getElem?_eq_getElem h]
  rw [e, led_snoc, List.length_take, Nat.min_eq_left (by omega)]

set_option maxRecDepth 100000 in
set_option maxHeartbeats 4000000 in
theorem leads_any (a i : Nat) (hi : i < 9223372036854775808) (x : Option Addr) (cap : Nat) (l : List Nat) (hn : l.length ≤ 1000) (w : World) (hx : l ≠ [] → ∃ b o, x = some ⟨b, o, none⟩ ∧ IdsAt w b o l) :
    Calls Try.prog 28 #[iv a, .int .i64 i, .slice x l.length cap] w fun e w' => e = .returned (iv (led a i l)) ∧ Below w.heap.size w w' := by
  have HX := Lib.hid hx
  obtain ⟨n, hnn⟩ : ∃ n, n = l.length := ⟨_, rfl⟩
  rw [← hnn]
  have HN := Lib.hid hnn
  have hn1 : n ≤ 1000 := by omega
  obtain ⟨R, hR⟩ : ∃ R, R = led a i l := ⟨_, rfl⟩
  rw [← hR]
  have HR := Lib.hid hR
  have HI := Lib.hid fun k => Nat.lt_of_le_of_lt (Nat.div_le_self i (2 ^ k)) hi
  have HI0 : Hid (i / 2 ^ 0 = i) := Lib.hid (by rw [Nat.pow_zero, Nat.div_one])
  have A := alloc2 w (iblk a) (iblk 0)
  have B : Below w.heap.size w ((w.alloc (iblk a)).alloc (iblk 0)) := below_alloc (below_alloc (Below.refl _ _) _) _
  have K0 := Lib.hid A.1; have K1 := Lib.hid A.2
  clear hR hnn hx hn A
  go_enter Try.func28, Try.ntmps28
  go_wp2_with fail
  rw [iblk_lit]
  go_loopg [1, 11] n (fun g av ix wr => ∃ k : Nat, g = n - k ∧ k ≤ n ∧ ix = .int .i64 k ∧ av = .int .i64 ((i / 2 ^ k : Nat) : Int) ∧ wr.heap[w.heap.size]? = some (iblk (led a i (l.take k))) ∧ wr.heap[w.heap.size + 1]? = some (iblk 0) ∧ Below w.heap.size w wr)
  case atStart => exact ⟨0, rfl, by omega, rfl, by rw [HI0.out], K0.out, K1.out, B⟩
  case round =>
    clear K0 K1 B
    obtain ⟨k, hg, hk, rfl, rfl, h0, h1, hB⟩ := hrel
    have HG := Lib.hid hg; have K0 := Lib.hid h0; have K1 := Lib.hid h1; have HB := Lib.hid hB
    clear hg h0 h1 hB
    obtain ⟨j, hj⟩ : ∃ j, j = i / 2 ^ k := ⟨_, rfl⟩
    have hjl : j < 9223372036854775808 := by rw [hj]; exact HI.out k
    rw [← hj]
    by_cases hlt : k < n
    · have hkl : k < l.length := by rw [← HN.out]; exact hlt
      obtain ⟨b, o, rfl, hI⟩ := HX.out (by intro e; rw [e] at hkl; simp at hkl)
      have HS := Lib.hid (led_take a i l k hkl)
      rw [← hj] at HS
      have HJ : Hid (j / 2 = i / 2 ^ (k + 1)) := Lib.hid (by rw [hj, Nat.pow_succ, Nat.div_div_eq_div_mul])
      obtain ⟨y, hy⟩ : ∃ y, y = l.getD k 0 := ⟨_, rfl⟩
      rw [← hy] at HS
      have hr := (hI.keep HB.out).range hkl
      rw [← hy] at hr
      have HRG := Lib.hid hr
      obtain ⟨j2, hj2⟩ : ∃ j2, j2 = j / 2 := ⟨_, rfl⟩
      have ej2 : (j : Int) / 2 = (j2 : Int) := by omega
      have et2 : Int.tdiv (j : Int) 2 = (j2 : Int) := by rw [Int.tdiv_eq_ediv_of_nonneg (by omega)]; exact ej2
      rw [← hj2] at HJ
      obtain ⟨z, hz⟩ : ∃ z, z = led a i (l.take k) := ⟨_, rfl⟩
      rw [← hz] at HS K0
      obtain ⟨z2, hz2⟩ : ∃ z2, z2 = ledS z j y := ⟨_, rfl⟩
      rw [← hz2] at HS
      have ez := iblk_lit
      have ho : o + k * 32 = o + k * 32 := rfl
      have hk0 : w.heap.size ≠ wr.heap.size := by have := block_lt K0.out; omega
      have hk1 : w.heap.size + 1 ≠ wr.heap.size := by have := block_lt K1.out; omega
      clear hj hy hI hr hz hj2 hkl ho
      by_cases hp : j % 2 = 0
      · have hp1 : (j : Int) % 2 = 0 := by omega
        have hp2 : Int.tmod (j : Int) 2 = 0 := by rw [Int.tmod_eq_emod_of_nonneg (by omega)]; exact hp1
        have HZ2 : Hid (z2 = prs z y) := Lib.hid (by rw [hz2]; unfold ledS; rw [if_pos hp])
        clear hz2 hp
        go_wp2_with (first | refine wpList_load_at rfl (.tmp 13) rfl b (o + k * 32) y rfl HRG.out ?_ | (refine wpList_store_id rfl (.tmp 8) (.tmp 14) rfl wr.heap.size 0 y rfl rfl (heap_new wr _) (fun w3 h1 h2 h3 h4 => ?_); have K8 := Lib.hid h1; have K0' := Lib.hid ((h2 _ hk0).trans (keep_alloc _ K0.out)); have K1' := Lib.hid ((h2 _ hk1).trans (keep_alloc _ K1.out)); have HB3 := Lib.hid (h4 w.heap.size w HB.out.size (below_alloc HB.out _)); clear h1 h2 h3 h4) | refine wpList_load_id rfl (.tmp 3) rfl w.heap.size z rfl K0'.out ?_ | refine wpList_load_id rfl (.tmp 8) rfl wr.heap.size y rfl K8.out ?_)
        refine (pair_any z y _).mono ?_
        rintro e w4 ⟨rfl, hb4⟩
        rw [← HZ2.out]
        have K0b := Lib.hid (below_keep hb4 K0'.out); have K1b := Lib.hid (below_keep hb4 K1'.out)
        have HB4 := Lib.hid (below_next HB3.out hb4)
        clear hb4 K0 K1 K0' K1' HB3 K8
        go_wp2_with (first | (refine wpList_store_id rfl (.tmp 3) (.tmp 20) rfl w.heap.size z z2 rfl rfl K0b.out (fun w5 h1 h2 h3 h4 => ?_); have K0c := Lib.hid h1; have K1c := Lib.hid ((h2 _ (by omega)).trans K1b.out); have HB5 := Lib.hid (h4 w.heap.size w (Nat.le_refl _) HB4.out); clear h1 h2 h3 h4))
        go_roundg (n - (k + 1))
        case measure => have := HG.out; omega
        case rel => exact ⟨k + 1, rfl, by omega, by go_num, by rw [← HJ.out], by rw [HS.out]; exact K0c.out, K1c.out, HB5.out⟩
      · have hp1 : (j : Int) % 2 = 1 := by omega
        have hp2 : Int.tmod (j : Int) 2 = 1 := by rw [Int.tmod_eq_emod_of_nonneg (by omega)]; exact hp1
        have HZ2 : Hid (z2 = prs y z) := Lib.hid (by rw [hz2]; unfold ledS; rw [if_neg hp])
        clear hz2 hp
        go_wp2_with (first | refine wpList_load_at rfl (.tmp 13) rfl b (o + k * 32) y rfl HRG.out ?_ | (refine wpList_store_id rfl (.tmp 8) (.tmp 14) rfl wr.heap.size 0 y rfl rfl (heap_new wr _) (fun w3 h1 h2 h3 h4 => ?_); have K8 := Lib.hid h1; have K0' := Lib.hid ((h2 _ hk0).trans (keep_alloc _ K0.out)); have K1' := Lib.hid ((h2 _ hk1).trans (keep_alloc _ K1.out)); have HB3 := Lib.hid (h4 w.heap.size w HB.out.size (below_alloc HB.out _)); clear h1 h2 h3 h4) | refine wpList_load_id rfl (.tmp 3) rfl w.heap.size z rfl K0'.out ?_ | refine wpList_load_id rfl (.tmp 8) rfl wr.heap.size y rfl K8.out ?_)
        refine (pair_any y z _).mono ?_
        rintro e w4 ⟨rfl, hb4⟩
        rw [← HZ2.out]
        have K0b := Lib.hid (below_keep hb4 K0'.out); have K1b := Lib.hid (below_keep hb4 K1'.out)
        have HB4 := Lib.hid (below_next HB3.out hb4)
        clear hb4 K0 K1 K0' K1' HB3 K8
        go_wp2_with (first | (refine wpList_store_id rfl (.tmp 3) (.tmp 23) rfl w.heap.size z z2 rfl rfl K0b.out (fun w5 h1 h2 h3 h4 => ?_); have K0c := Lib.hid h1; have K1c := Lib.hid ((h2 _ (by omega)).trans K1b.out); have HB5 := Lib.hid (h4 w.heap.size w (Nat.le_refl _) HB4.out); clear h1 h2 h3 h4))
        go_roundg (n - (k + 1))
        case measure => have := HG.out; omega
        case rel => exact ⟨k + 1, rfl, by omega, by go_num, by rw [← HJ.out], by rw [HS.out]; exact K0c.out, K1c.out, HB5.out⟩
    · obtain rfl : k = n := by omega
      have et : l.take k = l := List.take_of_length_le (by rw [HN.out]; exact Nat.le_refl _)
      rw [et, ← HR.out] at K0
      clear et hlt HG hj
      go_wp2_with (first | refine wpList_load_id rfl (.tmp 3) rfl w.heap.size R rfl K0.out ?_ | (refine wpList_store_id rfl (.tmp 6) (.tmp 27) rfl (w.heap.size + 1) 0 R rfl rfl K1.out (fun w3 h1 h2 h3 h4 => ?_)))
      have hll := loadVar_id h1
      exact bodyPost_ret (v := iv R) (by simp [results, Try.results28, Act.put, asAddr, hll]) rfl ⟨rfl, h4 _ _ (by omega) HB.out⟩
end Go.Proofs.Ytfopockjakeplaa
