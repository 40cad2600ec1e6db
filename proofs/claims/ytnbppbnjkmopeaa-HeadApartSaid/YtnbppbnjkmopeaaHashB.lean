/- hash.block: eight numbers gone on by 64 bytes. No condition. -/
import Derived.Test.YtnbppbnjkmopeaaHashA
namespace Go.Proofs.Ytnbppbnjkmopeaa
open Go.RowKit

/-- rows of 32 bits -/
def us (l : List Nat) : List Value := l.map fun (x : Nat) => .int .u32 (x : Int)
theorem us_len (l : List Nat) : (us l).length = l.length := by simp [us]
abbrev hv (h : List Nat) : Value := .agg (us h).toArray
def hblk (h : List Nat) : Obj := .cells (us h).toArray 167 (0, 0)
theorem hblk_range {w : World} {g : Nat} {h : List Nat} (hg : w.heap[g]? = some (hblk h)) : w.rangeAt g 0 (us h) := fun j v hv => by
  rw [Nat.zero_add, cell_of_row w g j _ _ _ hg]; simpa using hv
theorem hblk_cell {w : World} {g : Nat} {h : List Nat} (hg : w.heap[g]? = some (hblk h)) (j : Nat) (hj : j < h.length) : w.cell? ⟨g, j, none⟩ = some (.int .u32 (h.getD j 0)) := by
  rw [cell_of_row w g j _ _ _ hg]; simp [us, hj]
theorem hblk_there {w : World} {g : Nat} {h : List Nat} (hl : h.length = 8) (hg : w.heap[g]? = some (hblk h)) : w.there g 0 8 := fun j hj => by
  refine ⟨?_, frozen_of_row _ _ _ _ _ hg⟩
  rw [Nat.zero_add, hblk_cell hg j (by omega)]; rfl
theorem hblk_frozen {w : World} {g : Nat} {h : List Nat} (hg : w.heap[g]? = some (hblk h)) (j : Nat) : w.frozen? ⟨g, j, none⟩ = false := frozen_of_row _ _ _ _ _ hg
theorem loadVar_h {w : World} {g : Nat} {h : List Nat} (hl : h.length = 8) (hg : w.heap[g]? = some (hblk h)) : (loadVar 167 ⟨g, 0, none⟩).run Try.prog w = .ok (hv h) w :=
  run_loadVar_mid w g 0 167 (us h) (.array 8 22) (hblk_range hg) (by kernel_rfl) rfl (by rw [us_len, hl]; kernel_rfl)
theorem wpList_load_h {ops : Array Oper} {rest : List Oper} {op : Oper} {a : Act} {w : World} {Q : Exit → Act → World → Prop} (hgd : op.guard = none) (x : Operand) (ho : op.op = .load 167 x)
    (g : Nat) (h : List Nat) (hx : a.eval x = .pointer (some ⟨g, 0, none⟩)) (hl : h.length = 8) (hb : w.heap[g]? = some (hblk h)) (hk : wpList Try.prog ops Q rest (a.put op.dst (hv h)) w) : wpList Try.prog ops Q (op :: rest) a w :=
  wpList_load_mid hgd 167 x ho g 0 hx (us h) (.array 8 22) (hblk_range hb) (by kernel_rfl) rfl (by rw [us_len, hl]; kernel_rfl) hk
theorem wpList_store_h {ops : Array Oper} {rest : List Oper} {op : Oper} {a : Act} {w : World} {Q : Exit → Act → World → Prop} (hgd : op.guard = none) (x y : Operand) (ho : op.op = .store 167 x y)
    (g : Nat) (h0 h : List Nat) (hx : a.eval x = .pointer (some ⟨g, 0, none⟩)) (hy : a.eval y = hv h) (hl0 : h0.length = 8) (hl : h.length = 8) (hb : w.heap[g]? = some (hblk h0))
    (hk : ∀ w', w'.heap[g]? = some (hblk h) → (∀ b, b ≠ g → w'.heap[b]? = w.heap[b]?) → w'.heap.size = w.heap.size → (∀ B u, B ≤ g → Below B u w → Below B u w') → wpList Try.prog ops Q rest (a.put op.dst undef) w') :
    wpList Try.prog ops Q (op :: rest) a w := by
  have hs : (us h).toArray.size = 8 := by simp [us, hl]
  refine wpList_store_mid hgd 167 x y ho g 0 (us h).toArray hx hy ?_ (by rw [hs]; kernel_rfl) ?_ (hk _ ?_ (fun b hne => heap_setCells_far g _ _ _ b hne) (size_setCells_id g _ _ _) fun B u hB hu => below_setCells_id g hB _ _ _ hu)
  · rw [hs]; exact hblk_there hl0 hb
  · exact all_oneCell_toArray fun v hv => by
      simp only [us, List.mem_map] at hv
      obtain ⟨i, _, rfl⟩ := hv
      rfl
  · exact heap_setCells_row g 167 (us h) (us h0) [] w (by rw [us_len, us_len, hl, hl0]) hb
def zb8l : List Nat := [0, 0, 0, 0, 0, 0, 0, 0]
/-- 64 words, the first k of them known -/
def wrow (f : Nat → Nat) (k : Nat) : List Nat := (List.range 64).map fun j => if j < k then f j else 0
def wblk (f : Nat → Nat) (k : Nat) : Obj := .cells (us (wrow f k)).toArray 202 (0, 0)
theorem wrow_get (f : Nat → Nat) (k j : Nat) (hj : j < k) (hk : k ≤ 64) : (us (wrow f k))[j]? = some (.int .u32 (f j)) := by
  simp [us, wrow, show j < 64 by omega, hj]
theorem wblk_cell {f : Nat → Nat} {k : Nat} {w : World} {g : Nat} (h : w.heap[g]? = some (wblk f k)) (j : Nat) (hj : j < k) (hk : k ≤ 64) : w.cell? ⟨g, j, none⟩ = some (.int .u32 (f j)) := by
  rw [cell_of_row w g j _ _ _ h, List.getElem?_toArray, wrow_get f k j hj hk]
theorem wblk_there {f : Nat → Nat} {k : Nat} {w : World} {g : Nat} (h : w.heap[g]? = some (wblk f k)) (j : Nat) (hj : j < 64) : ∃ x, w.cell? ⟨g, j, none⟩ = some (.int .u32 x) := by
  rw [cell_of_row w g j _ _ _ h]
  simp [us, wrow, hj]
theorem wrow_step (f : Nat → Nat) (k : Nat) (hk : k < 64) : (us (wrow f k)).toArray.setIfInBounds k (.int .u32 (f k)) = (us (wrow f (k + 1))).toArray := by
  apply Array.ext_getElem?
  intro j
  rw [Array.getElem?_setIfInBounds]
  simp only [us, wrow, List.getElem?_toArray, List.getElem?_map, List.size_toArray, List.length_map, List.length_range]
  by_cases hj : j < 64
  · rw [List.getElem?_range hj]
    by_cases e : k = j
    · subst e; simp [hk]
    · have h1 : (j < k) ↔ (j < k + 1) := by omega
      simp [e, h1]
  · rw [List.getElem?_eq_none (by simpa using hj)]
    simp; omega
theorem wblk_step {f : Nat → Nat} {k : Nat} {w : World} {g : Nat} (hk : k < 64) (h : w.heap[g]? = some (wblk f k)) : (w.setCell ⟨g, k, none⟩ (.int .u32 (f k))).heap[g]? = some (wblk f (k + 1)) := by
  rw [heap_setCell_same w g k _ _ _ h, wrow_step f k hk]; rfl
theorem wblk_zero (f : Nat → Nat) : wblk f 0 = .cells #[.int .u32 0, .int .u32 0, .int .u32 0, .int .u32 0, .int .u32 0, .int .u32 0, .int .u32 0, .int .u32 0, .int .u32 0, .int .u32 0, .int .u32 0, .int .u32 0, .int .u32 0, .int .u32 0, .int .u32 0, .int .u32 0, .int .u32 0, .int .u32 0, .int .u32 0, .int .u32 0, .int .u32 0, .int .u32 0, .int .u32 0, .int .u32 0, .int .u32 0, .int .u32 0, .int .u32 0, .int .u32 0, .int .u32 0, .int .u32 0, .int .u32 0, .int .u32 0, .int .u32 0, .int .u32 0, .int .u32 0, .int .u32 0, .int .u32 0, .int .u32 0, .int .u32 0, .int .u32 0, .int .u32 0, .int .u32 0, .int .u32 0, .int .u32 0, .int .u32 0, .int .u32 0, .int .u32 0, .int .u32 0, .int .u32 0, .int .u32 0, .int .u32 0, .int .u32 0, .int .u32 0, .int .u32 0, .int .u32 0, .int .u32 0, .int .u32 0, .int .u32 0, .int .u32 0, .int .u32 0, .int .u32 0, .int .u32 0, .int .u32 0, .int .u32 0] 202 (0, 0) := by
  kernel_rfl
abbrev zb8 : Obj := hblk zb8l
/-- v added to h, at the first k places -/
def mixl (h v : List Nat) (k : Nat) : List Nat := (List.range 8).map fun j => if j < k then add32 (h.getD j 0) (v.getD j 0) else h.getD j 0
theorem mixl_len (h v : List Nat) (k : Nat) : (mixl h v k).length = 8 := by simp [mixl]
theorem mixl_get (h v : List Nat) (k j : Nat) (hj : j < 8) (hk : k ≤ j) : (mixl h v k).getD j 0 = h.getD j 0 := by
  rw [List.getD_eq_getElem?_getD, mixl, List.getElem?_map, List.getElem?_range hj]
  simp [show ¬ j < k by omega]
theorem mixl_zero {h v : List Nat} (hh : H8 h) : mixl h v 0 = h := by
  obtain ⟨a, b, c, d, e, f, g, i, rfl, -⟩ := hh.eight
  rfl
theorem mixl_all {h v : List Nat} (hh : H8 h) (hv : H8 v) : mixl h v 8 = List.zipWith add32 h v := by
  obtain ⟨a, b, c, d, e, f, g, i, rfl, -⟩ := hh.eight
  obtain ⟨a2, b2, c2, d2, e2, f2, g2, i2, rfl, -⟩ := hv.eight
  rfl
theorem mixl_step (h v : List Nat) (k : Nat) (hk : k < 8) : (us (mixl h v k)).toArray.setIfInBounds k (.int .u32 (add32 (h.getD k 0) (v.getD k 0) : Nat)) = (us (mixl h v (k + 1))).toArray := by
  apply Array.ext_getElem?
  intro j
  rw [Array.getElem?_setIfInBounds]
  simp only [us, mixl, List.getElem?_toArray, List.getElem?_map, List.size_toArray, List.length_map, List.length_range]
  by_cases hj : j < 8
  · rw [List.getElem?_range hj]
    by_cases e : k = j
    · subst e; simp [hk]
    · have h1 : (j < k) ↔ (j < k + 1) := by omega
      simp [e, h1]
  · rw [List.getElem?_eq_none (by simpa using hj)]
    simp; omega
theorem mixl_set {h v : List Nat} {k : Nat} {w : World} {g : Nat} (hk : k < 8) (hg : w.heap[g]? = some (hblk (mixl h v k))) :
    (w.setCell ⟨g, k, none⟩ (.int .u32 (add32 (h.getD k 0) (v.getD k 0) : Nat))).heap[g]? = some (hblk (mixl h v (k + 1))) := by
  rw [heap_setCell_same w g k _ _ _ hg, mixl_step h v k hk]; rfl
/-- the words of a block of bytes -/
def mw (b : ByteArray) : List Nat := (List.range 16).map fun i => wd b (4 * i)

set_option maxRecDepth 100000 in
set_option maxHeartbeats 1000000 in
theorem block_any (h : List Nat) (hh : H8 h) (b : ByteArray) (hb : b.size = 64) (w : World) :
    Calls Try.prog 98 #[hv h, .string b] w fun e w' => e = .returned (hv (gon (mw b) h)) ∧ Below w.heap.size w w' := by
  obtain ⟨f, hf⟩ : ∃ f, f = wj (mw b) := ⟨_, rfl⟩
  have HM : Hid ((mw b).length = 16) := Lib.hid (by simp [mw])
  have HL : Hid (∀ j, f j < 4294967296) := Lib.hid (by rw [hf]; exact wj_lt fun x hx => by simp only [mw, List.mem_map] at hx; obtain ⟨i, _, rfl⟩ := hx; exact wd_lt _ _)
  have HW : Hid (∀ k : Nat, k < 16 → ∀ w, Calls Try.prog 127 #[.string b, .int .i64 (4 * (k : Int))] w fun e w' => e = .returned (.int .u32 (f k)) ∧ Below w.heap.size w w') := Lib.hid fun k hk w => by
    have := word_any b (4 * k) (by omega) (by omega) w
    rw [hf, wj_low HM.out hk]
    simpa [mw, hk] using this
  have HH := Lib.hid hh
  have HF := Lib.hid hf
  clear hh hf
  have B : Below w.heap.size w w := Below.refl _ _
  have eh : Obj.cells (us h).toArray 167 (0, 0) = hblk h := rfl
  have ew : Obj.cells #[.int .u32 0, .int .u32 0, .int .u32 0, .int .u32 0, .int .u32 0, .int .u32 0, .int .u32 0, .int .u32 0, .int .u32 0, .int .u32 0, .int .u32 0, .int .u32 0, .int .u32 0, .int .u32 0, .int .u32 0, .int .u32 0, .int .u32 0, .int .u32 0, .int .u32 0, .int .u32 0, .int .u32 0, .int .u32 0, .int .u32 0, .int .u32 0, .int .u32 0, .int .u32 0, .int .u32 0, .int .u32 0, .int .u32 0, .int .u32 0, .int .u32 0, .int .u32 0, .int .u32 0, .int .u32 0, .int .u32 0, .int .u32 0, .int .u32 0, .int .u32 0, .int .u32 0, .int .u32 0, .int .u32 0, .int .u32 0, .int .u32 0, .int .u32 0, .int .u32 0, .int .u32 0, .int .u32 0, .int .u32 0, .int .u32 0, .int .u32 0, .int .u32 0, .int .u32 0, .int .u32 0, .int .u32 0, .int .u32 0, .int .u32 0, .int .u32 0, .int .u32 0, .int .u32 0, .int .u32 0, .int .u32 0, .int .u32 0, .int .u32 0, .int .u32 0] 202 (0, 0) = wblk f 0 := (wblk_zero f).symm
  have ez : Obj.cells #[.int .u32 0, .int .u32 0, .int .u32 0, .int .u32 0, .int .u32 0, .int .u32 0, .int .u32 0, .int .u32 0] 167 (0, 0) = zb8 := rfl
  show Calls Try.prog 98 #[.agg (us h).toArray, .string b] w _
  go_enter Try.func98, Try.ntmps98
  go_wp2_with fail
  go_loopg [21] 16 (fun g ix wr => ∃ k : Nat, g = 16 - k ∧ k ≤ 16 ∧ ix = .int .i64 k ∧ wr.heap[w.heap.size]? = some (hblk h) ∧ wr.heap[w.heap.size + 1]? = some zb8 ∧ wr.heap[w.heap.size + 1 + 1]? = some (wblk f k) ∧ Below w.heap.size w wr)
  case atStart =>
    have A := alloc3 w (hblk h) zb8 (wblk f 0)
    exact ⟨0, rfl, by omega, rfl, A.1, A.2.1, A.2.2, (by repeat' (first | (with_reducible exact Below.refl _ _) | (with_reducible assumption) | (with_reducible refine below_alloc ?_ _) | (with_reducible refine Below.drew ?_) | (with_reducible refine below_drewN ?_ _) | (with_reducible refine Below.setCell ?_ ?_ _) | go_size))⟩
  case round =>
    obtain ⟨k, hg, hk, rfl, hr0, hr1, hr2, B⟩ := hrel
    have HG := Lib.hid hg; have K0 := Lib.hid hr0; have K1 := Lib.hid hr1; have K2 := Lib.hid hr2
    clear hg hr0 hr1 hr2
    by_cases hlt : k < 16
    · obtain ⟨x, hx⟩ := wblk_there K2.out k (by omega)
      have hf : ∀ j, wr.frozen? ⟨w.heap.size + 1 + 1, j, none⟩ = false := fun j => frozen_of_row _ _ _ _ _ K2.out
      go_wp2_with fail
      refine (HW.out k hlt _).mono ?_
      rintro e w1 ⟨rfl, hb1⟩
      have K0' := Lib.hid (below_keep hb1 K0.out); have K1' := Lib.hid (below_keep hb1 K1.out); have K2' := Lib.hid (below_keep hb1 K2.out)
      have B1 := below_next B hb1
      clear hb1 B K0 K1 K2 hf hx
      obtain ⟨x, hx⟩ := wblk_there K2'.out k (by omega)
      have hf : ∀ j, w1.frozen? ⟨w.heap.size + 1 + 1, j, none⟩ = false := fun j => frozen_of_row _ _ _ _ _ K2'.out
      go_wp2_with fail
      go_roundg (16 - (k + 1))
      case measure => have := HG.out; omega
      case rel => exact ⟨k + 1, rfl, by omega, by go_num, (heap_setCell_other _ _ _ _ (show w.heap.size ≠ w.heap.size + 1 + 1 by omega)).trans K0'.out, (heap_setCell_other _ _ _ _ (show w.heap.size + 1 ≠ w.heap.size + 1 + 1 by omega)).trans K1'.out, wblk_step (by omega) K2'.out, (by repeat' (first | (with_reducible exact Below.refl _ _) | (with_reducible assumption) | (with_reducible refine below_alloc ?_ _) | (with_reducible refine Below.drew ?_) | (with_reducible refine below_drewN ?_ _) | (with_reducible refine Below.setCell ?_ ?_ _) | go_size))⟩
    · obtain rfl : k = 16 := by omega
      clear hlt HG HW
      go_wp2_with fail
      go_loopg [7] 48 (fun g ix wr2 => ∃ k : Nat, g = 64 - k ∧ 16 ≤ k ∧ k ≤ 64 ∧ ix = .int .i64 k ∧ wr2.heap[w.heap.size]? = some (hblk h) ∧ wr2.heap[w.heap.size + 1]? = some zb8 ∧ wr2.heap[w.heap.size + 1 + 1]? = some (wblk f k) ∧ Below w.heap.size w wr2)
      case atStart => exact ⟨16, rfl, by omega, by omega, rfl, K0.out, K1.out, K2.out, B⟩
      case round =>
        clear K0 K1 K2 B
        obtain ⟨k, hg, hk0, hk, rfl, hr0, hr1, hr2, B⟩ := hrel
        have HG := Lib.hid hg; have K0 := Lib.hid hr0; have K1 := Lib.hid hr1; have K2 := Lib.hid hr2
        clear hg hr0 hr1 hr2
        by_cases hlt : k < 64
        · obtain ⟨x, hx⟩ := wblk_there K2.out k hlt
          have hfz : ∀ j, wr.frozen? ⟨w.heap.size + 1 + 1, j, none⟩ = false := fun j => frozen_of_row _ _ _ _ _ K2.out
          obtain ⟨k15, h15⟩ : ∃ k15, k15 = k - 15 := ⟨_, rfl⟩
          obtain ⟨k2, h2⟩ : ∃ k2, k2 = k - 2 := ⟨_, rfl⟩
          obtain ⟨k16, h16⟩ : ∃ k16, k16 = k - 16 := ⟨_, rfl⟩
          obtain ⟨k7, h7⟩ : ∃ k7, k7 = k - 7 := ⟨_, rfl⟩
          have e15 : (k : Int) - 15 = (k15 : Int) := by omega
          have e2 : (k : Int) - 2 = (k2 : Int) := by omega
          have e16 : (k : Int) - 16 = (k16 : Int) := by omega
          have e7 : (k : Int) - 7 = (k7 : Int) := by omega
          have c15 := wblk_cell K2.out k15 (by omega) hk
          have c2 := wblk_cell K2.out k2 (by omega) hk
          have c16 := wblk_cell K2.out k16 (by omega) hk
          have c7 := wblk_cell K2.out k7 (by omega) hk
          have l15 : k15 < 64 := by omega
          have l2 : k2 < 64 := by omega
          have l16 : k16 < 64 := by omega
          have l7 : k7 < 64 := by omega
          have HE : Hid (f k = add32 (add32 (add32 (f k16) (sg0 (f k15))) (f k7)) (sg1 (f k2))) := Lib.hid (by rw [HF.out, wj_high k hk0 hlt, h15, h2, h16, h7])
          have D := Lib.hid ((⟨h15, h2, h16, h7⟩ : k15 = k - 15 ∧ k2 = k - 2 ∧ k16 = k - 16 ∧ k7 = k - 7))
          clear h15 h2 h16 h7
          have L1 := HL.out k15
          have L2 := HL.out k2
          have hs0 := sg0_bits L1
          have hs1 := sg1_bits L2
          have R7 := Lib.hid fun w => rot_any (f k15) 7 L1 (by omega) (by omega) w
          have R18 := Lib.hid fun w => rot_any (f k15) 18 L1 (by omega) (by omega) w
          have R17 := Lib.hid fun w => rot_any (f k2) 17 L2 (by omega) (by omega) w
          have R19 := Lib.hid fun w => rot_any (f k2) 19 L2 (by omega) (by omega) w
          have HE' : ((f k16 : Nat) + (sg0 (f k15) : Nat) + (f k7 : Nat) + (sg1 (f k2) : Nat)) % 4294967296 = ((f k : Nat) : Int) := by
            rw [HE.out]; unfold add32; omega
          clear L1 L2 ew ez eh HE
          go_wp2_with fail
          go_region
          all_goals
            go_wp2_with fail
            refine (R7.out _).mono ?_
            rintro e w1 ⟨rfl, rfl⟩
            go_wp2_with fail
            refine (R18.out _).mono ?_
            rintro e w1 ⟨rfl, rfl⟩
            go_wp2_with fail
            refine (R17.out _).mono ?_
            rintro e w1 ⟨rfl, rfl⟩
            go_wp2_with fail
            refine (R19.out _).mono ?_
            rintro e w1 ⟨rfl, rfl⟩
            go_wp2_with fail
            go_region
            all_goals
              go_wp2_with fail
              go_roundg (64 - (k + 1))
              case measure => have := HG.out; omega
              case rel => exact ⟨k + 1, rfl, by omega, by omega, by go_num, (heap_setCell_other _ _ _ _ (show w.heap.size ≠ w.heap.size + 1 + 1 by omega)).trans K0.out, (heap_setCell_other _ _ _ _ (show w.heap.size + 1 ≠ w.heap.size + 1 + 1 by omega)).trans K1.out, wblk_step (by omega) K2.out, (by repeat' (first | (with_reducible exact Below.refl _ _) | (with_reducible assumption) | (with_reducible refine below_alloc ?_ _) | (with_reducible refine Below.drew ?_) | (with_reducible refine below_drewN ?_ _) | (with_reducible refine Below.setCell ?_ ?_ _) | go_size))⟩
        · obtain rfl : k = 64 := by omega
          clear hlt HG ew ez
          have H8l : h.length = 8 := HH.out.1
          have HZ : ∀ (wx : World), (wx.alloc (hblk zb8l)).heap[wx.heap.size]? = some (hblk zb8l) := fun wx => heap_new wx _
          have ez : Obj.cells #[.int .u32 0, .int .u32 0, .int .u32 0, .int .u32 0, .int .u32 0, .int .u32 0, .int .u32 0, .int .u32 0] 167 (0, 0) = hblk zb8l := rfl
          go_wp2_with (first | refine wpList_load_h rfl (.tmp 2) rfl w.heap.size h rfl H8l K0.out ?_ | refine wpList_store_h rfl (.tmp 12) (.tmp 74) rfl wr.heap.size zb8l h rfl rfl rfl H8l (heap_new wr _) (fun w1 h1 h2 h3 h4 => ?_))
          have hsz : w.heap.size + 3 ≤ wr.heap.size := by have := block_lt K2.out; omega
          have B1 := h4 w.heap.size w (by omega) (below_alloc B (hblk zb8l))
          have K3 := Lib.hid h1
          have K0' := Lib.hid ((h2 _ (by omega)).trans (keep_alloc _ K0.out))
          have K1' := Lib.hid ((h2 _ (by omega)).trans (keep_alloc _ K1.out))
          have K2' := Lib.hid ((h2 _ (by omega)).trans (keep_alloc _ K2.out))
          clear h1 h2 h3 h4 HZ ez eh
          obtain ⟨gv, hgv⟩ : ∃ gv, gv = wr.heap.size := ⟨_, rfl⟩
          rw [← hgv] at K3 hsz
          rw [← hgv]
          clear hgv K0 K1 K2 B
          go_wp2_with fail
          go_loopg [75] 64 (fun g ix wr => ∃ k : Nat, g = 64 - k ∧ k ≤ 64 ∧ ix = .int .i64 k ∧ wr.heap[w.heap.size]? = some (hblk h) ∧ wr.heap[w.heap.size + 1]? = some zb8 ∧ wr.heap[w.heap.size + 1 + 1]? = some (wblk f 64) ∧ wr.heap[gv]? = some (hblk (rds f h k)) ∧ Below w.heap.size w wr)
          case atStart => exact ⟨0, rfl, by omega, rfl, K0'.out, K1'.out, K2'.out, K3.out, B1⟩
          case round =>
            clear K0' K1' K2' K3 B1
            obtain ⟨k, hg, hk, rfl, hr0, hr1, hr2, hr3, B⟩ := hrel
            have HG := Lib.hid hg; have K0 := Lib.hid hr0; have K1 := Lib.hid hr1; have K2 := Lib.hid hr2; have K3 := Lib.hid hr3
            clear hg hr0 hr1 hr2 hr3
            by_cases hlt : k < 64
            · obtain ⟨va, vb, vc, vd, ve, vf, vg, vi, hv8, ha, hbb, hc, hd, he, hff, hgg, hi⟩ := (H8.rds f HH.out k).eight
              have HV := Lib.hid hv8
              rw [hv8] at K3
              clear hv8
              have fz := fun j => hblk_frozen K3.out j
              have c0 : wr.cell? ⟨gv, 0, none⟩ = some (.int .u32 va) := hblk_cell K3.out 0 (by simp)
              have c1 : wr.cell? ⟨gv, 1, none⟩ = some (.int .u32 vb) := hblk_cell K3.out 1 (by simp)
              have c2 : wr.cell? ⟨gv, 2, none⟩ = some (.int .u32 vc) := hblk_cell K3.out 2 (by simp)
              have c3 : wr.cell? ⟨gv, 3, none⟩ = some (.int .u32 vd) := hblk_cell K3.out 3 (by simp)
              have c4 : wr.cell? ⟨gv, 4, none⟩ = some (.int .u32 ve) := hblk_cell K3.out 4 (by simp)
              have c5 : wr.cell? ⟨gv, 5, none⟩ = some (.int .u32 vf) := hblk_cell K3.out 5 (by simp)
              have c6 : wr.cell? ⟨gv, 6, none⟩ = some (.int .u32 vg) := hblk_cell K3.out 6 (by simp)
              have c7 : wr.cell? ⟨gv, 7, none⟩ = some (.int .u32 vi) := hblk_cell K3.out 7 (by simp)
              have cw := wblk_cell K2.out k hlt (by omega)
              have r5 := cell_regrown (w := wr.drew) c5; have r6 := cell_regrown (w := wr.drew) c6; have r7 := cell_regrown (w := wr.drew) c7; have rw := cell_regrown (w := wr.drew) cw
              have hS1 := bs1_bits he
              have hS0 := bs0_bits ha
              obtain ⟨kk, hkk⟩ : ∃ kk, kk = ks.getD k 0 := ⟨_, rfl⟩
              have hT := Lib.hid (rt_bits (k := kk) (w := f k) (h := vi) he hff hgg)
              have hMj := maj_bits ha hbb hc
              have R6 := Lib.hid fun w => rot_any ve 6 he (by omega) (by omega) w
              have R11 := Lib.hid fun w => rot_any ve 11 he (by omega) (by omega) w
              have R25 := Lib.hid fun w => rot_any ve 25 he (by omega) (by omega) w
              have R2 := Lib.hid fun w => rot_any va 2 ha (by omega) (by omega) w
              have R13 := Lib.hid fun w => rot_any va 13 ha (by omega) (by omega) w
              have R22 := Lib.hid fun w => rot_any va 22 ha (by omega) (by omega) w
              have HK := Lib.hid fun w => rkword_any k hlt w
              rw [← hkk] at HK
              have HKK := Lib.hid hkk
              clear hkk
              clear ha hbb hc hd he hff hgg hi
              go_wp2_with fail
              go_region
              all_goals
                go_wp2_with fail
                refine (R6.out _).mono ?_
                rintro e w1 ⟨rfl, rfl⟩
                go_wp2_with fail
                refine (R11.out _).mono ?_
                rintro e w1 ⟨rfl, rfl⟩
                go_wp2_with fail
                refine (R25.out _).mono ?_
                rintro e w1 ⟨rfl, rfl⟩
                go_wp2_with fail
                refine wp_region_quiet_below (by kernel_rfl) (by kernel_rfl) ?_
                repeat (go_big_quiet_step ((go_at_call 127; exact Calls.regrown_of (HK.out _))))
                refine wpQuiet_nil ?_
                intro w2 hw2
                have hb2 := below_of_regrown hw2
                rw [hT.out]
                have hb3 : Below wr.heap.size wr w2 := below_next (w := wr) (by repeat' (first | (with_reducible exact Below.refl _ _) | (with_reducible assumption) | (with_reducible refine below_alloc ?_ _) | (with_reducible refine Below.drew ?_) | (with_reducible refine below_drewN ?_ _) | (with_reducible refine Below.setCell ?_ ?_ _) | go_size)) hb2
                have K0' := Lib.hid (below_keep hb3 K0.out); have K1' := Lib.hid (below_keep hb3 K1.out); have K2' := Lib.hid (below_keep hb3 K2.out); have K3' := Lib.hid (below_keep hb3 K3.out)
                have B2 := below_next B hb3
                clear hw2 hb2 hb3 B K0 K1 K2 K3 c0 c1 c2 c3 c4 c5 c6 c7 cw r5 r6 r7 rw fz hT HK R6 R11 R25 hS1
                obtain ⟨tt, htt⟩ : ∃ tt, tt = rt kk (f k) ve vf vg vi := ⟨_, rfl⟩
                rw [← htt]
                have HTT := Lib.hid htt
                clear htt
                have fz := fun j => hblk_frozen K3'.out j
                have c0 : w2.cell? ⟨gv, 0, none⟩ = some (.int .u32 va) := hblk_cell K3'.out 0 (by simp)
                have c1 : w2.cell? ⟨gv, 1, none⟩ = some (.int .u32 vb) := hblk_cell K3'.out 1 (by simp)
                have c2 : w2.cell? ⟨gv, 2, none⟩ = some (.int .u32 vc) := hblk_cell K3'.out 2 (by simp)
                have c3 : w2.cell? ⟨gv, 3, none⟩ = some (.int .u32 vd) := hblk_cell K3'.out 3 (by simp)
                have c4 : w2.cell? ⟨gv, 4, none⟩ = some (.int .u32 ve) := hblk_cell K3'.out 4 (by simp)
                have c5 : w2.cell? ⟨gv, 5, none⟩ = some (.int .u32 vf) := hblk_cell K3'.out 5 (by simp)
                have c6 : w2.cell? ⟨gv, 6, none⟩ = some (.int .u32 vg) := hblk_cell K3'.out 6 (by simp)
                have hA : ((tt : Int) + (bs0 va : Nat) + (maj va vb vc : Nat)) % 4294967296 = ((add32 (add32 tt (bs0 va)) (maj va vb vc) : Nat) : Int) := by unfold add32; omega
                have hD : ((vd : Int) + (tt : Nat)) % 4294967296 = ((add32 vd tt : Nat) : Int) := by unfold add32; omega
                go_wp2_with fail
                refine (R2.out _).mono ?_
                rintro e w1 ⟨rfl, rfl⟩
                go_wp2_with fail
                refine (R13.out _).mono ?_
                rintro e w1 ⟨rfl, rfl⟩
                go_wp2_with fail
                refine (R22.out _).mono ?_
                rintro e w1 ⟨rfl, rfl⟩
                go_wp2_with (first | refine wpList_store_h rfl (.tmp 12) (.tmp 157) rfl gv [va, vb, vc, vd, ve, vf, vg, vi] [add32 (add32 tt (bs0 va)) (maj va vb vc), va, vb, vc, add32 vd tt, ve, vf, vg] rfl rfl rfl rfl K3'.out (fun w3 h1 h2 h3 h4 => ?_))
                have B3 := h4 w.heap.size w (by omega) B2
                go_roundg (64 - (k + 1))
                case measure => have := HG.out; omega
                case rel => exact ⟨k + 1, rfl, by omega, by go_num, (h2 _ (by omega)).trans K0'.out, (h2 _ (by omega)).trans K1'.out, (h2 _ (by omega)).trans K2'.out, by rw [h1, rds, HV.out, rnd1, ← HKK.out, ← HTT.out], B3⟩
            · obtain rfl : k = 64 := by omega
              clear hlt HG
              obtain ⟨v, hv⟩ : ∃ v, v = rds f h 64 := ⟨_, rfl⟩
              have HV : Hid (H8 v) := Lib.hid (by rw [hv]; exact H8.rds f HH.out 64)
              rw [← hv] at K3
              have HVV := Lib.hid hv
              clear hv K2
              go_wp2_with fail
              go_loopg [159] 8 (fun g ix wr => ∃ k : Nat, g = 8 - k ∧ k ≤ 8 ∧ ix = .int .i64 k ∧ wr.heap[w.heap.size]? = some (hblk (mixl h v k)) ∧ wr.heap[w.heap.size + 1]? = some zb8 ∧ wr.heap[gv]? = some (hblk v) ∧ Below w.heap.size w wr)
              case atStart => exact ⟨0, rfl, by omega, rfl, by rw [mixl_zero HH.out]; exact K0.out, K1.out, K3.out, B⟩
              case round =>
                clear K0 K1 K3 B
                obtain ⟨k, hg, hk, rfl, hr0, hr1, hr3, B⟩ := hrel
                have HG := Lib.hid hg; have K0 := Lib.hid hr0; have K1 := Lib.hid hr1; have K3 := Lib.hid hr3
                clear hg hr0 hr1 hr3
                by_cases hlt : k < 8
                · have c0 := hblk_cell K0.out k (by rw [mixl_len]; exact hlt)
                  rw [mixl_get h v k k hlt (Nat.le_refl _)] at c0
                  have c1 := hblk_cell K3.out k (by rw [HV.out.1]; exact hlt)
                  have f0 := fun j => hblk_frozen K0.out j
                  have f1 := fun j => hblk_frozen K3.out j
                  have hset := Lib.hid (mixl_set (v := v) hlt K0.out)
                  obtain ⟨x, hx⟩ : ∃ x, x = h.getD k 0 := ⟨_, rfl⟩
                  obtain ⟨y, hy⟩ : ∃ y, y = v.getD k 0 := ⟨_, rfl⟩
                  rw [← hx] at c0 hset
                  rw [← hy] at c1 hset
                  clear hx hy
                  have hA : ((x : Int) + (y : Nat)) % 4294967296 = ((add32 x y : Nat) : Int) := by unfold add32; omega
                  have hne : ¬ gv = w.heap.size := by omega
                  have hne2 : ¬ w.heap.size = gv := by omega
                  go_wp2_with fail
                  go_region
                  all_goals
                    go_wp2_with fail
                    go_roundg (8 - (k + 1))
                    case measure => have := HG.out; omega
                    case rel => exact ⟨k + 1, rfl, by omega, by go_num, hset.out, (heap_setCell_other _ _ _ _ (show w.heap.size + 1 ≠ w.heap.size by omega)).trans K1.out, (heap_setCell_other _ _ _ _ (show gv ≠ w.heap.size by omega)).trans K3.out, (by repeat' (first | (with_reducible exact Below.refl _ _) | (with_reducible assumption) | (with_reducible refine below_alloc ?_ _) | (with_reducible refine Below.drew ?_) | (with_reducible refine below_drewN ?_ _) | (with_reducible refine Below.setCell ?_ ?_ _) | go_size))⟩
                · obtain rfl : k = 8 := by omega
                  have he : mixl h v 8 = gon (mw b) h := by
                    rw [mixl_all HH.out HV.out, HVV.out, HF.out]; rfl
                  rw [he] at K0
                  have hl : (gon (mw b) h).length = 8 := (H8.gon HH.out).1
                  clear hlt HG he
                  go_wp2_with (first | refine wpList_load_h rfl (.tmp 2) rfl w.heap.size (gon (mw b) h) rfl hl K0.out ?_ | refine wpList_store_h rfl (.tmp 4) (.tmp 171) rfl (w.heap.size + 1) zb8l (gon (mw b) h) rfl rfl rfl hl K1.out (fun w3 h1 h2 h3 h4 => ?_))
                  have hlv := loadVar_h hl h1
                  exact bodyPost_ret (v := hv (gon (mw b) h)) (by simp [results, Try.results98, Act.put, asAddr, hlv]) rfl ⟨rfl, h4 _ _ (by omega) B⟩
end Go.Proofs.Ytnbppbnjkmopeaa
