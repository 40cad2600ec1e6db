/- head.get4; head.Read. No condition. -/
import Derived.Test.YtnbppbnjkmopeaaHd1
import Derived.Test.YtnbppbnjkmopeaaMk1
import Derived.Deep.QuietTactic
import Derived.BigQuiet
namespace Go.Proofs.Ytnbppbnjkmopeaa
open Go.RowKit

/-- four bytes as a number, the lowest first -/
def g4 (l : List Nat) (i : Nat) : Nat := l.getD i 0 + l.getD (i + 1) 0 * 256 + l.getD (i + 2) 0 * 65536 + l.getD (i + 3) 0 * 16777216
theorem gd_fin (a b c d : Nat) (ha : a < 256) (hb : b < 256) (hc : c < 256) (hd : d < 256) :
    bits .or .u32 (bits .or .u32 (bits .or .u32 (a : Int) ((b : Int) * 256)) ((c : Int) * 65536)) ((d : Int) * 16777216) = ((a + b * 256 + c * 65536 + d * 16777216 : Nat) : Int) := by
  have e2 : (b : Int) * 256 = ((b * 256 : Nat) : Int) := by omega
  have e3 : (c : Int) * 65536 = ((c * 65536 : Nat) : Int) := by omega
  have e4 : (d : Int) * 16777216 = ((d * 16777216 : Nat) : Int) := by omega
  rw [e2, e3, e4, u32_or_nat _ _ (by omega) (by omega), Nat.or_comm, nat_join 8 (b * 256) a (by omega) (by omega), u32_or_nat _ _ (by omega) (by omega), Nat.or_comm, nat_join 16 (c * 65536) (b * 256 + a) (by omega) (by omega),
    u32_or_nat _ _ (by omega) (by omega), Nat.or_comm, nat_join 24 (d * 16777216) _ (by omega) (by omega)]
  congr 1; omega
set_option maxRecDepth 100000 in
set_option maxHeartbeats 1000000 in
theorem get4_any (g o n c y0 y1 y2 y3 : Nat) (hn : 4 ≤ n) (h0 : y0 < 256) (h1 : y1 < 256) (h2 : y2 < 256) (h3 : y3 < 256) (w : World) (c0 : w.cell? ⟨g, o, none⟩ = some (.int .u8 (y0 : Int))) (c1 : w.cell? ⟨g, o + 1, none⟩ = some (.int .u8 (y1 : Int))) (c2 : w.cell? ⟨g, o + 2, none⟩ = some (.int .u8 (y2 : Int))) (c3 : w.cell? ⟨g, o + 3, none⟩ = some (.int .u8 (y3 : Int))) :
    Calls Try.prog 76 #[.slice (some ⟨g, o, none⟩) n c] w fun e w' => e = .returned (.int .u32 ((y0 + y1 * 256 + y2 * 65536 + y3 * 16777216 : Nat) : Int)) ∧ Below w.heap.size w w' := by
  have n0 : 0 < n := by omega
  have n1 : (1 : Int) < (n : Int) := by omega
  have n2 : (2 : Int) < (n : Int) := by omega
  have n3 : (3 : Int) < (n : Int) := by omega
  have n0' : (0 : Int) < (n : Int) := by omega
  go_enter Try.func76, Try.ntmps76
  go_wp2_with fail
  go_quiet (fail)
  go_wp2_with fail
  rw [gd_fin y0 y1 y2 y3 h0 h1 h2 h3]
  go_ret
  exact ⟨rfl, below_drewN (Below.refl _ _) _⟩

/-- bytes as a number, the lowest first -/
def idn : List Nat → Nat
  | [] => 0
  | b :: l => b + 256 * idn l
theorem idn_lt : ∀ (l : List Nat), (∀ y ∈ l, y < 256) → idn l < 256 ^ l.length
  | [], _ => by simp [idn]
  | b :: l, h => by
    have h1 := h b (by simp)
    have h2 := idn_lt l fun y hy => h y (by simp [hy])
    rw [idn, List.length_cons, Nat.pow_succ]; omega
theorem idn_get : ∀ (l : List Nat) (j : Nat), (∀ y ∈ l, y < 256) → j < l.length → idn l / 256 ^ j % 256 = l.getD j 0
  | [], j, _, hj => by simp at hj
  | b :: l, 0, h, _ => by
    have h1 := h b (by simp)
    rw [idn, Nat.pow_zero, Nat.div_one]; simp; omega
  | b :: l, j + 1, h, hj => by
    have h1 := h b (by simp)
    have := idn_get l j (fun y hy => h y (by simp [hy])) (by simpa using hj)
    rw [idn, List.getD_cons_succ, ← this, Nat.pow_succ, Nat.mul_comm (256 ^ j), ← Nat.div_div_eq_div_mul]
    congr 2; omega
theorem idb_idn {l : List Nat} (hl : l.length = 32) (hb : ∀ y ∈ l, y < 256) : idb (idn l) = l := by
  apply List.ext_getElem?
  intro j
  by_cases hj : j < 32
  · have := idn_get l j hb (by omega)
    rw [List.getElem?_eq_getElem (by rw [idb_len]; exact hj), List.getElem?_eq_getElem (by omega)]
    unfold idb
    simp only [List.getElem_map, List.getElem_range]
    rw [Nat.pow_mul, show (2 : Nat) ^ 8 = 256 from rfl, this, List.getD_eq_getElem?_getD, List.getElem?_eq_getElem (by omega)]
    rfl
  · rw [List.getElem?_eq_none (by rw [idb_len]; omega), List.getElem?_eq_none (by omega)]
theorem idn_inj : ∀ (l m : List Nat), l.length = m.length → (∀ y ∈ l, y < 256) → (∀ y ∈ m, y < 256) → idn l = idn m → l = m
  | [], [], _, _, _, _ => rfl
  | [], _ :: _, h, _, _, _ => by simp at h
  | _ :: _, [], h, _, _, _ => by simp at h
  | a :: l, b :: m, h, hl, hm, e => by
    have h1 := hl a (by simp); have h2 := hm b (by simp)
    rw [idn, idn] at e
    have ea : a = b := by omega
    rw [ea, idn_inj l m (by simpa using h) (fun y hy => hl y (by simp [hy])) (fun y hy => hm y (by simp [hy])) (by omega)]
theorem idb_inj {n m : Nat} (hn : n < 2 ^ 256) (hm : m < 2 ^ 256) (h : idb n = idb m) : n = m := by
  have key : ∀ x : Nat, x < 2 ^ 256 → ∀ k, k ≤ 32 → idn ((idb x).take k) = x % 256 ^ k := by
    intro x hx k
    induction k with
    | zero => intro _; simp [idn, Nat.mod_one]
    | succ k ih =>
      intro hk
      have e : (idb x).take (k + 1) = (idb x).take k ++ [x / 256 ^ k % 256] := by
        rw [List.take_add_one, List.getElem?_eq_getElem (by rw [idb_len]; omega)]
        unfold idb
        simp only [List.getElem_map, List.getElem_range, Nat.pow_mul]
        rfl
      have app : ∀ (l : List Nat) (b : Nat), idn (l ++ [b]) = idn l + 256 ^ l.length * b := by
        intro l b
        induction l with
        | nil => simp [idn]
        | cons a l ih2 => rw [List.cons_append, idn, idn, ih2, List.length_cons, Nat.pow_succ, Nat.mul_add, ← Nat.mul_assoc, Nat.mul_comm 256 (256 ^ l.length)]; omega
      rw [e, app, ih (by omega), List.length_take, idb_len, Nat.min_eq_left (by omega), Nat.pow_succ, Nat.mod_mul]
  have h1 := key n hn 32 (Nat.le_refl _)
  have h2 := key m hm 32 (Nat.le_refl _)
  rw [h] at h1
  rw [show (256 : Nat) ^ 32 = 2 ^ 256 from rfl, Nat.mod_eq_of_lt hn] at h1
  rw [show (256 : Nat) ^ 32 = 2 ^ 256 from rfl, Nat.mod_eq_of_lt hm] at h2
  omega
theorem idn_idb {n : Nat} (hn : n < 2 ^ 256) : idn (idb n) = n := by
  have h := idb_idn (idb_len n) (idb_byte n)
  have hl := idn_lt (idb n) (idb_byte n)
  rw [idb_len, show (256 : Nat) ^ 32 = 2 ^ 256 from rfl] at hl
  exact idb_inj hl hn h
/-- the header that bytes are -/
def hdof (l : List Nat) : Hd := ⟨g4 l 0, idn ((l.drop 4).take 32), idn ((l.drop 36).take 32), g4 l 68, g4 l 72, g4 l 76⟩
def hd0 : Hd := ⟨0, 0, 0, 0, 0, 0⟩

set_option maxRecDepth 100000 in
set_option maxHeartbeats 4000000 in
theorem read_no (x : Option Addr) (n c : Nat) (hn : n ≠ 80) (w : World) :
    Calls Try.prog 21 #[.slice x n c] w fun e w' => e = .returned (.tuple #[hdv hd0, .int .i64 6]) ∧ Below w.heap.size w w' := by
  have hn' : ¬ (n : Int) = 80 := by omega
  have B : Below w.heap.size w w := Below.refl _ _
  go_enter Try.func21, Try.ntmps21
  have ez := hdz
  go_wp2_with (first | refine wpList_store_hd rfl (.tmp 2) (.tmp 7) rfl w.heap.size hd0 hd0 rfl rfl (heap_new w _) (fun w3 h1 h2 h3 h4 => ?_))
  have hl := loadVar_hd h1
  exact bodyPost_ret (v := .tuple #[hdv hd0, .int .i64 6]) (by simp [results, Try.results21, asAddr, hl]) rfl ⟨rfl, h4 _ _ (Nat.le_refl _) (below_alloc B _)⟩

theorem getD_drop_take (l : List Nat) (a n j : Nat) (hj : j < n) : ((l.drop a).take n).getD j 0 = l.getD (a + j) 0 := by
  simp [List.getD_eq_getElem?_getD, hj, List.getElem?_drop]
theorem range_of_bytes {w : World} {g o : Nat} {l : List Nat} (hl : l.length = 32) (hb : ∀ y ∈ l, y < 256) (hc : ∀ j, j < 32 → w.cell? ⟨g, o + j, none⟩ = some (.int .u8 (l.getD j 0 : Nat))) : w.rangeAt g o (ids (idn l)) := fun j v hv => by
  have hj : j < 32 := by
    have := (List.getElem?_eq_some_iff.1 hv).1
    rwa [ids_len] at this
  rw [ids_get _ j hj] at hv
  rw [hc j hj, ← hv, ← idb_get _ j hj, idb_idn hl hb]
set_option maxRecDepth 100000 in
set_option maxHeartbeats 4000000 in
theorem read_yes (g o c : Nat) (l : List Nat) (hl : l.length = 80) (hb : ∀ y ∈ l, y < 256) (hc : 80 ≤ c) (hc2 : c ≤ 9223372036854775807) (w : World) (hcell : ∀ j, j < 80 → w.cell? ⟨g, o + j, none⟩ = some (.int .u8 (l.getD j 0 : Nat))) :
    Calls Try.prog 21 #[.slice (some ⟨g, o, none⟩) 80 c] w fun e w' => e = .returned (.tuple #[hdv (hdof l), .int .i64 0]) ∧ Below w.heap.size w w' := by
  have B : Below w.heap.size w w := Below.refl _ _
  have ez := hdz
  have HL := Lib.hid hl; have HB := Lib.hid hb; have HC := Lib.hid hcell
  obtain ⟨R, hR⟩ : ∃ R, R = hdof l := ⟨_, rfl⟩
  rw [← hR]
  have HR := Lib.hid hR
  clear hl hb hcell hR
  go_enter Try.func21, Try.ntmps21
  go_wp2_with fail
  obtain ⟨W, hW⟩ : ∃ W, W = w.alloc (hdblk hd0) := ⟨_, rfl⟩
  have HW0 : Hid (W.heap[w.heap.size]? = some (hdblk hd0)) := Lib.hid (by rw [hW]; exact heap_new w _)
  have HWB : Hid (Below w.heap.size w W) := Lib.hid (by rw [hW]; exact (by repeat' (first | (with_reducible exact Below.refl _ _) | (with_reducible assumption) | (with_reducible refine below_alloc ?_ _) | (with_reducible refine Below.drew ?_) | (with_reducible refine below_drewN ?_ _) | (with_reducible refine Below.setCell ?_ ?_ _) | go_size)))
  have HWZ : Hid (w.heap.size < W.heap.size) := Lib.hid (by rw [hW]; simp)
  have e0 : w.alloc (.cells (hdcs ⟨0, 0, 0, 0, 0, 0⟩).toArray 26) = W := hW.symm
  rw [e0]
  clear hW e0 B ez
  have HCW := Lib.hid fun (V : World) (hb : Below W.heap.size W V) j (hj : j < 80) => ((HWB.out.trans (hb.mono HWB.out.size)).cell (p := ⟨g, o + j, none⟩) (block_lt_of_cell (HC.out j hj))).trans (HC.out j hj)
  have HY : Hid (∀ j, l.getD j 0 < 256) := Lib.hid fun j => by
    rw [List.getD_eq_getElem?_getD]
    rcases e : l[j]? with _ | y
    · simp
    · exact HB.out y (List.mem_of_getElem? e)
  have cg := Lib.hid fun (i n cc : Nat) (hi : i + 4 ≤ 80) (hn : 4 ≤ n) (V : World) (hb : Below W.heap.size W V) => get4_any g (o + i) n cc (l.getD i 0) (l.getD (i + 1) 0) (l.getD (i + 2) 0) (l.getD (i + 3) 0) hn (HY.out _) (HY.out _) (HY.out _) (HY.out _) V (HCW.out V hb i (by omega)) (HCW.out V hb (i + 1) (by omega)) (HCW.out V hb (i + 2) (by omega)) (HCW.out V hb (i + 3) (by omega))
  have cr := Lib.hid fun (i : Nat) (hi : i + 32 ≤ 80) (V : World) (hb : Below W.heap.size W V) => range_of_bytes (w := V) (g := g) (o := o + i) (l := (l.drop i).take 32) (by rw [List.length_take, List.length_drop, HL.out]; omega) (fun y hy => HB.out y (List.mem_of_mem_drop (List.mem_of_mem_take hy))) (fun j hj => by rw [getD_drop_take _ _ _ _ hj, Nat.add_assoc]; exact HCW.out V hb (i + j) (by omega))
  clear HC
  have h4c : (4 : Int) ≤ (c : Int) := by omega
  have h36c : (36 : Int) ≤ (c : Int) := by omega
  have h68c : (68 : Int) ≤ (c : Int) := by omega
  obtain ⟨x0, hx0⟩ : ∃ x, x = g4 l 0 := ⟨_, rfl⟩
  obtain ⟨x1, hx1⟩ : ∃ x, x = idn ((l.drop 4).take 32) := ⟨_, rfl⟩
  obtain ⟨x2, hx2⟩ : ∃ x, x = idn ((l.drop 36).take 32) := ⟨_, rfl⟩
  obtain ⟨x3, hx3⟩ : ∃ x, x = g4 l 68 := ⟨_, rfl⟩
  obtain ⟨x4, hx4⟩ : ∃ x, x = g4 l 72 := ⟨_, rfl⟩
  obtain ⟨x5, hx5⟩ : ∃ x, x = g4 l 76 := ⟨_, rfl⟩
  have HXX : Hid (hdof l = ⟨x0, x1, x2, x3, x4, x5⟩) := Lib.hid (by rw [hx0, hx1, hx2, hx3, hx4, hx5]; rfl)
  have k0 := Lib.hid (cg.out 0 80 c (by omega) (by omega))
  have k3 := Lib.hid (cg.out 68 12 (c - 68) (by omega) (by omega))
  have k4 := Lib.hid (cg.out 72 8 (c - 72) (by omega) (by omega))
  have k5 := Lib.hid (cg.out 76 4 (c - 76) (by omega) (by omega))
  have r1 := Lib.hid (cr.out 4 (by omega))
  have r2 := Lib.hid (cr.out 36 (by omega))
  rw [show l.getD 0 0 + l.getD (0 + 1) 0 * 256 + l.getD (0 + 2) 0 * 65536 + l.getD (0 + 3) 0 * 16777216 = x0 from hx0.symm, Nat.add_zero] at k0
  rw [show l.getD 68 0 + l.getD (68 + 1) 0 * 256 + l.getD (68 + 2) 0 * 65536 + l.getD (68 + 3) 0 * 16777216 = x3 from hx3.symm] at k3
  rw [show l.getD 72 0 + l.getD (72 + 1) 0 * 256 + l.getD (72 + 2) 0 * 65536 + l.getD (72 + 3) 0 * 16777216 = x4 from hx4.symm] at k4
  rw [show l.getD 76 0 + l.getD (76 + 1) 0 * 256 + l.getD (76 + 2) 0 * 65536 + l.getD (76 + 3) 0 * 16777216 = x5 from hx5.symm] at k5
  rw [← hx1] at r1
  rw [← hx2] at r2
  rw [← HR.out] at HXX
  clear hx0 hx1 hx2 hx3 hx4 hx5 cg cr HY HCW
  refine wp_region_tail 20 [Is (.slice (some ⟨g, o, none⟩) 80 c), Is (.int .u32 (x0 : Int)), Is (.slice (some ⟨g, o, none⟩) 80 c), Is (.slice (some ⟨g, o + 4, none⟩) 32 (c - 4)), Is (.pointer (some ⟨g, o + 4, none⟩)), Is (iv x1), Is (.slice (some ⟨g, o, none⟩) 80 c), Is (.slice (some ⟨g, o + 36, none⟩) 32 (c - 36)), Is (.pointer (some ⟨g, o + 36, none⟩)), Is (iv x2), Is (.slice (some ⟨g, o, none⟩) 80 c), Is (.slice (some ⟨g, o + 68, none⟩) 12 (c - 68)), Is (.int .u32 (x3 : Int)), Is (.slice (some ⟨g, o, none⟩) 80 c), Is (.slice (some ⟨g, o + 72, none⟩) 8 (c - 72)), Is (.int .u32 (x4 : Int)), Is (.slice (some ⟨g, o, none⟩) 80 c), Is (.slice (some ⟨g, o + 76, none⟩) 4 (c - 76)), Is (.int .u32 (x5 : Int)), Is (hdv ⟨x0, x1, x2, x3, x4, x5⟩)] [[], [(0, some 8)], [], [(2, some 10)], [(3, some 11)], [(4, some 12)], [], [(6, some 14)], [(7, some 15)], [(8, some 16)], [], [(10, some 18)], [(11, some 19)], [], [(13, some 21)], [(14, some 22)], [], [(16, some 24)], [(17, some 25)], [(1, some 9), (5, some 13), (9, some 17), (12, some 20), (15, some 23), (18, some 26)], [(19, some 27)], []] [(0, some 8), (1, some 9), (2, some 10), (3, some 11), (4, some 12), (5, some 13), (6, some 14), (7, some 15), (8, some 16), (9, some 17), (10, some 18), (11, some 19), (12, some 20), (13, some 21), (14, some 22), (15, some 23), (16, some 24), (17, some 25), (18, some 26), (19, some 27)] [0, 1, 0, 4, 12, 28, 0, 64, 192, 448, 0, 1024, 3075, 0, 8192, 31747, 0, 65536, 261123, 524287, 1048575, 2097151]
    (by kernel_rfl) (by kernel_rfl) (by kernel_rfl) (by kernel_rfl) (by kernel_rfl) ⟨Is.kept _, Is.kept _, Is.kept _, Is.kept _, Is.kept _, Is.kept _, Is.kept _, Is.kept _, Is.kept _, Is.kept _, Is.kept _, Is.kept _, Is.kept _, Is.kept _, Is.kept _, Is.kept _, Is.kept _, Is.kept _, Is.kept _, Is.kept _, trivial⟩ ⟨?_, ?_, ?_, ?_, ?_, ?_, ?_, ?_, ?_, ?_, ?_, ?_, ?_, ?_, ?_, ?_, ?_, ?_, ?_, ?_, trivial⟩ ?_
  · as_aux_lemma =>
    refine fun w' hB => ?_
    show wpList _ _ _ _ _ _
    go_wp2_with fail
    exact ⟨.slice (some ⟨g, o, none⟩) 80 c, by first | rfl | (go_simp; done), rfl, Below.refl _ _⟩
  · as_aux_lemma =>
    refine fun w' hB v0 h0 => ?_
    obtain rfl := h0
    show wpList _ _ _ _ _ _
    go_wp2_with fail
    refine (k0.out _ hB).mono ?_
    rintro e w2 ⟨rfl, hb2⟩
    go_wp2_with fail
    exact ⟨.int .u32 (x0 : Int), by first | rfl | (go_simp; done), rfl, hb2⟩
  · as_aux_lemma =>
    refine fun w' hB => ?_
    show wpList _ _ _ _ _ _
    go_wp2_with fail
    exact ⟨.slice (some ⟨g, o, none⟩) 80 c, by first | rfl | (go_simp; done), rfl, Below.refl _ _⟩
  · as_aux_lemma =>
    refine fun w' hB v2 h2 => ?_
    obtain rfl := h2
    show wpList _ _ _ _ _ _
    go_wp2_with fail
    exact ⟨.slice (some ⟨g, o + 4, none⟩) 32 (c - 4), by first | rfl | (go_simp; done), rfl, Below.refl _ _⟩
  · as_aux_lemma =>
    refine fun w' hB v3 h3 => ?_
    obtain rfl := h3
    show wpList _ _ _ _ _ _
    go_wp2_with (first | refine wpList_arrp rfl (.tmp 11) rfl g (o + 4) 32 (c - 4) rfl (by omega) ?_)
    exact ⟨_, rfl, rfl, Below.refl _ _⟩
  · as_aux_lemma =>
    refine fun w' hB v4 h4 => ?_
    obtain rfl := h4
    show wpList _ _ _ _ _ _
    go_wp2_with (first | refine wpList_load_at rfl (.tmp 12) rfl g (o + 4) x1 rfl (r1.out w' hB) ?_)
    exact ⟨iv x1, rfl, rfl, Below.refl _ _⟩
  · as_aux_lemma =>
    refine fun w' hB => ?_
    show wpList _ _ _ _ _ _
    go_wp2_with fail
    exact ⟨.slice (some ⟨g, o, none⟩) 80 c, by first | rfl | (go_simp; done), rfl, Below.refl _ _⟩
  · as_aux_lemma =>
    refine fun w' hB v6 h6 => ?_
    obtain rfl := h6
    show wpList _ _ _ _ _ _
    go_wp2_with fail
    exact ⟨.slice (some ⟨g, o + 36, none⟩) 32 (c - 36), by first | rfl | (go_simp; done), rfl, Below.refl _ _⟩
  · as_aux_lemma =>
    refine fun w' hB v7 h7 => ?_
    obtain rfl := h7
    show wpList _ _ _ _ _ _
    go_wp2_with (first | refine wpList_arrp rfl (.tmp 15) rfl g (o + 36) 32 (c - 36) rfl (by omega) ?_)
    exact ⟨_, rfl, rfl, Below.refl _ _⟩
  · as_aux_lemma =>
    refine fun w' hB v8 h8 => ?_
    obtain rfl := h8
    show wpList _ _ _ _ _ _
    go_wp2_with (first | refine wpList_load_at rfl (.tmp 16) rfl g (o + 36) x2 rfl (r2.out w' hB) ?_)
    exact ⟨iv x2, rfl, rfl, Below.refl _ _⟩
  · as_aux_lemma =>
    refine fun w' hB => ?_
    show wpList _ _ _ _ _ _
    go_wp2_with fail
    exact ⟨.slice (some ⟨g, o, none⟩) 80 c, by first | rfl | (go_simp; done), rfl, Below.refl _ _⟩
  · as_aux_lemma =>
    refine fun w' hB v10 h10 => ?_
    obtain rfl := h10
    show wpList _ _ _ _ _ _
    go_wp2_with fail
    exact ⟨.slice (some ⟨g, o + 68, none⟩) 12 (c - 68), by first | rfl | (go_simp; done), rfl, Below.refl _ _⟩
  · as_aux_lemma =>
    refine fun w' hB v11 h11 => ?_
    obtain rfl := h11
    show wpList _ _ _ _ _ _
    go_wp2_with fail
    refine (k3.out _ hB).mono ?_
    rintro e w2 ⟨rfl, hb2⟩
    go_wp2_with fail
    exact ⟨.int .u32 (x3 : Int), by first | rfl | (go_simp; done), rfl, hb2⟩
  · as_aux_lemma =>
    refine fun w' hB => ?_
    show wpList _ _ _ _ _ _
    go_wp2_with fail
    exact ⟨.slice (some ⟨g, o, none⟩) 80 c, by first | rfl | (go_simp; done), rfl, Below.refl _ _⟩
  · as_aux_lemma =>
    refine fun w' hB v13 h13 => ?_
    obtain rfl := h13
    show wpList _ _ _ _ _ _
    go_wp2_with fail
    exact ⟨.slice (some ⟨g, o + 72, none⟩) 8 (c - 72), by first | rfl | (go_simp; done), rfl, Below.refl _ _⟩
  · as_aux_lemma =>
    refine fun w' hB v14 h14 => ?_
    obtain rfl := h14
    show wpList _ _ _ _ _ _
    go_wp2_with fail
    refine (k4.out _ hB).mono ?_
    rintro e w2 ⟨rfl, hb2⟩
    go_wp2_with fail
    exact ⟨.int .u32 (x4 : Int), by first | rfl | (go_simp; done), rfl, hb2⟩
  · as_aux_lemma =>
    refine fun w' hB => ?_
    show wpList _ _ _ _ _ _
    go_wp2_with fail
    exact ⟨.slice (some ⟨g, o, none⟩) 80 c, by first | rfl | (go_simp; done), rfl, Below.refl _ _⟩
  · as_aux_lemma =>
    refine fun w' hB v16 h16 => ?_
    obtain rfl := h16
    show wpList _ _ _ _ _ _
    go_wp2_with fail
    exact ⟨.slice (some ⟨g, o + 76, none⟩) 4 (c - 76), by first | rfl | (go_simp; done), rfl, Below.refl _ _⟩
  · as_aux_lemma =>
    refine fun w' hB v17 h17 => ?_
    obtain rfl := h17
    show wpList _ _ _ _ _ _
    go_wp2_with fail
    refine (k5.out _ hB).mono ?_
    rintro e w2 ⟨rfl, hb2⟩
    go_wp2_with fail
    exact ⟨.int .u32 (x5 : Int), by first | rfl | (go_simp; done), rfl, hb2⟩
  · as_aux_lemma =>
    refine fun w' hB v1 h1 v5 h5 v9 h9 v12 h12 v15 h15 v18 h18 => ?_
    obtain rfl := h1
    obtain rfl := h5
    obtain rfl := h9
    obtain rfl := h12
    obtain rfl := h15
    obtain rfl := h18
    show wpList _ _ _ _ _ _
    refine wpList_build_hd rfl (.tmp 9) (.tmp 13) (.tmp 17) (.tmp 20) (.tmp 23) (.tmp 26) rfl x0 x1 x2 x3 x4 x5 rfl rfl rfl rfl rfl rfl ?_
    go_wp2_with fail
    exact ⟨_, rfl, rfl, Below.refl _ _⟩
  · refine fun w' hB v0 h0 v1 h1 v2 h2 v3 h3 v4 h4 v5 h5 v6 h6 v7 h7 v8 h8 v9 h9 v10 h10 v11 h11 v12 h12 v13 h13 v14 h14 v15 h15 v16 h16 v17 h17 v18 h18 v19 h19 => ?_
    obtain rfl := h19
    simp only [onP, List.drop_succ_cons, List.drop_zero]
    go_simp
    clear h0 h1 h2 h3 h4 h5 h6 h7 h8 h9 h10 h11 h12 h13 h14 h15 h16 h17 h18
    have K := Lib.hid (block_keep hB HW0.out)
    have BB := Lib.hid (below_next HWB.out hB)
    clear hB
    go_wp2_with (first | refine wpList_store_hd rfl (.tmp 2) (.tmp 27) rfl w.heap.size hd0 ⟨x0, x1, x2, x3, x4, x5⟩ rfl rfl K.out (fun w3 h1 h2 h3 h4 => ?_))
    have hl := loadVar_hd h1
    exact bodyPost_ret (v := .tuple #[hdv ⟨x0, x1, x2, x3, x4, x5⟩, .int .i64 0]) (by simp [results, Try.results21, asAddr, hl]) rfl ⟨by rw [HXX.out], h4 _ _ (Nat.le_refl _) BB.out⟩
end Go.Proofs.Ytnbppbnjkmopeaa
