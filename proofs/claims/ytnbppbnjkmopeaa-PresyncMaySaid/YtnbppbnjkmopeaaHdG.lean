/- law05.reads: a header is written, read and proved. No condition. -/
import Derived.Test.YtnbppbnjkmopeaaHd2
import Derived.Test.YtnbppbnjkmopeaaHd3
import Derived.Laws.StructEq
namespace Go.Proofs.Ytnbppbnjkmopeaa
open Go.RowKit

theorem w4_g4 (n : Nat) (h : n < 4294967296) : n % 256 + n / 256 % 256 * 256 + n / 65536 % 256 * 65536 + n / 16777216 % 256 * 16777216 = n := by omega
theorem hby_at (h : Hd) (i : Nat) : (hby h).getD i 0 = if i < 4 then (w4 h.v).getD i 0 else if i < 36 then (idb h.p).getD (i - 4) 0 else if i < 68 then (idb h.r).getD (i - 36) 0 else if i < 72 then (w4 h.t).getD (i - 68) 0 else if i < 76 then (w4 h.b).getD (i - 72) 0 else (w4 h.n).getD (i - 76) 0 := by
  have l4 : ∀ n, (w4 n).length = 4 := fun _ => rfl
  unfold hby
  simp only [List.getD_eq_getElem?_getD]
  by_cases h0 : i < 4
  · rw [if_pos h0, List.getElem?_append_left (by rw [l4]; exact h0)]
  rw [if_neg h0, List.getElem?_append_right (by rw [l4]; omega), l4]
  by_cases h1 : i < 36
  · rw [if_pos h1, List.getElem?_append_left (by rw [idb_len]; omega)]
  rw [if_neg h1, List.getElem?_append_right (by rw [idb_len]; omega), idb_len, show i - 4 - 32 = i - 36 by omega]
  by_cases h2 : i < 68
  · rw [if_pos h2, List.getElem?_append_left (by rw [idb_len]; omega)]
  rw [if_neg h2, List.getElem?_append_right (by rw [idb_len]; omega), idb_len, show i - 36 - 32 = i - 68 by omega]
  by_cases h3 : i < 72
  · rw [if_pos h3, List.getElem?_append_left (by rw [l4]; omega)]
  rw [if_neg h3, List.getElem?_append_right (by rw [l4]; omega), l4, show i - 68 - 4 = i - 72 by omega]
  by_cases h4 : i < 76
  · rw [if_pos h4, List.getElem?_append_left (by rw [l4]; omega)]
  rw [if_neg h4, List.getElem?_append_right (by rw [l4]; omega), l4, show i - 72 - 4 = i - 76 by omega]
theorem hdof_hby {h : Hd} (hk : h.ok) : hdof (hby h) = h := by
  have gd : ∀ n, (w4 n).getD 0 0 = n % 256 ∧ (w4 n).getD 1 0 = n / 256 % 256 ∧ (w4 n).getD 2 0 = n / 65536 % 256 ∧ (w4 n).getD 3 0 = n / 16777216 % 256 := fun n => ⟨rfl, rfl, rfl, rfl⟩
  have e1 : ((hby h).drop 4).take 32 = idb h.p := by
    unfold hby
    rw [List.drop_append_of_le_length (by exact Nat.le_refl _), show (w4 h.v).drop 4 = [] from rfl, List.nil_append, List.take_append_of_le_length (by rw [idb_len]; omega), List.take_of_length_le (by rw [idb_len]; omega)]
  have e2 : ((hby h).drop 36).take 32 = idb h.r := by
    have : hby h = (w4 h.v ++ idb h.p) ++ (idb h.r ++ (w4 h.t ++ (w4 h.b ++ w4 h.n))) := by unfold hby; simp only [List.append_assoc]
    have hl : (w4 h.v ++ idb h.p).length = 36 := by rw [List.length_append, idb_len]; rfl
    rw [this, List.drop_append_of_le_length (by rw [hl]; omega), List.drop_of_length_le (by rw [hl]; omega), List.nil_append, List.take_append_of_le_length (by rw [idb_len]; omega), List.take_of_length_le (by rw [idb_len]; omega)]
  have k0 : g4 (hby h) 0 = h.v := by
    unfold g4
    rw [hby_at, hby_at, hby_at, hby_at]
    simp only [show (0 : Nat) < 4 by omega, show 0 + 1 < 4 by omega, show 0 + 2 < 4 by omega, show 0 + 3 < 4 by omega, if_true, Nat.zero_add, gd]
    exact w4_g4 _ hk.1
  have k3 : g4 (hby h) 68 = h.t := by
    unfold g4
    rw [hby_at, hby_at, hby_at, hby_at]
    simp (config := { decide := true }) only [if_true, if_false, Nat.reduceAdd, Nat.reduceSub, gd]
    exact w4_g4 _ hk.2.2.2.1
  have k4 : g4 (hby h) 72 = h.b := by
    unfold g4
    rw [hby_at, hby_at, hby_at, hby_at]
    simp (config := { decide := true }) only [if_true, if_false, Nat.reduceAdd, Nat.reduceSub, gd]
    exact w4_g4 _ hk.2.2.2.2.1
  have k5 : g4 (hby h) 76 = h.n := by
    unfold g4
    rw [hby_at, hby_at, hby_at, hby_at]
    simp (config := { decide := true }) only [if_false, Nat.reduceAdd, Nat.reduceSub, gd]
    exact w4_g4 _ hk.2.2.2.2.2
  unfold hdof
  rw [k0, k3, k4, k5, e1, e2, idn_idb hk.2.1, idn_idb hk.2.2.1]
theorem read_own (h : Hd) (hk : h.ok) (g : Nat) (w : World) (hO : Owns w g (.slice (some ⟨g, 0, none⟩) 80 80) (hby h)) : Calls Try.prog 21 #[.slice (some ⟨g, 0, none⟩) 80 80] w fun e w' => e = .returned (.tuple #[hdv h, .int .i64 0]) ∧ Below w.heap.size w w' := by
  have := read_yes g 0 80 (hby h) (hby_len h) (hby_byte h) (by omega) (by omega) w (fun j hj => by
    have hO' : w.ownsRow g 5 1 (.slice (some ⟨g, 0, none⟩) 80 80) 80 (u8s (hby h)) := by have := hO; unfold Owns at this; rw [hby_len] at this; exact this
    rw [Nat.zero_add, World.ownsRow.cellAt hO' j (by omega), u8s_get _ j (by rw [hby_len]; exact hj)])
  rw [hdof_hby hk] at this
  exact this
theorem str_inj {p q : List Nat} (hp : ∀ y ∈ p, y < 256) (hq : ∀ y ∈ q, y < 256) (h : (str p).data.toList = (str q).data.toList) : p = q := by
  have key : ∀ l : List Nat, (∀ y ∈ l, y < 256) → (l.map UInt8.ofNat).map UInt8.toNat = l := fun l hl => by
    rw [List.map_map]
    conv => rhs; rw [← List.map_id l]
    refine List.map_congr_left fun y hy => ?_
    have := hl y hy
    simp
    omega
  have h2 : (p.map UInt8.ofNat) = (q.map UInt8.ofNat) := h
  rw [← key p hp, ← key q hq, h2]
theorem str_eq {p q : List Nat} (hp : ∀ y ∈ p, y < 256) (hq : ∀ y ∈ q, y < 256) : ((str p).toList == (str q).toList) = decide (p = q) := by
  rw [ByteArray.toList_eq, ByteArray.toList_eq, Bool.eq_iff_iff, beq_iff_eq, decide_eq_true_iff]
  exact ⟨str_inj hp hq, fun e => by rw [e]⟩
theorem hby_inj {a b : Hd} (ha : a.ok) (hb : b.ok) (h : hby a = hby b) : a = b := by
  rw [← hdof_hby ha, ← hdof_hby hb, h]
theorem id_zero : iv 0 = Value.agg #[.int .u8 0, .int .u8 0, .int .u8 0, .int .u8 0, .int .u8 0, .int .u8 0, .int .u8 0, .int .u8 0, .int .u8 0, .int .u8 0, .int .u8 0, .int .u8 0, .int .u8 0, .int .u8 0, .int .u8 0, .int .u8 0, .int .u8 0, .int .u8 0, .int .u8 0, .int .u8 0, .int .u8 0, .int .u8 0, .int .u8 0, .int .u8 0, .int .u8 0, .int .u8 0, .int .u8 0, .int .u8 0, .int .u8 0, .int .u8 0, .int .u8 0, .int .u8 0] := by kernel_rfl
def hdA : Hd := ⟨1, 0, 0, 0, 545259519, 0⟩
theorem hdA_ok : hdA.ok := by unfold Hd.ok hdA; simp
theorem mineA : mineP 100 hdA 545259519 = some hdA := by kernel_rfl
theorem hprA : hpr hdA 545259519 = 0 := by kernel_rfl
theorem hprA2 : hpr hdA 486604799 = 30 := by kernel_rfl
theorem hdidA : lb (hdid hdA) 0 = 61 := by kernel_rfl
theorem hdA_val : Value.agg ((Try.zeroCells26.setIfInBounds 0 (.int .u32 1)).setIfInBounds 66 (.int .u32 545259519)) = hdv hdA := by kernel_rfl
theorem mineA_any (w : World) : Calls Try.prog 27 #[hdv hdA, .int .u32 545259519, .int .i64 100] w fun e w' => e = .returned (.tuple #[hdv hdA, .bool true]) ∧ Below w.heap.size w w' := by
  have h := mine_any hdA hdA_ok 545259519 (by omega) 100 w
  rw [show (min (100 : Int) 65536).toNat = 100 from rfl, mineA] at h
  exact h
set_option maxRecDepth 100000 in
set_option maxHeartbeats 8000000 in
theorem reads_any (w : World) : Calls Try.prog 19 #[] w fun e w' => e = .returned (.bool true) ∧ Below w.heap.size w w' := by
  have B : Below w.heap.size w w := Below.refl _ _
  go_enter Try.func19, Try.ntmps19
  go_wp2_with fail
  rw [hdA_val]
  refine (mineA_any _).mono ?_
  rintro e w1 ⟨rfl, hb1⟩
  have B1 := below_next B hb1
  have ez := hdz
  clear hb1 B
  go_wp2_with (first | (refine wpList_store_hd rfl (.tmp 1) (.tmp 8) rfl w1.heap.size hd0 hdA rfl rfl (heap_new w1 _) (fun w2 h1 h2 h3 h4 => ?_); have K1 := Lib.hid h1; have B2 := Lib.hid (h4 w.heap.size w B1.size (below_alloc B1 _)); clear h1 h2 h3 h4) | refine wpList_load_hd rfl (.tmp 1) rfl w1.heap.size hdA rfl K1.out ?_)
  have hw1 : w.heap.size ≤ w1.heap.size := B1.size
  clear B1
  refine (bytes_any hdA hdA_ok _).mono ?_
  rintro e w3 ⟨g, rfl, hg, hO, hb⟩
  have hs2 : w1.heap.size < w2.heap.size := block_lt K1.out
  have K2 := Lib.hid (below_keep hb K1.out); have B3 := Lib.hid (below_next B2.out hb); have HO := Lib.hid hO
  clear hg hO hb K1 B2
  go_wp2_with fail
  refine (read_own hdA hdA_ok g _ HO.out).mono ?_
  rintro e w4 ⟨rfl, hb⟩
  have hs3 : w1.heap.size < w3.heap.size := block_lt K2.out
  have K3 := Lib.hid (keep_alloc (hdblk hd0) (below_keep hb K2.out)); have B4 := Lib.hid (below_alloc (below_next B3.out hb) (hdblk hd0))
  have hs4 : w1.heap.size < w4.heap.size := block_lt (below_keep hb K2.out)
  clear hb K2 B3 HO
  have qe := eq_hd hdA hdA hdA_ok hdA_ok
  rw [hdeq_self] at qe
  go_wp2_with (first | (refine wpList_store_hd rfl (.tmp 3) (.tmp 14) rfl w4.heap.size hd0 hdA rfl rfl (heap_new w4 _) (fun w5 h1 h2 h3 h4 => ?_); have K5 := Lib.hid h1; have K4 := Lib.hid ((h2 w1.heap.size (by omega)).trans K3.out); have B5 := Lib.hid (h4 w.heap.size w (by omega) B4.out); clear h1 h2 h3 h4) | refine wpList_load_hd rfl (.tmp 1) rfl w1.heap.size hdA rfl K4.out ?_ | refine wpList_load_hd rfl (.tmp 3) rfl w4.heap.size hdA rfl K5.out ?_ | (refine wpList_unguard rfl ?_; first | refine wpList_load_hd rfl (.tmp 1) rfl w1.heap.size hdA rfl K4.out ?_ | refine wpList_load_hd rfl (.tmp 3) rfl w4.heap.size hdA rfl K5.out ?_))
  clear qe K3 B4 K5 hs2 hs3 hs4
  refine (bytes_any hdA hdA_ok _).mono ?_
  rintro e w6 ⟨g2, rfl, hg, hO, hb⟩
  have K6 := Lib.hid (below_keep hb K4.out); have B6 := Lib.hid (below_next B5.out hb)
  clear hg hO hb K4 B5
  go_wp2_with (first | refine wpList_load_hd rfl (.tmp 1) rfl w1.heap.size hdA rfl K6.out ?_ | (refine wpList_unguard rfl ?_; refine wpList_load_hd rfl (.tmp 1) rfl w1.heap.size hdA rfl K6.out ?_))
  have p1 := proved_any hdA hdA_ok 545259519 (by omega)
  rw [hprA] at p1
  refine (p1 _).mono ?_
  rintro e w7 ⟨rfl, hb⟩
  have K7 := Lib.hid (below_keep hb K6.out); have B7 := Lib.hid (below_next B6.out hb)
  clear hb K6 B6 p1
  go_wp2_with (first | refine wpList_load_hd rfl (.tmp 1) rfl w1.heap.size hdA rfl K7.out ?_ | (refine wpList_unguard rfl ?_; refine wpList_load_hd rfl (.tmp 1) rfl w1.heap.size hdA rfl K7.out ?_))
  have p2 := proved_any hdA hdA_ok 486604799 (by omega)
  rw [hprA2] at p2
  refine (p2 _).mono ?_
  rintro e w8 ⟨rfl, hb⟩
  have K8 := Lib.hid (below_keep hb K7.out); have B8 := Lib.hid (below_next B7.out hb)
  clear hb K7 B7 p2
  go_wp2_with (first | refine wpList_load_hd rfl (.tmp 1) rfl w1.heap.size hdA rfl K8.out ?_ | (refine wpList_unguard rfl ?_; refine wpList_load_hd rfl (.tmp 1) rfl w1.heap.size hdA rfl K8.out ?_))
  refine (hid_any hdA hdA_ok _).mono ?_
  rintro e w9 ⟨rfl, hb⟩
  have B9 := Lib.hid (below_next B8.out hb)
  have q0 : ∀ W, (Op.equalIn 10000 24 (iv (hdid hdA)) (iv 0)).run Try.prog W = .ok false W := fun W => by
    rw [eq_id _ 0 (hdid_lt _) (by omega) W, decide_eq_false]
    intro h
    have := hdidA
    rw [h] at this
    exact absurd this (by decide)
  obtain ⟨X, hX⟩ : ∃ X, X = hdid hdA := ⟨_, rfl⟩
  rw [← hX] at q0
  rw [← hX]
  have q1 := q0
  rw [id_zero] at q1
  clear hb K8 B8 hX
  go_wp2_with fail
  go_ret
  exact ⟨rfl, B9.out⟩
end Go.Proofs.Ytnbppbnjkmopeaa
