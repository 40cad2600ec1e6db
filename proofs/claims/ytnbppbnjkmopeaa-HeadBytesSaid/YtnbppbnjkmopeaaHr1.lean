/- The document's header: four, Bytes, Bits, Proved. No condition. -/
import Derived.Test.YtnbppbnjkmopeaaHd2
import Derived.Test.YtnbppbnjkmopeaaRs3
import Derived.Test.YtnbppbnjkmopeaaRt1
namespace Go.Proofs.Ytnbppbnjkmopeaa
open Go.RowKit

/-- a number's first so many bytes -/
def w4k (x k : Nat) : List Nat := (w4 x).take k
theorem w4k_step (x k : Nat) (hk : k < 4) : w4k x (k + 1) = w4k x k ++ [x / 256 ^ k % 256] := by
  match k, hk with
  | 0, _ => simp [w4k, w4]
  | 1, _ => simp [w4k, w4]
  | 2, _ => simp [w4k, w4]
  | 3, _ => simp [w4k, w4]

attribute [local irreducible] w4k
set_option maxRecDepth 100000 in
set_option maxHeartbeats 4000000 in
theorem four_any (x : Nat) (hx : x < 4294967296) (w : World) : Calls Try.prog 77 #[.int .u32 (x : Int)] w fun e w' => e = .returned (.string (str (w4 x))) ∧ Below w.heap.size w w' := by
  have H4 : Hid (w4k x 4 = w4 x) := Lib.hid (by unfold w4k; rfl)
  have H0 : Hid (w4k x 0 = []) := Lib.hid (by unfold w4k; rfl)
  have HX : Hid (x / 256 ^ 0 = x) := Lib.hid (by rw [Nat.pow_zero, Nat.div_one])
  have HL := Lib.hid fun k => (show (w4k x k).length ≤ 4 by unfold w4k; rw [List.length_take]; simp [w4]; omega)
  have HXL := Lib.hid fun k => Nat.lt_of_le_of_lt (Nat.div_le_self x (256 ^ k)) hx
  go_enter Try.func77, Try.ntmps77
  go_wp2_with fail
  go_loopg [0, 3, 4] 4 (fun g xv sv ix wr => ∃ k : Nat, g = 4 - k ∧ k ≤ 4 ∧ ix = .int .i64 k ∧ xv = .int .u32 ((x / 256 ^ k : Nat) : Int) ∧ sv = .string (str (w4k x k)) ∧ Below w.heap.size w wr)
  case atStart => exact ⟨0, rfl, by omega, rfl, by rw [HX.out], by rw [H0.out]; rfl, Below.refl _ _⟩
  case round =>
    obtain ⟨k, hg, hk, rfl, rfl, rfl, hB⟩ := hrel
    have HG := Lib.hid hg; have HB := Lib.hid hB
    clear hg hB
    obtain ⟨y, hy⟩ : ∃ y, y = x / 256 ^ k := ⟨_, rfl⟩
    have hyl : y < 4294967296 := by rw [hy]; exact HXL.out k
    have HY : Hid (x / 256 ^ (k + 1) = y / 256) := Lib.hid (by rw [hy, Nat.pow_succ, Nat.div_div_eq_div_mul])
    by_cases hlt : k < 4
    · have HS := Lib.hid (w4k_step x k hlt)
      rw [← hy] at HS
      rw [← hy]
      obtain ⟨z, hz⟩ : ∃ z, z = y % 256 := ⟨_, rfl⟩
      have hzl : z < 256 := by omega
      rw [← hz] at HS
      have hz1 : (y : Int) % 256 = (z : Int) := by omega
      obtain ⟨s, hs⟩ : ∃ s, s = str (w4k x k) := ⟨_, rfl⟩
      obtain ⟨t, ht⟩ : ∃ t, t = str [z] := ⟨_, rfl⟩
      have hsl : s.size ≤ 4 := by rw [hs, str_size]; exact HL.out k
      have htl : t.size ≤ 1 := by rw [ht, str_size]; simp
      have hcv : (convert 27 9 (.slice (some ⟨wr.heap.size, 0, none⟩) 1 1)).run Try.prog (wr.alloc (.cells #[.int .u8 z] 5 (0, 0))) = .ok (.string t) (wr.alloc (.cells #[.int .u8 z] 5 (0, 0))) := by
        rw [ht]
        refine run_str_at (.inr ⟨⟨wr.heap.size, 0, none⟩, 1, rfl, fun j hj => ?_⟩)
        have : j = 0 := by simpa using hj
        subst this
        rw [Addr.add_lit, World.cell?_alloc_at _ _ _ _ rfl]
        rfl
      have HST : Hid (str (w4k x (k + 1)) = s ++ t) := Lib.hid (by rw [HS.out, hs, ht, str_app])
      have HB1 := Lib.hid (below_alloc HB.out (.cells #[.int .u8 z] 5 (0, 0)))
      rw [← hs]
      clear hy hz hs ht HS
      go_wp2_with fail
      go_roundg (4 - (k + 1))
      case measure => have := HG.out; omega
      case rel => exact ⟨k + 1, rfl, by omega, by go_num, by rw [HY.out]; go_num, by rw [HST.out], HB1.out⟩
    · obtain rfl : k = 4 := by omega
      rw [H4.out]
      clear hlt hy
      go_wp2_with fail
      go_ret
      exact ⟨rfl, HB.out⟩

theorem hd_bp {w : World} {g : Nat} {h : Hd} (hg : w.heap[g]? = some (hdblk h)) (c : Nat) : BytesAt w (.slice (some ⟨g, 1, none⟩) 32 c) (idb h.p) :=
  .inr ⟨⟨g, 1, none⟩, c, by rw [idb_len], fun j hj => by
    rw [idb_len] at hj
    rw [Addr.add_lit, hd_cell hg, hdcs_p h j hj, idb_get h.p j hj]⟩
theorem hd_br {w : World} {g : Nat} {h : Hd} (hg : w.heap[g]? = some (hdblk h)) (c : Nat) : BytesAt w (.slice (some ⟨g, 33, none⟩) 32 c) (idb h.r) :=
  .inr ⟨⟨g, 33, none⟩, c, by rw [idb_len], fun j hj => by
    rw [idb_len] at hj
    rw [Addr.add_lit, hd_cell hg, hdcs_r h j hj, idb_get h.r j hj]⟩

set_option maxRecDepth 100000 in
set_option maxHeartbeats 4000000 in
theorem rbytes_any (h : Hd) (hk : h.ok) (w : World) : Calls Try.prog 22 #[hdv h] w fun e w' => e = .returned (.string (str (hby h))) ∧ Below w.heap.size w w' := by
  have cv := Lib.hid fun W => four_any h.v hk.1 W
  have ct := Lib.hid fun W => four_any h.t hk.2.2.2.1 W
  have cb := Lib.hid fun W => four_any h.b hk.2.2.2.2.1 W
  have cn := Lib.hid fun W => four_any h.n hk.2.2.2.2.2 W
  have l4 : ∀ n, (w4 n).length = 4 := fun _ => rfl
  obtain ⟨sv, hsv⟩ : ∃ s, s = str (w4 h.v) := ⟨_, rfl⟩
  obtain ⟨sp, hsp⟩ : ∃ s, s = str (idb h.p) := ⟨_, rfl⟩
  obtain ⟨sr, hsr⟩ : ∃ s, s = str (idb h.r) := ⟨_, rfl⟩
  obtain ⟨st, hst⟩ : ∃ s, s = str (w4 h.t) := ⟨_, rfl⟩
  obtain ⟨sb, hsb⟩ : ∃ s, s = str (w4 h.b) := ⟨_, rfl⟩
  obtain ⟨sn, hsn⟩ : ∃ s, s = str (w4 h.n) := ⟨_, rfl⟩
  obtain ⟨a1, ha1⟩ : ∃ s, s = str (w4 h.v ++ idb h.p) := ⟨_, rfl⟩
  obtain ⟨a2, ha2⟩ : ∃ s, s = str (w4 h.v ++ idb h.p ++ idb h.r) := ⟨_, rfl⟩
  obtain ⟨a3, ha3⟩ : ∃ s, s = str (w4 h.v ++ idb h.p ++ idb h.r ++ w4 h.t) := ⟨_, rfl⟩
  obtain ⟨a4, ha4⟩ : ∃ s, s = str (w4 h.v ++ idb h.p ++ idb h.r ++ w4 h.t ++ w4 h.b) := ⟨_, rfl⟩
  obtain ⟨R, hR⟩ : ∃ s, s = str (hby h) := ⟨_, rfl⟩
  have e1 : sv ++ sp = a1 := by rw [hsv, hsp, ha1, str_app]
  have e2 : a1 ++ sr = a2 := by rw [ha1, hsr, ha2, str_app]
  have e3 : a2 ++ st = a3 := by rw [ha2, hst, ha3, str_app]
  have e4 : a3 ++ sb = a4 := by rw [ha3, hsb, ha4, str_app]
  have e5 : a4 ++ sn = R := by
    rw [ha4, hsn, hR, str_app]
    unfold hby
    simp only [List.append_assoc]
  have z0 : sv.size = 4 := by rw [hsv, str_size, l4]
  have z1 : sp.size = 32 := by rw [hsp, str_size, idb_len]
  have z2 : sr.size = 32 := by rw [hsr, str_size, idb_len]
  have z3 : st.size = 4 := by rw [hst, str_size, l4]
  have z4 : sb.size = 4 := by rw [hsb, str_size, l4]
  have z5 : sn.size = 4 := by rw [hsn, str_size, l4]
  have y1 : a1.size = 36 := by rw [ha1, str_size]; simp only [List.length_append, l4, idb_len]
  have y2 : a2.size = 68 := by rw [ha2, str_size]; simp only [List.length_append, l4, idb_len]
  have y3 : a3.size = 72 := by rw [ha3, str_size]; simp only [List.length_append, l4, idb_len]
  have y4 : a4.size = 76 := by rw [ha4, str_size]; simp only [List.length_append, l4, idb_len]
  rw [← hsv] at cv
  rw [← hst] at ct
  rw [← hsb] at cb
  rw [← hsn] at cn
  rw [← hR]
  have HSP := Lib.hid hsp; have HSR := Lib.hid hsr
  have K := Lib.hid (heap_new w (hdblk h))
  have B : Hid (Below w.heap.size w (w.alloc (hdblk h))) := Lib.hid (below_alloc (Below.refl _ _) _)
  clear hk l4 hsv hsp hsr hst hsb hsn ha1 ha2 ha3 ha4 hR
  unfold hdv
  go_enter Try.func22, Try.ntmps22
  go_wp2_with fail
  change Code.wp _ _ _ _ (w.alloc (hdblk h))
  obtain ⟨g, hg⟩ : ∃ g, g = w.heap.size := ⟨_, rfl⟩
  rw [← hg] at K
  rw [← hg]
  clear hg
  generalize w.alloc (hdblk h) = W at K B ⊢
  refine wp_region_tail 23 [Is (.pointer (some ⟨g, 0, none⟩)), Is (.int .u32 h.v), Is (.string sv), Is (.pointer (some ⟨g, 1, none⟩)), Is (.slice (some ⟨g, 1, none⟩) 32 32), Is (.string sp), Is (.string a1), Is (.pointer (some ⟨g, 33, none⟩)), Is (.slice (some ⟨g, 33, none⟩) 32 32), Is (.string sr), Is (.string a2), Is (.pointer (some ⟨g, 65, none⟩)), Is (.int .u32 h.t), Is (.string st), Is (.string a3), Is (.pointer (some ⟨g, 66, none⟩)), Is (.int .u32 h.b), Is (.string sb), Is (.string a4), Is (.pointer (some ⟨g, 67, none⟩)), Is (.int .u32 h.n), Is (.string sn), Is (.string R)] [[], [(0, some 3)], [(1, some 4)], [], [(3, some 6)], [(4, some 7)], [(2, some 5), (5, some 8)], [], [(7, some 10)], [(8, some 11)], [(6, some 9), (9, some 12)], [], [(11, some 14)], [(12, some 15)], [(10, some 13), (13, some 16)], [], [(15, some 18)], [(16, some 19)], [(14, some 17), (17, some 20)], [], [(19, some 22)], [(20, some 23)], [(18, some 21), (21, some 24)], [(22, some 25)]] [(0, some 3), (1, some 4), (2, some 5), (3, some 6), (4, some 7), (5, some 8), (6, some 9), (7, some 10), (8, some 11), (9, some 12), (10, some 13), (11, some 14), (12, some 15), (13, some 16), (14, some 17), (15, some 18), (16, some 19), (17, some 20), (18, some 21), (19, some 22), (20, some 23), (21, some 24), (22, some 25)] [0, 1, 3, 0, 8, 24, 63, 0, 128, 384, 1023, 0, 2048, 6151, 16383, 0, 32768, 112647, 262143, 0, 524288, 1816583, 4194303, 8388607]
    (by kernel_rfl) (by kernel_rfl) (by kernel_rfl) (by kernel_rfl) (by kernel_rfl) ⟨Is.kept _, Is.kept _, Is.kept _, Is.kept _, Is.kept _, Is.kept _, Is.kept _, Is.kept _, Is.kept _, Is.kept _, Is.kept _, Is.kept _, Is.kept _, Is.kept _, Is.kept _, Is.kept _, Is.kept _, Is.kept _, Is.kept _, Is.kept _, Is.kept _, Is.kept _, Is.kept _, trivial⟩ ⟨?_, ?_, ?_, ?_, ?_, ?_, ?_, ?_, ?_, ?_, ?_, ?_, ?_, ?_, ?_, ?_, ?_, ?_, ?_, ?_, ?_, ?_, ?_, trivial⟩ ?_
  · as_aux_lemma =>
    refine fun w' hB => ?_
    show wpList _ _ _ _ _ _
    go_wp2_with fail
    exact ⟨.pointer (some ⟨g, 0, none⟩), by first | rfl | (go_simp; done), rfl, Below.refl _ _⟩
  · as_aux_lemma =>
    refine fun w' hB v0 h0 => ?_
    obtain rfl := h0
    show wpList _ _ _ _ _ _
    have c0 : w'.cell? ⟨g, 0, none⟩ = some (.int .u32 h.v) := (hd_cell (block_keep hB K.out) 0).trans (hdcs_v h)
    go_wp2_with fail
    exact ⟨_, rfl, rfl, Below.refl _ _⟩
  · as_aux_lemma =>
    refine fun w' hB v1 h1 => ?_
    obtain rfl := h1
    show wpList _ _ _ _ _ _
    go_wp2_with fail
    refine (cv.out w').mono ?_
    rintro e w2 ⟨rfl, hb2⟩
    go_wp2_with fail
    exact ⟨.string sv, by first | rfl | (go_simp; done), rfl, hb2⟩
  · as_aux_lemma =>
    refine fun w' hB => ?_
    show wpList _ _ _ _ _ _
    go_wp2_with fail
    exact ⟨.pointer (some ⟨g, 1, none⟩), by first | rfl | (go_simp; done), rfl, Below.refl _ _⟩
  · as_aux_lemma =>
    refine fun w' hB v3 h3 => ?_
    obtain rfl := h3
    show wpList _ _ _ _ _ _
    go_wp2_with fail
    exact ⟨.slice (some ⟨g, 1, none⟩) 32 32, by first | rfl | (go_simp; done), rfl, Below.refl _ _⟩
  · as_aux_lemma =>
    refine fun w' hB v4 h4 => ?_
    obtain rfl := h4
    show wpList _ _ _ _ _ _
    have hcv := run_str_at (hd_bp (block_keep hB K.out) 32)
    rw [← HSP.out] at hcv
    go_wp2_with fail
    exact ⟨_, rfl, rfl, Below.refl _ _⟩
  · as_aux_lemma =>
    refine fun w' hB v2 h2 v5 h5 => ?_
    obtain rfl := h2
    obtain rfl := h5
    show wpList _ _ _ _ _ _
    go_wp2_with fail
    exact ⟨.string a1, by first | rfl | (go_simp; done), rfl, Below.refl _ _⟩
  · as_aux_lemma =>
    refine fun w' hB => ?_
    show wpList _ _ _ _ _ _
    go_wp2_with fail
    exact ⟨.pointer (some ⟨g, 33, none⟩), by first | rfl | (go_simp; done), rfl, Below.refl _ _⟩
  · as_aux_lemma =>
    refine fun w' hB v7 h7 => ?_
    obtain rfl := h7
    show wpList _ _ _ _ _ _
    go_wp2_with fail
    exact ⟨.slice (some ⟨g, 33, none⟩) 32 32, by first | rfl | (go_simp; done), rfl, Below.refl _ _⟩
  · as_aux_lemma =>
    refine fun w' hB v8 h8 => ?_
    obtain rfl := h8
    show wpList _ _ _ _ _ _
    have hcv := run_str_at (hd_br (block_keep hB K.out) 32)
    rw [← HSR.out] at hcv
    go_wp2_with fail
    exact ⟨_, rfl, rfl, Below.refl _ _⟩
  · as_aux_lemma =>
    refine fun w' hB v6 h6 v9 h9 => ?_
    obtain rfl := h6
    obtain rfl := h9
    show wpList _ _ _ _ _ _
    go_wp2_with fail
    exact ⟨.string a2, by first | rfl | (go_simp; done), rfl, Below.refl _ _⟩
  · as_aux_lemma =>
    refine fun w' hB => ?_
    show wpList _ _ _ _ _ _
    go_wp2_with fail
    exact ⟨.pointer (some ⟨g, 65, none⟩), by first | rfl | (go_simp; done), rfl, Below.refl _ _⟩
  · as_aux_lemma =>
    refine fun w' hB v11 h11 => ?_
    obtain rfl := h11
    show wpList _ _ _ _ _ _
    have c0 : w'.cell? ⟨g, 65, none⟩ = some (.int .u32 h.t) := (hd_cell (block_keep hB K.out) 65).trans (hdcs_t h)
    go_wp2_with fail
    exact ⟨_, rfl, rfl, Below.refl _ _⟩
  · as_aux_lemma =>
    refine fun w' hB v12 h12 => ?_
    obtain rfl := h12
    show wpList _ _ _ _ _ _
    go_wp2_with fail
    refine (ct.out w').mono ?_
    rintro e w2 ⟨rfl, hb2⟩
    go_wp2_with fail
    exact ⟨.string st, by first | rfl | (go_simp; done), rfl, hb2⟩
  · as_aux_lemma =>
    refine fun w' hB v10 h10 v13 h13 => ?_
    obtain rfl := h10
    obtain rfl := h13
    show wpList _ _ _ _ _ _
    go_wp2_with fail
    exact ⟨.string a3, by first | rfl | (go_simp; done), rfl, Below.refl _ _⟩
  · as_aux_lemma =>
    refine fun w' hB => ?_
    show wpList _ _ _ _ _ _
    go_wp2_with fail
    exact ⟨.pointer (some ⟨g, 66, none⟩), by first | rfl | (go_simp; done), rfl, Below.refl _ _⟩
  · as_aux_lemma =>
    refine fun w' hB v15 h15 => ?_
    obtain rfl := h15
    show wpList _ _ _ _ _ _
    have c0 : w'.cell? ⟨g, 66, none⟩ = some (.int .u32 h.b) := (hd_cell (block_keep hB K.out) 66).trans (hdcs_b h)
    go_wp2_with fail
    exact ⟨_, rfl, rfl, Below.refl _ _⟩
  · as_aux_lemma =>
    refine fun w' hB v16 h16 => ?_
    obtain rfl := h16
    show wpList _ _ _ _ _ _
    go_wp2_with fail
    refine (cb.out w').mono ?_
    rintro e w2 ⟨rfl, hb2⟩
    go_wp2_with fail
    exact ⟨.string sb, by first | rfl | (go_simp; done), rfl, hb2⟩
  · as_aux_lemma =>
    refine fun w' hB v14 h14 v17 h17 => ?_
    obtain rfl := h14
    obtain rfl := h17
    show wpList _ _ _ _ _ _
    go_wp2_with fail
    exact ⟨.string a4, by first | rfl | (go_simp; done), rfl, Below.refl _ _⟩
  · as_aux_lemma =>
    refine fun w' hB => ?_
    show wpList _ _ _ _ _ _
    go_wp2_with fail
    exact ⟨.pointer (some ⟨g, 67, none⟩), by first | rfl | (go_simp; done), rfl, Below.refl _ _⟩
  · as_aux_lemma =>
    refine fun w' hB v19 h19 => ?_
    obtain rfl := h19
    show wpList _ _ _ _ _ _
    have c0 : w'.cell? ⟨g, 67, none⟩ = some (.int .u32 h.n) := (hd_cell (block_keep hB K.out) 67).trans (hdcs_n h)
    go_wp2_with fail
    exact ⟨_, rfl, rfl, Below.refl _ _⟩
  · as_aux_lemma =>
    refine fun w' hB v20 h20 => ?_
    obtain rfl := h20
    show wpList _ _ _ _ _ _
    go_wp2_with fail
    refine (cn.out w').mono ?_
    rintro e w2 ⟨rfl, hb2⟩
    go_wp2_with fail
    exact ⟨.string sn, by first | rfl | (go_simp; done), rfl, hb2⟩
  · as_aux_lemma =>
    refine fun w' hB v18 h18 v21 h21 => ?_
    obtain rfl := h18
    obtain rfl := h21
    show wpList _ _ _ _ _ _
    go_wp2_with fail
    exact ⟨.string R, by first | rfl | (go_simp; done), rfl, Below.refl _ _⟩
  · refine fun w' hB v0 h0 v1 h1 v2 h2 v3 h3 v4 h4 v5 h5 v6 h6 v7 h7 v8 h8 v9 h9 v10 h10 v11 h11 v12 h12 v13 h13 v14 h14 v15 h15 v16 h16 v17 h17 v18 h18 v19 h19 v20 h20 v21 h21 v22 h22 => ?_
    obtain rfl := h22
    simp only [onP, List.drop_succ_cons, List.drop_zero]
    go_simp
    clear h0 h1 h2 h3 h4 h5 h6 h7 h8 h9 h10 h11 h12 h13 h14 h15 h16 h17 h18 h19 h20 h21
    have BZ := Lib.hid (below_next B.out hB)
    clear hB
    go_wp2_with fail
    go_ret
    exact ⟨rfl, BZ.out⟩

/-- what is left of a byte -/
def brest (a i k : Nat) : Nat := a / 2 ^ (8 * i) % 256 / 2 ^ k
theorem brest_lt (a i k : Nat) : brest a i k < 256 := by
  unfold brest
  exact Nat.lt_of_le_of_lt (Nat.div_le_self _ _) (Nat.mod_lt _ (by omega))
theorem brest_succ (a i k : Nat) : brest a i (k + 1) = brest a i k / 2 := by unfold brest; generalize a / 2 ^ (8 * i) % 256 = y; rw [Nat.pow_succ, Nat.div_div_eq_div_mul]
theorem brest_zero (a i : Nat) : (brest a i 0 : Int) = lb a i := by unfold brest lb; rw [Nat.pow_zero, Nat.div_one]
theorem brest_bit (a i k : Nat) (hk : k < 8) : a.testBit (8 * i + k) = (((brest a i k : Nat) : Int) % 2 == 1) := by
  have h : (a / 2 ^ (8 * i) % 2 ^ 8 / 2 ^ k % 2 = 1) ↔ a.testBit (8 * i + k) = true := by
    rw [Nat.testBit_eq_decide_div_mod_eq, decide_eq_true_iff, Nat.pow_add, ← Nat.div_div_eq_div_mul]
    generalize a / 2 ^ (8 * i) = x
    obtain ⟨d, hd⟩ := Nat.exists_eq_add_of_le (show k + 1 ≤ 8 by omega)
    rw [hd, Nat.add_assoc, Nat.pow_add 2 k, Nat.mod_mul_right_div_self, Nat.pow_add, Nat.pow_one, Nat.mod_mul_right_mod]
  have e : brest a i k = a / 2 ^ (8 * i) % 2 ^ 8 / 2 ^ k := rfl
  rw [← e] at h
  rw [Bool.eq_iff_iff, ← h, beq_iff_eq]
  omega
attribute [local irreducible] brest
set_option maxRecDepth 100000 in
set_option maxHeartbeats 4000000 in
theorem rbits_any (a : Nat) (w : World) :
    Calls Try.prog 81 #[iv a] w fun e w' => ∃ v, e = .returned v ∧ BitsIs w' w.heap.size v a 256 ∧ Below w.heap.size w w' := by
  have K0 := Lib.hid (heap_new w (rblk a))
  have B0 := Lib.hid (below_alloc (Below.refl w.heap.size w) (rblk a))
  go_enter Try.func81, Try.ntmps81
  go_wp2_with fail
  change Code.wp _ _ _ _ (w.alloc (rblk a))
  go_loopw [3, 4] (fun v ix wr => ∃ i : Nat, i ≤ 32 ∧ ix = .int .i64 i ∧ BitsIs wr (w.heap.size + 1) v a (8 * i) ∧ wr.heap[w.heap.size]? = some (rblk a) ∧ w.heap.size + 1 ≤ wr.heap.size ∧ Below w.heap.size w wr) (fun _ ix _ => 32 - (intOf ix).toNat)
  case atStart => exact ⟨0, by omega, rfl, BitsIs.nil _ _ _, K0.out, by simp, B0.out⟩
  case round =>
    clear K0 B0
    obtain ⟨i, hi, rfl, hO, hC, hz, hB⟩ := hrel
    have HC := Lib.hid hC; have HO := Lib.hid hO; have HB := Lib.hid hB
    clear hC hO hB
    by_cases hlt : i < 32
    · have hc := rid_cell HC.out i hlt
      rw [← brest_zero a i] at hc
      go_wp2_with fail
      rw [show decide ((i : Int) < 32) = true from decide_eq_true (by omega)]
      clear hc
      go_loopw [3, 5, 6] (fun v xv ix wr2 => ∃ k : Nat, k ≤ 8 ∧ ix = .int .i64 k ∧ xv = .int .u8 (brest a i k) ∧ BitsIs wr2 (w.heap.size + 1) v a (8 * i + k) ∧ w.heap.size + 1 ≤ wr2.heap.size ∧ Below (w.heap.size + 1) wr wr2) (fun _ _ ix _ => 8 - (intOf ix).toNat)
      case atStart => exact ⟨0, by omega, rfl, rfl, HO.out, hz, Below.refl _ _⟩
      case round =>
        obtain ⟨k, hk, rfl, rfl, hO, hz2, B2⟩ := hrel
        have HO2 := Lib.hid hO
        clear hO HO
        have hxl := brest_lt a i k
        by_cases hlt2 : k < 8
        · have hbit := Lib.hid (brest_bit a i k hlt2)
          have hws := brest_succ a i k
          go_wp2_with (at_builtin; refine wpList_append_bit rfl (.tmp 18) (.tmp 22) rfl (w.heap.size + 1) _ a a (8 * i + k) rfl (HO2.out.alloc _) _ _ rfl (cell_new _ _ _) (fun _ _ => rfl) hbit.out (by omega) (by simp; omega) (fun v' w1 hown' hbel => ?_))
          have B3 := hbel (w.heap.size + 1) _ (Nat.le_refl _) (B2.alloc hz2 _)
          have hz3 := B3.size
          have HO3 := Lib.hid hown'
          clear hbel hown'
          go_wp2_with fail
          go_roundw
          case rel =>
            exact ⟨k + 1, by omega, by go_num, by rw [hws]; go_num, by rw [show 8 * i + (k + 1) = 8 * i + k + 1 by omega]; exact HO3.out, by omega, B3⟩
          case measure => simp [intOf]; omega
        · obtain rfl : k = 8 := by omega
          go_wp2_with fail
          go_roundw
          case rel =>
            exact ⟨i + 1, by omega, by go_num, by rw [show 8 * (i + 1) = 8 * i + 8 by omega]; exact HO2.out, (B2.block _ (by omega)).trans HC.out, hz2, HB.out.trans (B2.mono (by omega))⟩
          case measure => simp [intOf]; omega
    · obtain rfl : i = 32 := by omega
      go_wp2_with fail
      go_ret
      exact ⟨_, rfl, HO.out.mono (by omega), HB.out⟩

set_option maxRecDepth 100000 in
set_option maxHeartbeats 4000000 in
theorem rproved_any (h : Hd) (hk : h.ok) (l : Nat) (hl : l < 4294967296) (w : World) :
    Calls Try.prog 26 #[hdv h, .int .u32 (l : Int)] w fun e w' => e = .returned (.int .i64 (hpr h l : Nat)) ∧ Below w.heap.size w w' := by
  have ct := Lib.hid fun W => reftarget_any h.b hk.2.2.2.2.1 W
  have cl := Lib.hid fun W => reftarget_any l hl W
  have cb := Lib.hid fun W => rbytes_any h hk W
  have cw := Lib.hid fun W => reftwice_any (hby h) (hby_byte h) (by rw [hby_len]; omega) W
  have HP : Hid (hpr h l = if (tgt h.b).2 = true ∧ (tgt l).2 = true ∧ (tgt h.b).1 ≤ (tgt l).1 then (if (tgt h.b).1 < tw (hby h) then 50 else 0) else 30) := Lib.hid rfl
  have HW := Lib.hid (tw_lt (hby h))
  obtain ⟨P, hP⟩ : ∃ P, P = hpr h l := ⟨_, rfl⟩
  rw [← hP] at HP
  rw [← hP]
  obtain ⟨q, hq⟩ : ∃ q, q = tw (hby h) := ⟨_, rfl⟩
  rw [← hq] at HP cw HW
  obtain ⟨sq, hsq⟩ : ∃ s, s = str (hby h) := ⟨_, rfl⟩
  rw [← hsq] at cb cw
  obtain ⟨X, hX⟩ : ∃ z, z = tgt h.b := ⟨_, rfl⟩
  obtain ⟨Y, hY⟩ : ∃ z, z = tgt l := ⟨_, rfl⟩
  rw [← hX] at ct HP
  rw [← hY] at cl HP
  obtain ⟨x, s⟩ := X
  obtain ⟨y, t⟩ := Y
  dsimp only at HP
  have ci := Lib.hid fun W => rbits_any q W
  have K := Lib.hid (heap_new w (hdblk h))
  have B : Hid (Below w.heap.size w (w.alloc (hdblk h))) := Lib.hid (below_alloc (Below.refl _ _) _)
  clear hP hq hsq hX hY hk hl
  unfold hdv at *
  go_enter Try.func26, Try.ntmps26
  have hcb : (w.alloc (.cells (hdcs h).toArray 26)).cell? ⟨w.heap.size, 66, none⟩ = some (.int .u32 h.b) := (hd_cell K.out 66).trans (hdcs_b h)
  go_wp2_with fail
  refine (ct.out _).mono ?_
  rintro e w1 ⟨v1, L1, rfl, h1, hb⟩
  have K1 := Lib.hid (block_keep hb K.out); have B1 := Lib.hid (below_next B.out hb); have H1 := Lib.hid h1
  clear hb h1 K B hcb ct
  dsimp only at H1
  go_wp2_with fail
  refine (cl.out _).mono ?_
  rintro e w2 ⟨v2, L2, rfl, h2, hb⟩
  have K2 := Lib.hid (block_keep hb K1.out); have B2 := Lib.hid (below_next B1.out hb); have H2 := Lib.hid h2
  have H1' := Lib.hid fun e => (⟨(H1.out e).1.keep hb, (H1.out e).2⟩ : BitsIs w2 _ v1 x L1 ∧ x < 2 ^ L1 ∧ L1 ≤ 3000)
  clear hb h2 K1 B1 H1 cl
  dsimp only at H2
  cases s
  · rw [if_neg (by simp)] at HP
    go_wp2_with fail
    go_ret
    exact ⟨by rw [HP.out]; rfl, B2.out⟩
  cases t
  · rw [if_neg (by simp)] at HP
    go_wp2_with fail
    go_ret
    exact ⟨by rw [HP.out]; rfl, B2.out⟩
  obtain ⟨g1, hx1, hx2⟩ := H1'.out rfl
  obtain ⟨g2, hy1, hy2⟩ := H2.out rfl
  have cc := Lib.hid fun W (hb : Below w2.heap.size w2 W) => less_any _ v2 y L2 hy1 _ v1 x L1 hx1 (by omega) (by omega) W (g2.keep hb) (g1.keep hb)
  have G1 := Lib.hid g1
  have HX1 := Lib.hid hx1
  clear g1 g2 hx1 hy1 hy2
  go_wp2_with fail
  refine (cc.out _ (Below.refl _ _)).mono ?_
  rintro e w3 ⟨rfl, hb⟩
  have K3 := Lib.hid (block_keep hb K2.out); have B3 := Lib.hid (below_next B2.out hb); have G3 := Lib.hid (G1.out.keep hb)
  clear hb K2 B2 G1 cc H1' H2
  by_cases hxy : x ≤ y
  · have hd : decide (y < x) = false := decide_eq_false (by omega)
    rw [if_pos ⟨by simp, by simp, hxy⟩] at HP
    rw [hd]
    clear hd hxy
    have hl4 := Lib.hid hx2
    go_wp2_with (first | refine wpList_load_hd rfl (.tmp 2) rfl w.heap.size h rfl K3.out ?_)
    refine (cb.out _).mono ?_
    rintro e w4 ⟨rfl, hb⟩
    have B4 := Lib.hid (below_next B3.out hb); have G4 := Lib.hid (G3.out.keep hb)
    clear hb K3 B3 G3 cb
    go_wp2_with fail
    refine (cw.out _).mono ?_
    rintro e w5 ⟨rfl, hb⟩
    have B5 := Lib.hid (below_next B4.out hb); have G5 := Lib.hid (G4.out.keep hb)
    clear hb B4 G4 cw
    go_wp2_with fail
    refine (ci.out _).mono ?_
    rintro e w6 ⟨v6, rfl, h6, hb⟩
    have cz := Lib.hid fun W (hb2 : Below w6.heap.size w6 W) => less_any _ v1 x L1 HX1.out _ v6 q 256 HW.out (by have := hl4.out; omega) (by omega) W ((G5.out.keep hb).keep hb2) (h6.keep hb2)
    have B6 := Lib.hid (below_next B5.out hb)
    clear hb B5 G5 ci h6
    go_wp2_with fail
    refine (cz.out _ (Below.refl _ _)).mono ?_
    rintro e w7 ⟨rfl, hb⟩
    have B7 := Lib.hid (below_next B6.out hb)
    clear hb B6 cz
    by_cases hxq : x < q
    · rw [if_pos hxq] at HP
      rw [decide_eq_true hxq]
      clear hxq
      go_wp2_with fail
      go_ret
      exact ⟨by rw [HP.out]; rfl, B7.out⟩
    · rw [if_neg hxq] at HP
      rw [decide_eq_false hxq]
      clear hxq
      go_wp2_with fail
      go_ret
      exact ⟨by rw [HP.out]; rfl, B7.out⟩
  · have hd : decide (y < x) = true := decide_eq_true (by omega)
    rw [if_neg (by rintro ⟨-, -, h⟩; exact hxy h)] at HP
    rw [hd]
    clear hd hxy
    go_wp2_with fail
    go_ret
    exact ⟨by rw [HP.out]; rfl, B3.out⟩
end Go.Proofs.Ytnbppbnjkmopeaa