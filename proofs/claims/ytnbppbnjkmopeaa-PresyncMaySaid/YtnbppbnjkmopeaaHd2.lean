/- head.ID, head.Proved. No condition. head.Mine. No condition. -/
import Derived.Test.YtnbppbnjkmopeaaHdC
import Derived.Test.YtnbppbnjkmopeaaBt3
import Derived.Test.YtnbppbnjkmopeaaNumId
namespace Go.Proofs.Ytnbppbnjkmopeaa
open Go.RowKit

/-- a header's name -/
def hdid (h : Hd) : Nat := tw (hby h)
theorem hdid_lt (h : Hd) : hdid h < 2 ^ 256 := tw_lt _
/-- does work stand behind a header? -/
def hpr (h : Hd) (limit : Nat) : Nat := if (tgt h.b).2 = true ∧ (tgt limit).2 = true ∧ (tgt h.b).1 ≤ (tgt limit).1 then (if (tgt h.b).1 < hdid h then 50 else 0) else 30

set_option maxRecDepth 100000 in
set_option maxHeartbeats 4000000 in
theorem hid_any (h : Hd) (hk : h.ok) (w : World) : Calls Try.prog 23 #[hdv h] w fun e w' => e = .returned (iv (hdid h)) ∧ Below w.heap.size w w' := by
  have cb := Lib.hid fun w => bytes_any h hk w
  have B : Below w.heap.size w (w.alloc (hdblk h)) := below_alloc (Below.refl _ _) _
  have K := heap_new w (hdblk h)
  have KB := Lib.hid K; have BB := Lib.hid B
  obtain ⟨R, hR⟩ : ∃ R, R = hdid h := ⟨_, rfl⟩
  rw [← hR]
  have HR := Lib.hid hR
  have ez := iblk_lit
  clear K B hR
  unfold hdv
  go_enter Try.func23, Try.ntmps23
  have K1 := Lib.hid (keep_alloc (iblk 0) KB.out)
  have B1 := Lib.hid (below_alloc BB.out (iblk 0))
  have K2 : Hid (((w.alloc (hdblk h)).alloc (iblk 0)).heap[w.heap.size + 1]? = some (iblk 0)) := Lib.hid (heap_new_at (by simp))
  clear KB BB
  go_wp2_with (first | refine wpList_load_hd rfl (.tmp 1) rfl w.heap.size h rfl K1.out ?_)
  refine (cb.out _).mono ?_
  rintro e w1 ⟨g, rfl, hg, hO, hb⟩
  have K3 := Lib.hid (below_keep hb K2.out)
  have B2 := Lib.hid (below_next B1.out hb)
  have HO := Lib.hid (hO.bytes' (hby_len h) (below_alloc (Below.refl _ _) (.cells #[.slice (some ⟨g, 0, none⟩) 80 80] 27 (0, 0))))
  have hbz := Lib.hid hb.size
  clear hg hO hb K1 B1 K2 cb
  have hgw : w.heap.size + 1 < w1.heap.size := by have := hbz.out; simp at this; omega
  go_wp2_with fail
  refine (twice_one _ (hby h) w1.heap.size 27 1 _ (heap_new w1 _) HO.out (hby_byte h) (by rw [hby_len]; omega)).mono ?_
  rintro e w2 ⟨rfl, hb2⟩
  have K4 := Lib.hid (below_keep hb2 (keep_alloc _ K3.out))
  have B3 := Lib.hid (below_next (below_alloc B2.out _) hb2)
  clear hb2 K3 B2 HO hbz
  go_wp2_with (first | refine wpList_store_id rfl (.tmp 2) (.tmp 6) rfl (w.heap.size + 1) 0 _ rfl rfl K4.out (fun w3 h1 h2 h3 h4 => ?_))
  have hl := loadVar_id h1
  exact bodyPost_ret (v := iv R) (by simp [results, Try.results23, Act.put, asAddr, hl, HR.out, hdid]) rfl ⟨rfl, h4 _ _ (by omega) B3.out⟩

set_option maxRecDepth 100000 in
set_option maxHeartbeats 4000000 in
theorem proved_any (h : Hd) (hk : h.ok) (l : Nat) (hl : l < 4294967296) (w : World) : Calls Try.prog 25 #[hdv h, .int .u32 (l : Int)] w fun e w' => e = .returned (.int .i64 (hpr h l : Nat)) ∧ Below w.heap.size w w' := by
  have ci := Lib.hid fun w => hid_any h hk w
  have ct := Lib.hid fun w => target_any h.b hk.2.2.2.2.1 w
  have cm := Lib.hid fun w => target_any l hl w
  have HTB := Lib.hid (tgt_lt h.b); have HTL := Lib.hid (tgt_lt l)
  have cf := Lib.hid fun w => fromid_any (hdid h) (hdid_lt h) w
  have cc1 := Lib.hid fun w => cmp_any (tgt h.b).1 (tgt l).1 HTB.out HTL.out w
  have cc2 := Lib.hid fun w => cmp_any (hdid h) (tgt h.b).1 (hdid_lt h) HTB.out w
  obtain ⟨R, hR⟩ : ∃ R, R = hpr h l := ⟨_, rfl⟩
  rw [← hR]
  unfold hpr at hR
  obtain ⟨t, ht⟩ : ∃ t, t = (tgt h.b).1 := ⟨_, rfl⟩
  obtain ⟨m, hm⟩ : ∃ m, m = (tgt l).1 := ⟨_, rfl⟩
  obtain ⟨p, hp⟩ : ∃ p, p = (tgt h.b).2 := ⟨_, rfl⟩
  obtain ⟨q, hq⟩ : ∃ q, q = (tgt l).2 := ⟨_, rfl⟩
  obtain ⟨X, hX⟩ : ∃ X, X = hdid h := ⟨_, rfl⟩
  rw [← ht, ← hm, ← hp, ← hq, ← hX] at hR
  rw [← ht, ← hp] at ct
  rw [← hm, ← hq] at cm
  rw [← hX] at ci cf
  rw [← ht, ← hm] at cc1
  rw [← ht, ← hX] at cc2
  have HR := Lib.hid hR
  have B : Below w.heap.size w (w.alloc (hdblk h)) := below_alloc (Below.refl _ _) _
  have K := heap_new w (hdblk h)
  have KB := Lib.hid K; have BB := Lib.hid B
  clear K B hR ht hm hp hq hX HTB HTL hk hl
  have c66 : (w.alloc (.cells (hdcs h).toArray 26)).cell? ⟨w.heap.size, 66, none⟩ = some (.int .u32 (h.b : Int)) := (hd_cell KB.out 66).trans (hdcs_b h)
  unfold hdv
  go_enter Try.func25, Try.ntmps25
  go_wp2_with fail
  clear c66
  refine (ct.out _).mono ?_
  rintro e w1 ⟨rfl, hb1⟩
  have K1 := Lib.hid (below_keep hb1 KB.out)
  have B1 := Lib.hid (below_next BB.out hb1)
  clear hb1 KB BB ct
  go_wp2_with fail
  refine (cm.out _).mono ?_
  rintro e w2 ⟨rfl, hb2⟩
  have K2 := Lib.hid (keep_alloc (nblk m) (below_keep hb2 (keep_alloc (nblk t) K1.out)))
  have T2 := Lib.hid (keep_alloc (nblk m) (below_keep hb2 (heap_new w1 (nblk t))))
  have M2 := Lib.hid (heap_new w2 (nblk m))
  have B2 : Hid (Below w.heap.size w (w2.alloc (nblk m))) := Lib.hid (below_alloc (below_next (below_alloc B1.out _) hb2) _)
  have h01 : w.heap.size < w1.heap.size := block_lt K1.out
  have h12 : w1.heap.size < w2.heap.size := block_lt (below_keep hb2 (heap_new w1 (nblk t)))
  clear hb2 K1 B1 cm
  have R30 : Hid (¬ (p = true ∧ q = true ∧ t ≤ m) → R = 30) := Lib.hid fun hn => by rw [HR.out, if_neg hn]
  cases p
  · have hR := R30.out (by simp)
    clear HR R30
    subst hR
    go_wp2_with fail
    go_ret
    exact ⟨rfl, B2.out⟩
  cases q
  · have hR := R30.out (by simp)
    clear HR R30
    subst hR
    go_wp2_with fail
    go_ret
    exact ⟨rfl, B2.out⟩
  obtain ⟨T_0, T_1, T_2, T_3, T_f, T_z⟩ := cells4 T2.out
  obtain ⟨M_0, M_1, M_2, M_3, M_f, M_z⟩ := cells4 M2.out
  go_wp2_with fail
  refine (cc1.out _).mono ?_
  rintro e w3 ⟨rfl, hb3⟩
  have K3 := Lib.hid (below_keep hb3 K2.out)
  have T3 := Lib.hid (below_keep hb3 T2.out)
  have B3 := Lib.hid (below_next B2.out hb3)
  clear hb3 T_0 T_1 T_2 T_3 T_f T_z M_0 M_1 M_2 M_3 M_f M_z T2 M2 K2 B2 cc1
  by_cases htm : t ≤ m
  · have hc : ¬ 0 < cmpn t m := by unfold cmpn; split <;> (try split) <;> omega
    have HR2 : Hid (R = if t < X then 50 else 0) := Lib.hid (by rw [HR.out]; simp [htm])
    clear HR R30
    go_wp2_with fail
    rw [show decide (0 < cmpn t m) = false from decide_eq_false (by omega)]
    by_cases hx : t < X
    · have hc2 : 0 < cmpn X t := by unfold cmpn; rw [if_neg (by omega), if_neg (by omega)]; omega
      have hR : R = 50 := by rw [HR2.out, if_pos hx]
      clear HR2
      refine wp_region_by [Is (hdv h), Is (iv X), Is (nv X), Is (nv t), Is (.int .i64 (cmpn X t)), Is (.bool true), Is (.bool true)] [[], [(0, some 34)], [(1, some 35)], [], [(2, some 36), (3, some 37)], [(4, some 38)], [(5, some 39)]] [(0, some 34), (1, some 35), (2, some 36), (3, some 37), (4, some 38), (5, some 39), (6, some 33)] [0, 1, 3, 0, 15, 31, 63]
        (by kernel_rfl) (by kernel_rfl) (by kernel_rfl) (by kernel_rfl) ⟨Is.kept _, Is.kept _, Is.kept _, Is.kept _, Is.kept _, Is.kept _, Is.kept _, trivial⟩ ⟨?_, ?_, ?_, ?_, ?_, ?_, ?_, trivial⟩ ?_
      · as_aux_lemma =>
        refine fun w' hB => ?_
        show wpList _ _ _ _ _ _
        go_wp2_with (first | refine wpList_load_hd rfl (.tmp 2) rfl w.heap.size h rfl (block_keep hB K3.out) ?_)
        exact ⟨_, rfl, rfl, Below.refl _ _⟩
      · as_aux_lemma =>
        refine fun w' hB v0 h0 => ?_
        obtain rfl := h0
        show wpList _ _ _ _ _ _
        go_wp2_with fail
        refine (ci.out w').mono ?_
        rintro e w2 ⟨rfl, hb2⟩
        go_wp2_with fail
        exact ⟨iv X, by first | rfl | (go_simp; done), rfl, hb2⟩
      · as_aux_lemma =>
        refine fun w' hB v1 h1 => ?_
        obtain rfl := h1
        show wpList _ _ _ _ _ _
        go_wp2_with fail
        refine (cf.out w').mono ?_
        rintro e w2 ⟨rfl, hb2⟩
        go_wp2_with fail
        exact ⟨nv X, by first | rfl | (go_simp; done), rfl, hb2⟩
      · as_aux_lemma =>
        refine fun w' hB => ?_
        show wpList _ _ _ _ _ _
        obtain ⟨T_0, T_1, T_2, T_3, T_f, T_z⟩ := cells4 (block_keep hB T3.out)
        go_wp2_with fail
        exact ⟨nv t, rfl, rfl, Below.refl _ _⟩
      · as_aux_lemma =>
        refine fun w' hB v2 h2 v3 h3 => ?_
        obtain rfl := h2
        obtain rfl := h3
        show wpList _ _ _ _ _ _
        go_wp2_with fail
        refine (cc2.out w').mono ?_
        rintro e w2 ⟨rfl, hb2⟩
        go_wp2_with fail
        exact ⟨.int .i64 (cmpn X t), by first | rfl | (go_simp; done), rfl, hb2⟩
      · as_aux_lemma =>
        refine fun w' hB v4 h4 => ?_
        obtain rfl := h4
        show wpList _ _ _ _ _ _
        go_wp2_with fail
        exact ⟨.bool true, by first | rfl | (go_simp; done), rfl, Below.refl _ _⟩
      · as_aux_lemma =>
        refine fun w' hB v5 h5 => ?_
        obtain rfl := h5
        show wpList _ _ _ _ _ _
        go_wp2_with fail
        exact ⟨.bool true, by first | rfl | (go_simp; done), rfl, Below.refl _ _⟩
      · refine fun w' hB v0 h0 v1 h1 v2 h2 v3 h3 v4 h4 v5 h5 v6 h6 => ?_
        obtain rfl := h6
        simp only [onP]
        go_simp
        clear h0 h1 h2 h3 h4 h5
        have BF := Lib.hid (below_next B3.out hB)
        subst hR
        clear hB K3 T3 B3
        go_wp2_with fail
        go_ret
        exact ⟨rfl, BF.out⟩
    · have hc2 : ¬ 0 < cmpn X t := by unfold cmpn; split <;> (try split) <;> omega
      have hR : R = 0 := by rw [HR2.out, if_neg hx]
      clear HR2
      refine wp_region_by [Is (hdv h), Is (iv X), Is (nv X), Is (nv t), Is (.int .i64 (cmpn X t)), Is (.bool false), Is (.bool false)] [[], [(0, some 34)], [(1, some 35)], [], [(2, some 36), (3, some 37)], [(4, some 38)], [(5, some 39)]] [(0, some 34), (1, some 35), (2, some 36), (3, some 37), (4, some 38), (5, some 39), (6, some 33)] [0, 1, 3, 0, 15, 31, 63]
        (by kernel_rfl) (by kernel_rfl) (by kernel_rfl) (by kernel_rfl) ⟨Is.kept _, Is.kept _, Is.kept _, Is.kept _, Is.kept _, Is.kept _, Is.kept _, trivial⟩ ⟨?_, ?_, ?_, ?_, ?_, ?_, ?_, trivial⟩ ?_
      · as_aux_lemma =>
        refine fun w' hB => ?_
        show wpList _ _ _ _ _ _
        go_wp2_with (first | refine wpList_load_hd rfl (.tmp 2) rfl w.heap.size h rfl (block_keep hB K3.out) ?_)
        exact ⟨_, rfl, rfl, Below.refl _ _⟩
      · as_aux_lemma =>
        refine fun w' hB v0 h0 => ?_
        obtain rfl := h0
        show wpList _ _ _ _ _ _
        go_wp2_with fail
        refine (ci.out w').mono ?_
        rintro e w2 ⟨rfl, hb2⟩
        go_wp2_with fail
        exact ⟨iv X, by first | rfl | (go_simp; done), rfl, hb2⟩
      · as_aux_lemma =>
        refine fun w' hB v1 h1 => ?_
        obtain rfl := h1
        show wpList _ _ _ _ _ _
        go_wp2_with fail
        refine (cf.out w').mono ?_
        rintro e w2 ⟨rfl, hb2⟩
        go_wp2_with fail
        exact ⟨nv X, by first | rfl | (go_simp; done), rfl, hb2⟩
      · as_aux_lemma =>
        refine fun w' hB => ?_
        show wpList _ _ _ _ _ _
        obtain ⟨T_0, T_1, T_2, T_3, T_f, T_z⟩ := cells4 (block_keep hB T3.out)
        go_wp2_with fail
        exact ⟨nv t, rfl, rfl, Below.refl _ _⟩
      · as_aux_lemma =>
        refine fun w' hB v2 h2 v3 h3 => ?_
        obtain rfl := h2
        obtain rfl := h3
        show wpList _ _ _ _ _ _
        go_wp2_with fail
        refine (cc2.out w').mono ?_
        rintro e w2 ⟨rfl, hb2⟩
        go_wp2_with fail
        exact ⟨.int .i64 (cmpn X t), by first | rfl | (go_simp; done), rfl, hb2⟩
      · as_aux_lemma =>
        refine fun w' hB v4 h4 => ?_
        obtain rfl := h4
        show wpList _ _ _ _ _ _
        go_wp2_with fail
        exact ⟨.bool false, by first | rfl | (go_simp; done), rfl, Below.refl _ _⟩
      · as_aux_lemma =>
        refine fun w' hB v5 h5 => ?_
        obtain rfl := h5
        show wpList _ _ _ _ _ _
        go_wp2_with fail
        exact ⟨.bool false, by first | rfl | (go_simp; done), rfl, Below.refl _ _⟩
      · refine fun w' hB v0 h0 v1 h1 v2 h2 v3 h3 v4 h4 v5 h5 v6 h6 => ?_
        obtain rfl := h6
        simp only [onP]
        go_simp
        clear h0 h1 h2 h3 h4 h5
        have BF := Lib.hid (below_next B3.out hB)
        subst hR
        clear hB K3 T3 B3
        go_wp2_with fail
        go_ret
        exact ⟨rfl, BF.out⟩
  · have hc : 0 < cmpn t m := by unfold cmpn; rw [if_neg (by omega), if_neg (by omega)]; omega
    have hR := R30.out (by simp; omega)
    clear HR R30
    subst hR
    go_wp2_with fail
    go_ret
    exact ⟨rfl, B3.out⟩
end Go.Proofs.Ytnbppbnjkmopeaa
namespace Go.Proofs.Ytnbppbnjkmopeaa
open Go.RowKit

def Hd.up (h : Hd) : Hd := ⟨h.v, h.p, h.r, h.t, h.b, (h.n + 1) % 4294967296⟩
theorem Hd.up_ok {h : Hd} (hk : h.ok) : h.up.ok := ⟨hk.1, hk.2.1, hk.2.2.1, hk.2.2.2.1, hk.2.2.2.2.1, Nat.mod_lt _ (by omega)⟩
/-- the first header, of so many, behind which work stands -/
def mineP : Nat → Hd → Nat → Option Hd
  | 0, _, _ => none
  | k + 1, h, l => if hpr h l = 0 then some h else mineP k h.up l
def mres : Option Hd → Value
  | some m => .tuple #[hdv m, .bool true]
  | none => .tuple #[hdv hd0, .bool false]

theorem hdcs_set (h : Hd) (n : Nat) : (hdcs h).set 67 (.int .u32 (n : Int)) = hdcs ⟨h.v, h.p, h.r, h.t, h.b, n⟩ := by
  unfold hdcs
  rw [List.set_cons_succ, List.set_append_right _ _ (by rw [ids_len]; omega), ids_len, List.set_append_right _ _ (by rw [ids_len]; omega), ids_len]
  rfl
theorem hd_setn {w : World} {g : Nat} {h : Hd} (n : Nat) (hg : w.heap[g]? = some (hdblk h)) : (w.setCell ⟨g, 67, none⟩ (.int .u32 (n : Int))).heap[g]? = some (hdblk ⟨h.v, h.p, h.r, h.t, h.b, n⟩) := by
  rw [heap_setCell_same w g 67 _ _ _ hg]
  unfold hdblk
  rw [← hdcs_set h n, List.setIfInBounds_toArray]

set_option maxRecDepth 100000 in
set_option maxHeartbeats 4000000 in
theorem mine_any (h : Hd) (hk : h.ok) (l : Nat) (hl : l < 4294967296) (k : Int) (w : World) :
    Calls Try.prog 27 #[hdv h, .int .u32 (l : Int), .int .i64 k] w fun e w' => e = .returned (mres (mineP (min k 65536).toNat h l)) ∧ Below w.heap.size w w' := by
  have HK := Lib.hid hk
  have cp := Lib.hid fun (h : Hd) (hk : h.ok) w => proved_any h hk l hl w
  obtain ⟨K0, hK0⟩ : ∃ K0, K0 = (min k 65536).toNat := ⟨_, rfl⟩
  have e1 : max (0 : Int) (min k 65536) = (K0 : Int) := by omega
  have hKl : K0 ≤ 65536 := by omega
  rw [← hK0]
  clear hK0
  obtain ⟨R, hR⟩ : ∃ R, R = mres (mineP K0 h l) := ⟨_, rfl⟩
  rw [← hR]
  have HR := Lib.hid hR
  have B : Below w.heap.size w (w.alloc (hdblk h)) := below_alloc (Below.refl _ _) _
  have K := heap_new w (hdblk h)
  have KB := Lib.hid K; have BB := Lib.hid B
  have ez := hdz
  clear K B hR hk hl
  unfold hdv
  go_enter Try.func27, Try.ntmps27
  go_wp2_with fail
  have KA := Lib.hid (keep_alloc (hdblk hd0) KB.out)
  have KZ : Hid (((w.alloc (hdblk h)).alloc (hdblk hd0)).heap[w.heap.size + 1]? = some (hdblk hd0)) := Lib.hid (heap_new_at (by simp))
  have B1 := Lib.hid (below_alloc BB.out (hdblk hd0))
  clear KB BB ez
  go_loopg [11] K0 (fun g ix wr => ∃ (j : Nat) (h' : Hd), g = K0 - j ∧ j ≤ K0 ∧ ix = .int .i64 j ∧ h'.ok ∧ mres (mineP (K0 - j) h' l) = R ∧ wr.heap[w.heap.size]? = some (hdblk h') ∧ wr.heap[w.heap.size + 1]? = some (hdblk hd0) ∧ Below w.heap.size w wr)
  case atStart => exact ⟨0, h, rfl, by omega, rfl, HK.out, HR.out.symm, KA.out, KZ.out, B1.out⟩
  case round =>
    clear KA KZ B1 HK HR
    obtain ⟨j, h', hg, hj, rfl, hk, hR, hA, hZ, hB⟩ := hrel
    have HG := Lib.hid hg; have HK := Lib.hid hk; have HR := Lib.hid hR; have KA := Lib.hid hA; have KZ := Lib.hid hZ; have HB := Lib.hid hB
    clear hg hk hR hA hZ hB
    by_cases hlt : j < K0
    · obtain ⟨m, hm⟩ : ∃ m, m = K0 - (j + 1) := ⟨_, rfl⟩
      have hR2 := HR.out
      rw [show K0 - j = m + 1 by omega, mineP] at hR2
      have HM := Lib.hid hm
      obtain ⟨x, hx⟩ : ∃ x, x = hpr h' l := ⟨_, rfl⟩
      rw [← hx] at hR2
      have cc := Lib.hid (cp.out h' HK.out)
      rw [← hx] at cc
      have HR2 := Lib.hid hR2
      clear hm hR2 hx HR
      go_wp2_with (first | refine wpList_load_hd rfl (.tmp 3) rfl w.heap.size h' rfl KA.out ?_)
      refine (cc.out _).mono ?_
      rintro e w2 ⟨rfl, hb2⟩
      have KA2 := Lib.hid (below_keep hb2 KA.out); have KZ2 := Lib.hid (below_keep hb2 KZ.out)
      have HB2 := Lib.hid (below_next HB.out hb2)
      have hgs : w.heap.size + 1 < w2.heap.size := block_lt KZ2.out
      clear hb2 KA KZ HB
      by_cases h0 : x = 0
      · have hr := HR2.out
        rw [if_pos h0] at hr
        subst h0
        have HR3 := Lib.hid hr
        clear hr HR2
        go_wp2_with (first | refine wpList_load_hd rfl (.tmp 3) rfl w.heap.size h' rfl KA2.out ?_ | (refine wpList_store_hd rfl (.tmp 6) (.tmp 17) rfl (w.heap.size + 1) hd0 h' rfl rfl KZ2.out (fun w3 h1 h2 h3 h4 => ?_)))
        have hl := loadVar_hd h1
        exact bodyPost_ret (v := .tuple #[hdv h', .bool true]) (by simp [results, Try.results27, asAddr, hl]) rfl ⟨by rw [← HR3.out]; rfl, h4 _ _ (by omega) HB2.out⟩
      · have hr := HR2.out
        rw [if_neg h0] at hr
        have HR3 := Lib.hid hr
        have h0' : ¬ (x : Int) = 0 := by omega
        clear hr HR2 h0
        have c67 := (hd_cell KA2.out 67).trans (hdcs_n h')
        have f67 : w2.frozen? ⟨w.heap.size, 67, none⟩ = false := frozen_of_row _ _ _ _ _ KA2.out
        obtain ⟨n2, hn2⟩ : ∃ n2, n2 = (h'.n + 1) % 4294967296 := ⟨_, rfl⟩
        have en2 : ((h'.n : Int) + 1) % 4294967296 = (n2 : Int) := by omega
        have hu : h'.up = ⟨h'.v, h'.p, h'.r, h'.t, h'.b, n2⟩ := by rw [hn2]; rfl
        have HU := Lib.hid hu
        have hnb : h'.n < 4294967296 := HK.out.2.2.2.2.2
        clear hn2 hu
        go_wp2_with fail
        go_roundg (K0 - (j + 1))
        case measure => have := HG.out; omega
        case rel => exact ⟨j + 1, h'.up, rfl, by omega, by go_num, Hd.up_ok HK.out, by rw [← HM.out]; exact HR3.out, by rw [HU.out]; exact hd_setn n2 KA2.out, (heap_setCell_other _ _ _ _ (show w.heap.size + 1 ≠ w.heap.size by omega)).trans KZ2.out, HB2.out.setCell (Nat.le_refl _) _⟩
    · obtain rfl : j = K0 := by omega
      have hr := HR.out
      rw [Nat.sub_self] at hr
      have HR3 : Hid (mres none = R) := Lib.hid hr
      have ez := hdz
      clear hr HR hlt
      go_wp2_with (first | (refine wpList_store_hd rfl (.tmp 6) (.tmp 23) rfl (w.heap.size + 1) hd0 hd0 rfl rfl KZ.out (fun w3 h1 h2 h3 h4 => ?_)))
      have hl := loadVar_hd h1
      exact bodyPost_ret (v := .tuple #[hdv hd0, .bool false]) (by simp [results, Try.results27, asAddr, hl]) rfl ⟨by rw [← HR3.out]; rfl, h4 _ _ (by omega) HB.out⟩
end Go.Proofs.Ytnbppbnjkmopeaa
