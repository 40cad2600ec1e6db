/- head.Mine. No condition. -/
import Derived.Test.YtnbppbnjkmopeaaHdD
namespace Go.Proofs.Ytnbppbnjkmopeaa
open Go.RowKit

def Hd.up (h : Hd) : Hd := ⟨h.v, h.p, h.r, h.t, h.b, (h.n + 1) % 4294967296⟩
theorem Hd.up_ok {h : Hd} (hk : h.ok) : h.up.ok := ⟨hk.1, hk.2.1, hk.2.2.1, hk.2.2.2.1, hk.2.2.2.2.1, Nat.mod_lt _ (by omega)⟩
/-- the first header, of so many, behind which work stands -/
def mineP : Nat → Hd → Nat → Option Hd
  | 0, _, _ => none
  | k + 1, h, l => if hpr h l = 0 then some h else mineP k h.up l
def mres : Option Hd → Value
  | some m => .tuple #[hdv m, .bool true]
  | none => .tuple #[hdv hd0, .bool false]

theorem hdcs_set (h : Hd) (n : Nat) : (hdcs h).set 67 (.int .u32 (n : Int)) = hdcs ⟨h.v, h.p, h.r, h.t, h.b, n⟩ := by
  unfold hdcs
  rw [List.set_cons_succ, List.set_append_right _ _ (by rw [ids_len]; omega), ids_len, List.set_append_right _ _ (by rw [ids_len]; omega), ids_len]
  rfl
theorem hd_setn {w : World} {g : Nat} {h : Hd} (n : Nat) (hg : w.heap[g]? = some (hdblk h)) : (w.setCell ⟨g, 67, none⟩ (.int .u32 (n : Int))).heap[g]? = some (hdblk ⟨h.v, h.p, h.r, h.t, h.b, n⟩) := by
  rw [heap_setCell_same w g 67 _ _ _ hg]
  unfold hdblk
  rw [← hdcs_set h n, List.setIfInBounds_toArray]

set_option maxRecDepth 100000 in
set_option maxHeartbeats 4000000 in
theorem mine_any (h : Hd) (hk : h.ok) (l : Nat) (hl : l < 4294967296) (k : Int) (w : World) :
    Calls Try.prog 27 #[hdv h, .int .u32 (l : Int), .int .i64 k] w fun e w' => e = .returned (mres (mineP (min k 65536).toNat h l)) ∧ Below w.heap.size w w' := by
  have HK := Lib.hid hk
  have cp := Lib.hid fun (h : Hd) (hk : h.ok) w => proved_any h hk l hl w
  obtain ⟨K0, hK0⟩ : ∃ K0, K0 = (min k 65536).toNat := ⟨_, rfl⟩
  have e1 : max (0 : Int) (min k 65536) = (K0 : Int) := by omega
  have hKl : K0 ≤ 65536 := by omega
  rw [← hK0]
  clear hK0
  obtain ⟨R, hR⟩ : ∃ R, R = mres (mineP K0 h l) := ⟨_, rfl⟩
  rw [← hR]
  have HR := Lib.hid hR
  have B : Below w.heap.size w (w.alloc (hdblk h)) := below_alloc (Below.refl _ _) _
  have K := heap_new w (hdblk h)
  have KB := Lib.hid K; have BB := Lib.hid B
  have ez := hdz
  clear K B hR hk hl
  unfold hdv
  go_enter Try.func27, Try.ntmps27
  go_wp2_with fail
  have KA := Lib.hid (keep_alloc (hdblk hd0) KB.out)
  have KZ : Hid (((w.alloc (hdblk h)).alloc (hdblk hd0)).heap[w.heap.size + 1]? = some (hdblk hd0)) := Lib.hid (heap_new_at (by simp))
  have B1 := Lib.hid (below_alloc BB.out (hdblk hd0))
  clear KB BB ez
  go_loopg [11] K0 (fun g ix wr => ∃ (j : Nat) (h' : Hd), g = K0 - j ∧ j ≤ K0 ∧ ix = .int .i64 j ∧ h'.ok ∧ mres (mineP (K0 - j) h' l) = R ∧ wr.heap[w.heap.size]? = some (hdblk h') ∧ wr.heap[w.heap.size + 1]? = some (hdblk hd0) ∧ Below w.heap.size w wr)
  case atStart => exact ⟨0, h, rfl, by omega, rfl, HK.out, HR.out.symm, KA.out, KZ.out, B1.out⟩
  case round =>
    clear KA KZ B1 HK HR
    obtain ⟨j, h', hg, hj, rfl, hk, hR, hA, hZ, hB⟩ := hrel
    have HG := Lib.hid hg; have HK := Lib.hid hk; have HR := Lib.hid hR; have KA := Lib.hid hA; have KZ := Lib.hid hZ; have HB := Lib.hid hB
    clear hg hk hR hA hZ hB
    by_cases hlt : j < K0
    · obtain ⟨m, hm⟩ : ∃ m, m = K0 - (j + 1) := ⟨_, rfl⟩
      have hR2 := HR.out
      rw [show K0 - j = m + 1 by omega, mineP] at hR2
      have HM := Lib.hid hm
      obtain ⟨x, hx⟩ : ∃ x, x = hpr h' l := ⟨_, rfl⟩
      rw [← hx] at hR2
      have cc := Lib.hid (cp.out h' HK.out)
      rw [← hx] at cc
      have HR2 := Lib.hid hR2
      clear hm hR2 hx HR
      go_wp2_with (first | refine wpList_load_hd rfl (.tmp 3) rfl w.heap.size h' rfl KA.out ?_)
      refine (cc.out _).mono ?_
      rintro e w2 ⟨rfl, hb2⟩
      have KA2 := Lib.hid (below_keep hb2 KA.out); have KZ2 := Lib.hid (below_keep hb2 KZ.out)
      have HB2 := Lib.hid (below_next HB.out hb2)
      have hgs : w.heap.size + 1 < w2.heap.size := block_lt KZ2.out
      clear hb2 KA KZ HB
      by_cases h0 : x = 0
      · have hr := HR2.out
        rw [if_pos h0] at hr
        subst h0
        have HR3 := Lib.hid hr
        clear hr HR2
        go_wp2_with (first | refine wpList_load_hd rfl (.tmp 3) rfl w.heap.size h' rfl KA2.out ?_ | (refine wpList_store_hd rfl (.tmp 6) (.tmp 17) rfl (w.heap.size + 1) hd0 h' rfl rfl KZ2.out (fun w3 h1 h2 h3 h4 => ?_)))
        have hl := loadVar_hd h1
        exact bodyPost_ret (v := .tuple #[hdv h', .bool true]) (by simp [results, Try.results27, asAddr, hl]) rfl ⟨by rw [← HR3.out]; rfl, h4 _ _ (by omega) HB2.out⟩
      · have hr := HR2.out
        rw [if_neg h0] at hr
        have HR3 := Lib.hid hr
        have h0' : ¬ (x : Int) = 0 := by omega
        clear hr HR2 h0
        have c67 := (hd_cell KA2.out 67).trans (hdcs_n h')
        have f67 : w2.frozen? ⟨w.heap.size, 67, none⟩ = false := frozen_of_row _ _ _ _ _ KA2.out
        obtain ⟨n2, hn2⟩ : ∃ n2, n2 = (h'.n + 1) % 4294967296 := ⟨_, rfl⟩
        have en2 : ((h'.n : Int) + 1) % 4294967296 = (n2 : Int) := by omega
        have hu : h'.up = ⟨h'.v, h'.p, h'.r, h'.t, h'.b, n2⟩ := by rw [hn2]; rfl
        have HU := Lib.hid hu
        have hnb : h'.n < 4294967296 := HK.out.2.2.2.2.2
        clear hn2 hu
        go_wp2_with fail
        go_roundg (K0 - (j + 1))
        case measure => have := HG.out; omega
        case rel => exact ⟨j + 1, h'.up, rfl, by omega, by go_num, Hd.up_ok HK.out, by rw [← HM.out]; exact HR3.out, by rw [HU.out]; exact hd_setn n2 KA2.out, (heap_setCell_other _ _ _ _ (show w.heap.size + 1 ≠ w.heap.size by omega)).trans KZ2.out, HB2.out.setCell (Nat.le_refl _) _⟩
    · obtain rfl : j = K0 := by omega
      have hr := HR.out
      rw [Nat.sub_self] at hr
      have HR3 : Hid (mres none = R) := Lib.hid hr
      have ez := hdz
      clear hr HR hlt
      go_wp2_with (first | (refine wpList_store_hd rfl (.tmp 6) (.tmp 23) rfl (w.heap.size + 1) hd0 hd0 rfl rfl KZ.out (fun w3 h1 h2 h3 h4 => ?_)))
      have hl := loadVar_hd h1
      exact bodyPost_ret (v := .tuple #[hdv hd0, .bool false]) (by simp [results, Try.results27, asAddr, hl]) rfl ⟨by rw [← HR3.out]; rfl, h4 _ _ (by omega) HB.out⟩
end Go.Proofs.Ytnbppbnjkmopeaa
