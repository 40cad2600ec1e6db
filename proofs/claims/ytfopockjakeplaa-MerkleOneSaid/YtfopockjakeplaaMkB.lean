/- merkle.pair. No condition. -/
import Derived.Test.YtfopockjakeplaaMkA
namespace Go.Proofs.Ytfopockjakeplaa
open Go.RowKit

/-- the sum of two -/
def prs (a b : Nat) : Nat := tw (idb a ++ idb b)
theorem prs_lt (a b : Nat) : prs a b < 2 ^ 256 := tw_lt _

set_option maxRecDepth 100000 in
set_option maxHeartbeats 1000000 in
theorem pair_any (a b : Nat) (w : World) : Calls Try.prog 35 #[iv a, iv b] w fun e w' => e = .returned (iv (prs a b)) ∧ Below w.heap.size w w' := by
  obtain ⟨X, hX⟩ : ∃ X, X = prs a b := ⟨_, rfl⟩
  rw [← hX]
  have HX := Lib.hid hX
  clear hX
  have B : Below w.heap.size w w := Below.refl _ _
  go_enter Try.func35, Try.ntmps35
  go_wp2_with fail
  rw [iblk_lit]
  obtain ⟨h1, h2, h3⟩ := alloc3 w (iblk a) (iblk b) (iblk 0)
  refine wp_abs (fun W => W.heap[w.heap.size]? = some (iblk a) ∧ W.heap[w.heap.size + 1]? = some (iblk b) ∧ W.heap[w.heap.size + 2]? = some (iblk 0) ∧ Below w.heap.size w W) ⟨h1, h2, h3, (by repeat' (first | (with_reducible exact Below.refl _ _) | (with_reducible assumption) | (with_reducible refine below_alloc ?_ _) | (with_reducible refine Below.drew ?_) | (with_reducible refine below_drewN ?_ _) | (with_reducible refine Below.setCell ?_ ?_ _) | go_size))⟩ ?_
  clear h1 h2 h3 B
  rintro W ⟨k1, k2, k3, B⟩
  have K1 := Lib.hid k1; have K2 := Lib.hid k2; have K3 := Lib.hid k3; have BF := Lib.hid B
  obtain ⟨g, hg⟩ : ∃ g, g = w.heap.size := ⟨_, rfl⟩
  have HG := Lib.hid hg
  rw [← hg] at K1 K2 K3
  rw [← hg]
  clear k1 k2 k3 B hg
  have ct := Lib.hid fun (V : World) g2 (hg : V.heap[g2]? = some (.cells #[.slice (some ⟨g, 0, none⟩) 32 32, .slice (some ⟨g + 1, 0, none⟩) 32 32] 22 (0, 0))) (hb : Below W.heap.size W V) =>
    twice_two _ _ (idb a) (idb b) g2 22 2 V hg (idb_at (block_keep hb K1.out) 32) (idb_at (block_keep hb K2.out) 32) (idb_byte a) (idb_byte b) (by rw [idb_len, idb_len]; omega)
  rw [show tw (idb a ++ idb b) = X from HX.out.symm] at ct
  clear HX
  refine wp_region_tail 4 [Is (.slice (some ⟨g, 0, none⟩) 32 32), Is (.slice (some ⟨g + 1, 0, none⟩) 32 32), RowOf #[.slice (some ⟨g, 0, none⟩) 32 32, .slice (some ⟨g + 1, 0, none⟩) 32 32] 22 2 2, Is (iv X)] [[], [], [(0, some 5), (1, some 6)], [(2, some 7)], [(3, some 8)]] [(0, some 5), (1, some 6), (2, some 7), (3, some 8)] [0, 0, 3, 7, 15]
    (by kernel_rfl) (by kernel_rfl) (by kernel_rfl) (by kernel_rfl) (by kernel_rfl) ⟨Is.kept _, Is.kept _, RowOf.kept _ _ _ _, Is.kept _, trivial⟩ ⟨?_, ?_, ?_, ?_, trivial⟩ ?_
  · as_aux_lemma =>
    refine fun w' hB => ?_
    show wpList _ _ _ _ _ _
    go_wp2_with fail
    exact ⟨.slice (some ⟨g, 0, none⟩) 32 32, by first | rfl | (go_simp; done), rfl, Below.refl _ _⟩
  · as_aux_lemma =>
    refine fun w' hB => ?_
    show wpList _ _ _ _ _ _
    go_wp2_with fail
    exact ⟨.slice (some ⟨g + 1, 0, none⟩) 32 32, by first | rfl | (go_simp; done), rfl, Below.refl _ _⟩
  · as_aux_lemma =>
    refine fun w' hB v0 h0 v1 h1 => ?_
    obtain rfl := h0
    obtain rfl := h1
    show wpList _ _ _ _ _ _
    go_wp2_with fail
    exact ⟨_, rfl, ⟨_, rfl, heap_new _ _⟩, below_alloc (Below.refl _ _) _⟩
  · as_aux_lemma =>
    refine fun w' hB v2 h2 => ?_
    obtain ⟨g2, rfl, hg2⟩ := h2
    show wpList _ _ _ _ _ _
    go_wp2_with fail
    refine (ct.out _ _ hg2 hB).mono ?_
    rintro e w2 ⟨rfl, hb2⟩
    go_wp2_with fail
    exact ⟨iv X, by first | rfl | (go_simp; done), rfl, hb2⟩
  · refine fun w' hB v0 h0 v1 h1 v2 h2 v3 h3 => ?_
    obtain rfl := h3
    simp only [onP, List.drop_succ_cons, List.drop_zero]
    go_simp
    clear h0 h1 h2
    have K3' := Lib.hid (block_keep hB K3.out)
    have B2 := below_next BF.out hB
    have hgw : w.heap.size ≤ g + 2 := by rw [HG.out]; omega
    go_wp2_with (first | (refine wpList_store_id rfl (.tmp 4) (.tmp 8) rfl (g + 2) 0 X rfl rfl K3'.out (fun w3 h1 h2 h3 h4 => ?_)))
    have hl := loadVar_id h1
    exact bodyPost_ret (v := iv X) (by simp [results, Try.results35, Act.put, asAddr, hl]) rfl ⟨rfl, h4 _ _ hgw B2⟩
end Go.Proofs.Ytfopockjakeplaa
