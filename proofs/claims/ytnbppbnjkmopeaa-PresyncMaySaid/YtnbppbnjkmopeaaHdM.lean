/- Headers that are mined, in plain words. No condition. -/
import Derived.Test.YtnbppbnjkmopeaaHdG
import Derived.Test.YtnbppbnjkmopeaaHd3
namespace Go.Proofs.Ytnbppbnjkmopeaa
open Go.RowKit

def Hd.at (h : Hd) (n : Nat) : Hd := ⟨h.v, h.p, h.r, h.t, h.b, n⟩
theorem hd_back {w : World} {g : Nat} {h : Hd} {m : Nat} (K : w.heap[g]? = some (hdblk (h.at m))) : (w.setCell ⟨g, 67, none⟩ (.int .u32 (h.n : Int))).heap[g]? = some (hdblk h) := hd_setn (h := h.at m) h.n K
theorem hd_far67 {w : World} {g k : Nat} {v : Value} {o : Obj} (hne : k ≠ g) (K : w.heap[k]? = some o) : (w.setCell ⟨g, 67, none⟩ v).heap[k]? = some o := (heap_setCell_other w ⟨g, 67, none⟩ k v hne).trans K
theorem mine_mono : ∀ (k j : Nat) (h : Hd) (l : Nat) (m : Hd), k ≤ j → mineP k h l = some m → mineP j h l = some m
  | 0, _, _, _, _, _, e => by simp [mineP] at e
  | k + 1, 0, _, _, _, h, _ => by omega
  | k + 1, j + 1, h, l, m, hkj, e => by
    rw [mineP] at e ⊢
    split
    · rename_i h0; rw [if_pos h0] at e; exact e
    · rename_i h0; rw [if_neg h0] at e; exact mine_mono k j h.up l m (by omega) e
theorem mine_at : ∀ (k : Nat) (h : Hd) (l : Nat) (m : Hd), h.ok → k ≤ 1000 → mineP k h l = some m → ∃ j, j < k ∧ m = h.at ((h.n + j) % 4294967296)
  | 0, _, _, _, _, _, e => by simp [mineP] at e
  | k + 1, h, l, m, hk, hk1, e => by
    rw [mineP] at e
    split at e
    · cases e
      refine ⟨0, by omega, ?_⟩
      have := hk.2.2.2.2.2
      show _ = Hd.at _ _
      unfold Hd.at
      rw [Nat.add_zero, Nat.mod_eq_of_lt this]
    · obtain ⟨j, hj, hm⟩ := mine_at k h.up l m (Hd.up_ok hk) (by omega) e
      refine ⟨j + 1, by omega, ?_⟩
      rw [hm]
      unfold Hd.at Hd.up
      simp only [Hd.mk.injEq, true_and]
      have := hk.2.2.2.2.2
      omega
theorem mine_ok : ∀ (k : Nat) (h : Hd) (l : Nat) (m : Hd), h.ok → mineP k h l = some m → m.ok
  | 0, _, _, _, _, e => by simp [mineP] at e
  | k + 1, h, l, m, hk, e => by
    rw [mineP] at e
    split at e
    · cases e; exact hk
    · exact mine_ok k h.up l m (Hd.up_ok hk) e

def mhd (m : Option Hd) : Hd := m.getD hd0
theorem mres_eq (m : Option Hd) : mres m = .tuple #[hdv (mhd m), .bool m.isSome] := by cases m <;> rfl
theorem hd0_ok : hd0.ok := by unfold Hd.ok hd0; simp
theorem mhd_ok {k : Nat} {h : Hd} {l : Nat} (hk : h.ok) : (mhd (mineP k h l)).ok := by
  unfold mhd
  cases e : mineP k h l with
  | none => exact hd0_ok
  | some m => exact mine_ok k h l m hk e
end Go.Proofs.Ytnbppbnjkmopeaa
