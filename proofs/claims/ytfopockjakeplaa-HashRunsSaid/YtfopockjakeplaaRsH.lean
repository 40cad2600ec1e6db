/- tallystickref01.Twice; bytes as a text. No condition. -/
import Derived.Test.YtfopockjakeplaaRsG
namespace Go.Proofs.Ytfopockjakeplaa
open Go.RowKit

/-- bytes as a text -/
theorem run_str_at {w : World} {v : Value} {q : List Nat} (hb : BytesAt w v q) : (convert 22 9 v).run Try.prog w = .ok (.string (str q)) w := by
  obtain ⟨x, cap, rfl⟩ := hb.shape
  rw [run_convert_bytes_string w 22 9 5 x q.length cap underlying_u8s (by kernel_rfl) (by kernel_rfl)]
  rcases hb with ⟨e, rfl⟩ | ⟨a, c, e, hc⟩
  · obtain ⟨rfl, -, -⟩ := Value.slice.inj e
    rfl
  · obtain ⟨rfl, -, rfl⟩ := Value.slice.inj e
    rw [run_bytesToString w a q.length cap (q.map fun (x : Nat) => (x : Int)) ?_, fold_str]
    · have e2 : (q.map fun (x : Nat) => (x : Int)).map (fun n => UInt8.ofNat n.toNat) = q.map UInt8.ofNat := by
        rw [List.map_map]
        exact List.map_congr_left fun x _ => by simp
      rw [e2]
      rfl
    · have e3 : (q.map fun (x : Nat) => (x : Int)).map (Value.int .u8) = u8s q := by
        unfold u8s
        rw [List.map_map]
        rfl
      rw [e3]
      have := run_loadCells_list (P := Try.prog) (w := w) a (u8s q) fun j v hj => by
        have hjl : j < q.length := by
          have := (List.getElem?_eq_some_iff.1 hj).1
          rwa [u8s_len] at this
        rw [u8s_get q j hjl] at hj
        rw [hc j hjl]; exact hj
      rwa [u8s_len] at this
theorem idb_rat {w : World} {g n : Nat} (h : w.heap[g]? = some (rblk n)) (c : Nat) : BytesAt w (.slice (some ⟨g, 0, none⟩) 32 c) (idb n) :=
  .inr ⟨⟨g, 0, none⟩, c, by rw [idb_len], fun j hj => by
    rw [idb_len] at hj
    rw [Addr.add_lit, Nat.zero_add, rid_cell h j hj, idb_get n j hj]⟩

set_option maxRecDepth 100000 in
set_option maxHeartbeats 1000000 in
theorem reftwice_any (q : List Nat) (hb : ∀ y ∈ q, y < 256) (hlen : q.length ≤ 100000) (w : World) :
    Calls Try.prog 20 #[.string (str q)] w fun e w' => e = .returned (iv (tw q)) ∧ Below w.heap.size w w' := by
  have C1 := Lib.hid fun w => refsum_any q hb hlen w
  obtain ⟨X, hX⟩ : ∃ X, X = sha q := ⟨_, rfl⟩
  have et : tw q = sha (idb X) := by rw [hX]; rfl
  rw [et]
  rw [← hX] at C1
  have C2 := Lib.hid fun w => refsum_any (idb X) (idb_byte X) (by rw [idb_len]; omega) w
  obtain ⟨sq, hsq⟩ : ∃ sq, sq = str q := ⟨_, rfl⟩
  rw [← hsq] at C1
  rw [← hsq]
  obtain ⟨Y, hY⟩ : ∃ Y, Y = sha (idb X) := ⟨_, rfl⟩
  rw [← hY] at C2
  rw [← hY]
  have B : Below w.heap.size w w := Below.refl _ _
  clear hX et hb hlen hsq hY
  go_enter Try.func20, Try.ntmps20
  go_wp2_with fail
  rw [rblk_lit]
  refine (C1.out _).mono ?_
  rintro e w1 ⟨rfl, hb1⟩
  have K0 := Lib.hid (below_keep hb1 (heap_new w (rblk 0)))
  have B1 := below_next (w := w) (by repeat' (first | (with_reducible exact Below.refl _ _) | (with_reducible assumption) | (with_reducible refine below_alloc ?_ _) | (with_reducible refine Below.drew ?_) | (with_reducible refine below_drewN ?_ _) | (with_reducible refine Below.setCell ?_ ?_ _) | go_size)) hb1
  have hz0 : w.heap.size < w1.heap.size := by have := hb1.size; simp at this; omega
  clear hb1 C1 B
  have ei := rblk_lit
  go_wp2_with (first | (refine wpList_store_rid rfl (.tmp 3) (.tmp 5) rfl w1.heap.size 0 X rfl rfl (heap_new w1 _) (fun w2 h1 h2 h3 h4 => ?_); have K := Lib.hid h1; have K0' := Lib.hid ((h2 _ (by omega)).trans (keep_alloc _ K0.out)); have B2 := h4 w.heap.size w (by omega) (below_alloc B1 _); have hcv := run_str_at (idb_rat h1 32); clear h1 h2 h3 h4))
  refine (C2.out _).mono ?_
  rintro e w3 ⟨rfl, hb3⟩
  have K3 := below_keep hb3 K0'.out
  have B3 := below_next (w := w) B2 hb3
  clear hb3 hcv
  go_wp2_with (first | refine wpList_store_rid rfl (.tmp 2) (.tmp 8) rfl w.heap.size 0 Y rfl rfl K3 (fun w' h1 h2 h3 h4 => ?_))
  have hl := loadVar_rid h1
  exact bodyPost_ret (v := iv Y) (by simp [results, Try.results20, Act.put, asAddr, hl]) rfl ⟨rfl, h4 _ _ (Nat.le_refl _) B3⟩
end Go.Proofs.Ytfopockjakeplaa
