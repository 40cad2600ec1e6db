/- hash.Twice; an ID's bytes; sums of rows that are laid out. No condition. -/
import Derived.Test.YtnbppbnjkmopeaaHashD
namespace Go.Proofs.Ytnbppbnjkmopeaa
open Go.RowKit

/-- an ID's bytes -/
def idb (n : Nat) : List Nat := (List.range 32).map fun i => n / 2 ^ (8 * i) % 256
theorem idb_len (n : Nat) : (idb n).length = 32 := by simp [idb]
theorem idb_byte (n : Nat) : ∀ y ∈ idb n, y < 256 := by
  intro y hy
  simp only [idb, List.mem_map] at hy
  obtain ⟨i, _, rfl⟩ := hy
  exact Nat.mod_lt _ (by omega)
theorem idb_get (n j : Nat) (hj : j < 32) : (((idb n).getD j 0 : Nat) : Int) = lb n j := by
  unfold idb lb
  simp [List.getD_eq_getElem?_getD, hj]
theorem idb_at {w : World} {g n : Nat} (h : w.heap[g]? = some (iblk n)) (c : Nat) : BytesAt w (.slice (some ⟨g, 0, none⟩) 32 c) (idb n) :=
  .inr ⟨⟨g, 0, none⟩, c, by rw [idb_len], fun j hj => by
    rw [idb_len] at hj
    rw [Addr.add_lit, Nat.zero_add, id_cell h j hj, idb_get n j hj]⟩
/-- the sum of the sum -/
def tw (l : List Nat) : Nat := sha (idb (sha l))
theorem tw_lt (l : List Nat) : tw l < 2 ^ 256 := sha_lt _

/-- a laid row of slices of bytes -/
theorem parts_row {w : World} {g : Nat} {vs : List Value} {t : TypeId} {ls : List (List Nat)} (hl : vs.length = ls.length) (h : w.heap[g]? = some (.cells vs.toArray t (0, 0)))
    (hb : ∀ j, j < ls.length → BytesAt w (vs.getD j undef) (ls.getD j [])) : PartsAt w (some ⟨g, 0, none⟩) ls := fun _ => by
  refine ⟨g, 0, rfl, fun j hj => ⟨vs.getD j undef, ?_, hb j hj⟩⟩
  rw [Nat.zero_add, cell_of_row w g j _ _ _ h]
  simp [List.getD_eq_getElem?_getD, show j < vs.length by omega]
theorem parts_one {w : World} {g : Nat} {v : Value} {t : TypeId} {l : List Nat} (h : w.heap[g]? = some (.cells #[v] t (0, 0))) (hb : BytesAt w v l) : PartsAt w (some ⟨g, 0, none⟩) [l] :=
  parts_row (vs := [v]) rfl h fun j hj => by
    obtain rfl : j = 0 := by simpa using hj
    exact hb
theorem parts_two {w : World} {g : Nat} {v v2 : Value} {t : TypeId} {l l2 : List Nat} (h : w.heap[g]? = some (.cells #[v, v2] t (0, 0))) (hb : BytesAt w v l) (hb2 : BytesAt w v2 l2) : PartsAt w (some ⟨g, 0, none⟩) [l, l2] :=
  parts_row (vs := [v, v2]) rfl h fun j hj => by
    have hj' : j = 0 ∨ j = 1 := by simp only [List.length_cons, List.length_nil] at hj; omega
    rcases hj' with rfl | rfl
    · exact hb
    · exact hb2
theorem parts_three {w : World} {g : Nat} {v v2 v3 : Value} {t : TypeId} {l l2 l3 : List Nat} (h : w.heap[g]? = some (.cells #[v, v2, v3] t (0, 0))) (hb : BytesAt w v l) (hb2 : BytesAt w v2 l2) (hb3 : BytesAt w v3 l3) : PartsAt w (some ⟨g, 0, none⟩) [l, l2, l3] :=
  parts_row (vs := [v, v2, v3]) rfl h fun j hj => by
    have hj' : j = 0 ∨ j = 1 ∨ j = 2 := by simp only [List.length_cons, List.length_nil] at hj; omega
    rcases hj' with rfl | rfl | rfl
    · exact hb
    · exact hb2
    · exact hb3

theorem sum_one (v : Value) (l : List Nat) (g : Nat) (t : TypeId) (c : Nat) (w : World) (h : w.heap[g]? = some (.cells #[v] t (0, 0))) (hv : BytesAt w v l) (hb : ∀ y ∈ l, y < 256) (hlen : l.length ≤ 100000) :
    Calls Try.prog 52 #[.slice (some ⟨g, 0, none⟩) 1 c] w fun e w' => e = .returned (iv (sha l)) ∧ Below w.heap.size w w' := by
  have := sum_any (some ⟨g, 0, none⟩) c [l] (by simpa using hb) (by simpa using hlen) (by simp) w (parts_one h hv)
  simpa using this
theorem sum_three {v v2 v3 : Value} {l l2 l3 : List Nat} (g : Nat) (t : TypeId) (c : Nat) (w : World) (h : w.heap[g]? = some (.cells #[v, v2, v3] t (0, 0))) (hv : BytesAt w v l) (hv2 : BytesAt w v2 l2) (hv3 : BytesAt w v3 l3) (hb : ∀ y ∈ l, y < 256) (hb2 : ∀ y ∈ l2, y < 256) (hb3 : ∀ y ∈ l3, y < 256) (hlen : l.length + (l2.length + l3.length) ≤ 100000) :
    Calls Try.prog 52 #[.slice (some ⟨g, 0, none⟩) 3 c] w fun e w' => e = .returned (iv (sha (l ++ (l2 ++ l3)))) ∧ Below w.heap.size w w' := by
  have := sum_any (some ⟨g, 0, none⟩) c [l, l2, l3] (by intro y hy; simp at hy; exact hy.elim (hb y) fun h => h.elim (hb2 y) (hb3 y)) (by simpa using hlen) (by simp) w (parts_three h hv hv2 hv3)
  simpa using this
theorem sum_none (x : Option Addr) (c : Nat) (w : World) : Calls Try.prog 52 #[.slice x 0 c] w fun e w' => e = .returned (iv (sha [])) ∧ Below w.heap.size w w' := by
  have := sum_any x c [] (by simp) (by simp) (by simp) w (fun h => absurd rfl h)
  simpa using this

set_option maxRecDepth 100000 in
set_option maxHeartbeats 1000000 in
theorem twice_any (x : Option Addr) (cap : Nat) (ls : List (List Nat)) (hb : ∀ y ∈ ls.flatten, y < 256) (hlen : ls.flatten.length ≤ 100000) (hnm : ls.length ≤ 1000000) (w : World) (hp : PartsAt w x ls) :
    Calls Try.prog 56 #[.slice x ls.length cap] w fun e w' => e = .returned (iv (tw ls.flatten)) ∧ Below w.heap.size w w' := by
  have C1 : Hid (Calls Try.prog 52 #[.slice x ls.length cap] (w.alloc (iblk 0)) fun e w' => e = .returned (iv (sha ls.flatten)) ∧ Below (w.alloc (iblk 0)).heap.size (w.alloc (iblk 0)) w') :=
    Lib.hid (sum_any x cap ls hb hlen hnm _ (hp.keep (below_alloc (Below.refl _ _) _)))
  obtain ⟨n, hn⟩ : ∃ n, n = ls.length := ⟨_, rfl⟩
  obtain ⟨q, hq⟩ : ∃ q, q = sha ls.flatten := ⟨_, rfl⟩
  have et : tw ls.flatten = sha (idb q) := by rw [hq]; rfl
  rw [et]
  rw [← hn] at C1
  rw [← hq] at C1
  rw [← hn]
  have K0 := Lib.hid (heap_new w (iblk 0))
  have B : Below w.heap.size w w := Below.refl _ _
  clear hn hq et hb hlen hnm hp
  go_enter Try.func56, Try.ntmps56
  go_wp2_with fail
  rw [iblk_lit]
  refine C1.out.mono ?_
  rintro e w1 ⟨rfl, hb1⟩
  have K1 := Lib.hid (below_keep hb1 K0.out)
  have B1 := below_next (w := w) (by repeat' (first | (with_reducible exact Below.refl _ _) | (with_reducible assumption) | (with_reducible refine below_alloc ?_ _) | (with_reducible refine Below.drew ?_) | (with_reducible refine below_drewN ?_ _) | (with_reducible refine Below.setCell ?_ ?_ _) | go_size)) hb1
  have hz := hb1.size
  clear hb1 C1 K0
  have hgt : w.heap.size < w1.heap.size := by simp at hz; omega
  clear hz
  have ei := iblk_lit
  go_wp2_with (first | refine wpList_store_id rfl (.tmp 3) (.tmp 5) rfl w1.heap.size 0 q rfl rfl (heap_new w1 _) (fun w2 h1 h2 h3 h4 => ?_))
  have K2 := Lib.hid h1
  have K1' := Lib.hid ((h2 _ (by omega)).trans (keep_alloc _ K1.out))
  have B2 := h4 w.heap.size w (by omega) (below_alloc B1 _)
  have hz : w1.heap.size < w2.heap.size := by rw [h3]; simp
  have hsz : Hid (w2.heap.size = w1.heap.size + 1) := Lib.hid (by rw [h3]; simp)
  obtain ⟨g, hg⟩ : ∃ g, g = w1.heap.size := ⟨_, rfl⟩
  rw [← hg] at K2 hz hgt hsz
  rw [← hg]
  clear h1 h2 h3 h4 K1 B1 hg ei
  refine (sum_one (.slice (some ⟨g, 0, none⟩) 32 32) (idb q) (g + 1) _ _ _ (by rw [← hsz.out]; exact heap_new w2 _) ((idb_at K2.out 32).keep (below_alloc (Below.refl _ _) _)) (idb_byte q) (by rw [idb_len]; omega)).mono ?_
  rintro e w3 ⟨rfl, hb3⟩
  have K3 := below_keep hb3 (keep_alloc _ K1'.out)
  have B3 := below_next (w := w) (below_alloc B2 _) hb3
  have hz3 := hb3.size
  clear hb3
  go_wp2_with (first | refine wpList_store_id rfl (.tmp 2) (.tmp 8) rfl w.heap.size 0 (sha (idb q)) rfl rfl K3 (fun w' h1 h2 h3 h4 => ?_))
  have hl := loadVar_id h1
  exact bodyPost_ret (v := iv (sha (idb q))) (by simp [results, Try.results56, Act.put, asAddr, hl]) rfl ⟨rfl, h4 _ _ (Nat.le_refl _) B3⟩
theorem twice_one (v : Value) (l : List Nat) (g : Nat) (t : TypeId) (c : Nat) (w : World) (h : w.heap[g]? = some (.cells #[v] t (0, 0))) (hv : BytesAt w v l) (hb : ∀ y ∈ l, y < 256) (hlen : l.length ≤ 100000) :
    Calls Try.prog 56 #[.slice (some ⟨g, 0, none⟩) 1 c] w fun e w' => e = .returned (iv (tw l)) ∧ Below w.heap.size w w' := by
  have := twice_any (some ⟨g, 0, none⟩) c [l] (by simpa using hb) (by simpa using hlen) (by simp) w (parts_one h hv)
  simpa using this
theorem twice_two (v v2 : Value) (l l2 : List Nat) (g : Nat) (t : TypeId) (c : Nat) (w : World) (h : w.heap[g]? = some (.cells #[v, v2] t (0, 0))) (hv : BytesAt w v l) (hv2 : BytesAt w v2 l2) (hb : ∀ y ∈ l, y < 256) (hb2 : ∀ y ∈ l2, y < 256) (hlen : l.length + l2.length ≤ 100000) :
    Calls Try.prog 56 #[.slice (some ⟨g, 0, none⟩) 2 c] w fun e w' => e = .returned (iv (tw (l ++ l2))) ∧ Below w.heap.size w w' := by
  have := twice_any (some ⟨g, 0, none⟩) c [l, l2] (by intro y hy; simp at hy; exact hy.elim (hb y) (hb2 y)) (by simpa using hlen) (by simp) w (parts_two h hv hv2)
  simpa using this
theorem twice_none (x : Option Addr) (c : Nat) (w : World) : Calls Try.prog 56 #[.slice x 0 c] w fun e w' => e = .returned (iv (tw [])) ∧ Below w.heap.size w w' := by
  have := twice_any x c [] (by simp) (by simp) (by simp) w (fun h => absurd rfl h)
  simpa using this

theorem sha_abc : lb (sha [97, 98, 99]) 0 = 186 := by kernel_rfl
theorem sha_nil : lb (sha []) 31 = 85 := by kernel_rfl
theorem tw_nil : lb (tw []) 0 = 93 := by kernel_rfl
end Go.Proofs.Ytnbppbnjkmopeaa
