/- Bytes undoes Read. No condition. -/
import Derived.Test.YtnbppbnjkmopeaaHdG
namespace Go.Proofs.Ytnbppbnjkmopeaa

theorem w4_of (a b c d : Nat) (ha : a < 256) (hb : b < 256) (hc : c < 256) (hd : d < 256) : w4 (a + b * 256 + c * 65536 + d * 16777216) = [a, b, c, d] := by
  have e1 : (a + b * 256 + c * 65536 + d * 16777216) % 256 = a := by omega
  have e2 : (a + b * 256 + c * 65536 + d * 16777216) / 256 % 256 = b := by omega
  have e3 : (a + b * 256 + c * 65536 + d * 16777216) / 65536 % 256 = c := by omega
  have e4 : (a + b * 256 + c * 65536 + d * 16777216) / 16777216 % 256 = d := by omega
  unfold w4
  rw [e1, e2, e3, e4]
theorem getD_byte {l : List Nat} (h : ∀ y ∈ l, y < 256) (i : Nat) : l.getD i 0 < 256 := by
  rw [List.getD_eq_getElem?_getD]
  rcases e : l[i]? with _ | y
  · simp
  · exact h y (List.mem_of_getElem? e)
theorem w4_at {l : List Nat} (h : ∀ y ∈ l, y < 256) (o : Nat) (ho : o + 4 ≤ l.length) : w4 (g4 l o) = (l.drop o).take 4 := by
  have g : ∀ i, i < l.length → l.drop i = l.getD i 0 :: l.drop (i + 1) := fun i hi => by
    rw [List.drop_eq_getElem_cons hi, List.getD_eq_getElem?_getD, List.getElem?_eq_getElem hi]; rfl
  unfold g4
  rw [w4_of _ _ _ _ (getD_byte h _) (getD_byte h _) (getD_byte h _) (getD_byte h _), g o (by omega), g (o + 1) (by omega), g (o + 1 + 1) (by omega), g (o + 1 + 1 + 1) (by omega)]
  rfl
theorem g4_lt {l : List Nat} (h : ∀ y ∈ l, y < 256) (o : Nat) : g4 l o < 4294967296 := by
  have h0 := getD_byte h o; have h1 := getD_byte h (o + 1); have h2 := getD_byte h (o + 2); have h3 := getD_byte h (o + 3)
  unfold g4
  omega
theorem part_byte {l : List Nat} (h : ∀ y ∈ l, y < 256) (o n : Nat) : ∀ y ∈ (l.drop o).take n, y < 256 := fun y hy => h y (List.mem_of_mem_drop (List.mem_of_mem_take hy))
theorem hdof_ok {l : List Nat} (hl : l.length = 80) (h : ∀ y ∈ l, y < 256) : (hdof l).ok := by
  have key : ∀ o, o + 32 ≤ 80 → idn ((l.drop o).take 32) < 2 ^ 256 := fun o ho => by
    have := idn_lt _ (part_byte h o 32)
    have hl2 : ((l.drop o).take 32).length = 32 := by rw [List.length_take, List.length_drop]; omega
    rw [hl2] at this
    exact this
  exact ⟨g4_lt h _, key 4 (by omega), key 36 (by omega), g4_lt h _, g4_lt h _, g4_lt h _⟩
theorem hby_hdof {l : List Nat} (hl : l.length = 80) (h : ∀ y ∈ l, y < 256) : hby (hdof l) = l := by
  have e1 : idb (idn ((l.drop 4).take 32)) = (l.drop 4).take 32 := idb_idn (by rw [List.length_take, List.length_drop]; omega) (part_byte h 4 32)
  have e2 : idb (idn ((l.drop 36).take 32)) = (l.drop 36).take 32 := idb_idn (by rw [List.length_take, List.length_drop]; omega) (part_byte h 36 32)
  unfold hby hdof
  dsimp only
  rw [w4_at h 0 (by omega), w4_at h 68 (by omega), w4_at h 72 (by omega), w4_at h 76 (by omega), e1, e2]
  have d : ∀ o k, (l.drop o).take k ++ l.drop (o + k) = l.drop o := fun o k => by
    have := List.take_append_drop k (l.drop o)
    rwa [List.drop_drop] at this
  have e3 : (l.drop 76).take 4 = l.drop 76 := List.take_of_length_le (by rw [List.length_drop]; omega)
  have := d 72 4
  rw [e3, d 72 4, d 68 4, d 36 32, d 4 32]
  exact d 0 4
end Go.Proofs.Ytnbppbnjkmopeaa
