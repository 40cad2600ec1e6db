/- SHA-256 in plain numbers: the padding, the blocks one behind the other, the digest; texts of bytes; rows of bytes in memory. No condition. -/
import Derived.Test.YtnbppbnjkmopeaaHashB
import Derived.Laws.AppendOwnNone
import Derived.Laws.BytesString
import Derived.Lib.Strings
namespace Go.Proofs.Ytnbppbnjkmopeaa
open Go.RowKit

def h0s : List Nat := [0x6a09e667, 0xbb67ae85, 0x3c6ef372, 0xa54ff53a, 0x510e527f, 0x9b05688c, 0x1f83d9ab, 0x5be0cd19]
theorem h0s_8 : H8 h0s := H8.of (by decide)
/-- the length in bits, the highest byte first -/
def pad8 (n : Nat) : List Nat := (List.range 8).map fun i => n * 8 / 2 ^ (56 - 8 * i) % 256
def zpad (n : Nat) : Nat := (119 - n % 64) % 64
def padded (l : List Nat) : List Nat := l ++ [128] ++ List.replicate (zpad l.length) 0 ++ pad8 l.length
theorem zpad_end (n : Nat) : (n + 1 + zpad n) % 64 = 56 := by unfold zpad; omega
theorem zpad_not (n k : Nat) (h : k < zpad n) : (n + 1 + k) % 64 ≠ 56 := by unfold zpad at h; omega
theorem zpad_lt (n : Nat) : zpad n < 64 := Nat.mod_lt _ (by omega)
theorem pad8_len (n : Nat) : (pad8 n).length = 8 := by simp [pad8]
theorem padded_len (l : List Nat) : (padded l).length = l.length + 1 + zpad l.length + 8 := by simp [padded, pad8_len]; omega
theorem padded_64 (l : List Nat) : (padded l).length = 64 * ((padded l).length / 64) := by
  have := zpad_end l.length
  rw [padded_len]; omega
theorem padded_byte {l : List Nat} (h : ∀ x ∈ l, x < 256) : ∀ x ∈ padded l, x < 256 := by
  intro x hx
  simp only [padded, List.mem_append, List.mem_singleton, List.mem_replicate, pad8, List.mem_map] at hx
  rcases hx with ((hx | rfl) | ⟨_, rfl⟩) | ⟨i, _, rfl⟩
  · exact h x hx
  · omega
  · omega
  · exact Nat.mod_lt _ (by omega)
/-- the words of a block -/
def mwl (q : List Nat) : List Nat := (List.range 16).map fun i => q.getD (4 * i) 0 * 16777216 + q.getD (4 * i + 1) 0 * 65536 + q.getD (4 * i + 2) 0 * 256 + q.getD (4 * i + 3) 0
/-- n blocks -/
def shs (p : List Nat) : Nat → List Nat
  | 0 => h0s
  | n + 1 => gon (mwl (p.drop (64 * n))) (shs p n)
theorem shs_8 (p : List Nat) : ∀ n, H8 (shs p n)
  | 0 => h0s_8
  | n + 1 => (shs_8 p n).gon
/-- a word's bytes, turned about -/
def bsw (x : Nat) : Nat := x / 16777216 % 256 + x / 65536 % 256 * 256 + x / 256 % 256 * 65536 + x % 256 * 16777216
theorem bsw_lt (x : Nat) : bsw x < 4294967296 := by unfold bsw; omega
def dig : List Nat → Nat
  | [] => 0
  | x :: l => bsw x + 4294967296 * dig l
theorem dig_lt : ∀ l : List Nat, dig l < 4294967296 ^ l.length
  | [] => by simp [dig]
  | x :: l => by
    have := dig_lt l; have := bsw_lt x
    rw [dig, List.length_cons, Nat.pow_succ]; omega
theorem dig_at : ∀ (l : List Nat) (i : Nat), i < l.length → dig l / 4294967296 ^ i % 4294967296 = bsw (l.getD i 0)
  | [], i, h => by simp at h
  | x :: l, 0, _ => by
    have := bsw_lt x
    rw [dig, Nat.pow_zero, Nat.div_one, List.getD_cons_zero]; omega
  | x :: l, i + 1, h => by
    have := bsw_lt x
    rw [dig, Nat.pow_succ, Nat.mul_comm (4294967296 ^ i), ← Nat.div_div_eq_div_mul, show (bsw x + 4294967296 * dig l) / 4294967296 = dig l by omega, List.getD_cons_succ]
    exact dig_at l i (by simpa using h)
/-- SHA-256 -/
def sha (l : List Nat) : Nat := dig (shs (padded l) ((padded l).length / 64))
theorem sha_lt (l : List Nat) : sha l < 2 ^ 256 := by
  have h := dig_lt (shs (padded l) ((padded l).length / 64))
  rw [(shs_8 _ _).1] at h
  exact Nat.lt_of_lt_of_le h (by decide)
theorem dig_byte (h : List Nat) (i j : Nat) (hi : i < h.length) (hj : j < 4) : lb (dig h) (4 * i + j) = ((bsw (h.getD i 0) / 2 ^ (8 * j) % 256 : Nat) : Int) := by
  have e := dig_at h i hi
  have hp : 2 ^ (8 * (4 * i + j)) = 4294967296 ^ i * 2 ^ (8 * j) := by
    rw [show 8 * (4 * i + j) = 32 * i + 8 * j by omega, Nat.pow_add, Nat.pow_mul]
  unfold lb
  rw [hp, ← Nat.div_div_eq_div_mul, ← e]
  generalize dig h / 4294967296 ^ i = X
  have hj' : j = 0 ∨ j = 1 ∨ j = 2 ∨ j = 3 := by omega
  rcases hj' with rfl | rfl | rfl | rfl <;> simp only [Nat.reduceMul, Nat.reducePow] <;> omega
theorem four_bytes {a b c d : Nat} (ha : a < 256) (hb : b < 256) (hc : c < 256) (hd : d < 256) : (a + b * 256 + c * 65536 + d * 16777216) % 256 = a ∧ (a + b * 256 + c * 65536 + d * 16777216) / 256 % 256 = b ∧
    (a + b * 256 + c * 65536 + d * 16777216) / 65536 % 256 = c ∧ (a + b * 256 + c * 65536 + d * 16777216) / 16777216 % 256 = d := by omega
theorem bsw_four (X : Nat) : bsw X % 256 = X / 16777216 % 256 ∧ bsw X / 256 % 256 = X / 65536 % 256 ∧ bsw X / 65536 % 256 = X / 256 % 256 ∧ bsw X / 16777216 % 256 = X % 256 :=
  four_bytes (Nat.mod_lt _ (by omega)) (Nat.mod_lt _ (by omega)) (Nat.mod_lt _ (by omega)) (Nat.mod_lt _ (by omega))
theorem dig_b0 (h : List Nat) (i : Nat) (hi : i < h.length) : lb (dig h) (4 * i) = ((h.getD i 0 / 16777216 % 256 : Nat) : Int) := by
  have := dig_byte h i 0 hi (by omega)
  rw [Nat.add_zero, Nat.mul_zero, Nat.pow_zero, Nat.div_one] at this
  rw [this, (bsw_four _).1]
theorem dig_b1 (h : List Nat) (i : Nat) (hi : i < h.length) : lb (dig h) (4 * i + 1) = ((h.getD i 0 / 65536 % 256 : Nat) : Int) := by
  rw [dig_byte h i 1 hi (by omega), show 2 ^ (8 * 1) = 256 from rfl, (bsw_four _).2.1]
theorem dig_b2 (h : List Nat) (i : Nat) (hi : i < h.length) : lb (dig h) (4 * i + 2) = ((h.getD i 0 / 256 % 256 : Nat) : Int) := by
  rw [dig_byte h i 2 hi (by omega), show 2 ^ (8 * 2) = 65536 from rfl, (bsw_four _).2.2.1]
theorem dig_b3 (h : List Nat) (i : Nat) (hi : i < h.length) : lb (dig h) (4 * i + 3) = ((h.getD i 0 % 256 : Nat) : Int) := by
  rw [dig_byte h i 3 hi (by omega), show 2 ^ (8 * 3) = 16777216 from rfl, (bsw_four _).2.2.2]

/-- a text of bytes -/
def str (q : List Nat) : ByteArray := ⟨(q.map UInt8.ofNat).toArray⟩
theorem str_size (q : List Nat) : (str q).size = q.length := by simp [str, ByteArray.size]
theorem str_bt {q : List Nat} (h : ∀ x ∈ q, x < 256) (i : Nat) : bt (str q) i = q.getD i 0 := by
  unfold bt str
  rw [List.getD_eq_getElem?_getD, List.getD_eq_getElem?_getD]
  simp only [List.getElem?_map]
  rcases hc : q[i]? with _ | y
  · rfl
  · have := h y (List.mem_of_getElem? hc)
    simp [Nat.mod_eq_of_lt this]
theorem str_cut (q : List Nat) (a b : Nat) : (str q).extract a b = str ((q.drop a).take (b - a)) := by
  rw [Lib.extract_eq]
  unfold str
  simp [List.map_drop, List.map_take]
theorem mw_str {q : List Nat} (h : ∀ x ∈ q, x < 256) : mw (str q) = mwl q := by
  unfold mw mwl wd
  apply List.map_congr_left
  intro i _
  simp only [str_bt h]
theorem mwl_take (q : List Nat) : mwl (q.take 64) = mwl q := by
  unfold mwl
  apply List.map_congr_left
  intro i hi
  have hi := List.mem_range.1 hi
  simp only [List.getD_eq_getElem?_getD]
  rw [List.getElem?_take_of_lt (by omega), List.getElem?_take_of_lt (by omega), List.getElem?_take_of_lt (by omega), List.getElem?_take_of_lt (by omega)]
theorem fold_str (ns : List Int) : ∀ s : ByteArray, (ns.foldl (fun r n => r.push (UInt8.ofNat n.toNat)) s) = ⟨(s.data.toList ++ ns.map fun n => UInt8.ofNat n.toNat).toArray⟩ := by
  induction ns with
  | nil => intro s; simp
  | cons n ns ih =>
    intro s
    rw [List.foldl_cons, ih]
    congr 1
    simp [ByteArray.push]

/-- bytes as cells -/
def u8s (l : List Nat) : List Value := l.map fun (x : Nat) => .int .u8 (x : Int)
theorem u8s_len (l : List Nat) : (u8s l).length = l.length := by simp [u8s]
theorem u8s_get (l : List Nat) (j : Nat) (h : j < l.length) : (u8s l)[j]? = some (.int .u8 (l.getD j 0 : Nat)) := by
  simp [u8s, h]
theorem u8s_app (l m : List Nat) : u8s (l ++ m) = u8s l ++ u8s m := by simp [u8s]
/-- the slice value v reads as these bytes -/
def BytesAt (w : World) (v : Value) (l : List Nat) : Prop := (v = .slice none 0 0 ∧ l = []) ∨ ∃ (a : Addr) (c : Nat), v = .slice (some a) l.length c ∧ ∀ j, j < l.length → w.cell? (a.add j) = some (.int .u8 (l.getD j 0 : Nat))
theorem BytesAt.keep {w w' : World} {v : Value} {l : List Nat} (h : BytesAt w v l) (hb : Below w.heap.size w w') : BytesAt w' v l := by
  rcases h with h | ⟨a, c, rfl, h⟩
  · exact .inl h
  · exact .inr ⟨a, c, rfl, fun j hj => (hb.cell (block_lt_of_cell (h j hj))).trans (h j hj)⟩
/-- the call's own row of bytes -/
def Owns (w : World) (base : Nat) (v : Value) (q : List Nat) : Prop := w.ownsRow base 5 1 v q.length (u8s q)
theorem Owns.nil (w : World) (base : Nat) : Owns w base (.slice none 0 0) [] := World.ownsRow_nil _ _ _ _
theorem Owns.keep {w w' : World} {base : Nat} {v : Value} {q : List Nat} (h : Owns w base v q) (hb : Below w.heap.size w w') : Owns w' base v q := by
  refine ⟨h.1, ?_⟩
  rcases h.2 with h' | ⟨g, cap, cur, rfl, h1, h2, h3⟩
  · exact .inl h'
  · exact .inr ⟨g, cap, cur, rfl, h1, below_keep hb h2, h3⟩
theorem Owns.shape {w : World} {base : Nat} {v : Value} {q : List Nat} (h : Owns w base v q) : ∃ x cap, v = .slice x q.length cap := by
  rcases h.2 with ⟨rfl, hq⟩ | ⟨g, cap, cur, rfl, _⟩
  · exact ⟨_, _, by rw [hq]⟩
  · exact ⟨_, _, rfl⟩
theorem Owns.bytes {w : World} {base : Nat} {v : Value} {q : List Nat} (h : Owns w base v q) : BytesAt w v q := by
  have h' := h
  rcases h.2 with ⟨rfl, hq⟩ | ⟨g, cap, cur, rfl, _⟩
  · exact .inl ⟨rfl, List.length_eq_zero_iff.1 hq⟩
  · refine .inr ⟨_, _, rfl, fun j hj => ?_⟩
    have := World.ownsRow.cellAt h' j (by omega)
    rw [u8s_get q j hj] at this
    rw [Addr.add_lit, Nat.zero_add]; exact this
theorem info_u8 : (Try.prog.info? 5).map (fun i => (i.zero, i.size, i.bytes)) = some (some (.int .u8 0), 1, 1) := by kernel_rfl
theorem underlying_u8s : Try.prog.underlying 27 = some (.slice 5) := by kernel_rfl

/-- bytes are appended to the call's own row -/
theorem wpList_append_u8 {ops : Array Oper} {rest : List Oper} {o : Oper} {a : Act} {w : World} {Q : Exit → Act → World → Prop} (hgd : o.guard = none) (s x : Operand)
    (ho : o.op = .call { callee := .builtin .append, args := #[s, x], argTypes := #[27, 27] })
    (base : Nat) (v : Value) (q : List Nat) (hs : a.eval s = v) (hown : Owns w base v q) (u : Value) (l : List Nat) (hx : a.eval x = u) (hu : BytesAt w u l)
    (hL : q.length + l.length ≤ 1000000) (hbase : base ≤ w.heap.size)
    (h : ∀ v' w', Owns w' base v' (q ++ l) → (∀ B u, B ≤ base → Below B u w → Below B u w') → wpList Try.prog ops Q rest (a.put o.dst v') w') :
    wpList Try.prog ops Q (o :: rest) a w := by
  obtain ⟨i0, hi, hz0, hz1, hz2⟩ := info_parts info_u8
  rcases hu with ⟨rfl, rfl⟩ | ⟨ad, c, rfl, hc⟩
  · refine wpList_append_own_none hgd s x 27 ho base 5 i0 1 underlying_u8s hi v q.length (u8s q) hs hown hx ?_
    exact h v w (by rw [List.append_nil]; exact hown) fun B u _ hB => hB
  · refine wpList_append_own w hgd s x 27 ho base 5 i0 (.int .u8 0) 1 1 underlying_u8s hi hz0 hz1 hz2 rfl (by decide) v q.length (u8s q) hs hown ad l.length c (u8s l) hx (by rw [u8s_len]; omega)
      (fun j u hj => ?_) (fun u hu => by simp only [u8s, List.mem_map] at hu; obtain ⟨y, _, rfl⟩ := hu; rfl) (by unfold maxLen; omega) (by omega) hbase fun v' w' hown' hgrow _ => ?_
    · have hjl : j < l.length := by
        have := (List.getElem?_eq_some_iff.1 hj).1
        rwa [u8s_len] at this
      rw [u8s_get l j hjl] at hj
      rw [hc j hjl]; exact hj
    · refine h v' w' ?_ fun B u hB hu => ?_
      · unfold Owns
        rw [List.length_append, u8s_app]
        exact hown'
      · exact hu.grown hgrow (by omega) (fun j hj => by have := (World.ownsRow.lt hown j hj).1; omega)
theorem bytes_lit (w : World) (b : Nat) (t : TypeId) : BytesAt (w.alloc (.cells #[.int .u8 (b : Int)] t (0, 0))) (.slice (some ⟨w.heap.size, 0, none⟩) 1 1) [b] :=
  .inr ⟨_, _, rfl, fun j hj => by
    obtain rfl : j = 0 := by simpa using hj
    rw [Addr.add_lit]
    exact cell_new w _ t⟩
/-- the call's own row as a text -/
theorem run_str_own {w : World} {base : Nat} {v : Value} {q : List Nat} (h : Owns w base v q) : (convert 27 9 v).run Try.prog w = .ok (.string (str q)) w := by
  have hb := h.bytes
  obtain ⟨x, cap, rfl⟩ := h.shape
  rw [run_convert_bytes_string w 27 9 5 x q.length cap underlying_u8s (by kernel_rfl) (by kernel_rfl)]
  rcases hb with ⟨e, rfl⟩ | ⟨a, c, e, hc⟩
  · obtain ⟨rfl, -, -⟩ := Value.slice.inj e
    rfl
  · obtain ⟨rfl, -, rfl⟩ := Value.slice.inj e
    rw [run_bytesToString w a q.length cap (q.map fun (x : Nat) => (x : Int)) ?_, fold_str]
    · have e2 : (q.map fun (x : Nat) => (x : Int)).map (fun n => UInt8.ofNat n.toNat) = q.map UInt8.ofNat := by
        rw [List.map_map]
        exact List.map_congr_left fun x _ => by simp
      rw [e2]
      rfl
    · have e3 : (q.map fun (x : Nat) => (x : Int)).map (Value.int .u8) = u8s q := by
        unfold u8s
        rw [List.map_map]
        rfl
      rw [e3]
      have := run_loadCells_list (P := Try.prog) (w := w) a (u8s q) fun j v hj => by
        have hjl : j < q.length := by
          have := (List.getElem?_eq_some_iff.1 hj).1
          rwa [u8s_len] at this
        rw [u8s_get q j hjl] at hj
        rw [hc j hjl]; exact hj
      rwa [u8s_len] at this
end Go.Proofs.Ytnbppbnjkmopeaa
