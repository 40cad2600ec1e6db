/- SHA-256 in plain numbers: the padding, the blocks one behind the other, the digest; texts of bytes; rows of bytes in memory. No condition. hash.Sum: the SHA-256 of parts, one behind the other. No condition. hash.Twice; an ID's bytes; sums of rows that are laid out. No condition. Small words on rows of bytes, new blocks, IDs. No condition. -/
import Derived.Test.YtnbppbnjkmopeaaHash1
import Derived.Laws.AppendOwnNone
import Derived.Laws.BytesString
import Derived.Lib.Strings
import Derived.Lib.SlBytesConst
namespace Go.Proofs.Ytnbppbnjkmopeaa
open Go.RowKit

def h0s : List Nat := [0x6a09e667, 0xbb67ae85, 0x3c6ef372, 0xa54ff53a, 0x510e527f, 0x9b05688c, 0x1f83d9ab, 0x5be0cd19]
theorem h0s_8 : H8 h0s := H8.of (by decide)
/-- the length in bits, the highest byte first -/
def pad8 (n : Nat) : List Nat := (List.range 8).map fun i => n * 8 / 2 ^ (56 - 8 * i) % 256
def zpad (n : Nat) : Nat := (119 - n % 64) % 64
def padded (l : List Nat) : List Nat := l ++ [128] ++ List.replicate (zpad l.length) 0 ++ pad8 l.length
theorem zpad_end (n : Nat) : (n + 1 + zpad n) % 64 = 56 := by unfold zpad; omega
theorem zpad_not (n k : Nat) (h : k < zpad n) : (n + 1 + k) % 64 ≠ 56 := by unfold zpad at h; omega
theorem zpad_lt (n : Nat) : zpad n < 64 := Nat.mod_lt _ (by omega)
theorem pad8_len (n : Nat) : (pad8 n).length = 8 := by simp [pad8]
theorem padded_len (l : List Nat) : (padded l).length = l.length + 1 + zpad l.length + 8 := by simp [padded, pad8_len]; omega
theorem padded_64 (l : List Nat) : (padded l).length = 64 * ((padded l).length / 64) := by
  have := zpad_end l.length
  rw [padded_len]; omega
theorem padded_byte {l : List Nat} (h : ∀ x ∈ l, x < 256) : ∀ x ∈ padded l, x < 256 := by
  intro x hx
  simp only [padded, List.mem_append, List.mem_singleton, List.mem_replicate, pad8, List.mem_map] at hx
  rcases hx with ((hx | rfl) | ⟨_, rfl⟩) | ⟨i, _, rfl⟩
  · exact h x hx
  · omega
  · omega
  · exact Nat.mod_lt _ (by omega)
/-- the words of a block -/
def mwl (q : List Nat) : List Nat := (List.range 16).map fun i => q.getD (4 * i) 0 * 16777216 + q.getD (4 * i + 1) 0 * 65536 + q.getD (4 * i + 2) 0 * 256 + q.getD (4 * i + 3) 0
/-- n blocks -/
def shs (p : List Nat) : Nat → List Nat
  | 0 => h0s
  | n + 1 => gon (mwl (p.drop (64 * n))) (shs p n)
theorem shs_8 (p : List Nat) : ∀ n, H8 (shs p n)
  | 0 => h0s_8
  | n + 1 => (shs_8 p n).gon
/-- a word's bytes, turned about -/
def bsw (x : Nat) : Nat := x / 16777216 % 256 + x / 65536 % 256 * 256 + x / 256 % 256 * 65536 + x % 256 * 16777216
theorem bsw_lt (x : Nat) : bsw x < 4294967296 := by unfold bsw; omega
def dig : List Nat → Nat
  | [] => 0
  | x :: l => bsw x + 4294967296 * dig l
theorem dig_lt : ∀ l : List Nat, dig l < 4294967296 ^ l.length
  | [] => by simp [dig]
  | x :: l => by
    have := dig_lt l; have := bsw_lt x
    rw [dig, List.length_cons, Nat.pow_succ]; omega
theorem dig_at : ∀ (l : List Nat) (i : Nat), i < l.length → dig l / 4294967296 ^ i % 4294967296 = bsw (l.getD i 0)
  | [], i, h => by simp at h
  | x :: l, 0, _ => by
    have := bsw_lt x
    rw [dig, Nat.pow_zero, Nat.div_one, List.getD_cons_zero]; omega
  | x :: l, i + 1, h => by
    have := bsw_lt x
    rw [dig, Nat.pow_succ, Nat.mul_comm (4294967296 ^ i), ← Nat.div_div_eq_div_mul, show (bsw x + 4294967296 * dig l) / 4294967296 = dig l by omega, List.getD_cons_succ]
    exact dig_at l i (by simpa using h)
/-- SHA-256 -/
def sha (l : List Nat) : Nat := dig (shs (padded l) ((padded l).length / 64))
theorem sha_lt (l : List Nat) : sha l < 2 ^ 256 := by
  have h := dig_lt (shs (padded l) ((padded l).length / 64))
  rw [(shs_8 _ _).1] at h
  exact Nat.lt_of_lt_of_le h (by decide)
theorem dig_byte (h : List Nat) (i j : Nat) (hi : i < h.length) (hj : j < 4) : lb (dig h) (4 * i + j) = ((bsw (h.getD i 0) / 2 ^ (8 * j) % 256 : Nat) : Int) := by
  have e := dig_at h i hi
  have hp : 2 ^ (8 * (4 * i + j)) = 4294967296 ^ i * 2 ^ (8 * j) := by
    rw [show 8 * (4 * i + j) = 32 * i + 8 * j by omega, Nat.pow_add, Nat.pow_mul]
  unfold lb
  rw [hp, ← Nat.div_div_eq_div_mul, ← e]
  generalize dig h / 4294967296 ^ i = X
  have hj' : j = 0 ∨ j = 1 ∨ j = 2 ∨ j = 3 := by omega
  rcases hj' with rfl | rfl | rfl | rfl <;> simp only [Nat.reduceMul, Nat.reducePow] <;> omega
theorem four_bytes {a b c d : Nat} (ha : a < 256) (hb : b < 256) (hc : c < 256) (hd : d < 256) : (a + b * 256 + c * 65536 + d * 16777216) % 256 = a ∧ (a + b * 256 + c * 65536 + d * 16777216) / 256 % 256 = b ∧
    (a + b * 256 + c * 65536 + d * 16777216) / 65536 % 256 = c ∧ (a + b * 256 + c * 65536 + d * 16777216) / 16777216 % 256 = d := by omega
theorem bsw_four (X : Nat) : bsw X % 256 = X / 16777216 % 256 ∧ bsw X / 256 % 256 = X / 65536 % 256 ∧ bsw X / 65536 % 256 = X / 256 % 256 ∧ bsw X / 16777216 % 256 = X % 256 :=
  four_bytes (Nat.mod_lt _ (by omega)) (Nat.mod_lt _ (by omega)) (Nat.mod_lt _ (by omega)) (Nat.mod_lt _ (by omega))
theorem dig_b0 (h : List Nat) (i : Nat) (hi : i < h.length) : lb (dig h) (4 * i) = ((h.getD i 0 / 16777216 % 256 : Nat) : Int) := by
  have := dig_byte h i 0 hi (by omega)
  rw [Nat.add_zero, Nat.mul_zero, Nat.pow_zero, Nat.div_one] at this
  rw [this, (bsw_four _).1]
theorem dig_b1 (h : List Nat) (i : Nat) (hi : i < h.length) : lb (dig h) (4 * i + 1) = ((h.getD i 0 / 65536 % 256 : Nat) : Int) := by
  rw [dig_byte h i 1 hi (by omega), show 2 ^ (8 * 1) = 256 from rfl, (bsw_four _).2.1]
theorem dig_b2 (h : List Nat) (i : Nat) (hi : i < h.length) : lb (dig h) (4 * i + 2) = ((h.getD i 0 / 256 % 256 : Nat) : Int) := by
  rw [dig_byte h i 2 hi (by omega), show 2 ^ (8 * 2) = 65536 from rfl, (bsw_four _).2.2.1]
theorem dig_b3 (h : List Nat) (i : Nat) (hi : i < h.length) : lb (dig h) (4 * i + 3) = ((h.getD i 0 % 256 : Nat) : Int) := by
  rw [dig_byte h i 3 hi (by omega), show 2 ^ (8 * 3) = 16777216 from rfl, (bsw_four _).2.2.2]

/-- a text of bytes -/
def str (q : List Nat) : ByteArray := ⟨(q.map UInt8.ofNat).toArray⟩
theorem str_size (q : List Nat) : (str q).size = q.length := by simp [str, ByteArray.size]
theorem str_bt {q : List Nat} (h : ∀ x ∈ q, x < 256) (i : Nat) : bt (str q) i = q.getD i 0 := by
  unfold bt str
  rw [List.getD_eq_getElem?_getD, List.getD_eq_getElem?_getD]
  simp only [List.getElem?_map]
  rcases hc : q[i]? with _ | y
  · rfl
  · have := h y (List.mem_of_getElem? hc)
    simp [Nat.mod_eq_of_lt this]
theorem str_cut (q : List Nat) (a b : Nat) : (str q).extract a b = str ((q.drop a).take (b - a)) := by
  rw [Lib.extract_eq]
  unfold str
  simp [List.map_drop, List.map_take]
theorem mw_str {q : List Nat} (h : ∀ x ∈ q, x < 256) : mw (str q) = mwl q := by
  unfold mw mwl wd
  apply List.map_congr_left
  intro i _
  simp only [str_bt h]
theorem mwl_take (q : List Nat) : mwl (q.take 64) = mwl q := by
  unfold mwl
  apply List.map_congr_left
  intro i hi
  have hi := List.mem_range.1 hi
  simp only [List.getD_eq_getElem?_getD]
  rw [List.getElem?_take_of_lt (by omega), List.getElem?_take_of_lt (by omega), List.getElem?_take_of_lt (by omega), List.getElem?_take_of_lt (by omega)]
theorem fold_str (ns : List Int) : ∀ s : ByteArray, (ns.foldl (fun r n => r.push (UInt8.ofNat n.toNat)) s) = ⟨(s.data.toList ++ ns.map fun n => UInt8.ofNat n.toNat).toArray⟩ := by
  induction ns with
  | nil => intro s; simp
  | cons n ns ih =>
    intro s
    rw [List.foldl_cons, ih]
    congr 1
    simp [ByteArray.push]

/-- bytes as cells -/
def u8s (l : List Nat) : List Value := l.map fun (x : Nat) => .int .u8 (x : Int)
theorem u8s_len (l : List Nat) : (u8s l).length = l.length := by simp [u8s]
theorem u8s_get (l : List Nat) (j : Nat) (h : j < l.length) : (u8s l)[j]? = some (.int .u8 (l.getD j 0 : Nat)) := by
  simp [u8s, h]
theorem u8s_app (l m : List Nat) : u8s (l ++ m) = u8s l ++ u8s m := by simp [u8s]
/-- the slice value v reads as these bytes -/
def BytesAt (w : World) (v : Value) (l : List Nat) : Prop := (v = .slice none 0 0 ∧ l = []) ∨ ∃ (a : Addr) (c : Nat), v = .slice (some a) l.length c ∧ ∀ j, j < l.length → w.cell? (a.add j) = some (.int .u8 (l.getD j 0 : Nat))
theorem BytesAt.keep {w w' : World} {v : Value} {l : List Nat} (h : BytesAt w v l) (hb : Below w.heap.size w w') : BytesAt w' v l := by
  rcases h with h | ⟨a, c, rfl, h⟩
  · exact .inl h
  · exact .inr ⟨a, c, rfl, fun j hj => (hb.cell (block_lt_of_cell (h j hj))).trans (h j hj)⟩
/-- the call's own row of bytes -/
def Owns (w : World) (base : Nat) (v : Value) (q : List Nat) : Prop := w.ownsRow base 5 1 v q.length (u8s q)
theorem Owns.nil (w : World) (base : Nat) : Owns w base (.slice none 0 0) [] := World.ownsRow_nil _ _ _ _
theorem Owns.keep {w w' : World} {base : Nat} {v : Value} {q : List Nat} (h : Owns w base v q) (hb : Below w.heap.size w w') : Owns w' base v q := by
  refine ⟨h.1, ?_⟩
  rcases h.2 with h' | ⟨g, cap, cur, rfl, h1, h2, h3⟩
  · exact .inl h'
  · exact .inr ⟨g, cap, cur, rfl, h1, below_keep hb h2, h3⟩
theorem Owns.shape {w : World} {base : Nat} {v : Value} {q : List Nat} (h : Owns w base v q) : ∃ x cap, v = .slice x q.length cap := by
  rcases h.2 with ⟨rfl, hq⟩ | ⟨g, cap, cur, rfl, _⟩
  · exact ⟨_, _, by rw [hq]⟩
  · exact ⟨_, _, rfl⟩
theorem Owns.bytes {w : World} {base : Nat} {v : Value} {q : List Nat} (h : Owns w base v q) : BytesAt w v q := by
  have h' := h
  rcases h.2 with ⟨rfl, hq⟩ | ⟨g, cap, cur, rfl, _⟩
  · exact .inl ⟨rfl, List.length_eq_zero_iff.1 hq⟩
  · refine .inr ⟨_, _, rfl, fun j hj => ?_⟩
    have := World.ownsRow.cellAt h' j (by omega)
    rw [u8s_get q j hj] at this
    rw [Addr.add_lit, Nat.zero_add]; exact this
theorem info_u8 : (Try.prog.info? 5).map (fun i => (i.zero, i.size, i.bytes)) = some (some (.int .u8 0), 1, 1) := by kernel_rfl
theorem underlying_u8s : Try.prog.underlying 27 = some (.slice 5) := by kernel_rfl

/-- bytes are appended to the call's own row -/
theorem wpList_append_u8 {ops : Array Oper} {rest : List Oper} {o : Oper} {a : Act} {w : World} {Q : Exit → Act → World → Prop} (hgd : o.guard = none) (s x : Operand)
    (ho : o.op = .call { callee := .builtin .append, args := #[s, x], argTypes := #[27, 27] })
    (base : Nat) (v : Value) (q : List Nat) (hs : a.eval s = v) (hown : Owns w base v q) (u : Value) (l : List Nat) (hx : a.eval x = u) (hu : BytesAt w u l)
    (hL : q.length + l.length ≤ 1000000) (hbase : base ≤ w.heap.size)
    (h : ∀ v' w', Owns w' base v' (q ++ l) → (∀ B u, B ≤ base → Below B u w → Below B u w') → wpList Try.prog ops Q rest (a.put o.dst v') w') :
    wpList Try.prog ops Q (o :: rest) a w := by
  obtain ⟨i0, hi, hz0, hz1, hz2⟩ := info_parts info_u8
  rcases hu with ⟨rfl, rfl⟩ | ⟨ad, c, rfl, hc⟩
  · refine wpList_append_own_none hgd s x 27 ho base 5 i0 1 underlying_u8s hi v q.length (u8s q) hs hown hx ?_
    exact h v w (by rw [List.append_nil]; exact hown) fun B u _ hB => hB
  · refine wpList_append_own w hgd s x 27 ho base 5 i0 (.int .u8 0) 1 1 underlying_u8s hi hz0 hz1 hz2 rfl (by decide) v q.length (u8s q) hs hown ad l.length c (u8s l) hx (by rw [u8s_len]; omega)
      (fun j u hj => ?_) (fun u hu => by simp only [u8s, List.mem_map] at hu; obtain ⟨y, _, rfl⟩ := hu; rfl) (by unfold maxLen; omega) (by omega) hbase fun v' w' hown' hgrow _ => ?_
    · have hjl : j < l.length := by
        have := (List.getElem?_eq_some_iff.1 hj).1
        rwa [u8s_len] at this
      rw [u8s_get l j hjl] at hj
      rw [hc j hjl]; exact hj
    · refine h v' w' ?_ fun B u hB hu => ?_
      · unfold Owns
        rw [List.length_append, u8s_app]
        exact hown'
      · exact hu.grown hgrow (by omega) (fun j hj => by have := (World.ownsRow.lt hown j hj).1; omega)
theorem bytes_lit (w : World) (b : Nat) (t : TypeId) : BytesAt (w.alloc (.cells #[.int .u8 (b : Int)] t (0, 0))) (.slice (some ⟨w.heap.size, 0, none⟩) 1 1) [b] :=
  .inr ⟨_, _, rfl, fun j hj => by
    obtain rfl : j = 0 := by simpa using hj
    rw [Addr.add_lit]
    exact cell_new w _ t⟩
/-- the call's own row as a text -/
theorem run_str_own {w : World} {base : Nat} {v : Value} {q : List Nat} (h : Owns w base v q) : (convert 27 9 v).run Try.prog w = .ok (.string (str q)) w := by
  have hb := h.bytes
  obtain ⟨x, cap, rfl⟩ := h.shape
  rw [run_convert_bytes_string w 27 9 5 x q.length cap underlying_u8s (by kernel_rfl) (by kernel_rfl)]
  rcases hb with ⟨e, rfl⟩ | ⟨a, c, e, hc⟩
  · obtain ⟨rfl, -, -⟩ := Value.slice.inj e
    rfl
  · obtain ⟨rfl, -, rfl⟩ := Value.slice.inj e
    rw [run_bytesToString w a q.length cap (q.map fun (x : Nat) => (x : Int)) ?_, fold_str]
    · have e2 : (q.map fun (x : Nat) => (x : Int)).map (fun n => UInt8.ofNat n.toNat) = q.map UInt8.ofNat := by
        rw [List.map_map]
        exact List.map_congr_left fun x _ => by simp
      rw [e2]
      rfl
    · have e3 : (q.map fun (x : Nat) => (x : Int)).map (Value.int .u8) = u8s q := by
        unfold u8s
        rw [List.map_map]
        rfl
      rw [e3]
      have := run_loadCells_list (P := Try.prog) (w := w) a (u8s q) fun j v hj => by
        have hjl : j < q.length := by
          have := (List.getElem?_eq_some_iff.1 hj).1
          rwa [u8s_len] at this
        rw [u8s_get q j hjl] at hj
        rw [hc j hjl]; exact hj
      rwa [u8s_len] at this
end Go.Proofs.Ytnbppbnjkmopeaa
namespace Go.Proofs.Ytnbppbnjkmopeaa
open Go.RowKit

/-- the cells of a slice of slices of bytes -/
def PartsAt (w : World) (x : Option Addr) (ls : List (List Nat)) : Prop :=
  ls ≠ [] → ∃ b o, x = some ⟨b, o, none⟩ ∧ ∀ j, j < ls.length → ∃ u, w.cell? ⟨b, o + j, none⟩ = some u ∧ BytesAt w u (ls.getD j [])
theorem PartsAt.keep {w w' : World} {x : Option Addr} {ls : List (List Nat)} (h : PartsAt w x ls) (hb : Below w.heap.size w w') : PartsAt w' x ls := fun hne => by
  obtain ⟨b, o, e, hc⟩ := h hne
  refine ⟨b, o, e, fun j hj => ?_⟩
  obtain ⟨u, hu, hB⟩ := hc j hj
  exact ⟨u, (hb.cell (block_lt_of_cell hu)).trans hu, hB.keep hb⟩
theorem flat_step {ls : List (List Nat)} {k : Nat} (h : k < ls.length) : (ls.take (k + 1)).flatten = (ls.take k).flatten ++ ls.getD k [] := by
  rw [List.take_add_one, List.flatten_append]
  simp [List.getElem?_eq_getElem h]
theorem flat_le (ls : List (List Nat)) (k : Nat) : (ls.take k).flatten.length ≤ ls.flatten.length := by
  conv => rhs; rw [← List.take_append_drop k ls, List.flatten_append, List.length_append]
  omega

theorem set8 {w : World} {g a0 a1 a2 a3 a4 a5 a6 a7 : Nat} (b0 b1 b2 b3 b4 b5 b6 b7 : Nat) (h : w.heap[g]? = some (hblk [a0, a1, a2, a3, a4, a5, a6, a7])) :
    ((((((((w.setCell ⟨g, 0, none⟩ (.int .u32 (b0 : Int))).setCell ⟨g, 1, none⟩ (.int .u32 (b1 : Int))).setCell ⟨g, 2, none⟩ (.int .u32 (b2 : Int))).setCell ⟨g, 3, none⟩ (.int .u32 (b3 : Int))).setCell ⟨g, 4, none⟩ (.int .u32 (b4 : Int))).setCell ⟨g, 5, none⟩ (.int .u32 (b5 : Int))).setCell ⟨g, 6, none⟩ (.int .u32 (b6 : Int))).setCell ⟨g, 7, none⟩ (.int .u32 (b7 : Int))).heap[g]? = some (hblk [b0, b1, b2, b3, b4, b5, b6, b7]) :=
  heap_setCells_row g 167 (us [b0, b1, b2, b3, b4, b5, b6, b7]) (us [a0, a1, a2, a3, a4, a5, a6, a7]) [] w rfl h
theorem below_set8 {B : Nat} {u w : World} {g : Nat} (b0 b1 b2 b3 b4 b5 b6 b7 : Nat) (hg : B ≤ g) (h : Below B u w) :
    Below B u ((((((((w.setCell ⟨g, 0, none⟩ (.int .u32 (b0 : Int))).setCell ⟨g, 1, none⟩ (.int .u32 (b1 : Int))).setCell ⟨g, 2, none⟩ (.int .u32 (b2 : Int))).setCell ⟨g, 3, none⟩ (.int .u32 (b3 : Int))).setCell ⟨g, 4, none⟩ (.int .u32 (b4 : Int))).setCell ⟨g, 5, none⟩ (.int .u32 (b5 : Int))).setCell ⟨g, 6, none⟩ (.int .u32 (b6 : Int))).setCell ⟨g, 7, none⟩ (.int .u32 (b7 : Int))) := below_setCells_id g hg (us [b0, b1, b2, b3, b4, b5, b6, b7]) 0 w h

theorem run_index_h {h : List Nat} (hl : h.length = 8) (k : Nat) (hk : k < 8) (w : World) : (Instr.index 167 (.agg (us h).toArray) (.int .i64 (k : Int))).run Try.prog w = .ok (.int .u32 (h.getD k 0 : Nat)) w := by
  have hu : Try.prog.underlying 167 = some (.array 8 22) := by kernel_rfl
  have he : Try.prog.underlying 22 = some (.int .u32) := by kernel_rfl
  have hs : (sizeOf 22).run Try.prog w = .ok 1 w := by kernel_rfl
  have hc : (0 : Int) ≤ (k : Int) ∧ (k : Int) < ((8 : Nat) : Int) := by omega
  have hkl : k < h.length := by omega
  simp only [Instr.index, asIntOf, Sem.run_bind, Sem.run_pure, Result.andThen_ok, run_underlying hu, hc, and_self, if_true, hs, Int.toNat_natCast, Nat.mul_one]
  simp [part, isAgg, run_underlying he, us, hkl]
theorem dig_set {w : World} {g y k m m1 m2 m3 : Nat} {hh : List Nat} (hl : hh.length = 8) (hk : k < 8) (hy : y = hh.getD k 0) (e0 : m = 4 * k) (e1 : m1 = m + 1) (e2 : m2 = m + 2) (e3 : m3 = m + 3)
    (h : w.heap[g]? = some (iblk (dig hh % 2 ^ (8 * (4 * k))))) :
    ((((w.setCell ⟨g, m, none⟩ (.int .u8 ((y : Int) / 16777216 % 256))).setCell ⟨g, m1, none⟩ (.int .u8 ((y : Int) / 65536 % 256))).setCell ⟨g, m2, none⟩ (.int .u8 ((y : Int) / 256 % 256))).setCell ⟨g, m3, none⟩ (.int .u8 ((y : Int) % 256))).heap[g]? =
      some (iblk (dig hh % 2 ^ (8 * (4 * (k + 1))))) := by
  subst e0 e1 e2 e3
  have d0 := dig_b0 hh k (by omega)
  have d1 := dig_b1 hh k (by omega)
  have d2 := dig_b2 hh k (by omega)
  have d3 := dig_b3 hh k (by omega)
  rw [← hy] at d0 d1 d2 d3
  have c0 : (y : Int) / 16777216 % 256 = lb (dig hh) (4 * k) := by rw [d0]; omega
  have c1 : (y : Int) / 65536 % 256 = lb (dig hh) (4 * k + 1) := by rw [d1]; omega
  have c2 : (y : Int) / 256 % 256 = lb (dig hh) (4 * k + 2) := by rw [d2]; omega
  have c3 : (y : Int) % 256 = lb (dig hh) (4 * k + 3) := by rw [d3]; omega
  rw [c0, c1, c2, c3]
  exact id_step (dig hh) (4 * k + 3) (id_step (dig hh) (4 * k + 2) (id_step (dig hh) (4 * k + 1) (id_step (dig hh) (4 * k) h)))
theorem far4 {w : World} {g b : Nat} (hne : b ≠ g) (m m1 m2 m3 : Nat) (v0 v1 v2 v3 : Value) :
    ((((w.setCell ⟨g, m, none⟩ v0).setCell ⟨g, m1, none⟩ v1).setCell ⟨g, m2, none⟩ v2).setCell ⟨g, m3, none⟩ v3).heap[b]? = w.heap[b]? := by
  rw [heap_setCell_other _ _ _ _ hne, heap_setCell_other _ _ _ _ hne, heap_setCell_other _ _ _ _ hne, heap_setCell_other _ _ _ _ hne]

set_option maxRecDepth 100000 in
set_option maxHeartbeats 1000000 in
theorem sum_any (x : Option Addr) (cap : Nat) (ls : List (List Nat)) (hb : ∀ y ∈ ls.flatten, y < 256) (hlen : ls.flatten.length ≤ 100000) (hnm : ls.length ≤ 1000000) (w : World) (hp : PartsAt w x ls) :
    Calls Try.prog 52 #[.slice x ls.length cap] w fun e w' => e = .returned (iv (sha ls.flatten)) ∧ Below w.heap.size w w' := by
  have HB := Lib.hid hb; have HP := Lib.hid hp; have HLEN := Lib.hid hlen
  clear hb hp hlen
  obtain ⟨n, hn⟩ : ∃ n, n = ls.length := ⟨_, rfl⟩
  rw [← hn]
  rw [← hn] at hnm
  have HN := Lib.hid hn
  clear hn
  obtain ⟨q, hqq⟩ : ∃ q, q = ls.flatten := ⟨_, rfl⟩
  rw [← hqq]
  rw [← hqq] at HB HLEN
  have HQ := Lib.hid hqq
  clear hqq
  have B : Below w.heap.size w w := Below.refl _ _
  go_enter Try.func52, Try.ntmps52
  go_wp2_with fail
  rw [iblk_lit]
  obtain ⟨W, hW⟩ : ∃ W, W = w.alloc (iblk 0) := ⟨_, rfl⟩
  have HW0 : Hid (W.heap[w.heap.size]? = some (iblk 0)) := Lib.hid (by rw [hW]; exact heap_new w _)
  have HWB : Hid (Below w.heap.size w W) := Lib.hid (by rw [hW]; exact (by repeat' (first | (with_reducible exact Below.refl _ _) | (with_reducible assumption) | (with_reducible refine below_alloc ?_ _) | (with_reducible refine Below.drew ?_) | (with_reducible refine below_drewN ?_ _) | (with_reducible refine Below.setCell ?_ ?_ _) | go_size)))
  have HWZ : Hid (W.heap.size = w.heap.size + 1) := Lib.hid (by rw [hW]; simp)
  rw [← hW]
  clear hW B
  go_loopg [3, 15] n (fun g sv ix wr => ∃ k : Nat, g = n - k ∧ k ≤ n ∧ ix = .int .i64 k ∧ Owns wr W.heap.size sv (ls.take k).flatten ∧ Below W.heap.size W wr)
  case atStart => exact ⟨0, rfl, by omega, rfl, by rw [List.take_zero, List.flatten_nil]; exact Owns.nil _ _, Below.refl _ _⟩
  case round =>
    obtain ⟨k, hg, hk, rfl, hO, B⟩ := hrel
    have HG := Lib.hid hg; have HO := Lib.hid hO; have HB2 := Lib.hid B
    clear hg hO B
    by_cases hlt : k < n
    · have hkl : k < ls.length := by rw [← HN.out]; exact hlt
      obtain ⟨b, o, rfl, hc⟩ := HP.out (by intro e; rw [e] at hkl; simp at hkl)
      obtain ⟨u, hu, hU⟩ := hc k hkl
      have hu1 : wr.cell? ⟨b, o + k, none⟩ = some u := by
        have hb0 : b < w.heap.size := block_lt_of_cell hu
        rw [HB2.out.cell (p := ⟨b, o + k, none⟩) (show b < W.heap.size by have := HWZ.out; omega), HWB.out.cell (p := ⟨b, o + k, none⟩) hb0]; exact hu
      have hU1 : Hid (BytesAt wr u (ls.getD k [])) := Lib.hid ((hU.keep HWB.out).keep HB2.out)
      have hstep := Lib.hid (flat_step hkl)
      have hle : Hid ((ls.take k).flatten.length + (ls.getD k []).length ≤ 1000000) := Lib.hid (by
        have h1 := flat_le ls (k + 1); have h2 := HLEN.out
        rw [HQ.out] at h2
        rw [hstep.out, List.length_append] at h1; omega)
      clear hc hu hU hkl
      go_wp2_with (at_builtin; refine wpList_append_u8 rfl (.tmp 19) (.tmp 20) rfl W.heap.size _ (ls.take k).flatten rfl HO.out _ (ls.getD k []) rfl hU1.out hle.out (HB2.out.size) (fun v' w4 hown' hbel => ?_))
      go_roundg (n - (k + 1))
      case measure => have := HG.out; omega
      case rel => exact ⟨k + 1, rfl, by omega, by go_num, by rw [hstep.out]; exact hown', hbel _ _ (Nat.le_refl _) HB2.out⟩
    · obtain rfl : k = n := by omega
      have hq : (ls.take k).flatten = q := by rw [HN.out, List.take_length, HQ.out]
      rw [hq] at HO
      clear hq hlt HG HN HP hk HQ hnm
      obtain ⟨x1, c1, rfl⟩ := HO.out.shape
      obtain ⟨N, hN⟩ : ∃ N, N = q.length := ⟨_, rfl⟩
      have HN := Lib.hid hN
      have HLN : Hid (N ≤ 100000) := Lib.hid (by rw [hN]; exact HLEN.out)
      rw [← hN]
      rw [← hN] at HO
      clear hN
      go_wp2_with (at_builtin; refine wpList_append_u8 rfl (.tmp 25) (.tmp 26) rfl W.heap.size _ q rfl (HO.out.keep (below_alloc (Below.refl _ _) _)) _ [128] rfl (bytes_lit _ 128 _) (by have := HLN.out; have := HN.out; simp; omega) (by have := HB2.out.size; simp; omega) (fun v' w4 hown' hbel => ?_))
      have BA := hbel W.heap.size W (Nat.le_refl _) (below_alloc HB2.out _)
      have HO1 := Lib.hid hown'
      clear hbel hown' HO HB2
      go_loopg [3] (zpad N) (fun g sv wr => ∃ k : Nat, g = zpad N - k ∧ k ≤ zpad N ∧ Owns wr W.heap.size sv (q ++ [128] ++ List.replicate k 0) ∧ Below W.heap.size W wr)
      case atStart => exact ⟨0, rfl, by omega, by rw [List.replicate_zero, List.append_nil]; exact HO1.out, BA⟩
      case round =>
        clear HO1 BA
        obtain ⟨k, hg, hk, hO, B⟩ := hrel
        have HG := Lib.hid hg; have HO := Lib.hid hO; have HB2 := Lib.hid B
        clear hg hO B
        obtain ⟨x1, c1, rfl⟩ := HO.out.shape
        obtain ⟨r, hr⟩ : ∃ r, r = q ++ [128] ++ List.replicate k 0 := ⟨_, rfl⟩
        rw [← hr] at HO
        rw [← hr]
        have HR := Lib.hid hr
        clear hr
        obtain ⟨R, hR⟩ : ∃ R, R = r.length := ⟨_, rfl⟩
        rw [← hR] at HO
        rw [← hR]
        have HRL := Lib.hid hR
        clear hR
        have HRN : Hid (R = N + 1 + k) := Lib.hid (by rw [HRL.out, HR.out, HN.out]; simp; omega)
        have HZ := Lib.hid (zpad_lt N)
        obtain ⟨m, hm⟩ : ∃ m, m = R % 64 := ⟨_, rfl⟩
        have et : Int.tmod (R : Int) 64 = (m : Int) := by rw [Int.tmod_eq_emod_of_nonneg (by omega)]; omega
        by_cases hlt : k < zpad N
        · have hne : ¬ (m : Int) = 56 := by
            have := zpad_not N k hlt
            rw [← HRN.out] at this; omega
          clear hm
          go_wp2_with (at_builtin; refine wpList_append_u8 rfl (.tmp 32) (.tmp 33) rfl W.heap.size _ r rfl (HO.out.keep (below_alloc (Below.refl _ _) _)) _ [0] rfl (bytes_lit _ 0 _) (by have := HLN.out; have := HRL.out; have := HRN.out; have := HZ.out; simp; omega) (by have := HB2.out.size; simp; omega) (fun v' w5 hown' hbel => ?_))
          go_roundg (zpad N - (k + 1))
          case measure => have := HG.out; omega
          case rel => exact ⟨k + 1, rfl, by omega, by rw [List.replicate_succ', ← List.append_assoc, ← HR.out]; exact hown', hbel _ _ (Nat.le_refl _) (below_alloc HB2.out _)⟩
        · have he : (m : Int) = 56 := by
            have := zpad_end N
            have := HRN.out
            obtain rfl : k = zpad N := by omega
            omega
          rw [he] at et
          clear hm he
          go_wp2_with fail
          go_loopg [3, 7] 8 (fun g sv ix wr => ∃ k : Nat, g = 8 - k ∧ k ≤ 8 ∧ ix = .int .i64 (56 - 8 * (k : Int)) ∧ Owns wr W.heap.size sv (r ++ (pad8 N).take k) ∧ Below W.heap.size W wr)
          case atStart => exact ⟨0, rfl, by omega, rfl, by rw [List.take_zero, List.append_nil]; exact HO.out, HB2.out⟩
          case round =>
            clear HO HB2
            obtain ⟨j, hg, hj, rfl, hO, B⟩ := hrel
            have HG := Lib.hid hg; have HO := Lib.hid hO; have HB2 := Lib.hid B
            clear hg hO B
            obtain ⟨x1, c1, rfl⟩ := HO.out.shape
            obtain ⟨S, hS⟩ : ∃ S, S = (r ++ (pad8 N).take j).length := ⟨_, rfl⟩
            rw [← hS] at HO
            rw [← hS]
            have HSL := Lib.hid hS
            clear hS
            by_cases hlt8 : j < 8
            · obtain ⟨s, hs⟩ : ∃ s, s = 56 - 8 * j := ⟨_, rfl⟩
              have es : 56 - 8 * (j : Int) = (s : Int) := by omega
              obtain ⟨M, hM⟩ : ∃ M, M = N * 8 := ⟨_, rfl⟩
              have eM : (N : Int) * 8 = (M : Int) := by omega
              have hMs : M < 18446744073709551616 := by have := HLN.out; omega
              have hs64 : s < 64 := by omega
              obtain ⟨y, hy⟩ : ∃ y, y = M / 2 ^ s % 256 := ⟨_, rfl⟩
              have ey : (M : Int) / 2 ^ s % 256 = (y : Int) := by rw [hy, Int.natCast_emod, Int.natCast_ediv, Int.natCast_pow]; rfl
              have hyl : y < 256 := by rw [hy]; exact Nat.mod_lt _ (by omega)
              have HY : Hid ((pad8 N).take (j + 1) = (pad8 N).take j ++ [y]) := Lib.hid (by
                rw [List.take_add_one, hy, hM, hs]
                congr 1
                simp [pad8, hlt8])
              have HSR : Hid (S = R + j) := Lib.hid (by rw [HSL.out, HRL.out, List.length_append, List.length_take, pad8_len]; omega)
              clear hs hM hy
              rw [es]
              go_wp2_with (at_builtin; refine wpList_append_u8 rfl (.tmp 39) (.tmp 46) rfl W.heap.size _ (r ++ (pad8 N).take j) rfl (HO.out.keep (below_alloc (Below.refl _ _) _)) _ [y] rfl (bytes_lit _ y _) (by have := HLN.out; have := HSL.out; have := HRN.out; have := HSR.out; have := HZ.out; simp only [List.length_singleton]; omega) (by have := HB2.out.size; simp; omega) (fun v' w5 hown' hbel => ?_))
              go_roundg (8 - (j + 1))
              case measure => have := HG.out; omega
              case rel => exact ⟨j + 1, rfl, by omega, by rw [show ((s : Int) - 8) = 56 - 8 * ((j + 1 : Nat) : Int) by omega], by rw [HY.out, ← List.append_assoc]; exact hown', hbel _ _ (Nat.le_refl _) (below_alloc HB2.out _)⟩
            · obtain rfl : j = 8 := by omega
              obtain ⟨p, hp⟩ : ∃ p, p = padded q := ⟨_, rfl⟩
              have hpp : r ++ (pad8 N).take 8 = p := by
                obtain rfl : k = zpad N := by omega
                rw [hp, HR.out, HN.out, List.take_of_length_le (by rw [pad8_len]; omega)]; rfl
              rw [hpp] at HO HSL
              have HPB : Hid (∀ y ∈ p, y < 256) := Lib.hid (by rw [hp]; exact padded_byte HB.out)
              obtain ⟨nb, hnb⟩ : ∃ nb, nb = p.length / 64 := ⟨_, rfl⟩
              have HNB : Hid (S = 64 * nb) := Lib.hid (by rw [HSL.out, hnb, hp]; exact padded_64 q)
              have HNM : Hid (S ≤ 200000) := Lib.hid (by rw [HSL.out, hp, padded_len]; have := zpad_lt q.length; have := HLEN.out; omega)
              have HPQ : Hid (sha q = dig (shs p nb)) := Lib.hid (by rw [hnb, hp]; rfl)
              clear hpp hp hnb hlt8 HG hj et hlt hk HR HRL HRN HZ HN HLN
              have ez : Obj.cells #[.int .u32 0, .int .u32 0, .int .u32 0, .int .u32 0, .int .u32 0, .int .u32 0, .int .u32 0, .int .u32 0] 167 (0, 0) = hblk zb8l := rfl
              rw [show (56 - 8 * ((8 : Nat) : Int)) = -8 by omega]
              go_wp2_with (first | refine wpList_store_h rfl (.tmp 8) (.tmp 48) rfl wr.heap.size zb8l h0s rfl rfl rfl rfl (heap_new wr _) (fun w1 h1 h2 h3 h4 => ?_))
              have hcv := run_str_own (HO.out.keep (h4 wr.heap.size wr (Nat.le_refl _) (below_alloc (Below.refl _ _) _)))
              have BC := h4 W.heap.size W (HB2.out.size) (below_alloc HB2.out _)
              have KH := Lib.hid h1
              rw [hcv]
              obtain ⟨gb, hgb⟩ : ∃ gb, gb = wr.heap.size := ⟨_, rfl⟩
              rw [← hgb] at KH
              rw [← hgb]
              have HGB : Hid (W.heap.size ≤ gb) := Lib.hid (by rw [hgb]; exact HB2.out.size)
              clear hcv h1 h2 h3 h4 hgb HO HB2 ez
              go_wp2_with fail
              go_loopg [9] nb (fun g sv wr => ∃ k : Nat, g = nb - k ∧ k ≤ nb ∧ sv = .string (str (p.drop (64 * k))) ∧ wr.heap[gb]? = some (hblk (shs p k)) ∧ Below W.heap.size W wr)
              case atStart => exact ⟨0, rfl, by omega, rfl, KH.out, BC⟩
              case round =>
                clear KH BC
                obtain ⟨k, hg, hk, rfl, hK, B⟩ := hrel
                have HG := Lib.hid hg; have K := Lib.hid hK; have HB2 := Lib.hid B
                clear hg hK B
                by_cases hlt : k < nb
                · obtain ⟨sb, hsb⟩ : ∃ sb, sb = str (p.drop (64 * k)) := ⟨_, rfl⟩
                  rw [← hsb]
                  have hs0 : sb.size = S - 64 * k := by rw [hsb, str_size, List.length_drop, ← HSL.out]
                  have hs64 : 64 ≤ sb.size := by rw [hs0, HNB.out]; omega
                  have hsm : sb.size ≤ 200000 := by have := HNM.out; omega
                  have hne : sb.toList.isEmpty = false := by
                    rw [Lib.toList_data, List.isEmpty_eq_false_iff]
                    intro e
                    have := Lib.size_eq sb
                    rw [e, List.length_nil] at this; omega
                  obtain ⟨s0, hs1⟩ : ∃ s0, s0 = sb.extract 0 64 := ⟨_, rfl⟩
                  obtain ⟨s1, hs2⟩ : ∃ s1, s1 = sb.extract 64 sb.size := ⟨_, rfl⟩
                  have HE1 : Hid (s1 = str (p.drop (64 * (k + 1)))) := Lib.hid (by
                    rw [hs2, hsb, str_size, str_cut, List.drop_drop, show 64 * k + 64 = 64 * (k + 1) by omega]
                    congr 1
                    apply List.take_of_length_le
                    simp; omega)
                  have HS64 : Hid (s0.size = 64) := Lib.hid (by
                    rw [hs1, ByteArray.size_extract]; omega)
                  have HMW : Hid (gon (mw s0) (shs p k) = shs p (k + 1)) := Lib.hid (by
                    rw [hs1, hsb, str_cut, List.drop_zero, mw_str (fun y hy => HPB.out y (List.mem_of_mem_drop (List.mem_of_mem_take hy))), mwl_take]; rfl)
                  have e0 := hs1.symm
                  have e1 := hs2.symm
                  clear hs1 hs2 hs0 hsb
                  obtain ⟨va, vb, vc, vd, ve, vf, vg, vi, hv8, -⟩ := (shs_8 p k).eight
                  obtain ⟨ua, ub, uc, ud, ue, uf, ug, ui, hu8, -⟩ := (shs_8 p (k + 1)).eight
                  have HBK : Hid (∀ w, Calls Try.prog 98 #[.agg #[.int .u32 va, .int .u32 vb, .int .u32 vc, .int .u32 vd, .int .u32 ve, .int .u32 vf, .int .u32 vg, .int .u32 vi], .string s0] w fun e w' => e = .returned (.agg #[.int .u32 ua, .int .u32 ub, .int .u32 uc, .int .u32 ud, .int .u32 ue, .int .u32 uf, .int .u32 ug, .int .u32 ui]) ∧ Below w.heap.size w w') := Lib.hid fun w => by
                    have := block_any (shs p k) (shs_8 p k) s0 HS64.out w
                    rw [HMW.out, hu8, hv8] at this
                    exact this
                  have HV := Lib.hid hv8; have HU := Lib.hid hu8
                  rw [hv8] at K
                  clear hv8 hu8
                  have hs64' : (64 : Int) ≤ (sb.size : Int) := by omega
                  have fz := fun j => hblk_frozen K.out j
                  have l0 : wr.cell? ⟨gb, 0, none⟩ = some (.int .u32 va) := hblk_cell K.out 0 (by simp)
                  have l1 : wr.cell? ⟨gb, 1, none⟩ = some (.int .u32 vb) := hblk_cell K.out 1 (by simp)
                  have l2 : wr.cell? ⟨gb, 2, none⟩ = some (.int .u32 vc) := hblk_cell K.out 2 (by simp)
                  have l3 : wr.cell? ⟨gb, 3, none⟩ = some (.int .u32 vd) := hblk_cell K.out 3 (by simp)
                  have l4 : wr.cell? ⟨gb, 4, none⟩ = some (.int .u32 ve) := hblk_cell K.out 4 (by simp)
                  have l5 : wr.cell? ⟨gb, 5, none⟩ = some (.int .u32 vf) := hblk_cell K.out 5 (by simp)
                  have l6 : wr.cell? ⟨gb, 6, none⟩ = some (.int .u32 vg) := hblk_cell K.out 6 (by simp)
                  have l7 : wr.cell? ⟨gb, 7, none⟩ = some (.int .u32 vi) := hblk_cell K.out 7 (by simp)
                  go_wp2_with fail
                  go_region_with (first | (go_at_call 98; refine (HBK.out _).mono ?_; rintro e wx ⟨rfl, hbx⟩; have KX : wx.heap[gb]? = some (hblk [va, vb, vc, vd, ve, vf, vg, vi]) := below_keep hbx K.out; have hfx := fun j => hblk_frozen KX j; have hx0 : wx.cell? ⟨gb, 0, none⟩ = some (.int .u32 va) := hblk_cell KX 0 (by simp); have hx1 : wx.cell? ⟨gb, 1, none⟩ = some (.int .u32 vb) := hblk_cell KX 1 (by simp); have hx2 : wx.cell? ⟨gb, 2, none⟩ = some (.int .u32 vc) := hblk_cell KX 2 (by simp); have hx3 : wx.cell? ⟨gb, 3, none⟩ = some (.int .u32 vd) := hblk_cell KX 3 (by simp); have hx4 : wx.cell? ⟨gb, 4, none⟩ = some (.int .u32 ve) := hblk_cell KX 4 (by simp); have hx5 : wx.cell? ⟨gb, 5, none⟩ = some (.int .u32 vf) := hblk_cell KX 5 (by simp); have hx6 : wx.cell? ⟨gb, 6, none⟩ = some (.int .u32 vg) := hblk_cell KX 6 (by simp); have hx7 : wx.cell? ⟨gb, 7, none⟩ = some (.int .u32 vi) := hblk_cell KX 7 (by simp); have hSx := below_next (w := wr) (by repeat' (first | (with_reducible exact Below.refl _ _) | (with_reducible assumption) | (with_reducible refine below_alloc ?_ _) | (with_reducible refine Below.drew ?_) | (with_reducible refine below_drewN ?_ _) | (with_reducible refine Below.setCell ?_ ?_ _) | go_size)) hbx; clear hbx))
                  all_goals
                    have hWx := HB2.out.trans (hSx.mono HB2.out.size)
                    go_wp2_with fail
                    go_roundg (nb - (k + 1))
                    case measure => have := HG.out; omega
                    case rel => exact ⟨k + 1, rfl, by omega, by rw [HE1.out], by rw [HU.out]; exact set8 _ _ _ _ _ _ _ _ KX, below_set8 _ _ _ _ _ _ _ _ HGB.out hWx⟩
                · obtain rfl : k = nb := by omega
                  obtain ⟨sb, hsb⟩ : ∃ sb, sb = str (p.drop (64 * k)) := ⟨_, rfl⟩
                  have hne : sb.toList.isEmpty = true := by
                    rw [Lib.toList_data, List.isEmpty_iff, hsb]
                    unfold str
                    rw [List.drop_of_length_le (by rw [← HSL.out, HNB.out]; omega)]
                    rfl
                  rw [← hsb]
                  clear hsb hlt HG
                  obtain ⟨hh, hhh⟩ : ∃ hh, hh = shs p k := ⟨_, rfl⟩
                  have H8H : Hid (H8 hh) := Lib.hid (by rw [hhh]; exact shs_8 p k)
                  rw [← hhh] at K
                  rw [← hhh] at HPQ
                  have HDL : Hid (dig hh < 2 ^ (8 * 32)) := Lib.hid (by rw [← HPQ.out]; exact sha_lt q)
                  clear hhh
                  go_wp2_with (first | refine wpList_load_h rfl (.tmp 8) rfl gb hh rfl H8H.out.1 (keep_alloc _ K.out) ?_)
                  obtain ⟨gi, hgi⟩ : ∃ gi, gi = wr.heap.size := ⟨_, rfl⟩
                  have KI : Hid ((wr.alloc (iblk 0)).heap[gi]? = some (iblk 0)) := Lib.hid (by rw [hgi]; exact heap_new _ _)
                  have HGI : Hid (w.heap.size < gi) := Lib.hid (by rw [hgi]; have := HB2.out.size; have := HWZ.out; omega)
                  have KR : Hid ((wr.alloc (iblk 0)).heap[w.heap.size]? = some (iblk 0)) := Lib.hid (keep_alloc _ (below_keep HB2.out HW0.out))
                  have BB : Below w.heap.size w (wr.alloc (iblk 0)) := below_alloc (below_next HWB.out HB2.out) _
                  rw [← hgi]
                  rw [iblk_lit]
                  clear hgi K HB2
                  go_loopg [60] 8 (fun g ix wr => ∃ k : Nat, g = 8 - k ∧ k ≤ 8 ∧ ix = .int .i64 k ∧ wr.heap[w.heap.size]? = some (iblk 0) ∧ wr.heap[gi]? = some (iblk (dig hh % 2 ^ (8 * (4 * k)))) ∧ Below w.heap.size w wr)
                  case atStart => exact ⟨0, rfl, by omega, rfl, KR.out, by simp only [Nat.mul_zero, Nat.pow_zero, Nat.mod_one]; exact KI.out, BB⟩
                  case round =>
                    clear KI KR BB
                    obtain ⟨k, hg, hk, rfl, hr0, hr1, B⟩ := hrel
                    have HG := Lib.hid hg; have K0 := Lib.hid hr0; have K1 := Lib.hid hr1
                    clear hg hr0 hr1
                    by_cases hlt : k < 8
                    · obtain ⟨y, hy⟩ : ∃ y, y = hh.getD k 0 := ⟨_, rfl⟩
                      have hix : ∀ W', (Instr.index 167 (.agg (us hh).toArray) (.int .i64 (k : Int))).run Try.prog W' = .ok (.int .u32 (y : Nat)) W' := by
                        rw [hy]; exact run_index_h H8H.out.1 k hlt
                      obtain ⟨m, hm⟩ : ∃ m, m = 4 * k := ⟨_, rfl⟩
                      obtain ⟨m1, hm1⟩ : ∃ m1, m1 = m + 1 := ⟨_, rfl⟩
                      obtain ⟨m2, hm2⟩ : ∃ m2, m2 = m + 2 := ⟨_, rfl⟩
                      obtain ⟨m3, hm3⟩ : ∃ m3, m3 = m + 3 := ⟨_, rfl⟩
                      have hset := Lib.hid (dig_set H8H.out.1 hlt hy hm hm1 hm2 hm3 K1.out)
                      have c0 := id_cell K1.out m (by omega)
                      have c1 := id_cell K1.out m1 (by omega)
                      have c2 := id_cell K1.out m2 (by omega)
                      have c3 := id_cell K1.out m3 (by omega)
                      have fz : ∀ j, wr.frozen? ⟨gi, j, none⟩ = false := fun j => frozen_of_row _ _ _ _ _ K1.out
                      have e0 : 4 * (k : Int) = (m : Int) := by omega
                      have e1 : (m : Int) + 1 = (m1 : Int) := by omega
                      have e2 : (m : Int) + 2 = (m2 : Int) := by omega
                      have e3 : (m : Int) + 3 = (m3 : Int) := by omega
                      have l0 : m < 32 := by omega
                      have l1 : m1 < 32 := by omega
                      have l2 : m2 < 32 := by omega
                      have l3 : m3 < 32 := by omega
                      have n01 : ¬ m = m1 := by omega
                      have n02 : ¬ m = m2 := by omega
                      have n03 : ¬ m = m3 := by omega
                      have n12 : ¬ m1 = m2 := by omega
                      have n13 : ¬ m1 = m3 := by omega
                      have n23 : ¬ m2 = m3 := by omega
                      have HGI' := HGI.out
                      clear hm hm1 hm2 hm3 hy
                      go_wp2_with fail
                      go_roundg (8 - (k + 1))
                      case measure => have := HG.out; omega
                      case rel => exact ⟨k + 1, rfl, by omega, by go_num, (far4 (by omega) _ _ _ _ _ _ _ _).trans K0.out, hset.out, (by repeat' (first | (with_reducible exact Below.refl _ _) | (with_reducible assumption) | (with_reducible refine below_alloc ?_ _) | (with_reducible refine Below.drew ?_) | (with_reducible refine below_drewN ?_ _) | (with_reducible refine Below.setCell ?_ ?_ _) | go_size))⟩
                    · obtain rfl : k = 8 := by omega
                      rw [show 8 * (4 * 8) = 8 * 32 from rfl, Nat.mod_eq_of_lt HDL.out] at K1
                      have hpq := HPQ.out
                      have HGI' := HGI.out
                      clear hlt HG HPQ HDL
                      go_wp2_with (first | refine wpList_load_id rfl (.tmp 10) rfl gi (dig hh) rfl K1.out ?_ | refine wpList_store_id rfl (.tmp 2) (.tmp 91) rfl w.heap.size 0 (dig hh) rfl rfl K0.out (fun w' h1 h2 h3 h4 => ?_))
                      have hl := loadVar_id h1
                      exact bodyPost_ret (v := iv (dig hh)) (by simp [results, Try.results52, Act.put, asAddr, hl]) rfl ⟨by rw [hpq], h4 _ _ (Nat.le_refl _) B⟩
end Go.Proofs.Ytnbppbnjkmopeaa
namespace Go.Proofs.Ytnbppbnjkmopeaa
open Go.RowKit

/-- an ID's bytes -/
def idb (n : Nat) : List Nat := (List.range 32).map fun i => n / 2 ^ (8 * i) % 256
theorem idb_len (n : Nat) : (idb n).length = 32 := by simp [idb]
theorem idb_byte (n : Nat) : ∀ y ∈ idb n, y < 256 := by
  intro y hy
  simp only [idb, List.mem_map] at hy
  obtain ⟨i, _, rfl⟩ := hy
  exact Nat.mod_lt _ (by omega)
theorem idb_get (n j : Nat) (hj : j < 32) : (((idb n).getD j 0 : Nat) : Int) = lb n j := by
  unfold idb lb
  simp [List.getD_eq_getElem?_getD, hj]
theorem idb_at {w : World} {g n : Nat} (h : w.heap[g]? = some (iblk n)) (c : Nat) : BytesAt w (.slice (some ⟨g, 0, none⟩) 32 c) (idb n) :=
  .inr ⟨⟨g, 0, none⟩, c, by rw [idb_len], fun j hj => by
    rw [idb_len] at hj
    rw [Addr.add_lit, Nat.zero_add, id_cell h j hj, idb_get n j hj]⟩
/-- the sum of the sum -/
def tw (l : List Nat) : Nat := sha (idb (sha l))
theorem tw_lt (l : List Nat) : tw l < 2 ^ 256 := sha_lt _

/-- a laid row of slices of bytes -/
theorem parts_row {w : World} {g : Nat} {vs : List Value} {t : TypeId} {ls : List (List Nat)} (hl : vs.length = ls.length) (h : w.heap[g]? = some (.cells vs.toArray t (0, 0)))
    (hb : ∀ j, j < ls.length → BytesAt w (vs.getD j undef) (ls.getD j [])) : PartsAt w (some ⟨g, 0, none⟩) ls := fun _ => by
  refine ⟨g, 0, rfl, fun j hj => ⟨vs.getD j undef, ?_, hb j hj⟩⟩
  rw [Nat.zero_add, cell_of_row w g j _ _ _ h]
  simp [List.getD_eq_getElem?_getD, show j < vs.length by omega]
theorem parts_one {w : World} {g : Nat} {v : Value} {t : TypeId} {l : List Nat} (h : w.heap[g]? = some (.cells #[v] t (0, 0))) (hb : BytesAt w v l) : PartsAt w (some ⟨g, 0, none⟩) [l] :=
  parts_row (vs := [v]) rfl h fun j hj => by
    obtain rfl : j = 0 := by simpa using hj
    exact hb
theorem parts_two {w : World} {g : Nat} {v v2 : Value} {t : TypeId} {l l2 : List Nat} (h : w.heap[g]? = some (.cells #[v, v2] t (0, 0))) (hb : BytesAt w v l) (hb2 : BytesAt w v2 l2) : PartsAt w (some ⟨g, 0, none⟩) [l, l2] :=
  parts_row (vs := [v, v2]) rfl h fun j hj => by
    have hj' : j = 0 ∨ j = 1 := by simp only [List.length_cons, List.length_nil] at hj; omega
    rcases hj' with rfl | rfl
    · exact hb
    · exact hb2
theorem parts_three {w : World} {g : Nat} {v v2 v3 : Value} {t : TypeId} {l l2 l3 : List Nat} (h : w.heap[g]? = some (.cells #[v, v2, v3] t (0, 0))) (hb : BytesAt w v l) (hb2 : BytesAt w v2 l2) (hb3 : BytesAt w v3 l3) : PartsAt w (some ⟨g, 0, none⟩) [l, l2, l3] :=
  parts_row (vs := [v, v2, v3]) rfl h fun j hj => by
    have hj' : j = 0 ∨ j = 1 ∨ j = 2 := by simp only [List.length_cons, List.length_nil] at hj; omega
    rcases hj' with rfl | rfl | rfl
    · exact hb
    · exact hb2
    · exact hb3

theorem sum_one (v : Value) (l : List Nat) (g : Nat) (t : TypeId) (c : Nat) (w : World) (h : w.heap[g]? = some (.cells #[v] t (0, 0))) (hv : BytesAt w v l) (hb : ∀ y ∈ l, y < 256) (hlen : l.length ≤ 100000) :
    Calls Try.prog 52 #[.slice (some ⟨g, 0, none⟩) 1 c] w fun e w' => e = .returned (iv (sha l)) ∧ Below w.heap.size w w' := by
  have := sum_any (some ⟨g, 0, none⟩) c [l] (by simpa using hb) (by simpa using hlen) (by simp) w (parts_one h hv)
  simpa using this
theorem sum_three {v v2 v3 : Value} {l l2 l3 : List Nat} (g : Nat) (t : TypeId) (c : Nat) (w : World) (h : w.heap[g]? = some (.cells #[v, v2, v3] t (0, 0))) (hv : BytesAt w v l) (hv2 : BytesAt w v2 l2) (hv3 : BytesAt w v3 l3) (hb : ∀ y ∈ l, y < 256) (hb2 : ∀ y ∈ l2, y < 256) (hb3 : ∀ y ∈ l3, y < 256) (hlen : l.length + (l2.length + l3.length) ≤ 100000) :
    Calls Try.prog 52 #[.slice (some ⟨g, 0, none⟩) 3 c] w fun e w' => e = .returned (iv (sha (l ++ (l2 ++ l3)))) ∧ Below w.heap.size w w' := by
  have := sum_any (some ⟨g, 0, none⟩) c [l, l2, l3] (by intro y hy; simp at hy; exact hy.elim (hb y) fun h => h.elim (hb2 y) (hb3 y)) (by simpa using hlen) (by simp) w (parts_three h hv hv2 hv3)
  simpa using this
theorem sum_none (x : Option Addr) (c : Nat) (w : World) : Calls Try.prog 52 #[.slice x 0 c] w fun e w' => e = .returned (iv (sha [])) ∧ Below w.heap.size w w' := by
  have := sum_any x c [] (by simp) (by simp) (by simp) w (fun h => absurd rfl h)
  simpa using this

set_option maxRecDepth 100000 in
set_option maxHeartbeats 1000000 in
theorem twice_any (x : Option Addr) (cap : Nat) (ls : List (List Nat)) (hb : ∀ y ∈ ls.flatten, y < 256) (hlen : ls.flatten.length ≤ 100000) (hnm : ls.length ≤ 1000000) (w : World) (hp : PartsAt w x ls) :
    Calls Try.prog 56 #[.slice x ls.length cap] w fun e w' => e = .returned (iv (tw ls.flatten)) ∧ Below w.heap.size w w' := by
  have C1 : Hid (Calls Try.prog 52 #[.slice x ls.length cap] (w.alloc (iblk 0)) fun e w' => e = .returned (iv (sha ls.flatten)) ∧ Below (w.alloc (iblk 0)).heap.size (w.alloc (iblk 0)) w') :=
    Lib.hid (sum_any x cap ls hb hlen hnm _ (hp.keep (below_alloc (Below.refl _ _) _)))
  obtain ⟨n, hn⟩ : ∃ n, n = ls.length := ⟨_, rfl⟩
  obtain ⟨q, hq⟩ : ∃ q, q = sha ls.flatten := ⟨_, rfl⟩
  have et : tw ls.flatten = sha (idb q) := by rw [hq]; rfl
  rw [et]
  rw [← hn] at C1
  rw [← hq] at C1
  rw [← hn]
  have K0 := Lib.hid (heap_new w (iblk 0))
  have B : Below w.heap.size w w := Below.refl _ _
  clear hn hq et hb hlen hnm hp
  go_enter Try.func56, Try.ntmps56
  go_wp2_with fail
  rw [iblk_lit]
  refine C1.out.mono ?_
  rintro e w1 ⟨rfl, hb1⟩
  have K1 := Lib.hid (below_keep hb1 K0.out)
  have B1 := below_next (w := w) (by repeat' (first | (with_reducible exact Below.refl _ _) | (with_reducible assumption) | (with_reducible refine below_alloc ?_ _) | (with_reducible refine Below.drew ?_) | (with_reducible refine below_drewN ?_ _) | (with_reducible refine Below.setCell ?_ ?_ _) | go_size)) hb1
  have hz := hb1.size
  clear hb1 C1 K0
  have hgt : w.heap.size < w1.heap.size := by simp at hz; omega
  clear hz
  have ei := iblk_lit
  go_wp2_with (first | refine wpList_store_id rfl (.tmp 3) (.tmp 5) rfl w1.heap.size 0 q rfl rfl (heap_new w1 _) (fun w2 h1 h2 h3 h4 => ?_))
  have K2 := Lib.hid h1
  have K1' := Lib.hid ((h2 _ (by omega)).trans (keep_alloc _ K1.out))
  have B2 := h4 w.heap.size w (by omega) (below_alloc B1 _)
  have hz : w1.heap.size < w2.heap.size := by rw [h3]; simp
  have hsz : Hid (w2.heap.size = w1.heap.size + 1) := Lib.hid (by rw [h3]; simp)
  obtain ⟨g, hg⟩ : ∃ g, g = w1.heap.size := ⟨_, rfl⟩
  rw [← hg] at K2 hz hgt hsz
  rw [← hg]
  clear h1 h2 h3 h4 K1 B1 hg ei
  refine (sum_one (.slice (some ⟨g, 0, none⟩) 32 32) (idb q) (g + 1) _ _ _ (by rw [← hsz.out]; exact heap_new w2 _) ((idb_at K2.out 32).keep (below_alloc (Below.refl _ _) _)) (idb_byte q) (by rw [idb_len]; omega)).mono ?_
  rintro e w3 ⟨rfl, hb3⟩
  have K3 := below_keep hb3 (keep_alloc _ K1'.out)
  have B3 := below_next (w := w) (below_alloc B2 _) hb3
  have hz3 := hb3.size
  clear hb3
  go_wp2_with (first | refine wpList_store_id rfl (.tmp 2) (.tmp 8) rfl w.heap.size 0 (sha (idb q)) rfl rfl K3 (fun w' h1 h2 h3 h4 => ?_))
  have hl := loadVar_id h1
  exact bodyPost_ret (v := iv (sha (idb q))) (by simp [results, Try.results56, Act.put, asAddr, hl]) rfl ⟨rfl, h4 _ _ (Nat.le_refl _) B3⟩
theorem twice_one (v : Value) (l : List Nat) (g : Nat) (t : TypeId) (c : Nat) (w : World) (h : w.heap[g]? = some (.cells #[v] t (0, 0))) (hv : BytesAt w v l) (hb : ∀ y ∈ l, y < 256) (hlen : l.length ≤ 100000) :
    Calls Try.prog 56 #[.slice (some ⟨g, 0, none⟩) 1 c] w fun e w' => e = .returned (iv (tw l)) ∧ Below w.heap.size w w' := by
  have := twice_any (some ⟨g, 0, none⟩) c [l] (by simpa using hb) (by simpa using hlen) (by simp) w (parts_one h hv)
  simpa using this
theorem twice_two (v v2 : Value) (l l2 : List Nat) (g : Nat) (t : TypeId) (c : Nat) (w : World) (h : w.heap[g]? = some (.cells #[v, v2] t (0, 0))) (hv : BytesAt w v l) (hv2 : BytesAt w v2 l2) (hb : ∀ y ∈ l, y < 256) (hb2 : ∀ y ∈ l2, y < 256) (hlen : l.length + l2.length ≤ 100000) :
    Calls Try.prog 56 #[.slice (some ⟨g, 0, none⟩) 2 c] w fun e w' => e = .returned (iv (tw (l ++ l2))) ∧ Below w.heap.size w w' := by
  have := twice_any (some ⟨g, 0, none⟩) c [l, l2] (by intro y hy; simp at hy; exact hy.elim (hb y) (hb2 y)) (by simpa using hlen) (by simp) w (parts_two h hv hv2)
  simpa using this
theorem twice_none (x : Option Addr) (c : Nat) (w : World) : Calls Try.prog 56 #[.slice x 0 c] w fun e w' => e = .returned (iv (tw [])) ∧ Below w.heap.size w w' := by
  have := twice_any x c [] (by simp) (by simp) (by simp) w (fun h => absurd rfl h)
  simpa using this

theorem sha_abc : lb (sha [97, 98, 99]) 0 = 186 := by kernel_rfl
theorem sha_nil : lb (sha []) 31 = 85 := by kernel_rfl
theorem tw_nil : lb (tw []) 0 = 93 := by kernel_rfl
end Go.Proofs.Ytnbppbnjkmopeaa
namespace Go.Proofs.Ytnbppbnjkmopeaa
open Go.RowKit

theorem Owns.new (w : World) (base : Nat) (hb : base ≤ w.heap.size) : Owns (w.alloc (.cells #[] 5 (0, 0))) base (.slice (some ⟨w.heap.size, 0, none⟩) 0 0) [] :=
  World.ownsRow_lit w #[] 0 hb (by unfold maxLen; omega) rfl

theorem Owns.keepB {w w' : World} {base : Nat} {v : Value} {q : List Nat} (h : Owns w base v q) (hb : ∀ b, b < w.heap.size → w'.heap[b]? = w.heap[b]?) : Owns w' base v q := by
  refine ⟨h.1, ?_⟩
  rcases h.2 with h' | ⟨g, cap, cur, rfl, h1, h2, h3⟩
  · exact .inl h'
  · exact .inr ⟨g, cap, cur, rfl, h1, (hb g (block_lt h2)).trans h2, h3⟩
theorem Owns.bytes' {w w' : World} {base n : Nat} {x : Option Addr} {c : Nat} {q : List Nat} (h : Owns w base (.slice x n c) q) (hn : q.length = n) (hb : Below w.heap.size w w') : BytesAt w' (.slice x n c) q := by
  subst hn; exact h.bytes.keep hb
/-- a byte of the call's own row is written -/
theorem Owns.set {w : World} {base : Nat} {x : Option Addr} {n c : Nat} {q : List Nat} (h : Owns w base (.slice x n c) q) (hn : q.length = n) {k : Nat} (hk : k < n) :
    ∃ g, x = some ⟨g, 0, none⟩ ∧ base ≤ g ∧ w.cell? ⟨g, k, none⟩ = some (.int .u8 (q.getD k 0 : Nat)) ∧ w.frozen? ⟨g, k, none⟩ = false ∧
      (∀ y : Nat, Owns (w.setCell ⟨g, k, none⟩ (.int .u8 (y : Int))) base (.slice x n c) (q.set k y)) ∧ (∀ b m, w.heap[b]? = some (iblk m) → b ≠ g) := by
  subst hn
  have h' := h
  rcases h'.2 with ⟨e, hq⟩ | ⟨g, cap, cur, e, h1, h2, h3⟩
  · omega
  · obtain ⟨rfl, -, rfl⟩ := Value.slice.inj e
    refine ⟨g, rfl, h1, ?_, World.ownsRow.frozenAt h k, fun y => ?_, fun b m hb hbg => ?_⟩
    · rw [World.ownsRow.cellAt h k (by omega), u8s_get q k hk]
    · have := (World.ownsRow.stored h k (.int .u8 (y : Int))).1
      unfold Owns
      rw [List.length_set]
      have e2 : u8s (q.set k y) = (u8s q).set k (.int .u8 (y : Int)) := by unfold u8s; rw [List.map_set]
      rw [e2]
      exact this
    · subst hbg
      rw [h2] at hb
      unfold iblk at hb
      simp at hb

theorem BytesAt.shape {w : World} {v : Value} {l : List Nat} (h : BytesAt w v l) : ∃ x c, v = .slice x l.length c := by
  rcases h with ⟨rfl, rfl⟩ | ⟨a, c, rfl, _⟩
  · exact ⟨_, _, rfl⟩
  · exact ⟨_, _, rfl⟩
theorem heap_new_at {w : World} {o : Obj} {g : Nat} (h : w.heap.size = g) : (w.alloc o).heap[g]? = some o := by rw [← h]; exact heap_new w o
theorem eq_self (a : Nat) (ha : a < 2 ^ 256) (w : World) : (Op.equalIn 10000 24 (iv a) (iv a)).run Try.prog w = .ok true w := by rw [eq_id a a ha ha w, decide_eq_true rfl]

theorem bytes_three (w : World) (a b c : Nat) (t : TypeId) (fr : Nat × Nat) (cap : Nat) {g : Nat} (h : w.heap[g]? = some (.cells #[.int .u8 (a : Int), .int .u8 (b : Int), .int .u8 (c : Int)] t fr)) : BytesAt w (.slice (some ⟨g, 0, none⟩) 3 cap) [a, b, c] :=
  .inr ⟨_, _, rfl, fun j hj => by
    simp only [List.length_cons, List.length_nil] at hj
    rw [Addr.add_lit, Nat.zero_add]
    unfold World.cell?
    simp only [h]
    have : j = 0 ∨ j = 1 ∨ j = 2 := by omega
    rcases this with rfl | rfl | rfl <;> rfl⟩
theorem underlying_u8 : Try.prog.underlying 5 = some (.int .u8) := by kernel_rfl
theorem ix_id {n k : Nat} (hk : k < 32) {x : Int} (hx : lb n k = x) (w : World) : (Instr.index 24 (iv n) (.int .i64 (k : Int))).run Try.prog w = .ok (.int .u8 x) w := by rw [← hx]; exact run_index_id n k hk w
end Go.Proofs.Ytnbppbnjkmopeaa
