/- tallystickref01: turn, low, List. No condition. tallystickref01.Sum: its loops over a block: the words of a block. No condition. -/
import Derived.Test.YtnbppbnjkmopeaaHash2
import Derived.Deep.LoopGhost
import Derived.Outline
namespace Go.Proofs.Ytnbppbnjkmopeaa
open Go.RowKit

theorem ror_step {x r : Nat} (hr : r < 32) : ror x (r + 1) = ror x r / 2 + ror x r % 2 * 2147483648 := by
  unfold ror
  obtain ⟨m, hm⟩ : ∃ m, m = 31 - r := ⟨_, rfl⟩
  have e1 : 32 - r = m + 1 := by omega
  have e2 : 32 - (r + 1) = m := by omega
  rw [e1, e2, Nat.pow_succ 2 r, Nat.mod_mul, Nat.pow_succ 2 m, ← Nat.div_div_eq_div_mul]
  have e3 : 2 ^ r * 2 ^ m = 2147483648 := by rw [← Nat.pow_add, show r + m = 31 by omega]
  obtain ⟨a, ha⟩ : ∃ a, a = x % 2 ^ r := ⟨_, rfl⟩
  obtain ⟨q, hq⟩ : ∃ q, q = x / 2 ^ r := ⟨_, rfl⟩
  rw [← ha, ← hq, Nat.add_mul, Nat.mul_right_comm, e3, ← Nat.mul_assoc]
  obtain ⟨p, hp⟩ : ∃ p, p = a * 2 ^ m := ⟨_, rfl⟩
  rw [← hp]
  omega
theorem ror_zero (x : Nat) : ror x 0 = x := by unfold ror; simp [Nat.mod_one]

set_option maxRecDepth 100000 in
set_option maxHeartbeats 1000000 in
theorem turn_any (x n : Nat) (hx : x < 4294967296) (hn : n ≤ 32) (w : World) :
    Calls Try.prog 114 #[.int .u32 x, .int .i64 n] w fun e w' => e = .returned (.int .u32 (ror x n)) ∧ w = w' := by
  have H0 := Lib.hid (ror_zero x)
  have HL := Lib.hid fun k (hk : k ≤ 32) => ror_lt hx hk
  have HS := Lib.hid fun k (hk : k < 32) => @ror_step x k hk
  clear hx
  go_enter Try.func114, Try.ntmps114
  go_wp2_with fail
  go_loopg [0, 5] n (fun g xv ix wr => ∃ k : Nat, g = n - k ∧ k ≤ n ∧ ix = .int .i64 k ∧ xv = .int .u32 (ror x k) ∧ w = wr)
  case atStart => exact ⟨0, rfl, by omega, rfl, by rw [H0.out], rfl⟩
  case round =>
    obtain ⟨k, hg, hk, rfl, rfl, rfl⟩ := hrel
    have HG := Lib.hid hg
    clear hg
    by_cases hlt : k < n
    · have hl := HL.out k (by omega)
      have hs := Lib.hid (HS.out k (by omega))
      obtain ⟨y, hy⟩ : ∃ y, y = ror x k := ⟨_, rfl⟩
      rw [← hy] at hl hs
      rw [← hy]
      clear hy
      have ey : (y : Int) / 2 + (y : Int) % 2 * 2147483648 = ((ror x (k + 1) : Nat) : Int) := by rw [hs.out]; omega
      have hb : (y : Int) / 2 + (y : Int) % 2 * 2147483648 < 4294967296 := by omega
      go_wp2_with fail
      go_roundg (n - (k + 1))
      case measure => have := HG.out; omega
      case rel => exact ⟨k + 1, rfl, by omega, by go_num, rfl, rfl⟩
    · obtain rfl : k = n := by omega
      go_wp2_with fail
      go_ret
      exact ⟨rfl, rfl⟩

set_option maxRecDepth 100000 in
set_option maxHeartbeats 1000000 in
theorem low_any (x n : Nat) (hx : x < 4294967296) (hn : n ≤ 32) (w : World) :
    Calls Try.prog 115 #[.int .u32 x, .int .i64 n] w fun e w' => e = .returned (.int .u32 ((x / 2 ^ n : Nat) : Int)) ∧ w = w' := by
  have H0 : Hid (x / 2 ^ 0 = x) := Lib.hid (by rw [Nat.pow_zero, Nat.div_one])
  have HL := Lib.hid fun k => Nat.lt_of_le_of_lt (Nat.div_le_self x (2 ^ k)) hx
  have HS := Lib.hid fun k => show x / 2 ^ (k + 1) = x / 2 ^ k / 2 by rw [Nat.pow_succ, Nat.div_div_eq_div_mul]
  clear hx
  go_enter Try.func115, Try.ntmps115
  go_wp2_with fail
  go_loopg [0, 5] n (fun g xv ix wr => ∃ k : Nat, g = n - k ∧ k ≤ n ∧ ix = .int .i64 k ∧ xv = .int .u32 ((x / 2 ^ k : Nat) : Int) ∧ w = wr)
  case atStart => exact ⟨0, rfl, by omega, rfl, by rw [H0.out], rfl⟩
  case round =>
    obtain ⟨k, hg, hk, rfl, rfl, rfl⟩ := hrel
    have HG := Lib.hid hg
    clear hg
    have hl := HL.out k
    have hs := Lib.hid (HS.out k)
    obtain ⟨y, hy⟩ : ∃ y, y = x / 2 ^ k := ⟨_, rfl⟩
    rw [← hy] at hl hs
    rw [← hy]
    by_cases hlt : k < n
    · clear hy
      obtain ⟨z, hz⟩ : ∃ z, z = x / 2 ^ (k + 1) := ⟨_, rfl⟩
      rw [← hz] at hs
      have ey : (y : Int) / 2 = (z : Int) := by rw [hs.out]; omega
      have HZ := Lib.hid hz
      clear hz
      go_wp2_with fail
      go_roundg (n - (k + 1))
      case measure => have := HG.out; omega
      case rel => exact ⟨k + 1, rfl, by omega, by go_num, by rw [← HZ.out], rfl⟩
    · obtain rfl : k = n := by omega
      have HY := Lib.hid hy
      clear hy
      go_wp2_with fail
      go_ret
      exact ⟨by rw [HY.out]; rfl, rfl⟩

set_option maxRecDepth 100000 in
theorem list_any (w : World) : Calls Try.prog 113 #[] w fun e w' => ∃ g, e = .returned (.slice (some ⟨g, 0, none⟩) 64 64) ∧ w'.heap[g]? = some (.cells (us ks).toArray 22 (0, 0)) ∧ w.heap.size ≤ g ∧ Below w.heap.size w w' := by
  have B : Below w.heap.size w w := Below.refl _ _
  go_enter Try.func113, Try.ntmps113
  go_wp2_with fail
  go_ret
  exact ⟨w.heap.size, rfl, heap_new w _, Nat.le_refl _, below_alloc B _⟩
end Go.Proofs.Ytnbppbnjkmopeaa
namespace Go.Proofs.Ytnbppbnjkmopeaa
open Go.RowKit

def loopsOf : Code → List Code
  | .loop c => c :: loopsOf c
  | .seq a b => loopsOf a ++ loopsOf b
  | .cond _ a b => loopsOf a ++ loopsOf b
  | .block _ c => loopsOf c
  | .scope c => loopsOf c
  | _ => []
noncomputable def rsBody (k : Nat) : Code := ((Try.f78.body.map loopsOf).getD []).getD k .skip

theorem lit_range (A : Array Value) (n : Nat) (h : A.size = n) : A = ((List.range n).map fun k => A.getD k undef).toArray := by
  apply Array.ext_getElem?
  intro i
  by_cases hi : i < n
  · simp [hi, h]
  · rw [Array.getElem?_eq_none (by omega), Array.getElem?_eq_none (by simp; omega)]
set_option maxRecDepth 1000000 in
theorem lit306 (A : Array Value) (h : A.size = 306) : ∃ f : Nat → Value, A = List.toArray (f 0 :: f 1 :: f 2 :: f 3 :: f 4 :: f 5 :: f 6 :: f 7 :: f 8 :: f 9 :: f 10 :: f 11 :: f 12 :: f 13 :: f 14 :: f 15 :: f 16 :: f 17 :: f 18 :: f 19 :: f 20 :: f 21 :: f 22 :: f 23 :: f 24 :: f 25 :: f 26 :: f 27 :: f 28 :: f 29 :: f 30 :: f 31 :: f 32 :: f 33 :: f 34 :: f 35 :: f 36 :: f 37 :: f 38 :: f 39 :: f 40 :: f 41 :: f 42 :: f 43 :: f 44 :: f 45 :: f 46 :: f 47 :: f 48 :: f 49 :: f 50 :: f 51 :: f 52 :: f 53 :: f 54 :: f 55 :: f 56 :: f 57 :: f 58 :: f 59 :: f 60 :: f 61 :: f 62 :: f 63 :: f 64 :: f 65 :: f 66 :: f 67 :: f 68 :: f 69 :: f 70 :: f 71 :: f 72 :: f 73 :: f 74 :: f 75 :: f 76 :: f 77 :: f 78 :: f 79 :: f 80 :: f 81 :: f 82 :: f 83 :: f 84 :: f 85 :: f 86 :: f 87 :: f 88 :: f 89 :: f 90 :: f 91 :: f 92 :: f 93 :: f 94 :: f 95 :: f 96 :: f 97 :: f 98 :: f 99 :: f 100 :: f 101 :: f 102 :: f 103 :: f 104 :: f 105 :: f 106 :: f 107 :: f 108 :: f 109 :: f 110 :: f 111 :: f 112 :: f 113 :: f 114 :: f 115 :: f 116 :: f 117 :: f 118 :: f 119 :: f 120 :: f 121 :: f 122 :: f 123 :: f 124 :: f 125 :: f 126 :: f 127 :: f 128 :: f 129 :: f 130 :: f 131 :: f 132 :: f 133 :: f 134 :: f 135 :: f 136 :: f 137 :: f 138 :: f 139 :: f 140 :: f 141 :: f 142 :: f 143 :: f 144 :: f 145 :: f 146 :: f 147 :: f 148 :: f 149 :: f 150 :: f 151 :: f 152 :: f 153 :: f 154 :: f 155 :: f 156 :: f 157 :: f 158 :: f 159 :: f 160 :: f 161 :: f 162 :: f 163 :: f 164 :: f 165 :: f 166 :: f 167 :: f 168 :: f 169 :: f 170 :: f 171 :: f 172 :: f 173 :: f 174 :: f 175 :: f 176 :: f 177 :: f 178 :: f 179 :: f 180 :: f 181 :: f 182 :: f 183 :: f 184 :: f 185 :: f 186 :: f 187 :: f 188 :: f 189 :: f 190 :: f 191 :: f 192 :: f 193 :: f 194 :: f 195 :: f 196 :: f 197 :: f 198 :: f 199 :: f 200 :: f 201 :: f 202 :: f 203 :: f 204 :: f 205 :: f 206 :: f 207 :: f 208 :: f 209 :: f 210 :: f 211 :: f 212 :: f 213 :: f 214 :: f 215 :: f 216 :: f 217 :: f 218 :: f 219 :: f 220 :: f 221 :: f 222 :: f 223 :: f 224 :: f 225 :: f 226 :: f 227 :: f 228 :: f 229 :: f 230 :: f 231 :: f 232 :: f 233 :: f 234 :: f 235 :: f 236 :: f 237 :: f 238 :: f 239 :: f 240 :: f 241 :: f 242 :: f 243 :: f 244 :: f 245 :: f 246 :: f 247 :: f 248 :: f 249 :: f 250 :: f 251 :: f 252 :: f 253 :: f 254 :: f 255 :: f 256 :: f 257 :: f 258 :: f 259 :: f 260 :: f 261 :: f 262 :: f 263 :: f 264 :: f 265 :: f 266 :: f 267 :: f 268 :: f 269 :: f 270 :: f 271 :: f 272 :: f 273 :: f 274 :: f 275 :: f 276 :: f 277 :: f 278 :: f 279 :: f 280 :: f 281 :: f 282 :: f 283 :: f 284 :: f 285 :: f 286 :: f 287 :: f 288 :: f 289 :: f 290 :: f 291 :: f 292 :: f 293 :: f 294 :: f 295 :: f 296 :: f 297 :: f 298 :: f 299 :: f 300 :: f 301 :: f 302 :: f 303 :: f 304 :: f 305 :: []) := ⟨fun k => A.getD k undef, lit_range A 306 h⟩

/-- the call's own row of numbers of 32 bits -/
def OwnsU (w : World) (base : Nat) (v : Value) (q : List Nat) : Prop := w.ownsRow base 22 1 v q.length (us q)
theorem OwnsU.nil (w : World) (base : Nat) : OwnsU w base (.slice none 0 0) [] := World.ownsRow_nil _ _ _ _
theorem OwnsU.keep {w w' : World} {base : Nat} {v : Value} {q : List Nat} (h : OwnsU w base v q) (hb : Below w.heap.size w w') : OwnsU w' base v q := by
  refine ⟨h.1, ?_⟩
  rcases h.2 with h' | ⟨g, cap, cur, rfl, h1, h2, h3⟩
  · exact .inl h'
  · exact .inr ⟨g, cap, cur, rfl, h1, below_keep hb h2, h3⟩
theorem OwnsU.shape {w : World} {base : Nat} {v : Value} {q : List Nat} (h : OwnsU w base v q) : ∃ x cap, v = .slice x q.length cap := by
  rcases h.2 with ⟨rfl, hq⟩ | ⟨g, cap, cur, rfl, _⟩
  · exact ⟨_, _, by rw [hq]⟩
  · exact ⟨_, _, rfl⟩
theorem us_get (l : List Nat) (j : Nat) (h : j < l.length) : (us l)[j]? = some (.int .u32 (l.getD j 0 : Nat)) := by simp [us, h]
theorem OwnsU.at {w : World} {base n : Nat} {v : Value} {q : List Nat} (h : OwnsU w base v q) (hn : q.length = n) (h0 : 0 < n) : ∃ g cap, v = .slice (some ⟨g, 0, none⟩) n cap ∧ base ≤ g ∧ g < w.heap.size ∧ ∀ j, j < n → w.cell? ⟨g, j, none⟩ = some (.int .u32 (q.getD j 0 : Nat)) := by
  subst hn
  have h' := h
  rcases h.2 with ⟨rfl, hq⟩ | ⟨g, cap, cur, rfl, h1, h2, h3⟩
  · omega
  · exact ⟨g, cap, rfl, h1, block_lt h2, fun j hj => by rw [World.ownsRow.cellAt h' j (by omega), us_get q j hj]⟩
theorem OwnsU.cellAt {w : World} {base n g cap : Nat} {q : List Nat} (h : OwnsU w base (.slice (some ⟨g, 0, none⟩) n cap) q) (hn : q.length = n) (j : Nat) (hj : j < n) : w.cell? ⟨g, j, none⟩ = some (.int .u32 (q.getD j 0 : Nat)) := by
  subst hn
  rw [World.ownsRow.cellAt h j (by omega), us_get q j hj]
theorem info_u32 : (Try.prog.info? 22).map (fun i => (i.zero, i.size, i.bytes)) = some (some (.int .u32 0), 1, 4) := by kernel_rfl
theorem underlying_u32s : Try.prog.underlying 188 = some (.slice 22) := by kernel_rfl
theorem us_app (l m : List Nat) : us (l ++ m) = us l ++ us m := by simp [us]
/-- numbers are appended to the call's own row -/
theorem wpList_append_u32 {ops : Array Oper} {rest : List Oper} {o : Oper} {a : Act} {w : World} {Q : Exit → Act → World → Prop} (hgd : o.guard = none) (s x : Operand)
    (ho : o.op = .call { callee := .builtin .append, args := #[s, x], argTypes := #[188, 188] })
    (base : Nat) (v : Value) (q : List Nat) (hs : a.eval s = v) (hown : OwnsU w base v q) (l : List Nat) (g c : Nat) (hx : a.eval x = .slice (some ⟨g, 0, none⟩) l.length c) (hc : ∀ j, j < l.length → w.cell? ⟨g, j, none⟩ = some (.int .u32 (l.getD j 0 : Nat)))
    (hL : q.length + l.length ≤ 1000000) (hbase : base ≤ w.heap.size)
    (h : ∀ v' w', OwnsU w' base v' (q ++ l) → (∀ B u, B ≤ base → Below B u w → Below B u w') → wpList Try.prog ops Q rest (a.put o.dst v') w') :
    wpList Try.prog ops Q (o :: rest) a w := by
  obtain ⟨i0, hi, hz0, hz1, hz2⟩ := info_parts info_u32
  refine wpList_append_own w hgd s x 188 ho base 22 i0 (.int .u32 0) 1 4 underlying_u32s hi hz0 hz1 hz2 rfl (by decide) v q.length (us q) hs hown ⟨g, 0, none⟩ l.length c (us l) hx (by rw [us_len]; omega)
    (fun j u hj => ?_) (fun u hu => by simp only [us, List.mem_map] at hu; obtain ⟨y, _, rfl⟩ := hu; rfl) (by unfold maxLen; omega) (by omega) hbase fun v' w' hown' hgrow _ => ?_
  · have hjl : j < l.length := by
      have := (List.getElem?_eq_some_iff.1 hj).1
      rwa [us_len] at this
    rw [us_get l j hjl] at hj
    rw [Addr.add_lit, Nat.zero_add, hc j hjl]; exact hj
  · refine h v' w' ?_ fun B u hB hu => ?_
    · unfold OwnsU
      rw [List.length_append, us_app]
      exact hown'
    · exact hu.grown hgrow (by omega) (fun j hj => by have := (World.ownsRow.lt hown j hj).1; omega)

/-- the first j bytes of a word -/
def pre4 (s : ByteArray) (p : Nat) : Nat → Nat
  | 0 => 0
  | j + 1 => pre4 s p j * 256 + bt s (p + j)
theorem pre4_all (s : ByteArray) (p : Nat) : pre4 s p 4 = wd s p := by
  unfold wd
  simp only [pre4, Nat.add_zero]
  omega
theorem pre4_lt (s : ByteArray) (p : Nat) : ∀ j, pre4 s p j < 256 ^ j
  | 0 => by simp [pre4]
  | j + 1 => by
    have := pre4_lt s p j; have := bt_lt s (p + j)
    rw [pre4, Nat.pow_succ]; omega
/-- the words of a block that begins at a place -/
def wsAt (s : ByteArray) (p : Nat) (i : Nat) : List Nat := (List.range i).map fun k => wd s (p + 4 * k)
theorem wsAt_succ (s : ByteArray) (p i : Nat) : wsAt s p (i + 1) = wsAt s p i ++ [wd s (p + 4 * i)] := by simp [wsAt, List.range_succ]
theorem wsAt_len (s : ByteArray) (p i : Nat) : (wsAt s p i).length = i := by simp [wsAt]
def Keeps (A A' : Array Value) : Prop := A'.size = 306 ∧ A'[0]? = A[0]? ∧ A'[2]? = A[2]? ∧ A'[3]? = A[3]? ∧ A'[7]? = A[7]? ∧ A'[8]? = A[8]?

set_option maxRecDepth 1000000 in
set_option maxHeartbeats 4000000 in
theorem loop16 (A : Array Value) (s : ByteArray) (p : Nat) (w : World) (hs : A.size = 306) (h0 : A[0]? = some (.string s)) (h8 : A[8]? = some (.int .i64 p)) (h9 : A[9]? = some (.slice none 0 0)) (h10 : A[10]? = some (.int .i64 0))
    (hp : p + 64 ≤ s.size) (hsz : s.size < 1000000) (Q : Exit → Act → World → Prop)
    (hQ : ∀ A' w' v, Keeps A A' → A'[9]? = some v → OwnsU w' w.heap.size v (wsAt s p 16) → Below w.heap.size w w' → Q (.exit 6) ⟨A', []⟩ w') : Code.wp Try.prog (Code.loop (rsBody 3)) Q ⟨A, []⟩ w := by
  obtain ⟨f, rfl⟩ := lit306 A hs
  have e0 : f 0 = .string s := by simpa using h0
  have e8 : f 8 = .int .i64 p := by simpa using h8
  have e9 : f 9 = .slice none 0 0 := by simpa using h9
  have e10 : f 10 = .int .i64 0 := by simpa using h10
  clear h0 h8 h9 h10 hs
  have HQ := Lib.hid hQ
  clear hQ
  conv => arg 2; arg 1; whnf
  rw [e0, e8, e9, e10]
  have E := Lib.hid ((⟨e0, e8⟩ : f 0 = .string s ∧ f 8 = .int .i64 p))
  clear e0 e8 e9 e10
  go_loopg [9, 10] 16 (fun g sv ix wr => ∃ k : Nat, g = 16 - k ∧ k ≤ 16 ∧ ix = .int .i64 k ∧ OwnsU wr w.heap.size sv (wsAt s p k) ∧ Below w.heap.size w wr)
  case atStart => exact ⟨0, rfl, by omega, rfl, OwnsU.nil _ _, Below.refl _ _⟩
  case round =>
    obtain ⟨k, hg, hk, rfl, hO, B⟩ := hrel
    have HG := Lib.hid hg; have HO := Lib.hid hO; have HB := Lib.hid B
    clear hg hO B
    by_cases hlt : k < 16
    · go_wp2_with fail
      go_loopg [11, 12] 4 (fun g xv ix wr2 => ∃ j : Nat, g = 4 - j ∧ j ≤ 4 ∧ ix = .int .i64 j ∧ xv = .int .u32 ((pre4 s (p + 4 * k) j : Nat) : Int) ∧ wr = wr2)
      case atStart => exact ⟨0, rfl, by omega, rfl, rfl, rfl⟩
      case round =>
        obtain ⟨j, hg, hj, rfl, rfl, rfl⟩ := hrel
        have HG2 := Lib.hid hg
        clear hg
        by_cases hlt2 : j < 4
        · obtain ⟨x, hx⟩ : ∃ x, x = pre4 s (p + 4 * k) j := ⟨_, rfl⟩
          obtain ⟨y, hy⟩ : ∃ y, y = bt s (p + 4 * k + j) := ⟨_, rfl⟩
          have hxl : x < 16777216 := by
            have := pre4_lt s (p + 4 * k) j
            have h2 : 256 ^ j ≤ 256 ^ 3 := Nat.pow_le_pow_right (by omega) (by omega)
            rw [hx]; omega
          have hyl : y < 256 := by rw [hy]; exact bt_lt _ _
          obtain ⟨m, hm⟩ : ∃ m, m = p + 4 * k + j := ⟨_, rfl⟩
          have em : (p : Int) + 4 * (k : Int) + (j : Int) = (m : Int) := by omega
          have hml : m < s.size := by omega
          have hbt : ∀ h : m < s.size, ((s[m]'h).toNat : Int) = (y : Int) := fun h => by rw [bt_get, hy, hm]
          have HX : Hid (pre4 s (p + 4 * k) (j + 1) = x * 256 + y) := Lib.hid (by rw [pre4, hx, hy])
          rw [← hx]
          clear hx hy hm
          go_wp2_with fail
          go_roundg (4 - (j + 1))
          case measure => have := HG2.out; omega
          case rel => exact ⟨j + 1, rfl, by omega, by go_num, by rw [HX.out]; go_num, rfl⟩
        · obtain rfl : j = 4 := by omega
          have ex : pre4 s (p + 4 * k) 4 = wd s (p + 4 * k) := pre4_all s _
          rw [ex]
          have HW := Lib.hid (wsAt_succ s p k)
          have HWL := Lib.hid (wsAt_len s p k)
          obtain ⟨y, hy⟩ : ∃ y, y = wd s (p + 4 * k) := ⟨_, rfl⟩
          rw [← hy]
          rw [← hy] at HW
          clear ex hy
          go_wp2_with (at_builtin; refine wpList_append_u32 rfl (.tmp 83) (.tmp 85) rfl w.heap.size _ (wsAt s p k) rfl (HO.out.keep (below_alloc (Below.refl _ _) _)) [y] wr.heap.size 1 rfl (fun j hj => by obtain rfl : j = 0 := (by simpa using hj); exact cell_new _ _ _) (by have := HWL.out; simp; omega) (by have := HB.out.size; simp; omega) (fun v' w5 hown' hbel => ?_))
          go_roundg (16 - (k + 1))
          case measure => have := HG.out; omega
          case rel => exact ⟨k + 1, rfl, by omega, by go_num, by rw [HW.out]; exact hown', hbel _ _ (Nat.le_refl _) (below_alloc HB.out _)⟩
    · obtain rfl : k = 16 := by omega
      go_wp2_with fail
      obtain ⟨e0, e8⟩ := E.out
      exact HQ.out _ _ _ ⟨rfl, by simp [e0], rfl, rfl, rfl, by simp [e8]⟩ rfl HO.out HB.out
end Go.Proofs.Ytnbppbnjkmopeaa
