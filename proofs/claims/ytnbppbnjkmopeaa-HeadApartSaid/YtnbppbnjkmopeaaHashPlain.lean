/- SHA-256 in plain numbers: the words, the rounds, the blocks. No condition. -/
import Derived.Test.YtnbppbnjkmopeaaHashBase
import Derived.Laws.BitsAllLaws
namespace Go.Proofs.Ytnbppbnjkmopeaa
open Go.RowKit

/-- turned to the right -/
def ror (x r : Nat) : Nat := x % 2 ^ r * 2 ^ (32 - r) + x / 2 ^ r
theorem ror_lt {x r : Nat} (hx : x < 4294967296) (hr : r ≤ 32) : ror x r < 4294967296 := by
  unfold ror
  have h1 : x % 2 ^ r < 2 ^ r := Nat.mod_lt _ (Nat.two_pow_pos r)
  have e : (4294967296 : Nat) = 2 ^ r * 2 ^ (32 - r) := by rw [← Nat.pow_add, show r + (32 - r) = 32 by omega]
  have h2 : x / 2 ^ r < 2 ^ (32 - r) := by rw [Nat.div_lt_iff_lt_mul (Nat.two_pow_pos _), Nat.mul_comm, ← e]; exact hx
  have h3 : x % 2 ^ r * 2 ^ (32 - r) + 2 ^ (32 - r) ≤ 2 ^ r * 2 ^ (32 - r) := by
    rw [← Nat.succ_mul]; exact Nat.mul_le_mul_right _ h1
  rw [e]; omega
theorem ror_join {x r : Nat} (hx : x < 4294967296) (hr : r ≤ 32) : (x * 2 ^ (32 - r) % 4294967296) ||| (x / 2 ^ r) = ror x r := by
  have e : (4294967296 : Nat) = 2 ^ r * 2 ^ (32 - r) := by rw [← Nat.pow_add, show r + (32 - r) = 32 by omega]
  have h2 : x / 2 ^ r < 2 ^ (32 - r) := by rw [Nat.div_lt_iff_lt_mul (Nat.two_pow_pos _), Nat.mul_comm, ← e]; exact hx
  have h3 : x * 2 ^ (32 - r) % 4294967296 = x % 2 ^ r * 2 ^ (32 - r) := by rw [e, Nat.mul_mod_mul_right]
  unfold ror
  rw [h3, nat_join (32 - r) _ _ (Nat.mul_mod_left _ _) h2]

def add32 (a b : Nat) : Nat := (a + b) % 4294967296
def sg0 (x : Nat) : Nat := ror x 7 ^^^ ror x 18 ^^^ (x / 8)
def sg1 (x : Nat) : Nat := ror x 17 ^^^ ror x 19 ^^^ (x / 1024)
def bs1 (e : Nat) : Nat := ror e 6 ^^^ ror e 11 ^^^ ror e 25
def bs0 (a : Nat) : Nat := ror a 2 ^^^ ror a 13 ^^^ ror a 22
def chs (e f g : Nat) : Nat := (e &&& f) ^^^ ((4294967295 - e) &&& g)
def maj (a b c : Nat) : Nat := (a &&& b) ^^^ (a &&& c) ^^^ (b &&& c)
/-- t of a round -/
def rt (k w : Nat) (e f g h : Nat) : Nat := add32 (add32 (add32 (add32 h (bs1 e)) (chs e f g)) k) w
/-- one round -/
def rnd1 (k w : Nat) : List Nat → List Nat
  | [a, b, c, d, e, f, g, h] => [add32 (add32 (rt k w e f g h) (bs0 a)) (maj a b c), a, b, c, add32 d (rt k w e f g h), e, f, g]
  | l => l
/-- the standard's numbers -/
def ks : List Nat := [
    0x428a2f98, 0x71374491, 0xb5c0fbcf, 0xe9b5dba5, 0x3956c25b, 0x59f111f1, 0x923f82a4, 0xab1c5ed5,
    0xd807aa98, 0x12835b01, 0x243185be, 0x550c7dc3, 0x72be5d74, 0x80deb1fe, 0x9bdc06a7, 0xc19bf174,
    0xe49b69c1, 0xefbe4786, 0x0fc19dc6, 0x240ca1cc, 0x2de92c6f, 0x4a7484aa, 0x5cb0a9dc, 0x76f988da,
    0x983e5152, 0xa831c66d, 0xb00327c8, 0xbf597fc7, 0xc6e00bf3, 0xd5a79147, 0x06ca6351, 0x14292967,
    0x27b70a85, 0x2e1b2138, 0x4d2c6dfc, 0x53380d13, 0x650a7354, 0x766a0abb, 0x81c2c92e, 0x92722c85,
    0xa2bfe8a1, 0xa81a664b, 0xc24b8b70, 0xc76c51a3, 0xd192e819, 0xd6990624, 0xf40e3585, 0x106aa070,
    0x19a4c116, 0x1e376c08, 0x2748774c, 0x34b0bcb5, 0x391c0cb3, 0x4ed8aa4a, 0x5b9cca4f, 0x682e6ff3,
    0x748f82ee, 0x78a5636f, 0x84c87814, 0x8cc70208, 0x90befffa, 0xa4506ceb, 0xbef9a3f7, 0xc67178f2]
/-- the words of a block, the last one first: 16 + n of them -/
def wl (M : List Nat) : Nat → List Nat
  | 0 => M.reverse
  | n + 1 => add32 (add32 (add32 ((wl M n).getD 15 0) (sg0 ((wl M n).getD 14 0))) ((wl M n).getD 6 0)) (sg1 ((wl M n).getD 1 0)) :: wl M n
/-- word j of a block -/
def wj (M : List Nat) (j : Nat) : Nat := (wl M 48).getD (63 - j) 0
/-- n rounds -/
def rds (f : Nat → Nat) (h : List Nat) : Nat → List Nat
  | 0 => h
  | n + 1 => rnd1 (ks.getD n 0) (f n) (rds f h n)
/-- the numbers gone on by a block -/
def gon (M h : List Nat) : List Nat := List.zipWith add32 h (rds (wj M) h 64)

theorem wl_len {M : List Nat} (hM : M.length = 16) : ∀ n, (wl M n).length = 16 + n
  | 0 => by simp [wl, hM]
  | n + 1 => by rw [wl, List.length_cons, wl_len hM n]; omega
theorem wl_get {M : List Nat} (n : Nat) : ∀ m k, k < 16 → (wl M (n + m)).getD (k + m) 0 = (wl M n).getD k 0
  | 0, k, _ => rfl
  | m + 1, k, hk => by
    rw [show n + (m + 1) = (n + m) + 1 by omega, wl, show k + (m + 1) = (k + m) + 1 by omega, List.getD_cons_succ]
    exact wl_get n m k hk
theorem wj_low {M : List Nat} (hM : M.length = 16) {j : Nat} (hj : j < 16) : wj M j = M.getD j 0 := by
  unfold wj
  have h := wl_get (M := M) 0 48 (15 - j) (by omega)
  rw [show 0 + 48 = 48 from rfl, show 15 - j + 48 = 63 - j by omega] at h
  rw [h, wl, List.getD_eq_getElem?_getD, List.getElem?_reverse (by omega), hM, show 16 - 1 - (15 - j) = j by omega, List.getD_eq_getElem?_getD]
theorem wj_at {M : List Nat} (i k : Nat) (hi : i ≤ 48) (hk : k < 16) : wj M (i + 15 - k) = (wl M i).getD k 0 := by
  unfold wj
  have h := wl_get (M := M) i (48 - i) k hk
  rw [show i + (48 - i) = 48 by omega, show k + (48 - i) = 63 - (i + 15 - k) by omega] at h
  exact h
theorem wj_high {M : List Nat} (j : Nat) (hj : 16 ≤ j) (hj2 : j < 64) :
    wj M j = add32 (add32 (add32 (wj M (j - 16)) (sg0 (wj M (j - 15)))) (wj M (j - 7))) (sg1 (wj M (j - 2))) := by
  have e0 := wj_at (M := M) (j - 15) 0 (by omega) (by omega)
  rw [show j - 15 + 15 - 0 = j by omega, show j - 15 = (j - 16) + 1 by omega, wl, List.getD_cons_zero] at e0
  have e1 := wj_at (M := M) (j - 16) 15 (by omega) (by omega)
  have e2 := wj_at (M := M) (j - 16) 14 (by omega) (by omega)
  have e3 := wj_at (M := M) (j - 16) 6 (by omega) (by omega)
  have e4 := wj_at (M := M) (j - 16) 1 (by omega) (by omega)
  rw [show j - 16 + 15 - 15 = j - 16 by omega] at e1
  rw [show j - 16 + 15 - 14 = j - 15 by omega] at e2
  rw [show j - 16 + 15 - 6 = j - 7 by omega] at e3
  rw [show j - 16 + 15 - 1 = j - 2 by omega] at e4
  rw [e0, e1, e2, e3, e4]

theorem add32_lt (a b : Nat) : add32 a b < 4294967296 := Nat.mod_lt _ (by omega)
theorem xor32 {a b : Nat} (ha : a < 4294967296) (hb : b < 4294967296) : a ^^^ b < 4294967296 := Nat.xor_lt_two_pow (n := 32) ha hb
theorem and32 {a : Nat} (b : Nat) (ha : a < 4294967296) : a &&& b < 4294967296 := Nat.lt_of_le_of_lt Nat.and_le_left ha
theorem sg0_lt {x : Nat} (h : x < 4294967296) : sg0 x < 4294967296 := xor32 (xor32 (ror_lt h (by omega)) (ror_lt h (by omega))) (by omega)
theorem sg1_lt {x : Nat} (h : x < 4294967296) : sg1 x < 4294967296 := xor32 (xor32 (ror_lt h (by omega)) (ror_lt h (by omega))) (by omega)
theorem bs0_lt {x : Nat} (h : x < 4294967296) : bs0 x < 4294967296 := xor32 (xor32 (ror_lt h (by omega)) (ror_lt h (by omega))) (ror_lt h (by omega))
theorem bs1_lt {x : Nat} (h : x < 4294967296) : bs1 x < 4294967296 := xor32 (xor32 (ror_lt h (by omega)) (ror_lt h (by omega))) (ror_lt h (by omega))
theorem chs_lt {e f g : Nat} (he : e < 4294967296) : chs e f g < 4294967296 := xor32 (and32 _ he) (and32 _ (by omega))
theorem maj_lt {a b c : Nat} (ha : a < 4294967296) (hb : b < 4294967296) : maj a b c < 4294967296 := xor32 (xor32 (and32 _ ha) (and32 _ ha)) (and32 _ hb)

theorem wl_lt {M : List Nat} (h : ∀ x ∈ M, x < 4294967296) : ∀ n x, x ∈ wl M n → x < 4294967296
  | 0, x, hx => h x (List.mem_reverse.1 hx)
  | n + 1, x, hx => by
    rcases List.mem_cons.1 hx with rfl | hx
    · exact add32_lt _ _
    · exact wl_lt h n x hx
theorem wj_lt {M : List Nat} (h : ∀ x ∈ M, x < 4294967296) (j : Nat) : wj M j < 4294967296 := by
  unfold wj
  rw [List.getD_eq_getElem?_getD]
  rcases hc : (wl M 48)[63 - j]? with _ | y
  · simp
  · exact wl_lt h 48 y (List.mem_of_getElem? hc)

/-- eight numbers below 2^32 -/
def H8 (h : List Nat) : Prop := h.length = 8 ∧ ∀ x ∈ h, x < 4294967296
theorem H8.eight {h : List Nat} (k : H8 h) : ∃ a b c d e f g i, h = [a, b, c, d, e, f, g, i] ∧ a < 4294967296 ∧ b < 4294967296 ∧ c < 4294967296 ∧ d < 4294967296 ∧ e < 4294967296 ∧ f < 4294967296 ∧ g < 4294967296 ∧ i < 4294967296 := by
  obtain ⟨hl, hx⟩ := k
  match h, hl with
  | [a, b, c, d, e, f, g, i], _ =>
    refine ⟨a, b, c, d, e, f, g, i, rfl, ?_⟩
    simpa using hx
theorem H8.of {a b c d e f g i : Nat} (h : a < 4294967296 ∧ b < 4294967296 ∧ c < 4294967296 ∧ d < 4294967296 ∧ e < 4294967296 ∧ f < 4294967296 ∧ g < 4294967296 ∧ i < 4294967296) : H8 [a, b, c, d, e, f, g, i] :=
  ⟨rfl, by simpa using h⟩
theorem H8.rnd {h : List Nat} (k w : Nat) (hh : H8 h) : H8 (rnd1 k w h) := by
  obtain ⟨a, b, c, d, e, f, g, i, rfl, ha, hb, hc, hd, he, hf, hg, hi⟩ := hh.eight
  exact H8.of ⟨add32_lt _ _, ha, hb, hc, add32_lt _ _, he, hf, hg⟩
theorem H8.rds (f : Nat → Nat) {h : List Nat} (hh : H8 h) : ∀ n, H8 (rds f h n)
  | 0 => hh
  | n + 1 => (H8.rds f hh n).rnd _ _
theorem H8.gon {M h : List Nat} (hh : H8 h) : H8 (gon M h) := by
  have h2 := H8.rds (wj M) hh 64
  unfold Proofs.Ytnbppbnjkmopeaa.gon
  obtain ⟨a, b, c, d, e, f, g, i, rfl, -⟩ := hh.eight
  obtain ⟨a2, b2, c2, d2, e2, f2, g2, i2, e2', -⟩ := h2.eight
  rw [e2']
  exact H8.of ⟨add32_lt _ _, add32_lt _ _, add32_lt _ _, add32_lt _ _, add32_lt _ _, add32_lt _ _, add32_lt _ _, add32_lt _ _⟩
end Go.Proofs.Ytnbppbnjkmopeaa
