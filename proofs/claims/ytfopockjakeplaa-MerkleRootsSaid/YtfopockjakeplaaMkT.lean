/- law04.plain. No condition. -/
import Derived.Test.YtfopockjakeplaaMkS
namespace Go.Proofs.Ytfopockjakeplaa
open Go.RowKit

theorem info_r32 : (Try.prog.info? 24).map (fun i => (i.zero, i.size, i.bytes)) = some (some (iv 0), 32, 32) := by kernel_rfl
theorem underlying_r32s : Try.prog.underlying 42 = some (.slice 24) := by kernel_rfl
theorem wpList_build_r1 {ops : Array Oper} {rest : List Oper} {o : Oper} {a : Act} {w : World} {Q : Exit → Act → World → Prop} (hgd : o.guard = none) (x : Operand) (n : Nat) (ho : o.op = .buildSlice 42 1 #[(0, x)]) (hx : a.eval x = iv n)
    (h : wpList Try.prog ops Q rest (a.put o.dst (.slice (some ⟨w.heap.size, 0, none⟩) 1 1)) (w.alloc (.cells (idsL [n]).toArray 24 (0, 0)))) : wpList Try.prog ops Q (o :: rest) a w := by
  obtain ⟨i0, hi, hz0, hz1, hz2⟩ := info_parts info_r32
  refine wpList_buildSlice hgd 42 24 1 _ ho (idsL [n]).toArray i0 (iv 0) underlying_r32s hi hz0 (by rw [hz1]; decide) (by rw [hz1]; decide) ?_ h
  rw [hz1]
  simp only [List.map_toArray, List.map_cons, List.map_nil, hx]
  exact fill_1 n
/-- the call's own row of arrays of 32 bytes -/
def OwnsR (w : World) (base : Nat) (v : Value) (l : List Nat) : Prop := w.ownsRow base 24 32 v l.length (idsL l)
theorem OwnsR.nil (w : World) (base : Nat) : OwnsR w base (.slice none 0 0) [] := World.ownsRow_nil _ _ _ _
theorem OwnsR.new (w : World) (base : Nat) (hb : base ≤ w.heap.size) : OwnsR (w.alloc (.cells #[] 24 (0, 0))) base (.slice (some ⟨w.heap.size, 0, none⟩) 0 0) [] :=
  World.ownsRow_lit w #[] 0 hb (by unfold maxLen; omega) rfl
theorem OwnsR.keep {w w' : World} {base : Nat} {v : Value} {l : List Nat} (h : OwnsR w base v l) (hb : Below w.heap.size w w') : OwnsR w' base v l := by
  refine ⟨h.1, ?_⟩
  rcases h.2 with h' | ⟨g, cap, cur, rfl, h1, h2, h3⟩
  · exact .inl h'
  · exact .inr ⟨g, cap, cur, rfl, h1, below_keep hb h2, h3⟩
theorem OwnsR.mono {w : World} {base base2 : Nat} {v : Value} {l : List Nat} (h : OwnsR w base v l) (hb : base2 ≤ base) : OwnsR w base2 v l := World.ownsRow.mono h hb
theorem OwnsR.shape {w : World} {base : Nat} {v : Value} {l : List Nat} (h : OwnsR w base v l) : ∃ x cap, v = .slice x l.length cap := by
  rcases h.2 with ⟨rfl, hq⟩ | ⟨g, cap, cur, rfl, _⟩
  · exact ⟨_, _, by rw [hq]⟩
  · exact ⟨_, _, rfl⟩
theorem OwnsR.at {w : World} {base n : Nat} {v : Value} {l : List Nat} (h : OwnsR w base v l) (hn : l.length = n) (h0 : 0 < n) : ∃ g cap, v = .slice (some ⟨g, 0, none⟩) n cap ∧ base ≤ g ∧ g < w.heap.size ∧ IdsAt w g 0 l := by
  subst hn
  have h' := h
  rcases h.2 with ⟨rfl, hq⟩ | ⟨g, cap, cur, rfl, h1, h2, h3⟩
  · omega
  · exact ⟨g, cap, rfl, h1, block_lt h2, fun i hi j hj => by rw [Nat.zero_add, World.ownsRow.cellAt h' (i * 32 + j) (by omega), idsL_get l i j hi hj]⟩
set_option maxRecDepth 100000 in
/-- arrays are appended to the call's own row -/
theorem wpList_append_r32s {ops : Array Oper} {rest : List Oper} {o : Oper} {a : Act} {w : World} {Q : Exit → Act → World → Prop} (hgd : o.guard = none) (s x : Operand)
    (ho : o.op = .call { callee := .builtin .append, args := #[s, x], argTypes := #[42, 42] })
    (base : Nat) (v : Value) (q : List Nat) (hs : a.eval s = v) (hown : OwnsR w base v q) (l : List Nat) (xa : Option Addr) (c : Nat) (hx : a.eval x = .slice xa l.length c) (hn : xa = none → l = [] ∧ c = 0) (hc : l ≠ [] → ∃ b o, xa = some ⟨b, o, none⟩ ∧ IdsAt w b o l)
    (hL : q.length + l.length ≤ 1000000) (hbase : base ≤ w.heap.size)
    (h : ∀ v' w', OwnsR w' base v' (q ++ l) → (∀ B u, B ≤ base → Below B u w → Below B u w') → wpList Try.prog ops Q rest (a.put o.dst v') w') :
    wpList Try.prog ops Q (o :: rest) a w := by
  obtain ⟨i0, hi, hz0, hz1, hz2⟩ := info_parts info_r32
  rcases xa with _ | ad
  · obtain ⟨rfl, rfl⟩ := hn rfl
    refine wpList_append_own_none hgd s x 42 ho base 24 i0 32 underlying_r32s hi v q.length (idsL q) hs hown hx ?_
    exact h v w (by rw [List.append_nil]; exact hown) fun B u _ hB => hB
  · refine wpList_append_own w hgd s x 42 ho base 24 i0 (iv 0) 32 32 underlying_r32s hi hz0 hz1 hz2 (by kernel_rfl) (by decide) v q.length (idsL q) hs hown ad l.length c (idsL l) hx (by rw [idsL_len])
      (fun j u hj => ?_) (fun u hu => ?_) (by unfold maxLen; omega) (by omega) hbase fun v' w' hown' hgrow _ => ?_
    · have hjl : j < l.length * 32 := by
        have := (List.getElem?_eq_some_iff.1 hj).1
        rwa [idsL_len] at this
      have hne : l ≠ [] := by intro e; subst e; simp at hjl
      obtain ⟨b, o, e, hI⟩ := hc hne
      obtain rfl := Option.some.inj e
      have ej : j = j / 32 * 32 + j % 32 := by omega
      rw [ej, idsL_get l (j / 32) (j % 32) (by omega) (by omega)] at hj
      rw [Addr.add_lit, ← hj, ← hI (j / 32) (by omega) (j % 32) (by omega)]
      congr 2; omega
    · obtain ⟨j, hj⟩ := List.getElem?_of_mem hu
      have hjl : j < l.length * 32 := by
        have := (List.getElem?_eq_some_iff.1 hj).1
        rwa [idsL_len] at this
      have ej : j = j / 32 * 32 + j % 32 := by omega
      rw [ej, idsL_get l (j / 32) (j % 32) (by omega) (by omega)] at hj
      obtain rfl := Option.some.inj hj
      rfl
    · refine h v' w' ?_ fun B u hB hu => ?_
      · unfold OwnsR
        rw [List.length_append, idsL_app]
        exact hown'
      · exact hu.grown hgrow (by omega) (fun j hj => by have := (World.ownsRow.lt hown j hj).1; omega)
end Go.Proofs.Ytfopockjakeplaa
namespace Go.Proofs.Ytfopockjakeplaa
open Go.RowKit

set_option maxRecDepth 100000 in
set_option maxHeartbeats 4000000 in
theorem plain_any (x : Option Addr) (cap : Nat) (l : List Nat) (hn : l.length ≤ 1000) (w : World) (hx : l ≠ [] → ∃ b o, x = some ⟨b, o, none⟩ ∧ IdsAt w b o l) :
    Calls Try.prog 26 #[.slice x l.length cap] w fun e w' => ∃ v, e = .returned v ∧ OwnsR w' w.heap.size v l ∧ Below w.heap.size w w' := by
  have HX := Lib.hid hx
  obtain ⟨n, hN⟩ : ∃ N, N = l.length := ⟨_, rfl⟩
  rw [← hN]
  have HN := Lib.hid hN
  have hn2 : n ≤ 1000 := by omega
  clear hN hx hn
  go_enter Try.func26, Try.ntmps26
  go_wp2_with fail
  go_loopg [3, 8] n (fun g sv ix wr => ∃ k : Nat, g = n - k ∧ k ≤ n ∧ ix = .int .i64 k ∧ OwnsR wr w.heap.size sv (l.take k) ∧ Below w.heap.size w wr)
  case atStart => exact ⟨0, rfl, by omega, rfl, by rw [List.take_zero]; exact OwnsR.nil _ _, Below.refl _ _⟩
  case round =>
    obtain ⟨k, hg, hk, rfl, hO, hB⟩ := hrel
    have HG := Lib.hid hg; have HO := Lib.hid hO; have HB := Lib.hid hB
    clear hg hO hB
    by_cases hlt : k < n
    · have hkl : k < l.length := by rw [← HN.out]; exact hlt
      obtain ⟨b, o, rfl, hI⟩ := HX.out (by intro e; rw [e] at hkl; simp at hkl)
      have hts : l.take (k + 1) = l.take k ++ [l.getD k 0] := by rw [List.take_add_one]; simp [List.getElem?_eq_getElem hkl]
      obtain ⟨y, hy⟩ : ∃ y, y = l.getD k 0 := ⟨_, rfl⟩
      have HR := Lib.hid fun V (hb : Below w.heap.size w V) => (show V.rangeAt b (o + k * 32) (ids y) by rw [hy]; exact (hI.keep hb).range hkl)
      rw [← hy] at hts
      have HTS := Lib.hid hts
      have HTL : Hid ((l.take k).length ≤ 1000) := Lib.hid (by rw [List.length_take]; omega)
      have ez := iblk_lit
      clear hkl hI hts hy
      go_wp2_with (first | refine wpList_load_at rfl (.tmp 10) rfl b (o + k * 32) y rfl (HR.out _ HB.out) ?_ | (refine wpList_store_id rfl (.tmp 5) (.tmp 11) rfl wr.heap.size 0 y rfl rfl (heap_new wr _) (fun w3 h1 h2 h3 h4 => ?_); have K5 := Lib.hid h1; have B3 := Lib.hid (h4 w.heap.size w HB.out.size (below_alloc HB.out _)); have BR := Lib.hid (h4 wr.heap.size wr (Nat.le_refl _) (below_alloc (Below.refl _ _) _)); clear h1 h2 h3 h4 ez) | refine wpList_load_id rfl (.tmp 5) rfl wr.heap.size y rfl (by with_reducible exact K5.out) ?_ | refine wpList_build_r1 rfl (.tmp 13) y rfl rfl ?_ | (refine wpList_append_r32s rfl (.tmp 12) (.tmp 14) rfl w.heap.size u3 (l.take k) rfl (HO.out.keep (by with_reducible exact below_alloc BR.out _)) [y] (some ⟨w3.heap.size, 0, none⟩) 1 rfl (fun e => by cases e) (fun _ => ⟨w3.heap.size, 0, rfl, IdsAt.row (heap_new _ _)⟩) (by have := HTL.out; simp only [List.length_singleton]; omega) (by have h1 := B3.out.size; have h2 := (below_alloc B3.out (.cells (idsL [y]).toArray 24 (0, 0))).size; omega) (fun v' w5 hown' hbel => ?_); (rw [← HTS.out] at hown'); have HO5 := Lib.hid hown'; have B5 := Lib.hid (hbel w.heap.size w (Nat.le_refl _) (below_alloc B3.out _)); clear hown' hbel))
      go_roundg (n - (k + 1))
      case measure => have := HG.out; omega
      case rel => exact ⟨k + 1, rfl, by omega, by go_num, HO5.out, B5.out⟩
    · obtain rfl : k = n := by omega
      have et : l.take k = l := List.take_of_length_le (by rw [HN.out]; exact Nat.le_refl _)
      rw [et] at HO
      obtain ⟨x3, c3, rfl⟩ := HO.out.shape
      clear et hlt HG
      go_wp2_with fail
      go_ret
      exact ⟨_, rfl, HO.out, HB.out⟩
end Go.Proofs.Ytfopockjakeplaa
