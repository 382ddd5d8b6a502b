/-
  A group that came in by value, as the law's frame tells it, reads as a number, a list and a list of lists.
-/
import Derived.Test.YtcjgfncbecbhjaaDArg
import Derived.Test.YtcjgfncbecbhjaaRLists
import Derived.SliceStrings
namespace Go.Proofs.Ytcjgfncbecbhjaa
open Go.ChangeShapes Go.WideShapes Go.RowKit Go.Joins

theorem word_open {H : Type} {enc : TypeId × Value → H} {W : World} {base n : Nat} {held : Bool} {cs : List Value} {y : DataW H × List MemPlace}
    (g : DataW.trod enc Try.prog W base (fun _ => true) held n 42 cs = some y) : ∃ A c xs, cs = [.slice A xs.length c] ∧ RI W (· < W.heap.size) A xs ∧ xs.length ≤ maxLen := by
  rcases open_ints Try.underlying42 Try.underlying3 (by kernel_rfl) g with ⟨hcs, _⟩ | ⟨a, l, c, zs, hcs, _, hl, hm, hz, _, hcell, hwz⟩
  · exact ⟨none, 0, [], hcs, RI.nil, Nat.zero_le _⟩
  · obtain ⟨xs, rfl, r, m, -⟩ := row_RI (w := W) (a := some a) (len := l) (cap := c) (zs := zs) (.inr ⟨a, rfl, hl, hm, by simpa using hz, hcell, hwz⟩)
    exact ⟨some a, c, xs, hcs, r, m⟩
theorem rows_open {H : Type} {enc : TypeId × Value → H} {W : World} {base n : Nat} {held : Bool} {x : Value} {y : DataW H × List MemPlace}
    (g : DataW.trod enc Try.prog W base (fun _ => true) held n 33 [x] = some y) : ∃ A c xss, x = .slice A xss.length c ∧ RL W (· < W.heap.size) A xss ∧ xss.length ≤ maxLen := by
  rcases DataW.trod_slice Try.underlying33 g with ⟨hcs, _⟩ | ⟨a, len, cap, elems, rest, n', _, hcs, _, hb, hl, hm, hlen, hel, hsp, hns⟩
  · injection hcs with hcs
    exact ⟨none, 0, [], hcs, RL.nil _ _ _, Nat.zero_le _⟩
  · injection hcs with hcs
    have each : ∀ i : Nat, ∃ xs : List Int, i < len → ∃ A c, W.cell? (a.add i) = some (.slice A xs.length c) ∧ RI W (· < W.heap.size) A xs ∧ xs.length ≤ maxLen := by
      intro i
      by_cases hi : i < len
      · have h1 := hel i hi
        have h2 : elems[i]? = some (elems[i]'(by omega)) := List.getElem?_eq_getElem (by omega)
        rw [h2, show Try.prog.cellsOf 42 = 1 by kernel_rfl, Nat.mul_one, Option.bind_eq_some_iff] at h1
        obtain ⟨cs', hc1, hc2⟩ := h1
        obtain ⟨A, c, xs, rfl, r, m⟩ := word_open hc2
        exact ⟨xs, fun _ => ⟨A, c, cell_of_cells?_one hc1, r, m⟩⟩
      · exact ⟨[], fun h => absurd h hi⟩
    obtain ⟨f, hf⟩ := Classical.axiomOfChoice each
    have hl2 : ((List.range len).map f).length = len := by simp
    refine ⟨some a, cap, (List.range len).map f, by rw [hl2]; exact hcs, fun hne => ?_, by rw [hl2]; omega⟩
    have hpos : 0 < len := by
      rcases Nat.eq_zero_or_pos len with h | h
      · subst h; simp at hne
      · exact h
    obtain ⟨A0, c0, h0, -, -⟩ := hf 0 hpos
    have e0 : a.add 0 = a := by simp [Addr.add]
    rw [e0] at h0
    have hsp := World.cell?_spot h0
    obtain ⟨b, off, sp⟩ := a
    simp only at hsp
    subst hsp
    refine ⟨b, off, rfl, World.block_lt_of_cell? W _ h0, fun k hk => ?_⟩
    rw [hl2] at hk
    obtain ⟨A, c, h1, h2, h3⟩ := hf k hk
    have e : ((List.range len).map f).getD k [] = f k := by simp [hk]
    rw [e]
    rw [Addr.add_lit] at h1
    exact ⟨A, c, h1, h2, h3⟩
theorem garg_open {H : Type} {enc : TypeId × Value → H} {W : World} {base b0 : Nat} {held : Bool} {r : Reach} {v : Value} {d : DataW H} {p : List MemPlace} (hv : Value.okWide Try.prog W r b0 35 v)
    (h : DataW.Trod enc Try.prog W base (fun _ => true) held 35 v d p) : ∃ Ac Aw cc cw g cs wss, v = .agg #[.int .i64 g, .slice Ac cs.length cc, .slice Aw wss.length cw] ∧ RI W (· < W.heap.size) Ac cs ∧ RL W (· < W.heap.size) Aw wss ∧ cs.length ≤ maxLen ∧ wss.length ≤ maxLen := by
  obtain ⟨x0, x1, x2, y0, y1, y2, n0, rfl, -, -, g0, g1, g2⟩ := open_agg3 Try.underlying35 (by kernel_rfl) (by kernel_rfl) hv h
  obtain ⟨L, hL, -, wL⟩ := DataW.trod_int Try.underlying3 g0
  injection hL with hL
  subst hL
  obtain ⟨A1, l1, c1, z1, rfl, w1⟩ := slice_open g1
  obtain ⟨cs, rfl, r1, m1, b1⟩ := row_RI w1
  obtain ⟨Aw, cw, wss, rfl, r2, m2⟩ := rows_open g2
  exact ⟨A1, Aw, c1, cw, L, cs, wss, rfl, r1, r2, m1, m2⟩
end Go.Proofs.Ytcjgfncbecbhjaa

