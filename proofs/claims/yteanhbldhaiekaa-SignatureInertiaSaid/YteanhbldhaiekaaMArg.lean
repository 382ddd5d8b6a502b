/-
  A matrix that came in by value, as the law's frame tells it, reads as a list of lists.
-/
import Derived.Test.YteanhbldhaiekaaDR
import Derived.Test.YteanhbldhaiekaaArg
import Derived.Lib.SmallJoins
import Derived.ProofKit
import Derived.SliceStrings
namespace Go.Proofs.Yteanhbldhaiekaa
open Go.ChangeShapes Go.WideShapes Go.RowKit Go.Joins

theorem mrow_open {H : Type} {enc : TypeId × Value → H} {W : World} {base n : Nat} {held : Bool} {cs : List Value} {y : DataW H × List MemPlace}
    (g : DataW.trod enc Try.prog W base (fun _ => true) held n 33 cs = some y) : ∃ A c xs, cs = [.slice A xs.length c] ∧ RI W (· < W.heap.size) A xs ∧ xs.length ≤ maxLen ∧ ∀ k, -9223372036854775808 ≤ gi xs k ∧ gi xs k ≤ 9223372036854775807 := by
  rcases open_ints Try.underlying33 Try.underlying3 (by kernel_rfl) g with ⟨hcs, _⟩ | ⟨a, l, c, zs, hcs, _, hl, hm, hz, _, hcell, hwz⟩
  · exact ⟨none, 0, [], hcs, RI.nil, Nat.zero_le _, fun k => by unfold gi; simp⟩
  · obtain ⟨xs, rfl, r, m, b⟩ := row_RI (w := W) (a := some a) (len := l) (cap := c) (zs := zs) (.inr ⟨a, rfl, hl, hm, by simpa using hz, hcell, hwz⟩)
    exact ⟨some a, c, xs, hcs, r, m, b⟩
theorem marg_open {H : Type} {enc : TypeId × Value → H} {W : World} {base n : Nat} {held : Bool} {x : Value} {y : DataW H × List MemPlace}
    (g : DataW.trod enc Try.prog W base (fun _ => true) held n 22 [x] = some y) : ∃ A c xss, x = .slice A xss.length c ∧ AM W A xss.length xss := by
  rcases DataW.trod_slice Try.underlying22 g with ⟨hcs, _⟩ | ⟨a, len, cap, elems, rest, n', _, hcs, _, hb, hl, hm, hlen, hel, hsp, hns⟩
  · injection hcs with hcs
    exact ⟨none, 0, [], hcs, RL.nil _ _ _, rfl, Nat.zero_le _, fun i j hi => absurd hi (Nat.not_lt_zero _)⟩
  · injection hcs with hcs
    have each : ∀ i : Nat, ∃ xs : List Int, i < len → ∃ A c, W.cell? (a.add i) = some (.slice A xs.length c) ∧ RI W (· < W.heap.size) A xs ∧ xs.length ≤ maxLen ∧ ∀ k, -9223372036854775808 ≤ gi xs k ∧ gi xs k ≤ 9223372036854775807 := by
      intro i
      by_cases hi : i < len
      · have h1 := hel i hi
        have h2 : elems[i]? = some (elems[i]'(by omega)) := List.getElem?_eq_getElem (by omega)
        rw [h2, show Try.prog.cellsOf 33 = 1 by kernel_rfl, Nat.mul_one, Option.bind_eq_some_iff] at h1
        obtain ⟨cs', hc1, hc2⟩ := h1
        obtain ⟨A, c, xs, rfl, r, m, b⟩ := mrow_open hc2
        exact ⟨xs, fun _ => ⟨A, c, cell_of_cells?_one hc1, r, m, b⟩⟩
      · exact ⟨[], fun h => absurd h hi⟩
    obtain ⟨f, hf⟩ := Classical.axiomOfChoice each
    have hl2 : ((List.range len).map f).length = len := by simp
    refine ⟨some a, cap, (List.range len).map f, by rw [hl2]; exact hcs, fun hne => ?_, rfl, by rw [hl2]; omega, fun i j hi hj => ?_⟩
    · have hpos : 0 < len := by
        rcases Nat.eq_zero_or_pos len with h | h
        · subst h; simp at hne
        · exact h
      obtain ⟨A0, c0, h0, -, -⟩ := hf 0 hpos
      have e0 : a.add 0 = a := by simp [Addr.add]
      rw [e0] at h0
      have hsp := World.cell?_spot h0
      obtain ⟨b, off, sp⟩ := a
      simp only at hsp
      subst hsp
      refine ⟨b, off, rfl, World.block_lt_of_cell? W _ h0, fun k hk => ?_⟩
      rw [hl2] at hk
      obtain ⟨A, c, h1, h2, h3, -⟩ := hf k hk
      have e : ((List.range len).map f).getD k [] = f k := by simp [hk]
      rw [e]
      rw [Addr.add_lit] at h1
      exact ⟨A, c, h1, h2, h3⟩
    · rw [hl2] at hi
      obtain ⟨A, c, h1, h2, h3, h4⟩ := hf i hi
      have e : ((List.range len).map f).getD i [] = f i := by simp [hi]
      unfold eI
      rw [e]
      exact h4 j
end Go.Proofs.Yteanhbldhaiekaa

