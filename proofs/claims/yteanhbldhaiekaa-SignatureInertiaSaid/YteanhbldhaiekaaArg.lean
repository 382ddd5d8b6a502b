/-
  A slice of integers that came in, as the law's frame tells it, reads as a list.
-/
import Derived.Test.YteanhbldhaiekaaBase
import Derived.OpenShut
namespace Go.Proofs.Yteanhbldhaiekaa
open Go.RowKit

theorem row_RI {w : World} {a : Option Addr} {len cap : Nat} {zs : List Int}
    (h : (a = none ∧ len = 0 ∧ cap = 0 ∧ zs = []) ∨ ∃ x, a = some x ∧ len ≤ cap ∧ cap ≤ maxLen ∧ zs.length = cap ∧ (∀ i, i < zs.length → w.cell? (x.add i) = some (.int .i64 (zs.getD i 0))) ∧ ∀ n ∈ zs, (Lit.int .i64 n).wf = true) :
    ∃ xs : List Int, xs.length = len ∧ RI w (· < w.heap.size) a xs ∧ len ≤ maxLen ∧ ∀ k, -9223372036854775808 ≤ gi xs k ∧ gi xs k ≤ 9223372036854775807 := by
  rcases h with ⟨rfl, rfl, rfl, rfl⟩ | ⟨x, rfl, hl, hm, hz, hc, hw⟩
  · exact ⟨[], rfl, RI.nil, Nat.zero_le _, fun k => by simp [gi]⟩
  · refine ⟨zs.take len, by simp; omega, fun hne => ?_, by omega, fun k => ?_⟩
    · have hpos : 0 < zs.length := by
        rcases Nat.eq_zero_or_pos zs.length with h0 | h0
        · have : zs = [] := List.eq_nil_of_length_eq_zero h0
          subst this
          simp at hne
        · exact h0
      obtain ⟨b, off, rfl, hc'⟩ := ints_at hc hpos
      refine ⟨b, off, rfl, World.block_lt_of_cell? _ _ (hc' 0 hpos), fun k hk => ?_⟩
      have hk' : k < len := by simp at hk; omega
      rw [hc' k (by omega)]
      simp [gi, hk']
    · by_cases hk : k < (zs.take len).length
      · rw [gi_lt hk]
        have hmem : (zs.take len)[k] ∈ zs := List.mem_of_mem_take (List.getElem_mem hk)
        have h := hw _ hmem
        have hmin : IntKind.i64.min = -9223372036854775808 := rfl
        have hmax : IntKind.i64.max = 9223372036854775807 := rfl
        simp only [Lit.wf, Bool.and_eq_true, decide_eq_true_eq] at h
        omega
      · have : gi (zs.take len) k = 0 := by
          unfold gi
          rw [List.getD_eq_getElem?_getD, List.getElem?_eq_none (by omega)]
          rfl
        omega
end Go.Proofs.Yteanhbldhaiekaa

