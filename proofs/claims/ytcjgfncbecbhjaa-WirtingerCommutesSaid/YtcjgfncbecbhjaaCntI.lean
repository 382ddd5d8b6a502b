/-
  Counting through an injection. No program here.
-/
import Derived.Test.YtcjgfncbecbhjaaSphM
namespace Go.Proofs.Ytcjgfncbecbhjaa
/-! ### classes counted through a bijection -/
theorem cnt_inj {A B : Nat → Bool} {N M : Nat} (g : Nat → Nat) (hg : ∀ x, x < N → A x = true → g x < M ∧ B (g x) = true) (hi : ∀ x y, x < N → y < N → A x = true → A y = true → g x = g y → x = y) : cnt A N ≤ cnt B M := by
  have hnd : (((List.range N).filter A).map g).Nodup := by
    rw [List.Nodup, List.pairwise_map]
    refine ((List.pairwise_lt_range (n := N)).filter A).imp_of_mem ?_
    intro a b ha hb hab e
    rw [List.mem_filter, List.mem_range] at ha hb
    have := hi a b ha.1 hb.1 ha.2 hb.2 e
    omega
  have hsub : ((List.range N).filter A).map g ⊆ (List.range M).filter B := by
    intro x hx
    rw [List.mem_map] at hx
    obtain ⟨a, ha, rfl⟩ := hx
    rw [List.mem_filter, List.mem_range] at ha
    rw [List.mem_filter, List.mem_range]
    exact hg a ha.1 ha.2
  have := hnd.length_le_of_subset hsub
  rw [List.length_map] at this
  exact this
end Go.Proofs.Ytcjgfncbecbhjaa

