/-
  The contract of slices.Clone at slices of integers: a fresh row of the same integers.
-/
import Derived.Test.YtkanpcdjhaepjaaBase
namespace Go.Proofs.Ytkanpcdjhaepjaa
open Go.RowKit

set_option maxHeartbeats 1000000 in
theorem clone_any (A : Option Addr) (c : Nat) (xs : List Int) (w : World) (S : Nat → Prop) (hx : RI w S A xs) (hS : ∀ b, S b → b < w.heap.size) (hm : xs.length < 1099511627776) :
    Calls Try.prog 49 #[.slice A xs.length c] w fun e w' => ∃ v, e = .returned v ∧ OI w' w.heap.size v xs ∧ Below w.heap.size w w' := by
  have qT : ∀ (w : World) (a : Option Addr) (n c n' c' : Nat), (binOp .eql 22 (.slice a n c) (.slice none n' c')).run Try.prog w = .ok (.bool a.isNone) w := fun w a n c n' c' => Lib.run_eql_slice_nil w _ _ a n c n' c' Try.underlying22
  rcases A with _ | ad
  · have hy : xs = [] := by
      rcases xs with _ | ⟨y, ys⟩
      · rfl
      · obtain ⟨b, off, he, _⟩ := hx (by simp)
        cases he
    subst hy
    go_enter Try.func49, Try.ntmps49
    go_wp2
    go_ret
    exact ⟨_, rfl, OR.nil _ _, Below.refl _ _⟩
  · have hx' : RI (w.alloc (.cells #[] 3)) S (some ad) xs := hx.keep fun b hb => Below.heap_alloc w _ b (hS b hb)
    have hown : OI (w.alloc (.cells #[] 3)) w.heap.size (.slice (some ⟨w.heap.size, 0, none⟩) 0 0) [] := by
      have := OR.made (e := 3) (f := Value.int .i64) (xs := []) w w.heap.size #[] (Nat.le_refl _) (by simp) (by simp)
      simpa using this
    go_enter Try.func49, Try.ntmps49
    go_wp2_with (at_builtin; refine appN hown hx' (by simpa using hm) (by simp) rfl rfl Try.underlying22 rfl rfl ?_; intro v' w' ho hg hob)
    go_ret
    exact ⟨_, rfl, ho, ((Below.refl _ _).alloc (Nat.le_refl _) _).grown hg (by simp) (by intro k hk; simp [Value.ownBlock] at hk; omega)⟩

end Go.Proofs.Ytkanpcdjhaepjaa
