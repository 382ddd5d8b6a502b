/-
  The arcs of a diagram; the map from the roots to the numbers. No program here.
-/
import Derived.Test.YtcjgfncbecbhjaaFind
import Derived.Maps.OwnSet
namespace Go.Proofs.Ytcjgfncbecbhjaa
open Go.RowKit Go.Maps

def eA (mt : List Int) (k : Nat) : List (Nat × Nat) := (List.range k).map fun h => (h, gn mt h)
def eB (k : Nat) : List (Nat × Nat) := (List.range k).map fun c => (4 * c + 1, 4 * c + 3)
/-- h and k lie on one arc -/
def arR (sg mt : List Int) : Nat → Nat → Bool := jl (eA mt mt.length ++ eB sg.length)
/-- the number of the arc of h; how many arcs there are -/
def arN (sg mt : List Int) (h : Nat) : Nat := clN (arR sg mt) h
def arL (sg mt : List Int) : List Int := (List.range mt.length).map fun h => (arN sg mt h : Int)
def arC (sg mt : List Int) : Nat := cnt (headB (arR sg mt)) mt.length
theorem eA_succ (mt : List Int) (k : Nat) : eA mt (k + 1) = eA mt k ++ [(k, gn mt k)] := by unfold eA; rw [List.range_succ]; simp
theorem eB_succ (k : Nat) : eB (k + 1) = eB k ++ [(4 * k + 1, 4 * k + 3)] := by unfold eB; rw [List.range_succ]; simp

/-- D holds the numbers of the classes whose least is below k -/
structure KD {H : Type} (r : Nat → Nat → Bool) (R : Nat → Nat) (N k : Nat) (D : DataW H) : Prop where
  tidy : Tidy D
  size : Maps.size D = cnt (headB r) k
  has_ : ∀ x, x < N → Maps.has D (.int .i64 (R x : Int)) = decide (lo r x < k)
  at_ : ∀ x, x < N → lo r x < k → D.atKey (.int .i64 (R x : Int)) (.lit (.int .i64 0)) = .lit (.int .i64 (clN r x : Int))
theorem KD.start {H : Type} (r : Nat → Nat → Bool) (R : Nat → Nat) (N : Nat) : KD (H := H) r R N 0 (.map []) :=
  ⟨tidy_empty, rfl, fun x _ => by simp; rfl, fun x _ h => by omega⟩
section
variable {H : Type} {r : Nat → Nat → Bool} {R : Nat → Nat} {N k : Nat} {D : DataW H} (hE : EqvB r N) (hR : ∀ x y, x < N → y < N → (R x = R y ↔ r x y = true)) (hk : k < N) (h : KD r R N k D)
include hE hR hk h
omit hR in
theorem KD.old (hl : lo r k < k) : KD r R N (k + 1) D := by
  have hne : headB r k ≠ true := fun e => by rw [(lo_head hE hk).1 e] at hl; omega
  have hx : ∀ x, x < N → (lo r x < k + 1 ↔ lo r x < k) := by
    intro x hx
    constructor
    · intro h1
      have : lo r x ≠ k := fun e => hne (by rw [← e]; exact (lo_spec hE hx).2.2)
      omega
    · omega
  refine ⟨h.tidy, ?_, fun x hx' => ?_, fun x hx' hl => h.at_ x hx' ((hx x hx').1 hl)⟩
  · rw [h.size, cnt_succ]
    simp [hne]
  · rw [h.has_ x hx', Bool.eq_iff_iff]; simp [hx x hx']
theorem KD.new (hl : ¬ lo r k < k) : KD r R N (k + 1) (D.put (.int .i64 (R k : Int)) (.lit (.int .i64 (clN r k : Int)))) := by
  have hlk : lo r k = k := by have := (lo_spec hE hk).1; omega
  have hh : headB r k = true := (lo_head hE hk).2 hlk
  have hik : WideAt.IsKeyLit (.int .i64 (R k : Int)) := trivial
  have hno : Maps.has D (.int .i64 (R k : Int)) = false := by rw [h.has_ k hk]; simpa using hl
  have hcase : ∀ x, x < N → (R x = R k ∧ lo r x = k) ∨ ((.int .i64 (R x : Int) : Lit) ≠ .int .i64 (R k : Int) ∧ (lo r x < k + 1 ↔ lo r x < k)) := by
    intro x hx
    by_cases e : R x = R k
    · exact .inl ⟨e, by rw [lo_congr hE hx hk ((hR x k hx hk).1 e), hlk]⟩
    · refine .inr ⟨fun e' => e (by injection e' with _ e2; omega), ⟨fun h1 => ?_, fun h1 => by omega⟩⟩
      have : lo r x ≠ k := fun e' => e ((hR x k hx hk).2 (by
        have := (lo_spec hE hx).2.1
        rw [e'] at this
        exact hE.sym _ _ hk hx this))
      omega
  refine ⟨h.tidy.put hik _, ?_, fun x hx => ?_, fun x hx hl' => ?_⟩
  · rw [size_put h.tidy, hno, h.size, cnt_succ]
    simp [hh]
  · rcases hcase x hx with ⟨e1, e2⟩ | ⟨e1, e2⟩
    · rw [e1, has_put_same h.tidy.isMap hik, e2]; simp
    · rw [has_put_other e1, h.has_ x hx, Bool.eq_iff_iff]; simp [e2]
  · rcases hcase x hx with ⟨e1, e2⟩ | ⟨e1, e2⟩
    · rw [e1, atKey_put_same h.tidy.isMap hik]
      unfold clN
      rw [e2, hlk]
    · rw [atKey_put_other e1]
      exact h.at_ x hx (e2.1 hl')
end
end Go.Proofs.Ytcjgfncbecbhjaa

