/-
  The minors with increasing rows and columns tell all minors. No program here.
-/
import Derived.Test.YtjlokbolmindgaaDv
namespace Go.Proofs.Ytjlokbolmindgaa

/-- k increasing indices below n -/
structure Inc (n k : Nat) (is : Nat → Nat) : Prop where
  up : ∀ a b, a < b → b < k → is a < is b
  lt : ∀ a, a < k → is a < n
theorem sort_rows {k n : Nat} {X : Mx} {g : Int} (h : ∀ is, Inc n k is → g ∣ det k fun a b => X (is a) b) :
    ∀ (d m : Nat) (is : Nat → Nat), m + d = k → (∀ a, a < k → is a < n) → (∀ a b, a < m → a < b → b < k → is a < is b) → g ∣ det k fun a b => X (is a) b
  | 0, m, is, hm, hl, ho => h is ⟨fun a b hab hb => ho a b (by omega) hab hb, hl⟩
  | d + 1, m, is, hm, hl, ho => by
    obtain ⟨v, ⟨b, hmb, hb, rfl⟩, hv⟩ := least_nat (P := fun v => ∃ b, m ≤ b ∧ b < k ∧ is b = v) (n := is m) ⟨m, Nat.le_refl _, by omega, rfl⟩
    have hmin : ∀ x, m ≤ x → x < k → is b ≤ is x := fun x h1 h2 => hv _ ⟨x, h1, h2, rfl⟩
    have key : g ∣ det k fun a c => X (is (swn m b a)) c := by
      have hsl : ∀ x, x < k → swn m b x < k := fun x hx => swn_lt (by omega) hb hx
      have hsg : ∀ x, m ≤ x → m ≤ swn m b x := fun x hx => by unfold swn; split <;> (try split) <;> omega
      have hm0 : swn m b m = b := swn_l m b
      by_cases he : ∃ x, m < x ∧ x < k ∧ is (swn m b x) = is b
      · obtain ⟨x, h1, h2, h3⟩ := he
        rw [det_rows (c := m) (d := x) (by omega) h2 (by omega) fun j _ => by (try dsimp only); rw [hm0, h3]]
        exact Int.dvd_zero _
      · refine sort_rows h d (m + 1) (fun x => is (swn m b x)) (by omega) (fun a ha => hl _ (hsl a ha)) fun a x ha hax hx => ?_
        (try dsimp only)
        by_cases e : a = m
        · subst e
          rw [hm0]
          have h1 := hmin (swn a b x) (hsg x (by omega)) (hsl x hx)
          have h2 : is (swn a b x) ≠ is b := fun e => he ⟨x, hax, hx, e⟩
          omega
        · have ea : swn m b a = a := swn_o e (by omega)
          rw [ea]
          by_cases hxm : x < m
          · rw [swn_o (by omega) (by omega)]; exact ho a x (by omega) hax hx
          · have := hsg x (by omega)
            exact ho a _ (by omega) (by omega) (hsl x hx)
    by_cases e : m = b
    · subst e
      have e2 : ∀ a, swn m m a = a := fun a => by unfold swn; split <;> simp_all
      simpa only [e2] using key
    · rw [det_rswap (A := fun a c => X (is a) c) (by omega) hb e] at key
      exact Int.dvd_neg.1 key
theorem dv_inc {n c k : Nat} {A : Mx} {g : Int} (h : ∀ is js, Inc n k is → Inc c k js → g ∣ det k fun a b => A (is a) (js b)) : Dv n c k A g := fun is js his hjs => by
  refine sort_rows (X := fun i b => A i (js b)) (fun is' hi => ?_) k 0 is (by omega) his fun a b ha => by omega
  rw [← det_tr]
  refine sort_rows (X := fun j a => A (is' a) j) (fun js' hj => ?_) k 0 js (by omega) hjs fun a b ha => by omega
  rw [← det_tr]
  exact h is' js' hi hj
end Go.Proofs.Ytjlokbolmindgaa

