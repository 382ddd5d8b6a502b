/-
  Isolation in plain Lean: what the loops of isolate keep. No program here.
-/
import Derived.Test.YteanhbldhaiekaaSmt
namespace Go.Proofs.Yteanhbldhaiekaa
open Classical

def C0 (n k : Nat) (a : Nat → Nat → Nat) : Prop := ∀ x, k < x → x < n → a x k = 0
def R0 (c k : Nat) (a : Nat → Nat → Nat) : Prop := ∀ y, k < y → y < c → a k y = 0
/-- what every step keeps -/
structure Iso (n c M k : Nat) (m : Mx) (a : Nat → Nat → Nat) : Prop where
  sm : Sm n c M m a
  dg : Dg n c k a
  pv : a k k ≠ 0
noncomputable def mu (n c k : Nat) (a : Nat → Nat → Nat) : Nat := 2 * a k k + if C0 n k a ∧ R0 c k a then 0 else 1
/-- since the round's start: nothing has changed, or the start was not clean -/
def Unc (n c k : Nat) (a0 a : Nat → Nat → Nat) : Prop := a = a0 ∨ ¬ (C0 n k a0 ∧ R0 c k a0)
/-- the rows before i have been cleared -/
structure RPh (n c M k : Nat) (m : Mx) (a0 : Nat → Nat → Nat) (i : Nat) (a : Nat → Nat → Nat) : Prop where
  iso : Iso n c M k m a
  un : Unc n c k a0 a
  lo : ∀ x, k < x → x < i → a x k = 0
  le : a k k ≤ a0 k k
/-- within the row i -/
structure RIn (n c M k : Nat) (m : Mx) (a0 : Nat → Nat → Nat) (i v : Nat) (a : Nat → Nat → Nat) : Prop where
  iso : Iso n c M k m a
  un : Unc n c k a0 a
  lo : ∀ x, k < x → x < i → a x k = 0
  le : Nat.gcd (a k k) (a i k) ≤ a0 k k
  ev : a i k = v
section
variable {n c M k i j v : Nat} {m : Mx} {a0 a : Nat → Nat → Nat}
theorem RPh.start (h : Iso n c M k m a) : RPh n c M k m a (k + 1) a := ⟨h, .inl rfl, fun x _ _ => by omega, Nat.le_refl _⟩
theorem RPh.enter (h : RPh n c M k m a0 i a) : RIn n c M k m a0 i (a i k) a :=
  ⟨h.iso, h.un, h.lo, Nat.le_trans (Nat.le_of_dvd (Nat.pos_of_ne_zero h.iso.pv) (Nat.gcd_dvd_left ..)) h.le, rfl⟩
theorem RIn.step (h : RIn n c M k m a0 i v a) (hki : k < i) (hi : i < n) (hk : k < c) (hv : v ≠ 0) : rsN M k i a i k < v ∧ RIn n c M k m a0 i (rsN M k i a i k) (rsN M k i a) := by
  have hik : a i k ≠ 0 := by rw [h.ev]; exact hv
  obtain ⟨h1, h2, h3, h4⟩ := rsN_col (h.iso.sm.lt i k hi hk) (h.iso.sm.lt k k (by omega) hk) hki h.iso.pv hik
  obtain ⟨s1, s2⟩ := rsN_ok h.iso.sm h.iso.dg hi hki
  refine ⟨by rw [← h.ev]; exact h1, ⟨s1, s2, h2⟩, .inr ?_, fun x hx hxi => ?_, by rw [h3]; exact h.le, rfl⟩
  · rcases h.un with e | e
    · subst e; exact fun hc => hik (hc.1 i hki hi)
    · exact e
  · rw [h4 x (by omega) (by omega)]; exact h.lo x hx hxi
theorem RIn.leave (h : RIn n c M k m a0 i 0 a) : RPh n c M k m a0 (i + 1) a := by
  have e := h.le
  rw [h.ev, Nat.gcd_zero_right] at e
  refine ⟨h.iso, h.un, fun x hx hxi => ?_, e⟩
  by_cases hxe : x = i
  · rw [hxe]; exact h.ev
  · exact h.lo x hx (by omega)
/-- the columns before j have been cleared; f tells whether a step was made -/
structure CPh (n c M k : Nat) (m : Mx) (a0 : Nat → Nat → Nat) (j : Nat) (f : Bool) (a : Nat → Nat → Nat) : Prop where
  iso : Iso n c M k m a
  un : Unc n c k a0 a
  lo : ∀ y, k < y → y < j → a k y = 0
  q : a k k < a0 k k ∨ (a k k ≤ a0 k k ∧ C0 n k a)
  f0 : f = false → C0 n k a
  f1 : f = true → ¬ (C0 n k a0 ∧ R0 c k a0)
structure CIn (n c M k : Nat) (m : Mx) (a0 : Nat → Nat → Nat) (j v : Nat) (f : Bool) (a : Nat → Nat → Nat) : Prop where
  iso : Iso n c M k m a
  un : Unc n c k a0 a
  lo : ∀ y, k < y → y < j → a k y = 0
  q : Nat.gcd (a k k) (a k j) < a0 k k ∨ (a k k ≤ a0 k k ∧ C0 n k a)
  f0 : f = false → C0 n k a
  f1 : f = true → ¬ (C0 n k a0 ∧ R0 c k a0)
  ev : a k j = v
theorem RPh.turn (h : RPh n c M k m a0 n a) : CPh n c M k m a0 (k + 1) false a :=
  ⟨h.iso, h.un, fun y _ _ => by omega, .inr ⟨h.le, h.lo⟩, fun _ => h.lo, (fun e => by cases e)⟩
theorem CPh.enter {f : Bool} (h : CPh n c M k m a0 j f a) : CIn n c M k m a0 j (a k j) f a := by
  refine ⟨h.iso, h.un, h.lo, ?_, h.f0, h.f1, rfl⟩
  rcases h.q with e | e
  · exact .inl (Nat.lt_of_le_of_lt (Nat.le_of_dvd (Nat.pos_of_ne_zero h.iso.pv) (Nat.gcd_dvd_left ..)) e)
  · exact .inr e
theorem CIn.step {f : Bool} (h : CIn n c M k m a0 j v f a) (hkj : k < j) (hj : j < c) (hk : k < n) (hv : v ≠ 0) : csN M k j a k j < v ∧ CIn n c M k m a0 j (csN M k j a k j) true (csN M k j a) := by
  have hkj0 : a k j ≠ 0 := by rw [h.ev]; exact hv
  obtain ⟨h1, h2, h3, h4⟩ := csN_row h.iso.dg h.iso.sm.lt hk hj hkj h.iso.pv hkj0
  obtain ⟨s1, s2⟩ := csN_ok h.iso.sm h.iso.dg hk hj hkj
  have hn0 : ¬ (C0 n k a0 ∧ R0 c k a0) := by
    rcases h.un with e | e
    · subst e; exact fun hc => hkj0 (hc.2 j hkj hj)
    · exact e
  refine ⟨by rw [← h.ev]; exact h1, ⟨s1, s2, h2⟩, .inr hn0, fun y hy hyj => ?_, ?_, (fun e => by cases e), fun _ => hn0, rfl⟩
  · rw [h4 y (by omega) (by omega) (by omega)]; exact h.lo y hy hyj
  · rw [h3]
    rcases h.q with e | e
    · exact .inl e
    · by_cases hd : a k j % a k k = 0
      · refine .inr ⟨by rw [csN_same hd hkj]; exact e.1, fun x hx hxn => by rw [csN_same hd hkj]; exact e.2 x hx hxn⟩
      · refine .inl (Nat.lt_of_lt_of_le (Nat.lt_of_le_of_ne (Nat.le_of_dvd (Nat.pos_of_ne_zero h.iso.pv) (Nat.gcd_dvd_left ..)) fun e2 => hd ?_) e.1)
        exact Nat.mod_eq_zero_of_dvd (e2 ▸ Nat.gcd_dvd_right (a k k) (a k j))
theorem CIn.leave {f : Bool} (h : CIn n c M k m a0 j 0 f a) : CPh n c M k m a0 (j + 1) f a := by
  refine ⟨h.iso, h.un, fun y hy hyj => ?_, ?_, h.f0, h.f1⟩
  · by_cases e : y = j
    · rw [e]; exact h.ev
    · exact h.lo y hy (by omega)
  · rcases h.q with e | e
    · rw [h.ev, Nat.gcd_zero_right] at e; exact .inl e
    · exact .inr e
theorem CPh.finish {f : Bool} (h : CPh n c M k m a0 c f a) : (f = false → C0 n k a ∧ R0 c k a) ∧ (f = true → mu n c k a < mu n c k a0) := by
  refine ⟨fun e => ⟨h.f0 e, h.lo⟩, fun e => ?_⟩
  unfold mu
  rw [if_neg (h.f1 e)]
  rcases h.q with q | ⟨q1, q2⟩
  · split <;> omega
  · rw [if_pos ⟨q2, h.lo⟩]; omega
theorem Iso.done (h : Iso n c M k m a) (hc : C0 n k a ∧ R0 c k a) : Dg n c (k + 1) a := fun x y hx hy ho hne => by
  by_cases e : x < k ∨ y < k
  · exact h.dg x y hx hy e hne
  · by_cases e2 : x = k
    · subst e2; exact hc.2 y (by omega) hy
    · obtain rfl : y = k := by omega
      exact hc.1 x (by omega) hx
end
end Go.Proofs.Yteanhbldhaiekaa

