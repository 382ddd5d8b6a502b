/-
  Valid planar matchings as a property of a list of integers, and the laws on the stack of open arcs: no program here.
-/
import Derived.Test.YtmmcpahaekpknaaBase
namespace Go.Proofs.Ytmmcpahaekpknaa

def Inv (xs : List Int) (k : Nat) : Prop := ∀ i, i < k → 0 ≤ gi xs i ∧ gi xs i < xs.length ∧ gi xs i ≠ i ∧ gi xs (gi xs i).toNat = i
def NCr (xs : List Int) (p : Nat) : Prop := ∀ q, q < p → ∀ i, i < q → gi xs q < q → gi xs q < i → gi xs i < q
def IsM (xs : List Int) : Prop := xs.length % 2 = 0 ∧ xs.length ≤ 48 ∧ Inv xs xs.length ∧ NCr xs xs.length

instance (xs : List Int) (k : Nat) : Decidable (Inv xs k) := by unfold Inv; infer_instance
instance (xs : List Int) (k : Nat) : Decidable (NCr xs k) := by unfold NCr; infer_instance
instance (xs : List Int) : Decidable (IsM xs) := by unfold IsM; infer_instance

/-- the open arcs at point p: their left ends, ascending -/
def Stk (xs : List Int) (p : Nat) (st : List Nat) : Prop := st.Pairwise (· < ·) ∧ ∀ i, i ∈ st ↔ i < p ∧ (p : Int) ≤ gi xs i

theorem inv_step {xs : List Int} {k : Nat} (h : Inv xs k) (h1 : 0 ≤ gi xs k) (h2 : gi xs k < xs.length) (h3 : gi xs k ≠ k) (h4 : gi xs (gi xs k).toNat = k) : Inv xs (k + 1) := by
  intro i hi
  rcases Nat.lt_or_eq_of_le (Nat.le_of_lt_succ hi) with h5 | rfl
  · exact h i h5
  · exact ⟨h1, h2, h3, h4⟩

theorem stk_zero (xs : List Int) : Stk xs 0 [] := ⟨List.Pairwise.nil, by simp⟩

theorem stk_len {xs : List Int} {p : Nat} {st : List Nat} (h : Stk xs p st) : st.length ≤ p := by
  have hnd : st.Nodup := h.1.imp (fun hab => Nat.ne_of_lt hab)
  have hsub : st ⊆ List.range p := fun i hi => List.mem_range.2 ((h.2 i).1 hi).1
  have := hnd.length_le_of_subset hsub
  simpa using this

theorem stk_push {xs : List Int} {p : Nat} {st : List Nat} (hI : Inv xs xs.length) (hp : p < xs.length) (h : Stk xs p st) (hgt : (p : Int) < gi xs p) : Stk xs (p + 1) (st ++ [p]) := by
  refine ⟨List.pairwise_append.2 ⟨h.1, by simp, fun a ha b hb => ?_⟩, fun i => ?_⟩
  · have hb' : b = p := by simpa using hb
    subst hb'
    exact ((h.2 a).1 ha).1
  · simp only [List.mem_append, List.mem_singleton, h.2 i]
    constructor
    · rintro (⟨h1, h2⟩ | rfl)
      · refine ⟨by omega, ?_⟩
        have h3 : gi xs i ≠ p := by
          intro e
          have h4 := (hI i (by omega)).2.2.2
          rw [e] at h4
          simp at h4
          omega
        omega
      · exact ⟨by omega, by omega⟩
    · rintro ⟨h1, h2⟩
      rcases Nat.lt_or_eq_of_le (Nat.le_of_lt_succ h1) with h5 | rfl
      · exact .inl ⟨h5, by omega⟩
      · exact .inr rfl

theorem ncr_push {xs : List Int} {p : Nat} (h : NCr xs p) (hgt : (p : Int) < gi xs p) : NCr xs (p + 1) := by
  intro q hq i hi h1 h2
  rcases Nat.lt_or_eq_of_le (Nat.le_of_lt_succ hq) with h5 | rfl
  · exact h q h5 i hi h1 h2
  · omega

/-- at a closing point the partner is an open arc -/
theorem stk_mem {xs : List Int} {p : Nat} {st : List Nat} (hI : Inv xs xs.length) (hp : p < xs.length) (h : Stk xs p st) (hgt : ¬ (p : Int) < gi xs p) : (gi xs p).toNat ∈ st := by
  obtain ⟨h1, h2, h3, h4⟩ := hI p hp
  rw [h.2]
  exact ⟨by omega, by omega⟩

theorem stk_pop {xs : List Int} {p top : Nat} {st : List Nat} (hI : Inv xs xs.length) (hp : p < xs.length) (h : Stk xs p (st ++ [top])) (hgt : ¬ (p : Int) < gi xs p) (ht : (top : Int) = gi xs p) :
    Stk xs (p + 1) st := by
  obtain ⟨h1, h2, h3, h4⟩ := hI p hp
  have hpw := List.pairwise_append.1 h.1
  refine ⟨hpw.1, fun i => ?_⟩
  constructor
  · intro hi
    have hit : i < top := hpw.2.2 i hi top (by simp)
    have h5 := (h.2 i).1 (by simp [hi])
    refine ⟨by omega, ?_⟩
    have h6 : gi xs i ≠ p := by
      intro e
      have h7 := (hI i (by omega)).2.2.2
      rw [e] at h7
      simp at h7
      omega
    omega
  · rintro ⟨h5, h6⟩
    have h7 : i ≠ p := by rintro rfl; omega
    have h8 : i ∈ st ++ [top] := (h.2 i).2 ⟨by omega, by omega⟩
    rcases List.mem_append.1 h8 with h9 | h9
    · exact h9
    · have : i = top := by simpa using h9
      subst this
      have e : (gi xs p).toNat = i := by omega
      rw [e] at h4
      omega

theorem ncr_pop {xs : List Int} {p top : Nat} {st : List Nat} (h : Stk xs p (st ++ [top])) (hN : NCr xs p) (ht : (top : Int) = gi xs p) : NCr xs (p + 1) := by
  intro q hq i hi h1 h2
  rcases Nat.lt_or_eq_of_le (Nat.le_of_lt_succ hq) with h5 | rfl
  · exact hN q h5 i hi h1 h2
  · have hpw := List.pairwise_append.1 h.1
    rcases Int.lt_or_le (gi xs i) q with h6 | h6
    · exact h6
    · exfalso
      have h8 : i ∈ st ++ [top] := (h.2 i).2 ⟨hi, h6⟩
      rcases List.mem_append.1 h8 with h9 | h9
      · have := hpw.2.2 i h9 top (by simp)
        omega
      · have : i = top := by simpa using h9
        omega

/-- the top is another one: the matching is not planar -/
theorem ncr_bad {xs : List Int} {p top : Nat} {st : List Nat} (hI : Inv xs xs.length) (hp : p < xs.length) (h : Stk xs p (st ++ [top])) (hgt : ¬ (p : Int) < gi xs p) (ht : (top : Int) ≠ gi xs p) : ¬ NCr xs xs.length := by
  intro hN
  obtain ⟨h1, h2, h3, h4⟩ := hI p hp
  have hm := stk_mem hI hp h hgt
  have hpw := List.pairwise_append.1 h.1
  have htop := (h.2 top).1 (by simp)
  rcases List.mem_append.1 hm with h9 | h9
  · have := hpw.2.2 _ h9 top (by simp)
    have := hN p hp top htop.1 (by omega) (by omega)
    omega
  · have : (gi xs p).toNat = top := by simpa using h9
    omega

/-- the reference's test -/
def RefNC (xs : List Int) (k : Nat) : Prop := ∀ i, i < k → ∀ j, i < j → (j : Int) < gi xs i → gi xs j ≤ gi xs i ∧ (i : Int) ≤ gi xs j

theorem refnc_of {xs : List Int} (hI : Inv xs xs.length) (hN : NCr xs xs.length) : RefNC xs xs.length := by
  intro i hi j hij hj
  obtain ⟨a1, a2, a3, a4⟩ := hI i hi
  have hjl : j < xs.length := by omega
  obtain ⟨b1, b2, b3, b4⟩ := hI j hjl
  have hq : (gi xs i).toNat < xs.length := by omega
  have hqc : ((gi xs i).toNat : Int) = gi xs i := by omega
  have e1 := hN (gi xs i).toNat hq j (by omega) (by rw [a4]; omega) (by rw [a4]; omega)
  refine ⟨by omega, ?_⟩
  rcases Int.lt_or_le (gi xs j) i with h | h
  · exfalso
    have := hN j hjl i hij (by omega) h
    omega
  · exact h

theorem ncr_of_ref {xs : List Int} (hI : Inv xs xs.length) (hN : RefNC xs xs.length) : NCr xs xs.length := by
  intro q hq i hi h1 h2
  obtain ⟨a1, a2, a3, a4⟩ := hI q hq
  have hk : (gi xs q).toNat < xs.length := by omega
  have := hN (gi xs q).toNat hk i (by omega) (by rw [a4]; omega)
  rw [a4] at this
  have h5 : gi xs i ≠ q := by
    intro e
    have h6 := (hI i (by omega)).2.2.2
    rw [e] at h6
    simp at h6
    omega
  omega

theorem not_isM_inv {xs : List Int} {k : Nat} (hk : k < xs.length) (h : gi xs k < 0 ∨ (xs.length : Int) ≤ gi xs k ∨ gi xs k = k ∨ gi xs (gi xs k).toNat ≠ k) : ¬ IsM xs := by
  rintro ⟨_, _, hI, _⟩
  obtain ⟨h1, h2, h3, h4⟩ := hI k hk
  rcases h with h | h | h | h
  · omega
  · omega
  · exact h3 h
  · exact h h4
end Go.Proofs.Ytmmcpahaekpknaa
