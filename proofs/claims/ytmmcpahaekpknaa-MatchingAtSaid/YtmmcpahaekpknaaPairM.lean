/-
  The circles of two matchings, as the marking loop counts them: plain functions on lists.
-/
import Derived.Test.YtmmcpahaekpknaaMatM
namespace Go.Proofs.Ytmmcpahaekpknaa

def gn (xs : List Int) (k : Nat) : Nat := (gi xs k).toNat

/-- mark from point i on, till a point that is marked -/
def trF (a b : List Int) : Nat → List Bool → Nat → List Bool
  | 0, s, _ => s
  | f + 1, s, i => if gb s i = true then s else trF a b f ((s.set i true).set (gn a i) true) (gn b (gn a i))

def prL (a b : List Int) : List Nat → List Bool → Nat → Nat
  | [], _, c => c
  | k :: ks, s, c => if gb s k = true then prL a b ks s c else prL a b ks (trF a b (a.length + 1) s k) (c + 1)

def pairN (a b : List Int) : Nat := prL a b (List.range' 0 a.length) (List.replicate a.length false) 0

def cf (s : List Bool) : Nat := s.count false

theorem cf_le (s : List Bool) : cf s ≤ s.length := List.count_le_length

theorem cf_set (s : List Bool) (i : Nat) : cf (s.set i true) ≤ cf s := by
  unfold cf
  induction s generalizing i with
  | nil => simp
  | cons x s ih =>
    cases i with
    | zero => cases x <;> simp
    | succ i => have := ih i; cases x <;> simp <;> omega

theorem cf_set_lt (s : List Bool) (i : Nat) (hi : i < s.length) (h : gb s i = false) : cf (s.set i true) < cf s := by
  unfold cf
  induction s generalizing i with
  | nil => simp at hi
  | cons x s ih =>
    cases i with
    | zero =>
      have : x = false := by simpa [gb] using h
      subst this
      simp
    | succ i =>
      have := ih i (by simpa using hi) (by simpa [gb] using h)
      cases x <;> simp <;> omega

theorem trF_done {a b : List Int} {f : Nat} {s : List Bool} {i : Nat} (h : gb s i = true) : trF a b f s i = s := by
  cases f with
  | zero => rfl
  | succ f => rw [trF, if_pos h]

theorem trF_step {a b : List Int} {f : Nat} {s : List Bool} {i : Nat} (hf : cf s < f) (hi : i < s.length) (h : gb s i = false) :
    ∃ f', f = f' + 1 ∧ cf ((s.set i true).set (gn a i) true) < f' ∧ trF a b f s i = trF a b f' ((s.set i true).set (gn a i) true) (gn b (gn a i)) := by
  cases f with
  | zero => omega
  | succ f =>
    refine ⟨f, rfl, ?_, by rw [trF, if_neg (by simp [h])]⟩
    have := cf_set_lt s i hi h
    have := cf_set (s.set i true) (gn a i)
    omega

theorem prL_seen {a b : List Int} {k n : Nat} {s : List Bool} {c : Nat} (h : gb s k = true) : prL a b (List.range' k (n + 1)) s c = prL a b (List.range' (k + 1) n) s c := by
  rw [List.range'_succ, prL, if_pos h]

theorem prL_new {a b : List Int} {k n : Nat} {s : List Bool} {c : Nat} (h : gb s k = false) :
    prL a b (List.range' k (n + 1)) s c = prL a b (List.range' (k + 1) n) (trF a b (a.length + 1) s k) (c + 1) := by
  rw [List.range'_succ, prL, if_neg (by simp [h])]

theorem isM_gn {a : List Int} (h : IsM a) {i : Nat} (hi : i < a.length) : gn a i < a.length ∧ gn a i ≠ i ∧ gn a (gn a i) = i ∧ (gi a i = (gn a i : Int)) := by
  obtain ⟨h1, h2, h3, h4⟩ := h.2.2.1 i hi
  have e : ((gn a i : Nat) : Int) = gi a i := by unfold gn; omega
  refine ⟨by omega, by omega, ?_, e.symm⟩
  unfold gn
  rw [h4]
  simp
end Go.Proofs.Ytmmcpahaekpknaa
