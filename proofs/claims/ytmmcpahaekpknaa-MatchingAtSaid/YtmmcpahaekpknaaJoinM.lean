/-
  The matching in which two neighbours are connected: as a list. No program here.
-/
import Derived.Test.YtmmcpahaekpknaaPairM
namespace Go.Proofs.Ytmmcpahaekpknaa

def shI (at_ : Nat) (v : Int) : Int := if (at_ : Int) < v then v - 2 else v
def part (xs : List Int) (p : Nat) : List Int := if gi xs p = p + 1 then xs else (xs.set (gn xs p) (gi xs (p + 1))).set (gn xs (p + 1)) (gi xs p)
def joinL (xs : List Int) (p : Nat) : List Int := (List.range (xs.length - 2)).map fun k => shI p (gi (part xs p) (if k < p then k else k + 2))
def circ (xs : List Int) (p : Nat) : Int := if gi xs p = p + 1 then 1 else 0

theorem part_length (xs : List Int) (p : Nat) : (part xs p).length = xs.length := by unfold part; split <;> simp
theorem joinL_length (xs : List Int) (p : Nat) : (joinL xs p).length = xs.length - 2 := by simp [joinL]
theorem gi_joinL {xs : List Int} {p k : Nat} (h : k < xs.length - 2) : gi (joinL xs p) k = shI p (gi (part xs p) (if k < p then k else k + 2)) := by
  unfold joinL
  rw [gi, List.getD_eq_getElem?_getD, List.getElem?_map, List.getElem?_range h]
  rfl

/-- how many places are filled ahead of point i -/
def idx (p i : Nat) : Nat := if i ≤ p then i else if i = p + 1 then p else i - 2

theorem idx_lo {p i : Nat} (h : i < p) : idx p (i + 1) = idx p i + 1 ∧ idx p i = i := by unfold idx; rw [if_pos (by omega), if_pos (by omega)]; exact ⟨rfl, rfl⟩
theorem idx_mid {p i : Nat} (h : i = p ∨ i = p + 1) : idx p (i + 1) = idx p i := by
  rcases h with rfl | rfl
  · unfold idx; rw [if_neg (by omega), if_pos rfl, if_pos (Nat.le_refl _)]
  · unfold idx; rw [if_neg (by omega), if_neg (by omega), if_neg (by omega), if_pos rfl]; omega
theorem idx_hi {p i : Nat} (h : p + 1 < i) : idx p (i + 1) = idx p i + 1 ∧ idx p i = i - 2 := by unfold idx; rw [if_neg (by omega), if_neg (by omega), if_neg (by omega), if_neg (by omega)]; omega
theorem idx_end {p n : Nat} (h : p + 2 ≤ n) : idx p n = n - 2 := by unfold idx; rw [if_neg (by omega), if_neg (by omega)]

theorem shI_lo {p i : Nat} (h : i < p) : shI p i = (i : Int) := by unfold shI; rw [if_neg (by omega)]
theorem shI_hi {p i : Nat} (h : p + 1 < i) : shI p i = ((i - 2 : Nat) : Int) := by unfold shI; rw [if_pos (by omega)]; omega

/-- the round's step for the row that is filled -/
theorem join_fill {xs r : List Int} {p i : Nat} (hr : r.length = xs.length - 2) (hi : i < xs.length) (h0 : i ≠ p) (h1 : i ≠ p + 1) (hp : p + 2 ≤ xs.length) (h : ∀ k, k < idx p i → gi r k = gi (joinL xs p) k) :
    ∀ k, k < idx p (i + 1) → gi (r.set (idx p i) (shI p (gi (part xs p) i))) k = gi (joinL xs p) k := by
  intro k hk
  have e : idx p (i + 1) = idx p i + 1 ∧ idx p i < xs.length - 2 ∧ (if idx p i < p then idx p i else idx p i + 2) = i := by
    rcases Nat.lt_or_ge i p with hlt | hge
    · obtain ⟨a, b⟩ := idx_lo hlt
      exact ⟨a, by omega, by rw [b, if_pos hlt]⟩
    · obtain ⟨a, b⟩ := idx_hi (p := p) (i := i) (by omega)
      exact ⟨a, by omega, by rw [b, if_neg (by omega)]; omega⟩
  rw [gi_set (by omega)]
  split
  · rename_i hk'
    subst hk'
    rw [gi_joinL e.2.1, e.2.2]
  · exact h k (by omega)

theorem part_bounds {xs : List Int} (h : IsM xs) {p i : Nat} (hp : p + 2 ≤ xs.length) (hi : i < xs.length) : 0 ≤ gi (part xs p) i ∧ gi (part xs p) i < xs.length := by
  obtain ⟨a1, a2, _, _⟩ := h.2.2.1 i hi
  obtain ⟨b1, b2, _, _⟩ := h.2.2.1 p (by omega)
  obtain ⟨c1, c2, _, _⟩ := h.2.2.1 (p + 1) (by omega)
  unfold part
  split
  · exact ⟨a1, a2⟩
  · rw [gi_set (by simp; unfold gn; omega), gi_set (by unfold gn; omega)]
    split
    · exact ⟨b1, b2⟩
    split
    · exact ⟨c1, c2⟩
    · exact ⟨a1, a2⟩
end Go.Proofs.Ytmmcpahaekpknaa
