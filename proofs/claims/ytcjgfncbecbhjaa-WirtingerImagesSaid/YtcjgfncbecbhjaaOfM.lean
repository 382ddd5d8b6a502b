/-
  The presentation of a diagram: components of the generators, relators. No program here.
-/
import Derived.Test.YtcjgfncbecbhjaaWArcs
import Derived.Test.YtcjgfncbecbhjaaStrandM
import Derived.Test.YtcjgfncbecbhjaaRStrands
namespace Go.Proofs.Ytcjgfncbecbhjaa
open Go.RowKit

theorem cnt_lt {P : Nat → Bool} {a m : Nat} (h : P a = true) (ha : a < m) : cnt P a < cnt P m := by
  induction m with
  | zero => omega
  | succ m ih =>
    rw [cnt_succ]
    rcases Nat.lt_or_ge a m with h1 | h1
    · have := ih h1; omega
    · obtain rfl : a = m := by omega
      rw [if_pos h]; omega
theorem eAB_in {sg mt : List Int} (hI : InvM mt) (hn : mt.length = 4 * sg.length) : InEs mt.length (eA mt mt.length ++ eB sg.length) := by
  intro e he
  rcases List.mem_append.1 he with h | h
  · unfold eA at h
    obtain ⟨x, hx, rfl⟩ := List.mem_map.1 h
    have hx := List.mem_range.1 hx
    exact ⟨hx, (hI.gn hx).2.1⟩
  · unfold eB at h
    obtain ⟨x, hx, rfl⟩ := List.mem_map.1 h
    have hx := List.mem_range.1 hx
    exact ⟨by show 4 * x + 1 < _; omega, by show 4 * x + 3 < _; omega⟩
theorem arR_eqv {sg mt : List Int} (hI : InvM mt) (hn : mt.length = 4 * sg.length) : EqvB (arR sg mt) mt.length := jl_eqv (eAB_in hI hn)
theorem arN_lt {sg mt : List Int} (hI : InvM mt) (hn : mt.length = 4 * sg.length) {h : Nat} (hh : h < mt.length) : arN sg mt h < arC sg mt := by
  obtain ⟨h1, h2, h3⟩ := lo_spec (arR_eqv hI hn) hh
  exact cnt_lt h3 (by omega)
theorem arL_len (sg mt : List Int) : (arL sg mt).length = mt.length := by simp [arL]
theorem gi_arL {sg mt : List Int} {h : Nat} (hh : h < mt.length) : gi (arL sg mt) h = (arN sg mt h : Int) := by simp [arL, gi, hh]

/-- the half-edges of strand i -/
def stN (sg mt : List Int) (i : Nat) : List Nat := (strandsL sg mt).getD i []
theorem stN_eq {sg mt : List Int} {i : Nat} (hi : i < (strandsL sg mt).length) : (strandsL sg mt)[i] = stN sg mt i := by simp [stN, hi]
theorem stN_lt {sg mt : List Int} (hI : InvM mt) (hn : mt.length = 4 * sg.length) {i : Nat} (hi : i < (strandsL sg mt).length) : ∀ x ∈ stN sg mt i, x < mt.length := by
  intro x hx
  obtain ⟨h, h1, -, -, e⟩ := strand_at hi
  rw [← stN_eq hi, e] at hx
  exact cyc_lt (nxS_perm hI hn) h1 hx
theorem stN_len {sg mt : List Int} (hI : InvM mt) (hn : mt.length = 4 * sg.length) {i : Nat} (hi : i < (strandsL sg mt).length) : (stN sg mt i).length ≤ mt.length := by
  obtain ⟨h, h1, -, -, e⟩ := strand_at hi
  rw [← stN_eq hi, e]
  exact cyc_length_le (nxS_perm hI hn) h1
theorem strandsL_most (sg mt : List Int) : (strandsL sg mt).length ≤ mt.length := by
  have := cycsL_len (nxS mt) mt.length (outB sg) mt.length
  rw [rows_cycs_length] at this
  exact this

/-- the arcs of the first j half-edges of strand i are given to component i -/
def cpJ (sg mt : List Int) (i j : Nat) (q : List Int) : List Int := ((stN sg mt i).take j).foldl (fun q h => q.set (arN sg mt h) (i : Int)) q
def cpK (sg mt : List Int) (k : Nat) (q : List Int) : List Int := (List.range k).foldl (fun q i => cpJ sg mt i (stN sg mt i).length q) q
theorem cpJ_zero (sg mt : List Int) (i : Nat) (q : List Int) : cpJ sg mt i 0 q = q := rfl
theorem cpJ_succ {sg mt : List Int} {i j : Nat} (q : List Int) (h : j < (stN sg mt i).length) : cpJ sg mt i (j + 1) q = (cpJ sg mt i j q).set (arN sg mt (gN (stN sg mt i) j)) (i : Int) := by
  unfold cpJ
  rw [List.take_succ_eq_append_getElem h, List.foldl_append, gN_lt h]
  rfl
theorem cpK_zero (sg mt : List Int) (q : List Int) : cpK sg mt 0 q = q := rfl
theorem cpK_succ (sg mt : List Int) (k : Nat) (q : List Int) : cpK sg mt (k + 1) q = cpJ sg mt k (stN sg mt k).length (cpK sg mt k q) := by
  unfold cpK
  rw [List.range_succ, List.foldl_append]
  rfl
theorem foldl_set_len {α : Type} (f : α → Nat) (g : α → Int) : ∀ (l : List α) (q : List Int), (l.foldl (fun q a => q.set (f a) (g a)) q).length = q.length
  | [], _ => rfl
  | a :: l, q => by rw [List.foldl_cons, foldl_set_len f g l, List.length_set]
theorem cpJ_len (sg mt : List Int) (i j : Nat) (q : List Int) : (cpJ sg mt i j q).length = q.length := foldl_set_len _ _ _ _
theorem cpK_len (sg mt : List Int) (k : Nat) (q : List Int) : (cpK sg mt k q).length = q.length := by
  induction k with
  | zero => rfl
  | succ k ih => rw [cpK_succ, cpJ_len, ih]
/-- loops -/
def cpO (m n k : Nat) (q : List Int) : List Int := (List.range k).foldl (fun q i => q.set (m + i) ((n : Int) + (i : Int))) q
theorem cpO_zero (m n : Nat) (q : List Int) : cpO m n 0 q = q := rfl
theorem cpO_succ (m n k : Nat) (q : List Int) : cpO m n (k + 1) q = (cpO m n k q).set (m + k) ((n : Int) + (k : Int)) := by
  unfold cpO
  rw [List.range_succ, List.foldl_append]
  rfl
theorem cpO_len (m n k : Nat) (q : List Int) : (cpO m n k q).length = q.length := foldl_set_len _ _ _ _
/-- the components of the generators -/
def cmpL (sg mt : List Int) (L : Nat) : List Int := cpO (arC sg mt) (strandsL sg mt).length L (cpK sg mt (strandsL sg mt).length (List.replicate (arC sg mt + L) 0))

/-- the relator of crossing c, as it is read off -/
def relL (sg mt : List Int) (c : Nat) : List Int :=
  let a : Int := (arN sg mt (4 * c) : Int) + 1
  let b : Int := (arN sg mt (4 * c + 2) : Int) + 1
  let o : Int := (arN sg mt (4 * c + 1) : Int) + 1
  if 0 < gi sg c then [-b, -o, a, o] else [-b, o, a, -o]
def wrdL (sg mt : List Int) (k : Nat) : List (List Int) := (List.range k).map fun c => redL (relL sg mt c)
theorem wrdL_succ (sg mt : List Int) (k : Nat) : wrdL sg mt (k + 1) = wrdL sg mt k ++ [redL (relL sg mt k)] := by unfold wrdL; rw [List.range_succ]; simp
theorem wrdL_len (sg mt : List Int) (k : Nat) : (wrdL sg mt k).length = k := by simp [wrdL]
end Go.Proofs.Ytcjgfncbecbhjaa

