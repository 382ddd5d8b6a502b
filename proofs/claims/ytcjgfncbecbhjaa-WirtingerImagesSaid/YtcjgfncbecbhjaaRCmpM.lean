/-
  The reference's Comp and Words are the program's. No program here.
-/
import Derived.Test.YtcjgfncbecbhjaaOfM
namespace Go.Proofs.Ytcjgfncbecbhjaa

theorem set_left {q1 q2 : List Int} {i : Nat} (h : i < q1.length) (y : Int) : (q1 ++ q2).set i y = q1.set i y ++ q2 := by
  rw [List.set_append, if_pos h]
section
variable {sg mt : List Int} (hI : InvM mt) (hn : mt.length = 4 * sg.length)
include hI hn
theorem cpJ_app {i : Nat} (hi : i < (strandsL sg mt).length) (q1 q2 : List Int) (hq : q1.length = arC sg mt) : ∀ j, j ≤ (stN sg mt i).length → cpJ sg mt i j (q1 ++ q2) = cpJ sg mt i j q1 ++ q2 := by
  intro j
  induction j with
  | zero => intro _; rfl
  | succ j ih =>
    intro hj
    have hj' : j < (stN sg mt i).length := by omega
    rw [cpJ_succ _ hj', cpJ_succ _ hj', ih (by omega), set_left]
    rw [cpJ_len, hq]
    refine arN_lt hI hn (stN_lt hI hn hi _ ?_)
    rw [gN_lt hj']; exact List.getElem_mem hj'
theorem cpK_app (q1 q2 : List Int) (hq : q1.length = arC sg mt) : ∀ k, k ≤ (strandsL sg mt).length → cpK sg mt k (q1 ++ q2) = cpK sg mt k q1 ++ q2 := by
  intro k
  induction k with
  | zero => intro _; rfl
  | succ k ih =>
    intro hk
    rw [cpK_succ, cpK_succ, ih (by omega), cpJ_app hI hn (by omega) _ _ (by rw [cpK_len]; exact hq) _ (Nat.le_refl _)]
end
/-- the numbers of the loops -/
def lpL (n k : Nat) : List Int := (List.range k).map fun i : Nat => (n : Int) + (i : Int)
theorem lpL_succ (n k : Nat) : lpL n (k + 1) = lpL n k ++ [(n : Int) + (k : Int)] := by unfold lpL; rw [List.range_succ]; simp
theorem lpL_len (n k : Nat) : (lpL n k).length = k := by simp [lpL]
theorem cpO_app (m n l : Nat) (q1 : List Int) (hq : q1.length = m) : ∀ k, k ≤ l → cpO m n k (q1 ++ List.replicate l 0) = q1 ++ lpL n k ++ List.replicate (l - k) 0 := by
  intro k
  induction k with
  | zero => intro _; simp [cpO, lpL]
  | succ k ih =>
    intro hk
    rw [cpO_succ, ih (by omega), List.set_append, if_neg (by simp [lpL_len, hq]), lpL_succ]
    have e : m + k - (q1 ++ lpL n k).length = 0 := by simp [lpL_len, hq]
    rw [e, show l - k = (l - (k + 1)) + 1 by omega, List.replicate_succ, List.set_cons_zero]
    simp
/-- what the reference appends -/
def rcL (sg mt : List Int) (k : Nat) : List Int := cpK sg mt (strandsL sg mt).length (List.replicate (arC sg mt) 0) ++ lpL (strandsL sg mt).length k
theorem rcL_zero (sg mt : List Int) : rcL sg mt 0 = cpK sg mt (strandsL sg mt).length (List.replicate (arC sg mt) 0) := by simp [rcL, lpL]
theorem rcL_succ (sg mt : List Int) (k : Nat) : rcL sg mt (k + 1) = rcL sg mt k ++ [((strandsL sg mt).length : Int) + (k : Int)] := by unfold rcL; rw [lpL_succ, List.append_assoc]
theorem rcL_len (sg mt : List Int) (k : Nat) : (rcL sg mt k).length = arC sg mt + k := by simp [rcL, cpK_len, lpL_len]
theorem cmp_eq {sg mt : List Int} (hI : InvM mt) (hn : mt.length = 4 * sg.length) (l : Nat) : cmpL sg mt l = rcL sg mt l := by
  unfold cmpL rcL
  rw [show List.replicate (arC sg mt + l) (0 : Int) = List.replicate (arC sg mt) 0 ++ List.replicate l 0 by rw [List.replicate_append_replicate], cpK_app hI hn _ _ (by simp) _ (Nat.le_refl _),
    cpO_app _ _ _ _ (by rw [cpK_len]; simp) _ (Nat.le_refl _)]
  simp
theorem cmp_len (sg mt : List Int) (l : Nat) : (cmpL sg mt l).length = arC sg mt + l := by
  unfold cmpL
  rw [cpO_len, cpK_len]
  simp
end Go.Proofs.Ytcjgfncbecbhjaa

