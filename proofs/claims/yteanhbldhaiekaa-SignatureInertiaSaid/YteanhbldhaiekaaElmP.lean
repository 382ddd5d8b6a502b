/-
  Small laws between the elimination's walk and its plain theory.
-/
import Derived.Test.YteanhbldhaiekaaElim
import Derived.Test.YteanhbldhaiekaaFnd
namespace Go.Proofs.Yteanhbldhaiekaa
open Go.RowKit

theorem xg_swn (i k x : Nat) : xg i k x = swn i k x := rfl
theorem El.swap {n c r i j : Nat} {m : Mx} {a : Nat → Nat → Nat} {z : Int} (h : El n c m r a z) (hi : r ≤ i ∧ i < n) (hj : r ≤ j ∧ j < c) : El n c m r (fun x y => a (xg i r x) (xg j r y)) (if b1 i r + b1 j r = 1 then -z else z) := by
  unfold b1
  by_cases e1 : i = r
  · subst e1
    rw [if_pos rfl, xg_self]
    by_cases e2 : j = i
    · subst e2
      rw [if_pos rfl, xg_self, if_neg (by omega)]
      exact h
    · rw [if_neg e2, if_pos (by omega)]
      exact h.csw hj.1 hj.2 e2
  · rw [if_neg e1]
    by_cases e2 : j = r
    · subst e2
      rw [if_pos rfl, xg_self, if_pos (by omega)]
      exact h.rsw hi.1 hi.2 e1
    · rw [if_neg e2, if_neg (by omega)]
      have := (h.rsw hi.1 hi.2 e1).csw hj.1 hj.2 e2
      rwa [Int.neg_neg] at this
/-- the minor behind a round -/
def miN (ex mi p : Nat) : Nat := if ex = 1 then subN 0 (mi * p % PM) PM else mi * p % PM
theorem miN_lt (ex mi p : Nat) : miN ex mi p < PM := by
  unfold miN
  split
  · exact subN_lt (by decide) (Nat.mod_lt _ (by decide))
  · exact Nat.mod_lt _ (by decide)
theorem miN_mod {ex mi p : Nat} {z : Int} (h : (PM : Int) ∣ (mi : Int) - z) : (PM : Int) ∣ (miN ex mi p : Int) - (if ex = 1 then -z else z) * (p : Int) := by
  have e1 := dvd_mod PM (mi * p)
  have e2 := Int.dvd_mul_of_dvd_right (b := (p : Int)) h
  rw [Int.mul_sub, Int.mul_comm, Int.mul_comm (p : Int) z] at e2
  rw [Int.natCast_mul] at e1
  unfold miN
  by_cases e : ex = 1
  · rw [if_pos e, if_pos e, Int.neg_mul]
    have e3 := subN_eq (show 0 < PM by decide) (Nat.mod_lt (mi * p) (show 0 < PM by decide))
    generalize ((mi * p % PM : Nat) : Int) = u at e1 e3
    generalize (mi : Int) * (p : Int) = v at e1 e2
    generalize z * (p : Int) = t at e2 ⊢
    generalize ((subN 0 (mi * p % PM) PM : Nat) : Int) = x at e3 ⊢
    have := Int.dvd_sub (Int.dvd_sub e1 e3) e2
    rw [show v - u - (((0 : Nat) : Int) - u - x) - (v - t) = x - -t by omega] at this
    exact this
  · rw [if_neg e, if_neg e]
    generalize ((mi * p % PM : Nat) : Int) = u at e1 ⊢
    generalize (mi : Int) * (p : Int) = v at e1 e2
    generalize z * (p : Int) = t at e2 ⊢
    have := Int.dvd_sub e2 e1
    rwa [show v - t - (v - u) = u - t by omega] at this
theorem rs_lt {m : Nat} (hm : 0 < m) (x : Int) : rs m x < m := by
  unfold rs
  split
  · exact subN_lt hm (Nat.mod_lt _ hm)
  · exact Nat.mod_lt _ hm
theorem rs_mod {m : Nat} (hm : 0 < m) (x : Int) : (m : Int) ∣ (rs m x : Int) - x := by
  have e1 := dvd_mod m x.natAbs
  unfold rs
  split
  · have e3 := subN_eq hm (Nat.mod_lt x.natAbs hm)
    generalize ((x.natAbs % m : Nat) : Int) = u at e1 e3
    generalize ((subN 0 (x.natAbs % m) m : Nat) : Int) = y at e3 ⊢
    have := Int.dvd_sub e1 e3
    rw [show ((x.natAbs : Nat) : Int) - u - (((0 : Nat) : Int) - u - y) = y - x by omega] at this
    exact this
  · have := Int.dvd_neg.2 e1
    rwa [show -(((x.natAbs : Nat) : Int) - ((x.natAbs % m : Nat) : Int)) = ((x.natAbs % m : Nat) : Int) - x by omega] at this
theorem MX.cap {w : World} {N bA n c : Nat} {P : Option Addr} {A : Nat → Option Addr} {bs : Nat → Nat} {a : Nat → Nat → Nat} (h : MX w (fun b => N ≤ b) P bA n c A bs a) : MX w (fun b => N ≤ b ∧ b < w.heap.size) P bA n c A bs a :=
  ⟨fun hn => ⟨(h.top hn).1, ⟨(h.top hn).2.1, (h.top hn).2.2⟩, (h.top hn).2.2⟩, h.hd, h.fz, fun i hi hc => ⟨(h.ad i hi hc).1, ⟨(h.ad i hi hc).2.1, (h.ad i hi hc).2.2.1⟩, (h.ad i hi hc).2.2⟩, h.ij, h.en, h.fr⟩
end Go.Proofs.Yteanhbldhaiekaa

