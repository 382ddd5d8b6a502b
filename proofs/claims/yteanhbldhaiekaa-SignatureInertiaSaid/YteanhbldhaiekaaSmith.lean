/-
  The contracts of Smith and Kernel.
-/
import Derived.Test.YteanhbldhaiekaaDR
import Derived.Test.YteanhbldhaiekaaFac
namespace Go.Proofs.Yteanhbldhaiekaa
open Go.RowKit

/-- d are the invariant factors -/
structure SmD (xss : List (List Int)) (d : Nat → Nat) : Prop where
  eq : Eqv xss.length (rowL xss 0) (eI xss) (dgM d)
  ch : Chain d (min xss.length (rowL xss 0))
theorem smD_ex (xss : List (List Int)) : ∃ d, SmD xss d := by
  obtain ⟨d, h1, h2⟩ := smith_ex xss.length (rowL xss 0) (eI xss)
  exact ⟨d, h1, h2⟩
/-- the list of Smith -/
def smL (xss : List (List Int)) (d : Nat → Nat) : List Int := if rkE xss = 0 then (List.range (min xss.length (rowL xss 0))).map fun j => (d j : Int) else []
/-- the error of Kernel; the number of solutions -/
def krE (xss : List (List Int)) (md : Int) : Nat := if IsM xss then if 1 ≤ md ∧ md ≤ 1125899906842624 then if Sml xss then if kerN xss.length (rowL xss 0) (eI xss) md.toNat ≤ 1125899906842624 then 0 else 9 else 9 else 2 else 1
def krV (xss : List (List Int)) (md : Int) : Nat := if krE xss md = 0 then kerN xss.length (rowL xss 0) (eI xss) md.toNat else 0
/-- the numbers that are multiplied -/
def soN (p : Nat) (q : Nat) (d : Nat → Nat) (j : Nat) : Nat := if j < p then Nat.gcd q (d j) else q
theorem ker_soN {xss : List (List Int)} {d : Nat → Nat} (h : SmD xss d) {q : Nat} (hq : 0 < q) : kerN xss.length (rowL xss 0) (eI xss) q = pN (rowL xss 0) (soN (min xss.length (rowL xss 0)) q d) := by
  rw [← ker_eqv hq h.eq, ker_diag hq]
  refine pN_congr fun j hj => ?_
  unfold soN
  by_cases e : j < xss.length
  · rw [if_pos e, if_pos (by omega)]
  · rw [if_neg e, if_neg (by omega)]
theorem soN_pos {p q : Nat} {d : Nat → Nat} (hq : 0 < q) (j : Nat) : 1 ≤ soN p q d j := by
  unfold soN
  split
  · exact Nat.gcd_pos_of_pos_left _ hq
  · exact hq
theorem soN_le {p q : Nat} {d : Nat → Nat} (hq : 0 < q) (j : Nat) : soN p q d j ≤ q := by
  unfold soN
  split
  · exact Nat.le_of_dvd hq (Nat.gcd_dvd_left ..)
  · exact Nat.le_refl _
theorem gi_map_range {p j : Nat} {d : Nat → Nat} (hj : j < p) : gi ((List.range p).map fun j => (d j : Int)) j = d j := by
  rw [gi_lt (by simpa using hj)]; simp
theorem elr_le {n c r : Nat} {m : Mx} {v : Int} {d : Nat → Nat} (h : ElR n c m r v) (he : Eqv n c m (dgM d)) (hd : Chain d (min n c)) {j : Nat} (hj : j < min n c) : d j ≤ bndM n c m := by
  obtain ⟨h1, h2⟩ := elr_fac h he hd
  by_cases hjr : j < r
  · exact Nat.le_trans (Nat.le_of_dvd (Int.natAbs_pos.2 h.nz) (h1 j hjr)) h.bd
  · rw [h2 j (by omega) hj]; exact Nat.zero_le _
end Go.Proofs.Yteanhbldhaiekaa

