/-
  The contract of diagram.Graph.
-/
import Derived.Test.YtcjgfncbecbhjaaGraphM
import Derived.Test.YtcjgfncbecbhjaaComp
namespace Go.Proofs.Ytcjgfncbecbhjaa
open Go.RowKit

/-- what the groups hold when k crossings are shared out -/
def grpL (mt : List Int) (n q k : Nat) : List (List Int) := (List.range q).map fun p => ints (membP mt n p k)
theorem grpL_length (mt : List Int) (n q k : Nat) : (grpL mt n q k).length = q := by simp [grpL]
theorem grpL_getD {mt : List Int} {n q k p : Nat} (hp : p < q) : (grpL mt n q k).getD p [] = ints (membP mt n p k) := by simp [grpL, hp]
theorem grpL_zero (mt : List Int) (n q : Nat) : grpL mt n q 0 = List.replicate q [] := by
  apply List.ext_getElem
  · simp [grpL]
  · intro i h1 h2
    simp [grpL, membP, ints]
theorem grpL_step {mt : List Int} {n q k : Nat} (hp : idxAt mt n (labAt mt n k) < q) :
    (grpL mt n q k).set (idxAt mt n (labAt mt n k)) ((grpL mt n q k).getD (idxAt mt n (labAt mt n k)) [] ++ [(k : Int)]) = grpL mt n q (k + 1) := by
  rw [grpL_getD hp]
  apply List.ext_getElem
  · simp [grpL]
  · intro i h1 h2
    rw [grpL_length] at h2
    by_cases e : i = idxAt mt n (labAt mt n k)
    · subst e
      rw [List.getElem_set_self]
      simp only [grpL, List.getElem_map, List.getElem_range]
      rw [membP_succ, if_pos rfl, ints_append]
      rfl
    · rw [List.getElem_set_ne (fun e' => e e'.symm)]
      simp only [grpL, List.getElem_map, List.getElem_range]
      rw [membP_succ, if_neg (fun e' => e e'.symm), List.append_nil]
theorem grpL_end {mt : List Int} (hI : InvM mt) {n : Nat} (hn : mt.length = 4 * n) : grpL mt n (idxAt mt n n) n = rows (graphL mt n) := by
  rw [← graphL_idx hI hn]
  unfold grpL rows
  rw [List.map_map]
  rfl

section
variable (A1 A2 : Option Addr) (c1 c2 : Nat) (sg mt : List Int) (L : Int) (w : World) (S : Nat → Prop) (hx : RI w S A1 sg) (hy : RI w S A2 mt) (hS : ∀ b, S b → b < w.heap.size)
include hx hy hS

end
end Go.Proofs.Ytcjgfncbecbhjaa

