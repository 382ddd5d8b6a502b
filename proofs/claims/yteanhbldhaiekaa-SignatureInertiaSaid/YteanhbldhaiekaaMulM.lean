/-
  A matrix of ints of the call's own; the product in plain numbers.
-/
import Derived.Test.YteanhbldhaiekaaL26
namespace Go.Proofs.Yteanhbldhaiekaa
open Go.RowKit

/-- a matrix of ints in blocks from B on: n rows, c columns -/
structure MI (w : World) (B : Nat) (bA n c : Nat) (bs : Nat → Nat) (a : Nat → Nat → Int) : Prop where
  hd : ∀ i, i < n → w.cell? ⟨bA, i, none⟩ = some (.slice (some ⟨bs i, 0, none⟩) c c)
  ad : ∀ i, i < n → B ≤ bs i ∧ bs i < w.heap.size ∧ bs i ≠ bA
  ij : ∀ i k, i < n → k < n → bs i = bs k → i = k
  en : ∀ i j, i < n → j < c → w.cell? ⟨bs i, j, none⟩ = some (.int .i64 (a i j))
  fr : ∀ i j, i < n → j < c → w.frozen? ⟨bs i, j, none⟩ = false
section
variable {w w' : World} {B bA n c : Nat} {bs : Nat → Nat} {a : Nat → Nat → Int}
theorem MI.keep (h : MI w B bA n c bs a) (hA : B ≤ bA) (hs : w.heap.size ≤ w'.heap.size) (hAl : bA < w.heap.size) (hk : ∀ b, B ≤ b → b < w.heap.size → w'.heap[b]? = w.heap[b]?) : MI w' B bA n c bs a :=
  ⟨fun i hi => (World.cell?_of_block (a := ⟨bA, i, none⟩) (hk _ hA hAl)).trans (h.hd i hi),
   fun i hi => by obtain ⟨h1, h2, h3⟩ := h.ad i hi; exact ⟨h1, by omega, h3⟩, h.ij,
   fun i j hi hj => by obtain ⟨h1, h2, h3⟩ := h.ad i hi; exact (World.cell?_of_block (a := ⟨bs i, j, none⟩) (hk _ h1 h2)).trans (h.en i j hi hj),
   fun i j hi hj => by obtain ⟨h1, h2, h3⟩ := h.ad i hi; exact (World.frozen?_of_block (a := ⟨bs i, j, none⟩) (hk _ h1 h2)).trans (h.fr i j hi hj)⟩
theorem MI.heap (h : MI w B bA n c bs a) (e : w'.heap = w.heap) : MI w' B bA n c bs a :=
  ⟨fun i hi => (World.cell?_of_block (a := ⟨bA, i, none⟩) (by rw [e])).trans (h.hd i hi), fun i hi => by rw [e]; exact h.ad i hi, h.ij,
   fun i j hi hj => (World.cell?_of_block (a := ⟨bs i, j, none⟩) (by rw [e])).trans (h.en i j hi hj), fun i j hi hj => (World.frozen?_of_block (a := ⟨bs i, j, none⟩) (by rw [e])).trans (h.fr i j hi hj)⟩
theorem MI.congr {b : Nat → Nat → Int} (h : MI w B bA n c bs a) (he : ∀ i j, i < n → j < c → a i j = b i j) : MI w B bA n c bs b :=
  ⟨h.hd, h.ad, h.ij, fun i j hi hj => by rw [← he i j hi hj]; exact h.en i j hi hj, h.fr⟩
theorem MI.zero (w : World) (B bA c : Nat) : MI w B bA 0 c (fun _ => 0) (fun _ _ => 0) :=
  ⟨fun i hi => by omega, fun i hi => by omega, fun i k hi => by omega, fun i j hi => by omega, fun i j hi => by omega⟩
theorem MI.store (h : MI w B bA n c bs a) {i j : Nat} (hi : i < n) (hj : j < c) (v : Int) :
    MI (w.setCell ⟨bs i, j, none⟩ (.int .i64 v)) B bA n c bs (fun x y => if x = i ∧ y = j then v else a x y) := by
  obtain ⟨h1, h2, h3⟩ := h.ad i hi
  refine ⟨fun x hx => ?_, fun x hx => ?_, h.ij, fun x y hx hy => ?_, fun x y hx hy => ?_⟩
  · rw [set_other (by intro e; injection e with e; exact h3 e)]; exact h.hd x hx
  · rw [World.size_setCell]; exact h.ad x hx
  · by_cases e : x = i ∧ y = j
    · obtain ⟨rfl, rfl⟩ := e
      rw [if_pos ⟨rfl, rfl⟩]
      exact set_same (h.en x y hi hj)
    · rw [if_neg e, set_other]
      · exact h.en x y hx hy
      · intro e2
        injection e2 with e3 e4
        exact e ⟨h.ij x i hx hi e3.symm, e4.symm⟩
  · rw [World.frozen?_setCell]; exact h.fr x y hx hy
theorem MI.push (h : MI w B bA n c bs a) (hB : B ≤ w.heap.size) (hA : bA < w.heap.size) {v : Value} (hc : w.cell? ⟨bA, n, none⟩ = some v) :
    MI ((w.alloc (.cells (List.replicate c (Value.int .i64 0)).toArray 3)).setCell ⟨bA, n, none⟩ (.slice (some ⟨w.heap.size, 0, none⟩) c c)) B bA (n + 1) c (up bs n w.heap.size) (up a n fun _ => 0) := by
  have hne : w.heap.size ≠ bA := by omega
  have old : ∀ b, b < w.heap.size → ∀ j, (w.alloc (.cells (List.replicate c (Value.int .i64 0)).toArray 3)).cell? ⟨b, j, none⟩ = w.cell? ⟨b, j, none⟩ := fun b hb j => World.cell?_of_block (a := ⟨b, j, none⟩) (Below.heap_alloc w _ b hb)
  refine ⟨fun x hx => ?_, fun x hx => ?_, fun x y hx hy e => ?_, fun x y hx hy => ?_, fun x y hx hy => ?_⟩
  · unfold up
    by_cases e : x = n
    · subst e
      rw [if_pos rfl]
      exact set_same ((old bA hA x).trans hc)
    · rw [if_neg e, set_other (by intro e2; injection e2 with _ e2; exact e e2.symm), old bA hA x]
      exact h.hd x (by omega)
  · rw [World.size_setCell]
    unfold up
    split
    · exact ⟨hB, by simp, hne⟩
    · obtain ⟨h1, h2, h3⟩ := h.ad x (by omega)
      exact ⟨h1, by simp; omega, h3⟩
  · unfold up at e
    split at e <;> split at e
    · omega
    · obtain ⟨h1, h2, h3⟩ := h.ad y (by omega); omega
    · obtain ⟨h1, h2, h3⟩ := h.ad x (by omega); omega
    · exact h.ij x y (by omega) (by omega) e
  · unfold up
    by_cases e : x = n
    · rw [if_pos e, if_pos e, set_other (by intro e2; injection e2 with e2; exact hne e2.symm)]
      exact (cell_rep hy).1
    · obtain ⟨h1, h2, h3⟩ := h.ad x (by omega)
      rw [if_neg e, if_neg e, set_other (by intro e2; injection e2 with e2; exact h3 e2.symm), old _ h2]
      exact h.en x y (by omega) hy
  · rw [World.frozen?_setCell]
    unfold up
    by_cases e : x = n
    · rw [if_pos e]
      exact (cell_rep hy).2
    · obtain ⟨h1, h2, h3⟩ := h.ad x (by omega)
      rw [if_neg e]
      exact (World.frozen?_of_block (a := ⟨bs x, y, none⟩) (Below.heap_alloc w _ _ h2)).trans (h.fr x y (by omega) hy)
end
/-- the list of a matrix in numbers -/
def mkL (n c : Nat) (a : Nat → Nat → Int) : List (List Int) := (List.range n).map fun i => (List.range c).map fun j => a i j
theorem mkL_len (n c : Nat) (a : Nat → Nat → Int) : (mkL n c a).length = n := by simp [mkL]
theorem mkL_row {n c i : Nat} {a : Nat → Nat → Int} (hi : i < n) : (mkL n c a).getD i [] = (List.range c).map fun j => a i j := by simp [mkL, hi]
theorem mkL_rowL {n c i : Nat} {a : Nat → Nat → Int} (hi : i < n) : rowL (mkL n c a) i = c := by unfold rowL; rw [mkL_row hi]; simp
theorem mkL_eI {n c i j : Nat} {a : Nat → Nat → Int} (hi : i < n) (hj : j < c) : eI (mkL n c a) i j = a i j := by
  unfold eI
  rw [mkL_row hi, gi_lt (by simpa using hj)]
  simp
theorem mkL_IsM {n c : Nat} {a : Nat → Nat → Int} (hn : n ≤ 64) (hc : c ≤ 64) : IsM (mkL n c a) := by
  refine ⟨fun i hi => ?_, by rw [mkL_len]; exact hn, ?_⟩
  · rw [mkL_len] at hi
    rw [mkL_rowL hi, mkL_rowL (by omega)]
  · rcases Nat.eq_zero_or_pos n with h | h
    · rw [rowL_nil (by rw [mkL_len]; exact h)]; omega
    · rw [mkL_rowL h]; exact hc
theorem MI.am {w : World} {B bA n c : Nat} {bs : Nat → Nat} {a : Nat → Nat → Int} (h : MI w B bA n c bs a) (hA : bA < w.heap.size) (hn : n ≤ maxLen) (hc : c ≤ maxLen) (hb : ∀ i j, i < n → j < c → -9223372036854775808 ≤ a i j ∧ a i j ≤ 9223372036854775807) :
    AM w (some ⟨bA, 0, none⟩) n (mkL n c a) := by
  refine ⟨fun _ => ⟨bA, 0, rfl, hA, fun k hk => ?_⟩, mkL_len _ _ _, hn, fun i j hi hj => ?_⟩
  · rw [mkL_len] at hk
    rw [mkL_row hk]
    refine ⟨some ⟨bs k, 0, none⟩, c, by rw [Nat.zero_add]; simpa using h.hd k hk, fun _ => ⟨bs k, 0, rfl, (h.ad k hk).2.1, fun j hj => ?_⟩, by simpa using hc⟩
    have hj' : j < c := by simpa using hj
    rw [Nat.zero_add, h.en k j hk hj', gi_lt hj]
    simp
  · rw [mkL_rowL hi] at hj
    rw [mkL_eI hi hj]
    exact hb i j hi hj
/-- the product; its weights; the error of Mul -/
def prM (a b : List (List Int)) : Nat → Nat → Int := fun i k => sI b.length fun j => eI a i j * eI b j k
def wtN (a b : List (List Int)) (i k l : Nat) : Nat := sN l fun j => (eI a i j).natAbs * (eI b j k).natAbs
def Sm1 (a : List (List Int)) : Prop := ∀ i, i < a.length → ∀ j, j < rowL a i → (eI a i j).natAbs ≤ 1125899906842624
def Wt1 (a b : List (List Int)) : Prop := ∀ i, i < a.length → ∀ k, k < rowL b 0 → wtN a b i k b.length ≤ 1125899906842624
instance (a : List (List Int)) : Decidable (Sm1 a) := by unfold Sm1; infer_instance
instance (a b : List (List Int)) : Decidable (Wt1 a b) := by unfold Wt1; infer_instance
def mlE (a b : List (List Int)) : Nat := if IsM a ∧ IsM b ∧ rowL a 0 = b.length then if (Sm1 a ∧ Sm1 b) ∧ Wt1 a b then 0 else 9 else 1
def mlL (a b : List (List Int)) : List (List Int) := if mlE a b = 0 then mkL a.length (rowL b 0) (prM a b) else []
theorem pr_le (a b : List (List Int)) (i k : Nat) : ∀ l, (sI l fun j => eI a i j * eI b j k).natAbs ≤ wtN a b i k l
  | 0 => Nat.le_refl _
  | l + 1 => by
    show ((sI l fun j => eI a i j * eI b j k) + eI a i l * eI b l k).natAbs ≤ wtN a b i k l + (eI a i l).natAbs * (eI b l k).natAbs
    have h1 := pr_le a b i k l
    have h2 := Int.natAbs_add_le (sI l fun j => eI a i j * eI b j k) (eI a i l * eI b l k)
    rw [Int.natAbs_mul] at h2
    omega
end Go.Proofs.Yteanhbldhaiekaa

