/-
  The contract of isolate.
-/
import Derived.Test.YteanhbldhaiekaaIsoP
import Derived.Test.YteanhbldhaiekaaCol
namespace Go.Proofs.Yteanhbldhaiekaa
open Go.RowKit

/-- what was there is kept but for blocks of S -/
structure Gm (S : Nat → Prop) (w w' : World) : Prop where
  os : w'.os = w.os
  tape : w'.tape = w.tape
  output : w'.output = w.output
  size : w.heap.size ≤ w'.heap.size
  block : ∀ b, b < w.heap.size → ¬ S b → w'.heap[b]? = w.heap[b]?
theorem Gm.refl (S : Nat → Prop) (w : World) : Gm S w w := ⟨rfl, rfl, rfl, Nat.le_refl _, fun _ _ _ => rfl⟩
theorem Gm.trans {S : Nat → Prop} {a b c : World} (h : Gm S a b) (k : Gm S b c) : Gm S a c :=
  ⟨k.os.trans h.os, k.tape.trans h.tape, k.output.trans h.output, Nat.le_trans h.size k.size, fun x hx hs => (k.block x (Nat.lt_of_lt_of_le hx h.size) hs).trans (h.block x hx hs)⟩
theorem Gm.of {S : Nat → Prop} {a b : World} (h : Fm S a b) : Gm S a b := ⟨h.os, h.tape, h.output, Nat.le_of_eq h.size.symm, fun x _ hs => h.block x hs⟩
theorem Gm.alloc (S : Nat → Prop) (w : World) (o : Obj) : Gm S w (w.alloc o) := ⟨rfl, rfl, rfl, by simp, fun b hb _ => Below.heap_alloc w o b hb⟩
theorem Gm.drewN {S : Nat → Prop} {a b : World} (h : Gm S a b) (n : Nat) : Gm S a (b.drewN n) := ⟨h.os, h.tape, h.output, h.size, h.block⟩
theorem Gm.below {S : Nat → Prop} {a b : World} (h : Gm S a b) {B : Nat} (hB : B ≤ a.heap.size) (hS : ∀ x, S x → B ≤ x) : Below B a b :=
  ⟨h.os, h.tape, h.output, h.size, fun k hk => h.block k (by omega) fun hs => by have := hS k hs; omega⟩
/-- the diagonal before k is kept -/
def Ke (k : Nat) (a0 a : Nat → Nat → Nat) : Prop := ∀ x, x < k → a x x = a0 x x
theorem Ke.row {M k i : Nat} {a0 a : Nat → Nat → Nat} (h : Ke k a0 a) (hi : k < i) : Ke k a0 (rsN M k i a) := fun x hx => by
  rw [← h x hx]
  unfold rsN rsB
  rw [if_neg (by omega)]
  unfold rsA
  split
  · rfl
  · rw [xg_o (by omega) (by omega)]
theorem Ke.col {M k j : Nat} {a0 a : Nat → Nat → Nat} (h : Ke k a0 a) : Ke k a0 (csN M k j a) := fun x hx => by
  rw [← h x hx]
  unfold csN csB
  rw [if_neg (by omega)]
  unfold csA
  split
  · rfl
  · rw [if_neg (by omega)]
/-- the matrix in the world of a round -/
def IS (W wr : World) (S : Nat → Prop) (bA n c k : Nat) (a0 a : Nat → Nat → Nat) : Prop := (∃ A bs, MX wr S (some ⟨bA, 0, none⟩) bA n c A bs a) ∧ Fm S W wr ∧ Ke k a0 a
theorem IS.drewN {W wr : World} {S : Nat → Prop} {bA n c k : Nat} {a0 a : Nat → Nat → Nat} (h : IS W wr S bA n c k a0 a) (q : Nat) : IS W (wr.drewN q) S bA n c k a0 a := by
  obtain ⟨⟨A, bs, h1⟩, h2, h3⟩ := h
  exact ⟨⟨A, bs, h1.drewN q⟩, h2.drewN q, h3⟩
theorem IS.row {W wr w' : World} {S : Nat → Prop} {bA n c k M i : Nat} {a0 a : Nat → Nat → Nat} (h : IS W wr S bA n c k a0 a) (h1 : ∃ A' bs', MX w' S (some ⟨bA, 0, none⟩) bA n c A' bs' (rsN M k i a)) (h2 : Fm S wr w') (hi : k < i) : IS W w' S bA n c k a0 (rsN M k i a) :=
  ⟨h1, h.2.1.trans h2, h.2.2.row hi⟩
theorem IS.col {W wr w' : World} {S : Nat → Prop} {bA n c k M j : Nat} {a0 a : Nat → Nat → Nat} (h : IS W wr S bA n c k a0 a) (h1 : ∃ A' bs', MX w' S (some ⟨bA, 0, none⟩) bA n c A' bs' (csN M k j a)) (h2 : Fm S wr w') : IS W w' S bA n c k a0 (csN M k j a) :=
  ⟨h1, h.2.1.trans h2, h.2.2.col⟩
end Go.Proofs.Yteanhbldhaiekaa

