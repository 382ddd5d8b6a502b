/-
  The contract of the closure rowStep of isolate.
-/
import Derived.Test.YteanhbldhaiekaaSmt
import Derived.Test.YteanhbldhaiekaaRes
import Derived.Test.YteanhbldhaiekaaQTail
import Derived.Deep.CutBlock
namespace Go.Proofs.Yteanhbldhaiekaa
open Go.RowKit

theorem MX.heap {w w' : World} {S : Nat → Prop} {P : Option Addr} {bA n c : Nat} {A : Nat → Option Addr} {bs : Nat → Nat} {a : Nat → Nat → Nat} (h : MX w S P bA n c A bs a) (e : w'.heap = w.heap) : MX w' S P bA n c A bs a :=
  h.keep (by rw [e]; exact Nat.le_refl _) fun b _ _ => by rw [e]
theorem Fm.heap {S : Nat → Prop} {a b b' : World} (h : Fm S a b) (e : b'.heap = b.heap) (e1 : b'.os = b.os) (e2 : b'.tape = b.tape) (e3 : b'.output = b.output) : Fm S a b' :=
  ⟨e1.trans h.os, e2.trans h.tape, e3.trans h.output, by rw [e]; exact h.size, fun x hx => by rw [e]; exact h.block x hx⟩
/-- the boxes that the closures of isolate captured -/
structure IB (w : World) (S : Nat → Prop) (b3 b4 b5 bA n k M : Nat) : Prop where
  c3 : w.cell? ⟨b3, 0, none⟩ = some (.slice (some ⟨bA, 0, none⟩) n n)
  c4 : w.cell? ⟨b4, 0, none⟩ = some (.int .i64 k)
  c5 : w.cell? ⟨b5, 0, none⟩ = some (.int .u64 M)
  n3 : ¬ S b3
  n4 : ¬ S b4
  n5 : ¬ S b5
theorem IB.fm {w w' : World} {S : Nat → Prop} {b3 b4 b5 bA n k M : Nat} (h : IB w S b3 b4 b5 bA n k M) (hf : Fm S w w') : IB w' S b3 b4 b5 bA n k M :=
  ⟨(World.cell?_of_block (a := ⟨b3, 0, none⟩) (hf.block b3 h.n3)).trans h.c3, (World.cell?_of_block (a := ⟨b4, 0, none⟩) (hf.block b4 h.n4)).trans h.c4, (World.cell?_of_block (a := ⟨b5, 0, none⟩) (hf.block b5 h.n5)).trans h.c5, h.n3, h.n4, h.n5⟩
/-- the first columns of a subtraction of rows -/
def rbN (M k i t : Nat) (a : Nat → Nat → Nat) (j x y : Nat) : Nat := if x = i ∧ k ≤ y ∧ y < j then subN (a i y) (t * a k y % M) M else a x y
end Go.Proofs.Yteanhbldhaiekaa

