/-
  A region that reads and calls quietly, the callees drawing, ahead of its last operations, which are in order: one walk.
  The contract of the closure rowStep of isolate.
  The contract of the closure columnStep of isolate.
  The contract of isolate.
-/
import Derived.Test.YteanhbldhaiekaaZ10
import Derived.Test.YteanhbldhaiekaaZ13
import Derived.Test.YteanhbldhaiekaaZ11
import Derived.StillTail
import Derived.Deep.Quiet
import Derived.Deep.CutBlock
namespace Go
section
variable {P : Program} {ops : Array Oper} {md : Region.Mode} {C : World → Prop}

/-- the first n operations in whatever order -/
def qtAny (P : Program) (md : Region.Mode) (ops : Array Oper) (C : World → Prop) (n : Nat) (L : Array Bool → Act → Prop) : Nat → Array Bool → Act → Prop
  | 0, listed, a => L listed a
  | f + 1, listed, a => Region.ready md ops listed ≠ [] ∧ ∀ i ∈ Region.ready md ops listed, i < n ∧ qOp P ops C i (qtAny P md ops C n L f (listed.setIfInBounds i true)) a
theorem qt_head {n g : Nat} {L : Array Bool → Act → Prop} {Q' : Exit → Act → World → Prop} (hL : ∀ listed a w, C w → L listed a → wpAny P md ops Q' g listed a w) :
    ∀ (f : Nat) (listed : Array Bool) (a : Act) (w : World), C w → qtAny P md ops C n L f listed a → wpAny P md ops Q' (f + g) listed a w
  | 0, listed, a, w, hw, h => by rw [Nat.zero_add]; exact hL _ _ _ hw h
  | f + 1, listed, a, w, hw, h => by
    rw [show f + 1 + g = (f + g) + 1 by omega]
    exact ⟨fun h0 => absurd h0 h.1, fun i hi => wpOp_of_qOp hw (fun a' w' hw' h' => qt_head hL f _ a' w' hw' h') (h.2 i hi).2⟩
theorem qt_first {n i : Nat} {oi : Oper} {v : Value} {L : Array Bool → Act → Prop} (hi : ops[i]? = some oi) (hsel : ∀ (j : Nat) (o : Oper) cs b, ops[j]? = some o → o.op ≠ .select cs b)
    (hs : Region.sinkB md ops n = true) (hc : Region.chainB md ops n = true) (hn : n < ops.size) (hin : i < n) (hdone : ∀ listed a, L listed a → ∀ j ∈ Region.ready md ops listed, n ≤ j) :
    ∀ (f : Nat) (listed : Array Bool) (a : Act), HeadInv md ops n listed →
      (∀ j oj, ops[j]? = some oj → j ≠ i → listed.getD j true = false → (∀ e ∈ oj.after, Region.binds md e = true → e.on ≠ i) → oi.apart ops oj = true) →
      i ∈ Region.ready md ops listed → YieldsIn P ops C oi v a →
      qtAny P md ops C n L f (listed.setIfInBounds i true) (a.put oi.dst v) → qtAny P md ops C n L (f + 1) listed a := by
  intro f
  induction f with
  | zero =>
    intro listed a inv _ hr hy H
    have hun := (mem_ready.1 hr).1
    refine ⟨fun h => (by rw [h] at hr; cases hr), fun j hj => ?_⟩
    have hjn : j < n := Nat.lt_of_not_le fun h => tail_waits hs hc hn inv _ i rfl hin hun j h hj
    refine ⟨hjn, ?_⟩
    by_cases hji : j = i
    · subst hji; exact hy.qOp hi H
    · have := hdone _ _ H j (ready_mono hj hji)
      omega
  | succ f ih =>
    intro listed a inv hfree hr hy H
    have hun := (mem_ready.1 hr).1
    refine ⟨fun h => (by rw [h] at hr; cases hr), fun j hj => ?_⟩
    have hjn : j < n := Nat.lt_of_not_le fun h => tail_waits hs hc hn inv _ i rfl hin hun j h hj
    refine ⟨hjn, ?_⟩
    by_cases hji : j = i
    · subst hji; exact hy.qOp hi H
    · have h1 := (H.2 j (ready_mono hj hji)).2
      obtain ⟨hjun, oj, hoj, hall⟩ := mem_ready.1 hj
      have hnot : ∀ e ∈ oj.after, Region.binds md e = true → e.on ≠ i := fun e he hb heq => by
        have h1 := hall e he hb
        rw [heq, getD_both hun] at h1
        cases h1
      have h2 := qOp_put hoj (hfree j oj hoj hji hjun hnot) (fun cs b => hsel i oi cs b hi) (fun cs b => hsel j oj cs b hoj) hy h1
      have hfree' : ∀ k ok, ops[k]? = some ok → k ≠ i → (listed.setIfInBounds j true).getD k true = false →
          (∀ e ∈ ok.after, Region.binds md e = true → e.on ≠ i) → oi.apart ops ok = true := fun k ok hk hki hun hno => by
        refine hfree k ok hk hki ?_ hno
        by_cases hjk : j = k
        · subst hjk; exact hjun
        · rw [getD_set_ne true hjk] at hun; exact hun
      refine qOp_mono (fun a' h3 => ih (listed.setIfInBounds j true) a' (inv.set hj hjn) hfree' (ready_mono hr (Ne.symm hji)) h3.1 ?_) h2
      rw [Array.setIfInBounds_comm _ _ hji]
      exact h3.2
theorem qt_lex {n g : Nat} {Lq : Act → Prop} (hsel : Region.noSelect ops = true) (hs : Region.sinkB md ops n = true) (hc : Region.chainB md ops n = true) (hn : n < ops.size) :
    ∀ (l : List Oper) (k : Nat) (listed : Array Bool) (a : Act), (∀ j, j < l.length → l[j]? = ops[k + j]?) → k + l.length = n → HeadInv md ops n listed →
    Region.lexHead md ops g l.length k listed = true → wpQuiet P ops C Lq l a →
    qtAny P md ops C n (fun listed' a' => Region.seqB md ops g n listed' = true ∧ Lq a') l.length listed a
  | [], k, listed, a, _, hk, _, hB, h => by
    obtain rfl : k = n := by simpa using hk
    exact ⟨by simpa [Region.lexHead] using hB, h⟩
  | o :: l, k, listed, a, hl, hk, inv, hB, h => by
    have h0 : ops[k]? = some o := by simpa using (hl 0 (by simp)).symm
    simp only [List.length_cons, Region.lexHead, Bool.and_eq_true] at hB
    obtain ⟨⟨hr, hf⟩, hB'⟩ := hB
    have hkn : k < n := by simp only [List.length_cons] at hk; omega
    have hr' : k ∈ Region.ready md ops listed := by simpa using hr
    have hst : qOp P ops C k (wpQuiet P ops C Lq l) a := by unfold qOp; simp only [h0]; exact h
    obtain ⟨v, hy, hK⟩ := yieldsIn_of_qOp h0 hst
    exact qt_first h0 (Region.noSelect_spec hsel) hs hc hn hkn (fun listed' a' hL => seqB_ready hL.1) l.length listed a inv (Region.free_spec h0 hf) hr' hy
      (qt_lex hsel hs hc hn l (k + 1) _ _ (fun j hj => by have := hl (j + 1) (by simp; omega); simpa [Nat.add_assoc, Nat.add_comm 1 j] using this) (by simp only [List.length_cons] at hk; omega) (inv.set hr' hkn) hB' hK)
theorem region_quiet_tail {id : Nat} {Q : Exit → Act → World → Prop} {a : Act} {w : World} {l : List Oper} (n : Nat) (hm : P.follows .mixedOrders = true) (hB : Region.lexTailB .any l.toArray n = true)
    (h : wpQuiet P l.toArray (fun w' => ∃ n, w' = w.drewN n) (fun a' => ∀ w', (∃ n, w' = w.drewN n) → wpList P l.toArray Q (l.drop n) a' w') (l.take n) a) : (Code.region id l.toArray true).wp P Q a w := by
  simp only [Region.lexTailB, Bool.and_eq_true, decide_eq_true_eq] at hB
  obtain ⟨⟨⟨⟨hsel, hn⟩, hs⟩, hc⟩, hlex⟩ := hB
  have hn' : n < l.length := by simpa using hn
  have htl : (l.take n).length = n := by simp; omega
  have hdl : (l.drop n).length = l.toArray.size - n := by simp
  have inv0 : HeadInv .any l.toArray n (Array.replicate l.toArray.size false) :=
    ⟨by simp, fun j oj _ hl => (by rw [getD_replicate_false] at hl; cases hl), fun t _ ht => getD_in (by simpa using ht) (getD_replicate_false _ _)⟩
  have H := qt_lex (md := .any) (g := l.toArray.size - n) hsel hs hc hn (l.take n) 0 _ a (fun j hj => by
    have hj' : j < n := by rw [htl] at hj; exact hj
    simp [hj']) (by simpa using htl) inv0 (by rw [htl]; exact hlex) h
  refine wp_region_any hm ?_
  have := qt_head (Q' := Q) (C := fun w' => ∃ n, w' = w.drewN n) (g := l.toArray.size - n) (fun listed a' w' hw' hL => by
    have := wpAny_of_seq (P := P) (Q' := Q) (l.drop n) n listed a' w' (fun j => by simp) (by rw [hdl]; exact hL.1) (hL.2 w' hw')
    rwa [hdl] at this) (l.take n).length _ a _ ⟨1, rfl⟩ H
  rw [htl, show n + (l.toArray.size - n) = l.toArray.size by omega] at this
  exact this
end
end Go
namespace Go.Proofs.Yteanhbldhaiekaa
open Go.RowKit

theorem MX.heap {w w' : World} {S : Nat → Prop} {P : Option Addr} {bA n c : Nat} {A : Nat → Option Addr} {bs : Nat → Nat} {a : Nat → Nat → Nat} (h : MX w S P bA n c A bs a) (e : w'.heap = w.heap) : MX w' S P bA n c A bs a :=
  h.keep (by rw [e]; exact Nat.le_refl _) fun b _ _ => by rw [e]
theorem Fm.heap {S : Nat → Prop} {a b b' : World} (h : Fm S a b) (e : b'.heap = b.heap) (e1 : b'.os = b.os) (e2 : b'.tape = b.tape) (e3 : b'.output = b.output) : Fm S a b' :=
  ⟨e1.trans h.os, e2.trans h.tape, e3.trans h.output, by rw [e]; exact h.size, fun x hx => by rw [e]; exact h.block x hx⟩
/-- the boxes that the closures of isolate captured -/
structure IB (w : World) (S : Nat → Prop) (b3 b4 b5 bA n k M : Nat) : Prop where
  c3 : w.cell? ⟨b3, 0, none⟩ = some (.slice (some ⟨bA, 0, none⟩) n n)
  c4 : w.cell? ⟨b4, 0, none⟩ = some (.int .i64 k)
  c5 : w.cell? ⟨b5, 0, none⟩ = some (.int .u64 M)
  n3 : ¬ S b3
  n4 : ¬ S b4
  n5 : ¬ S b5
theorem IB.fm {w w' : World} {S : Nat → Prop} {b3 b4 b5 bA n k M : Nat} (h : IB w S b3 b4 b5 bA n k M) (hf : Fm S w w') : IB w' S b3 b4 b5 bA n k M :=
  ⟨(World.cell?_of_block (a := ⟨b3, 0, none⟩) (hf.block b3 h.n3)).trans h.c3, (World.cell?_of_block (a := ⟨b4, 0, none⟩) (hf.block b4 h.n4)).trans h.c4, (World.cell?_of_block (a := ⟨b5, 0, none⟩) (hf.block b5 h.n5)).trans h.c5, h.n3, h.n4, h.n5⟩
/-- the first columns of a subtraction of rows -/
def rbN (M k i t : Nat) (a : Nat → Nat → Nat) (j x y : Nat) : Nat := if x = i ∧ k ≤ y ∧ y < j then subN (a i y) (t * a k y % M) M else a x y
end Go.Proofs.Yteanhbldhaiekaa
namespace Go.Proofs.Yteanhbldhaiekaa
open Go.RowKit

/-- the first rows of an exchange of columns; of a subtraction of columns -/
def cxN (k j : Nat) (a : Nat → Nat → Nat) (r x y : Nat) : Nat := if k ≤ x ∧ x < r then a x (xg j k y) else a x y
def cbN (M k j t : Nat) (a : Nat → Nat → Nat) (r x y : Nat) : Nat := if k ≤ x ∧ x < r ∧ y = j then subN (a x j) (t * a x k % M) M else a x y
end Go.Proofs.Yteanhbldhaiekaa
namespace Go.Proofs.Yteanhbldhaiekaa
open Go.RowKit

/-- what was there is kept but for blocks of S -/
structure Gm (S : Nat → Prop) (w w' : World) : Prop where
  os : w'.os = w.os
  tape : w'.tape = w.tape
  output : w'.output = w.output
  size : w.heap.size ≤ w'.heap.size
  block : ∀ b, b < w.heap.size → ¬ S b → w'.heap[b]? = w.heap[b]?
theorem Gm.refl (S : Nat → Prop) (w : World) : Gm S w w := ⟨rfl, rfl, rfl, Nat.le_refl _, fun _ _ _ => rfl⟩
theorem Gm.trans {S : Nat → Prop} {a b c : World} (h : Gm S a b) (k : Gm S b c) : Gm S a c :=
  ⟨k.os.trans h.os, k.tape.trans h.tape, k.output.trans h.output, Nat.le_trans h.size k.size, fun x hx hs => (k.block x (Nat.lt_of_lt_of_le hx h.size) hs).trans (h.block x hx hs)⟩
theorem Gm.of {S : Nat → Prop} {a b : World} (h : Fm S a b) : Gm S a b := ⟨h.os, h.tape, h.output, Nat.le_of_eq h.size.symm, fun x _ hs => h.block x hs⟩
theorem Gm.alloc (S : Nat → Prop) (w : World) (o : Obj) : Gm S w (w.alloc o) := ⟨rfl, rfl, rfl, by simp, fun b hb _ => Below.heap_alloc w o b hb⟩
theorem Gm.drewN {S : Nat → Prop} {a b : World} (h : Gm S a b) (n : Nat) : Gm S a (b.drewN n) := ⟨h.os, h.tape, h.output, h.size, h.block⟩
theorem Gm.below {S : Nat → Prop} {a b : World} (h : Gm S a b) {B : Nat} (hB : B ≤ a.heap.size) (hS : ∀ x, S x → B ≤ x) : Below B a b :=
  ⟨h.os, h.tape, h.output, h.size, fun k hk => h.block k (by omega) fun hs => by have := hS k hs; omega⟩
/-- the diagonal before k is kept -/
def Ke (k : Nat) (a0 a : Nat → Nat → Nat) : Prop := ∀ x, x < k → a x x = a0 x x
theorem Ke.row {M k i : Nat} {a0 a : Nat → Nat → Nat} (h : Ke k a0 a) (hi : k < i) : Ke k a0 (rsN M k i a) := fun x hx => by
  rw [← h x hx]
  unfold rsN rsB
  rw [if_neg (by omega)]
  unfold rsA
  split
  · rfl
  · rw [xg_o (by omega) (by omega)]
theorem Ke.col {M k j : Nat} {a0 a : Nat → Nat → Nat} (h : Ke k a0 a) : Ke k a0 (csN M k j a) := fun x hx => by
  rw [← h x hx]
  unfold csN csB
  rw [if_neg (by omega)]
  unfold csA
  split
  · rfl
  · rw [if_neg (by omega)]
/-- the matrix in the world of a round -/
def IS (W wr : World) (S : Nat → Prop) (bA n c k : Nat) (a0 a : Nat → Nat → Nat) : Prop := (∃ A bs, MX wr S (some ⟨bA, 0, none⟩) bA n c A bs a) ∧ Fm S W wr ∧ Ke k a0 a
theorem IS.drewN {W wr : World} {S : Nat → Prop} {bA n c k : Nat} {a0 a : Nat → Nat → Nat} (h : IS W wr S bA n c k a0 a) (q : Nat) : IS W (wr.drewN q) S bA n c k a0 a := by
  obtain ⟨⟨A, bs, h1⟩, h2, h3⟩ := h
  exact ⟨⟨A, bs, h1.drewN q⟩, h2.drewN q, h3⟩
theorem IS.row {W wr w' : World} {S : Nat → Prop} {bA n c k M i : Nat} {a0 a : Nat → Nat → Nat} (h : IS W wr S bA n c k a0 a) (h1 : ∃ A' bs', MX w' S (some ⟨bA, 0, none⟩) bA n c A' bs' (rsN M k i a)) (h2 : Fm S wr w') (hi : k < i) : IS W w' S bA n c k a0 (rsN M k i a) :=
  ⟨h1, h.2.1.trans h2, h.2.2.row hi⟩
theorem IS.col {W wr w' : World} {S : Nat → Prop} {bA n c k M j : Nat} {a0 a : Nat → Nat → Nat} (h : IS W wr S bA n c k a0 a) (h1 : ∃ A' bs', MX w' S (some ⟨bA, 0, none⟩) bA n c A' bs' (csN M k j a)) (h2 : Fm S wr w') : IS W w' S bA n c k a0 (csN M k j a) :=
  ⟨h1, h.2.1.trans h2, h.2.2.col⟩
end Go.Proofs.Yteanhbldhaiekaa
