/-
  The contract of factors.
-/
import Derived.Test.YteanhbldhaiekaaIso
import Derived.Test.YteanhbldhaiekaaFacP
import Derived.Test.YteanhbldhaiekaaIs
import Derived.BigRegion
namespace Go.Proofs.Yteanhbldhaiekaa
open Go.RowKit

section
variable {n c M k i j : Nat} {m : Mx} {a : Nat → Nat → Nat}
theorem Sm.find (h : Sm n c M m a) (hi : k ≤ i ∧ i < n) (hj : k ≤ j ∧ j < c) : Sm n c M m (fun x y => a (xg i k x) (xg j k y)) := by
  have h1 : Sm n c M m (fun x y => a (xg i k x) y) := by
    by_cases e : i = k
    · subst e
      simp only [xg_self]
      exact h
    · exact h.rsw hi.2 (by omega) e
  by_cases e : j = k
  · subst e
    simp only [xg_self] at h1 ⊢
    exact h1
  · exact h1.csw hj.2 (by omega) e
theorem xg_lo {i k x : Nat} (hi : k ≤ i) (hx : x < k) : xg i k x = x := xg_o (by omega) (by omega)
theorem Dg.find (h : Dg n c k a) (hi : k ≤ i ∧ i < n) (hj : k ≤ j ∧ j < c) : Dg n c k (fun x y => a (xg i k x) (xg j k y)) := fun x y hx hy ho hne => by
  have hxl := xg_lt hi.2 (show k < n by omega) hx
  have hyl := xg_lt hj.2 (show k < c by omega) hy
  show a (xg i k x) (xg j k y) = 0
  by_cases e : x < k
  · rw [xg_lo hi.1 e] at hxl ⊢
    refine h x _ hxl hyl (.inl e) ?_
    by_cases e2 : y < k
    · rw [xg_lo hj.1 e2]; exact hne
    · have := xg_ge (x := y) hj.1 (by omega); omega
  · rw [xg_lo hj.1 (show y < k by omega)] at hyl ⊢
    exact h _ y hxl hyl (.inr (by omega)) (by have := xg_ge (x := x) hi.1 (by omega); omega)
theorem Dg.no (h : Dg n c k a) (hz : ∀ i j, k ≤ i → i < n → k ≤ j → j < c → a i j = 0) : Dg n c (k + 1) a := fun x y hx hy ho hne => by
  by_cases e : x < k ∨ y < k
  · exact h x y hx hy e hne
  · exact hz x y (by omega) hx (by omega) hy
end
/-- a row of u64 numbers of the call's own -/
structure UR (w : World) (b p : Nat) (x : Nat → Nat) : Prop where
  lt : b < w.heap.size
  en : ∀ j, j < p → w.cell? ⟨b, j, none⟩ = some (.int .u64 (x j : Nat))
  fr : ∀ j, j < p → w.frozen? ⟨b, j, none⟩ = false
section
variable {w w' : World} {b p : Nat} {x : Nat → Nat}
theorem UR.keep (h : UR w b p x) (hs : w.heap.size ≤ w'.heap.size) (hk : w'.heap[b]? = w.heap[b]?) : UR w' b p x :=
  ⟨Nat.lt_of_lt_of_le h.lt hs, fun j hj => (World.cell?_of_block (a := ⟨b, j, none⟩) hk).trans (h.en j hj), fun j hj => (World.frozen?_of_block (a := ⟨b, j, none⟩) hk).trans (h.fr j hj)⟩
theorem UR.drewN (h : UR w b p x) (k : Nat) : UR (w.drewN k) b p x := h.keep (Nat.le_refl _) rfl
theorem UR.heap (h : UR w b p x) (e : w'.heap = w.heap) : UR w' b p x := h.keep (by rw [e]; exact Nat.le_refl _) (by rw [e])
theorem UR.alloc (h : UR w b p x) (o : Obj) : UR (w.alloc o) b p x := h.keep (by simp) (Below.heap_alloc w o b h.lt)
theorem UR.fm {S : Nat → Prop} (h : UR w b p x) (hf : Fm S w w') (hb : ¬ S b) : UR w' b p x := h.keep (Nat.le_of_eq hf.size.symm) (hf.block b hb)
theorem UR.gm {S : Nat → Prop} (h : UR w b p x) (hf : Gm S w w') (hb : ¬ S b) : UR w' b p x := h.keep hf.size (hf.block b h.lt hb)
theorem UR.store (h : UR w b p x) {i : Nat} (hi : i < p) (v : Nat) : UR (w.setCell ⟨b, i, none⟩ (.int .u64 (v : Nat))) b p (up x i v) :=
  ⟨by rw [World.size_setCell]; exact h.lt, fun j hj => by
    unfold up
    by_cases e : j = i
    · subst e; rw [if_pos rfl]; exact set_same (h.en j hj)
    · rw [if_neg e, set_other (by intro e2; injection e2 with _ e2; exact e e2.symm)]; exact h.en j hj, fun j hj => by rw [World.frozen?_setCell]; exact h.fr j hj⟩
theorem UR.other (h : UR w b p x) {g : Nat} (hg : g ≠ b) (i : Nat) (v : Value) : UR (w.setCell ⟨g, i, none⟩ v) b p x :=
  h.keep (by rw [World.size_setCell]; exact Nat.le_refl _) (Below.heap_setCell w _ _ b (by rintro rfl; exact hg rfl))
theorem UR.congr {y : Nat → Nat} (h : UR w b p x) (he : ∀ j, j < p → x j = y j) : UR w b p y := ⟨h.lt, fun j hj => by rw [← he j hj]; exact h.en j hj, h.fr⟩
theorem UR.new (w : World) (p : Nat) : UR (w.alloc (.cells (List.replicate p (Value.int .u64 0)).toArray 79)) w.heap.size p (fun _ => 0) :=
  ⟨by simp, fun _ hj => (cell_rep hj).1, fun _ hj => (cell_rep hj).2⟩
end
/-- the first phase, k elements of the diagonal done -/
def F1 (w w1 wr : World) (P : Option Addr) (bA n c M : Nat) (m : Mx) (p k : Nat) (a : Nat → Nat → Nat) (x : Nat → Nat) : Prop :=
  (∃ A bs, MX wr (fun b => w.heap.size ≤ b ∧ b < w1.heap.size) P bA n c A bs a) ∧ UR wr w1.heap.size p x ∧ Below w.heap.size w wr ∧ w.heap.size ≤ w1.heap.size ∧ Sm n c M m a ∧ Dg n c k a ∧ ∀ j, j < k → x j = Nat.gcd (a j j) M
section
variable {w w1 wr w2 : World} {P : Option Addr} {bA n c M p k : Nat} {m : Mx} {a : Nat → Nat → Nat} {x : Nat → Nat}
theorem F1.start {A : Nat → Option Addr} {bs : Nat → Nat} (h : MX w1 (fun b => w.heap.size ≤ b) P bA n c A bs a) (hb : Below w.heap.size w w1) (hs : Sm n c M m a) :
    F1 w w1 (w1.alloc (.cells (List.replicate p (Value.int .u64 0)).toArray 79)) P bA n c M m p 0 a (fun _ => 0) :=
  ⟨⟨A, bs, h.cap.alloc _⟩, UR.new w1 p, hb.alloc hb.size _, hb.size, hs, fun i j _ _ ho => by omega, fun j hj => by omega⟩
theorem F1.yes (h : F1 w w1 wr P bA n c M m p k a x) {A : Nat → Option Addr} {bs : Nat → Nat} {i j : Nat} (hf : FndYes wr w2 (fun b => w.heap.size ≤ b ∧ b < w1.heap.size) P bA n c A bs a k i j) :
    F1 w w1 w2 P bA n c M m p k (fun x y => a (xg i k x) (xg j k y)) x := by
  obtain ⟨h1, h2, h3, h4, h5, h6, h7⟩ := h
  exact ⟨⟨_, _, hf.mx⟩, h2.fm hf.fm (by omega), h3.trans (hf.fm.below fun _ h => h.1), h4, h5.find hf.hi hf.hj, h6.find hf.hi hf.hj, fun y hy => by
    show x y = Nat.gcd (a (xg i k y) (xg j k y)) M
    rw [xg_lo hf.hi.1 hy, xg_lo hf.hj.1 hy]; exact h7 y hy⟩
theorem F1.iso (h : F1 w w1 wr P bA n c M m p k a x) {a' : Nat → Nat → Nat} {A : Nat → Option Addr} {bs : Nat → Nat} (hm : MX w2 (fun b => w.heap.size ≤ b ∧ b < w1.heap.size) P bA n c A bs a') (hs : Sm n c M m a') (hd : Dg n c (k + 1) a') (hk : Ke k a a')
    (hg : Gm (fun b => w.heap.size ≤ b ∧ b < w1.heap.size) wr w2) :
    (∃ A bs, MX w2 (fun b => w.heap.size ≤ b ∧ b < w1.heap.size) P bA n c A bs a') ∧ UR w2 w1.heap.size p x ∧ Below w.heap.size w w2 ∧ w.heap.size ≤ w1.heap.size ∧ Sm n c M m a' ∧ Dg n c (k + 1) a' ∧ ∀ j, j < k → x j = Nat.gcd (a' j j) M := by
  obtain ⟨h1, h2, h3, h4, h5, h6, h7⟩ := h
  exact ⟨⟨_, _, hm⟩, h2.gm hg (by omega), h3.trans (hg.below h3.size fun _ h => h.1), h4, hs, hd, fun j hj => by rw [hk j hj]; exact h7 j hj⟩
end
/-- the diagonal has been cleared up to k, the k-th element is not yet written -/
def F2 (w w1 wr : World) (P : Option Addr) (bA n c M : Nat) (m : Mx) (p k : Nat) (a : Nat → Nat → Nat) (x : Nat → Nat) : Prop :=
  (∃ A bs, MX wr (fun b => w.heap.size ≤ b ∧ b < w1.heap.size) P bA n c A bs a) ∧ UR wr w1.heap.size p x ∧ Below w.heap.size w wr ∧ w.heap.size ≤ w1.heap.size ∧ Sm n c M m a ∧ Dg n c (k + 1) a ∧ ∀ j, j < k → x j = Nat.gcd (a j j) M
section
variable {w w1 wr w2 : World} {P : Option Addr} {bA n c M p k : Nat} {m : Mx} {a : Nat → Nat → Nat} {x : Nat → Nat}
theorem F1.no (h : F1 w w1 wr P bA n c M m p k a x) (hz : ∀ i j, k ≤ i → i < n → k ≤ j → j < c → a i j = 0) : F2 w w1 wr P bA n c M m p k a x := by
  obtain ⟨h1, h2, h3, h4, h5, h6, h7⟩ := h
  exact ⟨h1, h2, h3, h4, h5, h6.no hz, h7⟩
theorem F2.next (h : F2 w w1 wr P bA n c M m p k a x) (hk : k < p) (q : Nat) : F1 w w1 ((wr.drewN q).setCell ⟨w1.heap.size, k, none⟩ (.int .u64 (Nat.gcd (a k k) M : Nat))) P bA n c M m p (k + 1) a (up x k (Nat.gcd (a k k) M)) := by
  obtain ⟨⟨A, bs, h1⟩, h2, h3, h4, h5, h6, h7⟩ := h
  have h3' : Below w.heap.size w (wr.drewN q) := ⟨h3.os, h3.tape, h3.output, h3.size, h3.block⟩
  refine ⟨⟨A, bs, (h1.drewN q).far (by omega) _ _⟩, (h2.drewN q).store hk _, h3'.setCell h4 _, h4, h5, h6, fun j hj => ?_⟩
  unfold up
  split
  · rename_i e; rw [e]
  · exact h7 j (by omega)
end
/-- the list that is written, k elements done -/
def LK (p k : Nat) (y : Nat → Nat) : List Int := (List.range p).map fun j => if j < k then (y j : Int) else 0
theorem LK_len (p k : Nat) (y : Nat → Nat) : (LK p k y).length = p := by simp [LK]
theorem LK_gi {p k j : Nat} {y : Nat → Nat} (hj : j < p) : gi (LK p k y) j = if j < k then (y j : Int) else 0 := by
  rw [gi_lt (by rw [LK_len]; exact hj)]
  simp [LK]
theorem LK_zero (p : Nat) (y : Nat → Nat) : LK p 0 y = List.replicate p 0 := ext_gi (by rw [LK_len]; simp) fun j hj => by
  rw [LK_len] at hj
  rw [LK_gi hj, gi_replicate hj, if_neg (by omega)]
theorem LK_set {p k : Nat} {y : Nat → Nat} (hk : k < p) : (LK p k y).set k (y k : Int) = LK p (k + 1) y := ext_gi (by rw [List.length_set, LK_len, LK_len]) fun j hj => by
  rw [List.length_set, LK_len] at hj
  rw [gi_set (by rw [LK_len]; exact hk), LK_gi hj, LK_gi hj]
  by_cases e : j = k
  · subst e; rw [if_pos rfl, if_pos (by omega)]
  · rw [if_neg e]
    by_cases e2 : j < k
    · rw [if_pos e2, if_pos (by omega)]
    · rw [if_neg e2, if_neg (by omega)]
theorem LK_skip {p k : Nat} {y : Nat → Nat} (h : y k = 0) : LK p k y = LK p (k + 1) y := by
  by_cases hk : k < p
  · rw [← LK_set hk]
    refine ext_gi (by rw [List.length_set]) fun j hj => ?_
    rw [LK_len] at hj
    rw [gi_set (by rw [LK_len]; exact hk)]
    split
    · rename_i e; rw [e, LK_gi hk, if_neg (by omega), h]; rfl
    · rfl
  · unfold LK
    refine List.map_congr_left fun j hj => ?_
    have := List.mem_range.1 hj
    rw [if_pos (by omega), if_pos (by omega)]
theorem LK_full (p : Nat) (y : Nat → Nat) : LK p p y = (List.range p).map fun j => (y j : Int) := by
  unfold LK
  exact List.map_congr_left fun j hj => if_pos (List.mem_range.1 hj)
end Go.Proofs.Yteanhbldhaiekaa

