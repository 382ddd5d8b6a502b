/-
  Matrices in memory: one of integers that came in (RL), one of the call's own of u64 numbers (MX), and what becomes of it behind stores.
-/
import Derived.Test.YteanhbldhaiekaaZ08
namespace Go.Proofs.Yteanhbldhaiekaa
open Go.RowKit

/-- a slice of slices that reads as a list of lists -/
def RL (w : World) (S : Nat → Prop) (A : Option Addr) (xss : List (List Int)) : Prop :=
  xss ≠ [] → ∃ b off, A = some ⟨b, off, none⟩ ∧ S b ∧ ∀ k, k < xss.length → ∃ Ak ck, w.cell? ⟨b, off + k, none⟩ = some (.slice Ak (xss.getD k []).length ck) ∧ RI w S Ak (xss.getD k []) ∧ (xss.getD k []).length ≤ maxLen
theorem RL.at_ {w : World} {S : Nat → Prop} {A : Option Addr} {xss : List (List Int)} (h : RL w S A xss) {k : Nat} (hk : k < xss.length) :
    ∃ b off, A = some ⟨b, off, none⟩ ∧ S b ∧ ∀ k, k < xss.length → ∃ Ak ck, w.cell? ⟨b, off + k, none⟩ = some (.slice Ak (xss.getD k []).length ck) ∧ RI w S Ak (xss.getD k []) ∧ (xss.getD k []).length ≤ maxLen :=
  h (by intro e; subst e; simp at hk)
theorem RL.keep {w w' : World} {S : Nat → Prop} {A : Option Addr} {xss : List (List Int)} (h : RL w S A xss) (hk : ∀ b, S b → w'.heap[b]? = w.heap[b]?) : RL w' S A xss := fun hne => by
  obtain ⟨b, off, e, hb, hc⟩ := h hne
  refine ⟨b, off, e, hb, fun k hlt => ?_⟩
  obtain ⟨Ak, ck, h1, h2, h3⟩ := hc k hlt
  exact ⟨Ak, ck, (World.cell?_of_block (a := ⟨b, off + k, none⟩) (hk b hb)).trans h1, h2.keep hk, h3⟩
theorem RL.imp {w : World} {S T : Nat → Prop} {A : Option Addr} {xss : List (List Int)} (h : RL w S A xss) (hS : ∀ b, S b → T b) : RL w T A xss := fun hne => by
  obtain ⟨b, off, e, hb, hc⟩ := h hne
  refine ⟨b, off, e, hS b hb, fun k hlt => ?_⟩
  obtain ⟨Ak, ck, h1, h2, h3⟩ := hc k hlt
  exact ⟨Ak, ck, h1, h2.imp hS, h3⟩
theorem RL.below {w w' : World} {B : Nat} {A : Option Addr} {xss : List (List Int)} (h : RL w (· < B) A xss) (hb : Below B w w') : RL w' (· < B) A xss := h.keep fun b hlt => hb.block b hlt
theorem RL.drewN {w : World} {S : Nat → Prop} {A : Option Addr} {xss : List (List Int)} (h : RL w S A xss) (n : Nat) : RL (w.drewN n) S A xss := h
theorem RL.nil (w : World) (S : Nat → Prop) (A : Option Addr) : RL w S A [] := fun h => absurd rfl h

/-- the entry of a list of lists -/
def eI (xss : List (List Int)) (i j : Nat) : Int := gi (xss.getD i []) j

/-- only blocks of S may have changed -/
structure Fm (S : Nat → Prop) (w w' : World) : Prop where
  os : w'.os = w.os
  tape : w'.tape = w.tape
  output : w'.output = w.output
  size : w'.heap.size = w.heap.size
  block : ∀ b, ¬ S b → w'.heap[b]? = w.heap[b]?
theorem Fm.refl (S : Nat → Prop) (w : World) : Fm S w w := ⟨rfl, rfl, rfl, rfl, fun _ _ => rfl⟩
theorem Fm.trans {S : Nat → Prop} {a b c : World} (h : Fm S a b) (k : Fm S b c) : Fm S a c :=
  ⟨k.os.trans h.os, k.tape.trans h.tape, k.output.trans h.output, k.size.trans h.size, fun x hx => (k.block x hx).trans (h.block x hx)⟩
theorem Fm.drew {S : Nat → Prop} {a b : World} (h : Fm S a b) : Fm S a b.drew := ⟨h.os, h.tape, h.output, h.size, h.block⟩
theorem Fm.drewN {S : Nat → Prop} {a b : World} (h : Fm S a b) (n : Nat) : Fm S a (b.drewN n) := ⟨h.os, h.tape, h.output, h.size, h.block⟩
theorem Fm.undrew {S : Nat → Prop} {a b : World} (h : Fm S a.drew b) : Fm S a b := ⟨h.os, h.tape, h.output, h.size, h.block⟩
theorem Fm.set {S : Nat → Prop} {a b : World} (h : Fm S a b) {g : Nat} (hg : S g) (j : Nat) (v : Value) : Fm S a (b.setCell ⟨g, j, none⟩ v) :=
  ⟨h.os, h.tape, h.output, by rw [World.size_setCell]; exact h.size, fun x hx => by rw [Below.heap_setCell _ _ _ x (by rintro rfl; exact hx hg)]; exact h.block x hx⟩
theorem Fm.below {S : Nat → Prop} {a b : World} (h : Fm S a b) {B : Nat} (hS : ∀ x, S x → B ≤ x) : Below B a b :=
  ⟨h.os, h.tape, h.output, by rw [h.size]; exact Nat.le_refl _, fun k hk => h.block k fun hs => by have := hS k hs; omega⟩
theorem Fm.mono {S T : Nat → Prop} {a b : World} (h : Fm S a b) (hS : ∀ x, S x → T x) : Fm T a b := ⟨h.os, h.tape, h.output, h.size, fun x hx => h.block x fun hs => hx (hS x hs)⟩

/-- exchanged indices -/
def xg (i k x : Nat) : Nat := if x = i then k else if x = k then i else x
theorem xg_lt {i k x n : Nat} (hi : i < n) (hk : k < n) (hx : x < n) : xg i k x < n := by unfold xg; split <;> (try split) <;> omega
theorem xg_inj {i k x y : Nat} (h : xg i k x = xg i k y) : x = y := by
  unfold xg at h
  split at h <;> split at h <;> (try split at h) <;> (try split at h) <;> omega

theorem set_same {w : World} {p : Addr} {u v : Value} (h : w.cell? p = some u) : (w.setCell p v).cell? p = some v := World.cell?_setCell_same (h := h) ..
theorem set_other {w : World} {p q : Addr} {v : Value} (h : p ≠ q) : (w.setCell p v).cell? q = w.cell? q := World.cell?_setCell_other (h := h) ..

/-- a matrix of u64 numbers in blocks of S of the call's own: n rows, c columns -/
structure MX (w : World) (S : Nat → Prop) (P : Option Addr) (bA n c : Nat) (A : Nat → Option Addr) (bs : Nat → Nat) (a : Nat → Nat → Nat) : Prop where
  top : 0 < n → P = some ⟨bA, 0, none⟩ ∧ S bA ∧ bA < w.heap.size
  hd : ∀ i, i < n → w.cell? ⟨bA, i, none⟩ = some (.slice (A i) c c)
  fz : ∀ i, i < n → w.frozen? ⟨bA, i, none⟩ = false
  ad : ∀ i, i < n → 0 < c → A i = some ⟨bs i, 0, none⟩ ∧ S (bs i) ∧ bs i < w.heap.size ∧ bs i ≠ bA
  ij : ∀ i k, i < n → k < n → 0 < c → bs i = bs k → i = k
  en : ∀ i j, i < n → j < c → w.cell? ⟨bs i, j, none⟩ = some (.int .u64 (a i j : Nat))
  fr : ∀ i j, i < n → j < c → w.frozen? ⟨bs i, j, none⟩ = false

section
variable {w w' : World} {S : Nat → Prop} {P : Option Addr} {bA n c : Nat} {A : Nat → Option Addr} {bs : Nat → Nat} {a : Nat → Nat → Nat}
theorem MX.keep (h : MX w S P bA n c A bs a) (hs : w.heap.size ≤ w'.heap.size) (hk : ∀ b, S b → b < w.heap.size → w'.heap[b]? = w.heap[b]?) : MX w' S P bA n c A bs a := by
  refine ⟨fun hn => ?_, fun i hi => ?_, fun i hi => ?_, fun i hi hc => ?_, h.ij, fun i j hi hj => ?_, fun i j hi hj => ?_⟩
  · obtain ⟨h1, h2, h3⟩ := h.top hn; exact ⟨h1, h2, by omega⟩
  · obtain ⟨h1, h2, h3⟩ := h.top (by omega)
    exact (World.cell?_of_block (a := ⟨bA, i, none⟩) (hk _ h2 h3)).trans (h.hd i hi)
  · obtain ⟨h1, h2, h3⟩ := h.top (by omega)
    exact (World.frozen?_of_block (a := ⟨bA, i, none⟩) (hk _ h2 h3)).trans (h.fz i hi)
  · obtain ⟨h1, h2, h3, h4⟩ := h.ad i hi hc; exact ⟨h1, h2, by omega, h4⟩
  · obtain ⟨h1, h2, h3, h4⟩ := h.ad i hi (by omega)
    exact (World.cell?_of_block (a := ⟨bs i, j, none⟩) (hk _ h2 h3)).trans (h.en i j hi hj)
  · obtain ⟨h1, h2, h3, h4⟩ := h.ad i hi (by omega)
    exact (World.frozen?_of_block (a := ⟨bs i, j, none⟩) (hk _ h2 h3)).trans (h.fr i j hi hj)
theorem MX.drew (h : MX w S P bA n c A bs a) : MX w.drew S P bA n c A bs a := h.keep (Nat.le_refl _) fun _ _ _ => rfl
theorem MX.drewN (h : MX w S P bA n c A bs a) (k : Nat) : MX (w.drewN k) S P bA n c A bs a := h.keep (Nat.le_refl _) fun _ _ _ => rfl
theorem MX.alloc (h : MX w S P bA n c A bs a) (o : Obj) : MX (w.alloc o) S P bA n c A bs a := h.keep (by simp) fun b _ hb => Below.heap_alloc w o b hb
theorem MX.below (h : MX w S P bA n c A bs a) {B : Nat} (hb : Below B w w') (hS : w.heap.size ≤ B) : MX w' S P bA n c A bs a := h.keep hb.size fun b _ hl => hb.block b (by omega)
theorem MX.far (h : MX w S P bA n c A bs a) {g : Nat} (hg : ¬ S g) (j : Nat) (v : Value) : MX (w.setCell ⟨g, j, none⟩ v) S P bA n c A bs a :=
  h.keep (by simp) fun b hb _ => Below.heap_setCell w _ _ b (by rintro rfl; exact hg hb)
theorem MX.congr {b : Nat → Nat → Nat} (h : MX w S P bA n c A bs a) (he : ∀ i j, i < n → j < c → a i j = b i j) : MX w S P bA n c A bs b :=
  ⟨h.top, h.hd, h.fz, h.ad, h.ij, fun i j hi hj => by rw [← he i j hi hj]; exact h.en i j hi hj, h.fr⟩
/-- one entry is stored -/
theorem MX.store (h : MX w S P bA n c A bs a) {i j : Nat} (hi : i < n) (hj : j < c) (v : Nat) :
    MX (w.setCell ⟨bs i, j, none⟩ (.int .u64 (v : Nat))) S P bA n c A bs (fun x y => if x = i ∧ y = j then v else a x y) := by
  obtain ⟨h1, h2, h3, h4⟩ := h.ad i hi (by omega)
  refine ⟨fun hn => ?_, fun x hx => ?_, fun x hx => ?_, fun x hx hc => ?_, h.ij, fun x y hx hy => ?_, fun x y hx hy => ?_⟩
  · rw [World.size_setCell]; exact h.top hn
  · rw [set_other (by intro e; injection e with e; exact h4 e)]; exact h.hd x hx
  · rw [World.frozen?_setCell]; exact h.fz x hx
  · rw [World.size_setCell]; exact h.ad x hx hc
  · by_cases e : x = i ∧ y = j
    · obtain ⟨rfl, rfl⟩ := e
      rw [if_pos ⟨rfl, rfl⟩]
      exact set_same (h.en x y hi hj)
    · rw [if_neg e, set_other]
      · exact h.en x y hx hy
      · intro e2
        injection e2 with e3 e4
        exact e ⟨h.ij x i hx hi (by omega) e3.symm, e4.symm⟩
  · rw [World.frozen?_setCell]; exact h.fr x y hx hy
/-- two entries of a row are exchanged -/
theorem MX.swap (h : MX w S P bA n c A bs a) {i j k : Nat} (hi : i < n) (hj : j < c) (hk : k < c) (_hne : j ≠ k) :
    MX ((w.setCell ⟨bs i, j, none⟩ (.int .u64 (a i k : Nat))).setCell ⟨bs i, k, none⟩ (.int .u64 (a i j : Nat))) S P bA n c A bs (fun x y => if x = i then a x (xg j k y) else a x y) := by
  refine ((h.store hi hj (a i k)).store hi hk (a i j)).congr fun x y _ _ => ?_
  unfold xg
  by_cases hx : x = i
  · subst hx
    by_cases e1 : y = k
    · subst e1
      rw [if_pos ⟨rfl, rfl⟩, if_pos rfl]
      by_cases e2 : y = j
      · subst e2; rw [if_pos rfl]
      · rw [if_neg e2, if_pos rfl]
    · rw [if_neg (fun e => e1 e.2), if_pos rfl]
      by_cases e2 : y = j
      · subst e2; rw [if_pos ⟨rfl, rfl⟩, if_pos rfl]
      · rw [if_neg (fun e => e2 e.2), if_neg e2, if_neg e1]
  · rw [if_neg (fun e => hx e.1), if_neg (fun e => hx e.1), if_neg hx]
/-- two rows are exchanged -/
theorem MX.rows (h : MX w S P bA n c A bs a) {i k : Nat} (hi : i < n) (hk : k < n) :
    MX ((w.setCell ⟨bA, i, none⟩ (.slice (A k) c c)).setCell ⟨bA, k, none⟩ (.slice (A i) c c)) S P bA n c (fun x => A (xg i k x)) (fun x => bs (xg i k x)) (fun x y => a (xg i k x) y) := by
  refine ⟨fun hn => ?_, fun x hx => ?_, fun x hx => ?_, fun x hx hc => ?_, fun x y hx hy hc e => ?_, fun x y hx hy => ?_, fun x y hx hy => ?_⟩
  · rw [World.size_setCell, World.size_setCell]; exact h.top hn
  · have h1 : (w.setCell ⟨bA, i, none⟩ (.slice (A k) c c)).cell? ⟨bA, x, none⟩ = some (.slice (if x = i then A k else A x) c c) := by
      by_cases e : x = i
      · subst e; rw [if_pos rfl]; exact set_same (h.hd x hx)
      · rw [if_neg e, set_other (by intro e2; injection e2 with _ e2; exact e e2.symm)]; exact h.hd x hx
    by_cases e : x = k
    · subst e
      rw [set_same h1]
      unfold xg
      by_cases e2 : x = i
      · subst e2; rw [if_pos rfl]
      · rw [if_neg e2, if_pos rfl]
    · rw [set_other (by intro e2; injection e2 with _ e2; exact e e2.symm), h1]
      unfold xg
      by_cases e2 : x = i
      · rw [if_pos e2, if_pos e2]
      · rw [if_neg e2, if_neg e2, if_neg e]
  · rw [World.frozen?_setCell, World.frozen?_setCell]; exact h.fz x hx
  · rw [World.size_setCell, World.size_setCell]; exact h.ad _ (xg_lt hi hk hx) hc
  · exact xg_inj (h.ij _ _ (xg_lt hi hk hx) (xg_lt hi hk hy) hc e)
  · obtain ⟨-, -, -, h4⟩ := h.ad _ (xg_lt hi hk hx) (by omega)
    rw [set_other (by intro e; injection e with e; exact h4 e.symm), set_other (by intro e; injection e with e; exact h4 e.symm)]
    exact h.en _ y (xg_lt hi hk hx) hy
  · rw [World.frozen?_setCell, World.frozen?_setCell]; exact h.fr _ y (xg_lt hi hk hx) hy
end
end Go.Proofs.Yteanhbldhaiekaa
