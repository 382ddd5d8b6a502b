/-
  The contract of factors.
  The contracts of Smith and Kernel.
  The contract of slices.Equal at slices of integers.
  The examples of layer 26 hold.
-/
import Derived.Test.YteanhbldhaiekaaZ14
import Derived.Test.YteanhbldhaiekaaZ21
import Derived.Test.YteanhbldhaiekaaZ18
import Derived.Test.YteanhbldhaiekaaZ20
import Derived.Test.YteanhbldhaiekaaZ01
import Derived.BigRegion
namespace Go.Proofs.Yteanhbldhaiekaa
open Go.RowKit

section
variable {n c M k i j : Nat} {m : Mx} {a : Nat → Nat → Nat}
theorem Sm.find (h : Sm n c M m a) (hi : k ≤ i ∧ i < n) (hj : k ≤ j ∧ j < c) : Sm n c M m (fun x y => a (xg i k x) (xg j k y)) := by
  have h1 : Sm n c M m (fun x y => a (xg i k x) y) := by
    by_cases e : i = k
    · subst e
      simp only [xg_self]
      exact h
    · exact h.rsw hi.2 (by omega) e
  by_cases e : j = k
  · subst e
    simp only [xg_self] at h1 ⊢
    exact h1
  · exact h1.csw hj.2 (by omega) e
theorem xg_lo {i k x : Nat} (hi : k ≤ i) (hx : x < k) : xg i k x = x := xg_o (by omega) (by omega)
theorem Dg.find (h : Dg n c k a) (hi : k ≤ i ∧ i < n) (hj : k ≤ j ∧ j < c) : Dg n c k (fun x y => a (xg i k x) (xg j k y)) := fun x y hx hy ho hne => by
  have hxl := xg_lt hi.2 (show k < n by omega) hx
  have hyl := xg_lt hj.2 (show k < c by omega) hy
  show a (xg i k x) (xg j k y) = 0
  by_cases e : x < k
  · rw [xg_lo hi.1 e] at hxl ⊢
    refine h x _ hxl hyl (.inl e) ?_
    by_cases e2 : y < k
    · rw [xg_lo hj.1 e2]; exact hne
    · have := xg_ge (x := y) hj.1 (by omega); omega
  · rw [xg_lo hj.1 (show y < k by omega)] at hyl ⊢
    exact h _ y hxl hyl (.inr (by omega)) (by have := xg_ge (x := x) hi.1 (by omega); omega)
theorem Dg.no (h : Dg n c k a) (hz : ∀ i j, k ≤ i → i < n → k ≤ j → j < c → a i j = 0) : Dg n c (k + 1) a := fun x y hx hy ho hne => by
  by_cases e : x < k ∨ y < k
  · exact h x y hx hy e hne
  · exact hz x y (by omega) hx (by omega) hy
end
/-- a row of u64 numbers of the call's own -/
structure UR (w : World) (b p : Nat) (x : Nat → Nat) : Prop where
  lt : b < w.heap.size
  en : ∀ j, j < p → w.cell? ⟨b, j, none⟩ = some (.int .u64 (x j : Nat))
  fr : ∀ j, j < p → w.frozen? ⟨b, j, none⟩ = false
section
variable {w w' : World} {b p : Nat} {x : Nat → Nat}
theorem UR.keep (h : UR w b p x) (hs : w.heap.size ≤ w'.heap.size) (hk : w'.heap[b]? = w.heap[b]?) : UR w' b p x :=
  ⟨Nat.lt_of_lt_of_le h.lt hs, fun j hj => (World.cell?_of_block (a := ⟨b, j, none⟩) hk).trans (h.en j hj), fun j hj => (World.frozen?_of_block (a := ⟨b, j, none⟩) hk).trans (h.fr j hj)⟩
theorem UR.drewN (h : UR w b p x) (k : Nat) : UR (w.drewN k) b p x := h.keep (Nat.le_refl _) rfl
theorem UR.heap (h : UR w b p x) (e : w'.heap = w.heap) : UR w' b p x := h.keep (by rw [e]; exact Nat.le_refl _) (by rw [e])
theorem UR.alloc (h : UR w b p x) (o : Obj) : UR (w.alloc o) b p x := h.keep (by simp) (Below.heap_alloc w o b h.lt)
theorem UR.fm {S : Nat → Prop} (h : UR w b p x) (hf : Fm S w w') (hb : ¬ S b) : UR w' b p x := h.keep (Nat.le_of_eq hf.size.symm) (hf.block b hb)
theorem UR.gm {S : Nat → Prop} (h : UR w b p x) (hf : Gm S w w') (hb : ¬ S b) : UR w' b p x := h.keep hf.size (hf.block b h.lt hb)
theorem UR.store (h : UR w b p x) {i : Nat} (hi : i < p) (v : Nat) : UR (w.setCell ⟨b, i, none⟩ (.int .u64 (v : Nat))) b p (up x i v) :=
  ⟨by rw [World.size_setCell]; exact h.lt, fun j hj => by
    unfold up
    by_cases e : j = i
    · subst e; rw [if_pos rfl]; exact set_same (h.en j hj)
    · rw [if_neg e, set_other (by intro e2; injection e2 with _ e2; exact e e2.symm)]; exact h.en j hj, fun j hj => by rw [World.frozen?_setCell]; exact h.fr j hj⟩
theorem UR.other (h : UR w b p x) {g : Nat} (hg : g ≠ b) (i : Nat) (v : Value) : UR (w.setCell ⟨g, i, none⟩ v) b p x :=
  h.keep (by rw [World.size_setCell]; exact Nat.le_refl _) (Below.heap_setCell w _ _ b (by rintro rfl; exact hg rfl))
theorem UR.congr {y : Nat → Nat} (h : UR w b p x) (he : ∀ j, j < p → x j = y j) : UR w b p y := ⟨h.lt, fun j hj => by rw [← he j hj]; exact h.en j hj, h.fr⟩
theorem UR.new (w : World) (p : Nat) : UR (w.alloc (.cells (List.replicate p (Value.int .u64 0)).toArray 79)) w.heap.size p (fun _ => 0) :=
  ⟨by simp, fun _ hj => (cell_rep hj).1, fun _ hj => (cell_rep hj).2⟩
end
/-- the first phase, k elements of the diagonal done -/
def F1 (w w1 wr : World) (P : Option Addr) (bA n c M : Nat) (m : Mx) (p k : Nat) (a : Nat → Nat → Nat) (x : Nat → Nat) : Prop :=
  (∃ A bs, MX wr (fun b => w.heap.size ≤ b ∧ b < w1.heap.size) P bA n c A bs a) ∧ UR wr w1.heap.size p x ∧ Below w.heap.size w wr ∧ w.heap.size ≤ w1.heap.size ∧ Sm n c M m a ∧ Dg n c k a ∧ ∀ j, j < k → x j = Nat.gcd (a j j) M
section
variable {w w1 wr w2 : World} {P : Option Addr} {bA n c M p k : Nat} {m : Mx} {a : Nat → Nat → Nat} {x : Nat → Nat}
theorem F1.start {A : Nat → Option Addr} {bs : Nat → Nat} (h : MX w1 (fun b => w.heap.size ≤ b) P bA n c A bs a) (hb : Below w.heap.size w w1) (hs : Sm n c M m a) :
    F1 w w1 (w1.alloc (.cells (List.replicate p (Value.int .u64 0)).toArray 79)) P bA n c M m p 0 a (fun _ => 0) :=
  ⟨⟨A, bs, h.cap.alloc _⟩, UR.new w1 p, hb.alloc hb.size _, hb.size, hs, fun i j _ _ ho => by omega, fun j hj => by omega⟩
theorem F1.yes (h : F1 w w1 wr P bA n c M m p k a x) {A : Nat → Option Addr} {bs : Nat → Nat} {i j : Nat} (hf : FndYes wr w2 (fun b => w.heap.size ≤ b ∧ b < w1.heap.size) P bA n c A bs a k i j) :
    F1 w w1 w2 P bA n c M m p k (fun x y => a (xg i k x) (xg j k y)) x := by
  obtain ⟨h1, h2, h3, h4, h5, h6, h7⟩ := h
  exact ⟨⟨_, _, hf.mx⟩, h2.fm hf.fm (by omega), h3.trans (hf.fm.below fun _ h => h.1), h4, h5.find hf.hi hf.hj, h6.find hf.hi hf.hj, fun y hy => by
    show x y = Nat.gcd (a (xg i k y) (xg j k y)) M
    rw [xg_lo hf.hi.1 hy, xg_lo hf.hj.1 hy]; exact h7 y hy⟩
theorem F1.iso (h : F1 w w1 wr P bA n c M m p k a x) {a' : Nat → Nat → Nat} {A : Nat → Option Addr} {bs : Nat → Nat} (hm : MX w2 (fun b => w.heap.size ≤ b ∧ b < w1.heap.size) P bA n c A bs a') (hs : Sm n c M m a') (hd : Dg n c (k + 1) a') (hk : Ke k a a')
    (hg : Gm (fun b => w.heap.size ≤ b ∧ b < w1.heap.size) wr w2) :
    (∃ A bs, MX w2 (fun b => w.heap.size ≤ b ∧ b < w1.heap.size) P bA n c A bs a') ∧ UR w2 w1.heap.size p x ∧ Below w.heap.size w w2 ∧ w.heap.size ≤ w1.heap.size ∧ Sm n c M m a' ∧ Dg n c (k + 1) a' ∧ ∀ j, j < k → x j = Nat.gcd (a' j j) M := by
  obtain ⟨h1, h2, h3, h4, h5, h6, h7⟩ := h
  exact ⟨⟨_, _, hm⟩, h2.gm hg (by omega), h3.trans (hg.below h3.size fun _ h => h.1), h4, hs, hd, fun j hj => by rw [hk j hj]; exact h7 j hj⟩
end
/-- the diagonal has been cleared up to k, the k-th element is not yet written -/
def F2 (w w1 wr : World) (P : Option Addr) (bA n c M : Nat) (m : Mx) (p k : Nat) (a : Nat → Nat → Nat) (x : Nat → Nat) : Prop :=
  (∃ A bs, MX wr (fun b => w.heap.size ≤ b ∧ b < w1.heap.size) P bA n c A bs a) ∧ UR wr w1.heap.size p x ∧ Below w.heap.size w wr ∧ w.heap.size ≤ w1.heap.size ∧ Sm n c M m a ∧ Dg n c (k + 1) a ∧ ∀ j, j < k → x j = Nat.gcd (a j j) M
section
variable {w w1 wr w2 : World} {P : Option Addr} {bA n c M p k : Nat} {m : Mx} {a : Nat → Nat → Nat} {x : Nat → Nat}
theorem F1.no (h : F1 w w1 wr P bA n c M m p k a x) (hz : ∀ i j, k ≤ i → i < n → k ≤ j → j < c → a i j = 0) : F2 w w1 wr P bA n c M m p k a x := by
  obtain ⟨h1, h2, h3, h4, h5, h6, h7⟩ := h
  exact ⟨h1, h2, h3, h4, h5, h6.no hz, h7⟩
theorem F2.next (h : F2 w w1 wr P bA n c M m p k a x) (hk : k < p) (q : Nat) : F1 w w1 ((wr.drewN q).setCell ⟨w1.heap.size, k, none⟩ (.int .u64 (Nat.gcd (a k k) M : Nat))) P bA n c M m p (k + 1) a (up x k (Nat.gcd (a k k) M)) := by
  obtain ⟨⟨A, bs, h1⟩, h2, h3, h4, h5, h6, h7⟩ := h
  have h3' : Below w.heap.size w (wr.drewN q) := ⟨h3.os, h3.tape, h3.output, h3.size, h3.block⟩
  refine ⟨⟨A, bs, (h1.drewN q).far (by omega) _ _⟩, (h2.drewN q).store hk _, h3'.setCell h4 _, h4, h5, h6, fun j hj => ?_⟩
  unfold up
  split
  · rename_i e; rw [e]
  · exact h7 j (by omega)
end
/-- the list that is written, k elements done -/
def LK (p k : Nat) (y : Nat → Nat) : List Int := (List.range p).map fun j => if j < k then (y j : Int) else 0
theorem LK_len (p k : Nat) (y : Nat → Nat) : (LK p k y).length = p := by simp [LK]
theorem LK_gi {p k j : Nat} {y : Nat → Nat} (hj : j < p) : gi (LK p k y) j = if j < k then (y j : Int) else 0 := by
  rw [gi_lt (by rw [LK_len]; exact hj)]
  simp [LK]
theorem LK_zero (p : Nat) (y : Nat → Nat) : LK p 0 y = List.replicate p 0 := ext_gi (by rw [LK_len]; simp) fun j hj => by
  rw [LK_len] at hj
  rw [LK_gi hj, gi_replicate hj, if_neg (by omega)]
theorem LK_set {p k : Nat} {y : Nat → Nat} (hk : k < p) : (LK p k y).set k (y k : Int) = LK p (k + 1) y := ext_gi (by rw [List.length_set, LK_len, LK_len]) fun j hj => by
  rw [List.length_set, LK_len] at hj
  rw [gi_set (by rw [LK_len]; exact hk), LK_gi hj, LK_gi hj]
  by_cases e : j = k
  · subst e; rw [if_pos rfl, if_pos (by omega)]
  · rw [if_neg e]
    by_cases e2 : j < k
    · rw [if_pos e2, if_pos (by omega)]
    · rw [if_neg e2, if_neg (by omega)]
theorem LK_skip {p k : Nat} {y : Nat → Nat} (h : y k = 0) : LK p k y = LK p (k + 1) y := by
  by_cases hk : k < p
  · rw [← LK_set hk]
    refine ext_gi (by rw [List.length_set]) fun j hj => ?_
    rw [LK_len] at hj
    rw [gi_set (by rw [LK_len]; exact hk)]
    split
    · rename_i e; rw [e, LK_gi hk, if_neg (by omega), h]; rfl
    · rfl
  · unfold LK
    refine List.map_congr_left fun j hj => ?_
    have := List.mem_range.1 hj
    rw [if_pos (by omega), if_pos (by omega)]
theorem LK_full (p : Nat) (y : Nat → Nat) : LK p p y = (List.range p).map fun j => (y j : Int) := by
  unfold LK
  exact List.map_congr_left fun j hj => if_pos (List.mem_range.1 hj)
end Go.Proofs.Yteanhbldhaiekaa
namespace Go.Proofs.Yteanhbldhaiekaa
open Go.RowKit

/-- d are the invariant factors -/
structure SmD (xss : List (List Int)) (d : Nat → Nat) : Prop where
  eq : Eqv xss.length (rowL xss 0) (eI xss) (dgM d)
  ch : Chain d (min xss.length (rowL xss 0))
theorem smD_ex (xss : List (List Int)) : ∃ d, SmD xss d := by
  obtain ⟨d, h1, h2⟩ := smith_ex xss.length (rowL xss 0) (eI xss)
  exact ⟨d, h1, h2⟩
/-- the list of Smith -/
def smL (xss : List (List Int)) (d : Nat → Nat) : List Int := if rkE xss = 0 then (List.range (min xss.length (rowL xss 0))).map fun j => (d j : Int) else []
/-- the error of Kernel; the number of solutions -/
def krE (xss : List (List Int)) (md : Int) : Nat := if IsM xss then if 1 ≤ md ∧ md ≤ 1125899906842624 then if Sml xss then if kerN xss.length (rowL xss 0) (eI xss) md.toNat ≤ 1125899906842624 then 0 else 9 else 9 else 2 else 1
def krV (xss : List (List Int)) (md : Int) : Nat := if krE xss md = 0 then kerN xss.length (rowL xss 0) (eI xss) md.toNat else 0
/-- the numbers that are multiplied -/
def soN (p : Nat) (q : Nat) (d : Nat → Nat) (j : Nat) : Nat := if j < p then Nat.gcd q (d j) else q
theorem ker_soN {xss : List (List Int)} {d : Nat → Nat} (h : SmD xss d) {q : Nat} (hq : 0 < q) : kerN xss.length (rowL xss 0) (eI xss) q = pN (rowL xss 0) (soN (min xss.length (rowL xss 0)) q d) := by
  rw [← ker_eqv hq h.eq, ker_diag hq]
  refine pN_congr fun j hj => ?_
  unfold soN
  by_cases e : j < xss.length
  · rw [if_pos e, if_pos (by omega)]
  · rw [if_neg e, if_neg (by omega)]
theorem soN_pos {p q : Nat} {d : Nat → Nat} (hq : 0 < q) (j : Nat) : 1 ≤ soN p q d j := by
  unfold soN
  split
  · exact Nat.gcd_pos_of_pos_left _ hq
  · exact hq
theorem soN_le {p q : Nat} {d : Nat → Nat} (hq : 0 < q) (j : Nat) : soN p q d j ≤ q := by
  unfold soN
  split
  · exact Nat.le_of_dvd hq (Nat.gcd_dvd_left ..)
  · exact Nat.le_refl _
theorem gi_map_range {p j : Nat} {d : Nat → Nat} (hj : j < p) : gi ((List.range p).map fun j => (d j : Int)) j = d j := by
  rw [gi_lt (by simpa using hj)]; simp
theorem elr_le {n c r : Nat} {m : Mx} {v : Int} {d : Nat → Nat} (h : ElR n c m r v) (he : Eqv n c m (dgM d)) (hd : Chain d (min n c)) {j : Nat} (hj : j < min n c) : d j ≤ bndM n c m := by
  obtain ⟨h1, h2⟩ := elr_fac h he hd
  by_cases hjr : j < r
  · exact Nat.le_trans (Nat.le_of_dvd (Int.natAbs_pos.2 h.nz) (h1 j hjr)) h.bd
  · rw [h2 j (by omega) hj]; exact Nat.zero_le _
end Go.Proofs.Yteanhbldhaiekaa
namespace Go.Proofs.Yteanhbldhaiekaa
open Go.RowKit

end Go.Proofs.Yteanhbldhaiekaa
namespace Go.Proofs.Yteanhbldhaiekaa
open Go.RowKit

abbrev mA : List (List Int) := [[2, 4], [6, 8]]
abbrev mB : List (List Int) := [[2, -1, -1], [-1, 2, -1], [-1, -1, 2]]
def dA (j : Nat) : Nat := if j = 0 then 2 else 4
def dB (j : Nat) : Nat := if j = 0 then 1 else if j = 1 then 3 else 0
theorem smD_A : SmD mA dA := by
  refine ⟨?_, fun i hi => ?_⟩
  · refine .cong (.rneg 1 (by decide) (.cadd 1 0 (-2) (by decide) (by decide) (by decide) (.radd 1 0 (-3) (by decide) (by decide) (by decide) (.refl _)))) ?_
    intro i j hi hj
    have : ∀ i, i < 2 → ∀ j, j < 2 → dgM dA i j = (fun i j => if i = 1 then -(fun i j => if j = 1 then (fun i j => if i = 1 then eI mA i j + -3 * eI mA 0 j else eI mA i j) i j + -2 * (fun i j => if i = 1 then eI mA i j + -3 * eI mA 0 j else eI mA i j) i 0 else (fun i j => if i = 1 then eI mA i j + -3 * eI mA 0 j else eI mA i j) i j) i j else (fun i j => if j = 1 then (fun i j => if i = 1 then eI mA i j + -3 * eI mA 0 j else eI mA i j) i j + -2 * (fun i j => if i = 1 then eI mA i j + -3 * eI mA 0 j else eI mA i j) i 0 else (fun i j => if i = 1 then eI mA i j + -3 * eI mA 0 j else eI mA i j) i j) i j) i j := by decide +kernel
    exact this i hi j hj
  · have hi2 : i + 1 < 2 := hi
    obtain rfl : i = 0 := by omega
    decide
theorem smD_B : SmD mB dB := by
  refine ⟨?_, fun i hi => ?_⟩
  · have key : ∀ (X : Mx), X = eI mB → Eqv 3 3 X (dgM dB) := by
      intro X hX
      have h1 := Eqv.rsw (n := 3) (c := 3) 0 1 (by decide) (by decide) (by decide) (.refl X)
      have h2 := h1.rneg 0 (by decide)
      have h3 := h2.radd 1 0 (-2) (by decide) (by decide) (by decide)
      have h4 := h3.radd 2 0 1 (by decide) (by decide) (by decide)
      have h5 := h4.cadd 1 0 2 (by decide) (by decide) (by decide)
      have h6 := h5.cadd 2 0 (-1) (by decide) (by decide) (by decide)
      have h7 := h6.radd 2 1 1 (by decide) (by decide) (by decide)
      have h8 := h7.cadd 2 1 1 (by decide) (by decide) (by decide)
      refine h8.cong ?_
      subst hX
      intro i j hi hj
      have hi' : i = 0 ∨ i = 1 ∨ i = 2 := by omega
      have hj' : j = 0 ∨ j = 1 ∨ j = 2 := by omega
      rcases hi' with rfl | rfl | rfl <;> rcases hj' with rfl | rfl | rfl <;> decide +kernel
    exact key _ rfl
  · have hi2 : i + 1 < 3 := hi
    have hi' : i = 0 ∨ i = 1 := by omega
    rcases hi' with rfl | rfl <;> decide
theorem aw_det : dtV mA = -8 ∧ dtE mA = 0 := by decide +kernel
theorem aw_rk : rkE mB = 0 ∧ smL mB dB = [1, 3, 0] := by decide +kernel
theorem aw_ker : krE mA 4 = 0 ∧ krV mA 4 = 8 := by
  have hk : kerN mA.length (rowL mA 0) (eI mA) 4 = 8 := by
    rw [ker_soN smD_A (by decide)]
    decide +kernel
  have h1 : krE mA 4 = 0 := by
    unfold krE
    rw [if_pos (by decide +kernel), if_pos (by decide), if_pos (by decide +kernel)]
    show (if kerN mA.length (rowL mA 0) (eI mA) 4 ≤ _ then 0 else 9) = 0
    rw [hk]
    rfl
  refine ⟨h1, ?_⟩
  unfold krV
  rw [if_pos h1]
  exact hk
end Go.Proofs.Yteanhbldhaiekaa
