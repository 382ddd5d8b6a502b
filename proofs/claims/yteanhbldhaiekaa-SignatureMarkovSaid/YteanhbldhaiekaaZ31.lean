/-
  The contract of Inertia.
-/
import Derived.Test.YteanhbldhaiekaaZ15
import Derived.Test.YteanhbldhaiekaaZ28
import Derived.Test.YteanhbldhaiekaaZ27
import Derived.Test.YteanhbldhaiekaaZ25
import Derived.Deep.RegionLaw
namespace Go.Proofs.Yteanhbldhaiekaa
open Go.RowKit

/-- the error of Inertia -/
def inE (xss : List (List Int)) : Nat := if IsM xss ∧ SqS xss then if Sml xss then 0 else 9 else 1
/-- what Inertia answers -/
def InA (xss : List (List Int)) (p q : Nat) (z : Int) : Prop :=
  if inE xss = 0 then p + q ≤ xss.length ∧ z = (xss.length : Int) - p - q ∧ Inr xss.length (eI xss) p q ∧ RkP xss.length xss.length (eI xss) (p + q) ∧ (p + q = xss.length → det xss.length (eI xss) ≠ 0 ∧ (0 < det xss.length (eI xss) ↔ q % 2 = 0)) else p = 0 ∧ q = 0 ∧ z = 0
/-- the rows that are copied: the first i -/
structure IC (w4 wr : World) (xss : List (List Int)) (n i : Nat) (bs cp : Nat → Nat) : Prop where
  ca : wr.cell? ⟨w4.heap.size + 1, 0, none⟩ = some (.slice (some ⟨w4.heap.size, 0, none⟩) n n)
  h0 : ∀ x, i ≤ x → x < n → wr.cell? ⟨w4.heap.size, x, none⟩ = some (.slice none 0 0)
  hd : ∀ x, x < i → wr.cell? ⟨w4.heap.size, x, none⟩ = some (.slice (some ⟨bs x, 0, none⟩) n (cp x))
  fz : ∀ x, x < n → wr.frozen? ⟨w4.heap.size, x, none⟩ = false
  en : ∀ x y, x < i → y < n → wr.cell? ⟨bs x, y, none⟩ = some (.int .i64 (eI xss x y))
  fr : ∀ x y, x < i → y < n → wr.frozen? ⟨bs x, y, none⟩ = false
  os : ∀ x, x < i → w4.heap.size + 1 < bs x ∧ bs x < wr.heap.size
  oi : ∀ x y, x < y → y < i → bs x < bs y
  sz : w4.heap.size + 2 ≤ wr.heap.size
  bel : Below w4.heap.size w4 wr
theorem IC.step {w4 wr w' : World} {xss : List (List Int)} {n i : Nat} {bs cp : Nat → Nat} (h : IC w4 wr xss n i bs cp) (hi : i < n) {v : Value} (ho : OI w' wr.heap.size v (xss.getD i [])) (hl : rowL xss i = n) (hg : wr.grownBy w' none) :
    ∃ g c, v = .slice (some ⟨g, 0, none⟩) n c ∧ IC w4 (w'.setCell ⟨w4.heap.size, i, none⟩ v) xss n (i + 1) (vup bs i g) (vup cp i c) := by
  unfold rowL at hl
  obtain ⟨g, c, rfl, h1, h2, -, -, h3, h4⟩ := OR.ints ho (by omega)
  rw [hl] at h3 ⊢
  refine ⟨g, c, rfl, ?_⟩
  have hk : ∀ b, b < wr.heap.size → w'.heap[b]? = wr.heap[b]? := fun b hb => hg.block b hb (by simp)
  have hc : ∀ b o, b < wr.heap.size → w'.cell? ⟨b, o, none⟩ = wr.cell? ⟨b, o, none⟩ := fun b o hb => World.cell?_of_block (a := ⟨b, o, none⟩) (hk b hb)
  have hf : ∀ b o, b < wr.heap.size → w'.frozen? ⟨b, o, none⟩ = wr.frozen? ⟨b, o, none⟩ := fun b o hb => World.frozen?_of_block (a := ⟨b, o, none⟩) (hk b hb)
  have hsz := h.sz
  have hs := hg.size
  have hb : Below wr.heap.size wr w' := ⟨hg.os, hg.tape, hg.output, hs, fun b hb => hk b hb⟩
  refine ⟨?_, fun x hx hxn => ?_, fun x hx => ?_, fun x hx => ?_, fun x y hx hy => ?_, fun x y hx hy => ?_, fun x hx => ?_, fun x y hxy hy => ?_, by rw [World.size_setCell]; omega, (h.bel.trans (hb.mono (by omega))).setCell (p := ⟨w4.heap.size, i, none⟩) (Nat.le_refl _) _⟩
  · rw [cell_ne (by omega), hc _ _ (by omega)]; exact h.ca
  · rw [cell_ne' (by omega), hc _ _ (by omega)]; exact h.h0 x (by omega) hxn
  · by_cases e : x = i
    · subst e
      rw [vup_same, vup_same]
      exact set_same (by rw [hc _ _ (by omega)]; exact h.h0 x (Nat.le_refl _) hi)
    · rw [vup_lt _ _ (by omega), vup_lt _ _ (by omega), cell_ne' (Ne.symm e), hc _ _ (by omega)]
      exact h.hd x (by omega)
  · rw [World.frozen?_setCell, hf _ _ (by omega)]; exact h.fz x hx
  · by_cases e : x = i
    · subst e
      rw [vup_same, cell_ne (by omega)]
      exact h3 y (by omega)
    · have ho := h.os x (by omega)
      rw [vup_lt _ _ (by omega), cell_ne (by omega), hc _ _ (by omega)]
      exact h.en x y (by omega) hy
  · by_cases e : x = i
    · subst e
      rw [vup_same, World.frozen?_setCell]
      exact h4 y
    · have ho := h.os x (by omega)
      rw [vup_lt _ _ (by omega), World.frozen?_setCell, hf _ _ (by omega)]
      exact h.fr x y (by omega) hy
  · rw [World.size_setCell]
    by_cases e : x = i
    · subst e
      rw [vup_same]; omega
    · have ho := h.os x (by omega)
      rw [vup_lt _ _ (by omega)]; omega
  · by_cases e : y = i
    · subst e
      have ho := h.os x (by omega)
      rw [vup_same, vup_lt _ _ (by omega)]; omega
    · rw [vup_lt _ _ (show x < i by omega), vup_lt _ _ (show y < i by omega)]
      exact h.oi x y hxy (by omega)
section
variable {w4 wr w' : World} {xss : List (List Int)} {n i : Nat} {bs cp : Nat → Nat} {b o : Nat} {u v : Value}
theorem IC.keep (h : IC w4 wr xss n i bs cp) (hg : wr.grownBy w' none) (hb : b < w4.heap.size) (h1 : wr.cell? ⟨w4.heap.size + 1, 0, none⟩ = some u) (h2 : wr.cell? ⟨b, o, none⟩ = some v) : w'.cell? ⟨w4.heap.size + 1, 0, none⟩ = some u ∧ w'.cell? ⟨b, o, none⟩ = some v := by
  have hsz := h.sz
  exact ⟨(World.cell?_of_block (a := ⟨w4.heap.size + 1, 0, none⟩) (hg.block _ (by show _ < _; (try dsimp only); omega) (by simp))).trans h1, (World.cell?_of_block (a := ⟨b, o, none⟩) (hg.block _ (by show _ < _; (try dsimp only); omega) (by simp))).trans h2⟩
theorem IC.keep2 (h : IC w4 wr xss n i bs cp) (hg : wr.grownBy w' none) (hb : b < w4.heap.size) (h1 : wr.cell? ⟨w4.heap.size + 1, 0, none⟩ = some u) (h2 : wr.cell? ⟨b, o, none⟩ = some v) (x : Value) :
    (w'.setCell ⟨w4.heap.size, i, none⟩ x).cell? ⟨w4.heap.size + 1, 0, none⟩ = some u ∧ (w'.setCell ⟨w4.heap.size, i, none⟩ x).cell? ⟨b, o, none⟩ = some v := by
  obtain ⟨k1, k2⟩ := h.keep hg hb h1 h2
  exact ⟨by rw [cell_ne (by omega)]; exact k1, by rw [cell_ne (by omega)]; exact k2⟩
theorem IC.keep3 (h : IC w4 wr xss n i bs cp) (hg : wr.grownBy w' none) (h1 : wr.frozen? ⟨w4.heap.size, i, none⟩ = false) : w'.frozen? ⟨w4.heap.size, i, none⟩ = false := by
  have hsz := h.sz
  exact (World.frozen?_of_block (a := ⟨w4.heap.size, i, none⟩) (hg.block _ (by show _ < _; (try dsimp only); omega) (by simp))).trans h1
theorem IC.keep4 (h : IC w4 wr xss n i bs cp) (hg : wr.grownBy w' none) (h1 : wr.cell? ⟨w4.heap.size, i, none⟩ = some u) : w'.cell? ⟨w4.heap.size, i, none⟩ = some u := by
  have hsz := h.sz
  exact (World.cell?_of_block (a := ⟨w4.heap.size, i, none⟩) (hg.block _ (by show _ < _; (try dsimp only); omega) (by simp))).trans h1
end
theorem grown_undrew {w w' : World} (h : w.drew.grownBy w' (Value.slice none 0 0).ownBlock) : w.grownBy w' none := ⟨h.os, h.tape, h.output, h.size, h.block⟩
theorem IC.heap {w4 wr w' : World} {xss : List (List Int)} {n i : Nat} {bs cp : Nat → Nat} (h : IC w4 wr xss n i bs cp) (e : w'.heap = wr.heap) (e1 : w'.os = wr.os) (e2 : w'.tape = wr.tape) (e3 : w'.output = wr.output) : IC w4 w' xss n i bs cp := by
  have c : ∀ x, w'.cell? x = wr.cell? x := fun x => World.cell?_of_block (by rw [e])
  have f : ∀ x, w'.frozen? x = wr.frozen? x := fun x => World.frozen?_of_block (by rw [e])
  exact ⟨by rw [c]; exact h.ca, fun x hx hxn => by rw [c]; exact h.h0 x hx hxn, fun x hx => by rw [c]; exact h.hd x hx, fun x hx => by rw [f]; exact h.fz x hx, fun x y hx hy => by rw [c]; exact h.en x y hx hy, fun x y hx hy => by rw [f]; exact h.fr x y hx hy,
    fun x hx => by rw [e]; exact h.os x hx, h.oi, by rw [e]; exact h.sz, ⟨e1.trans h.bel.os, e2.trans h.bel.tape, e3.trans h.bel.output, by rw [e]; exact h.bel.size, fun b hb => by rw [e]; exact h.bel.block b hb⟩⟩
theorem IC.start {w4 : World} (xss : List (List Int)) (n : Nat) (t t' : TypeId) : IC w4 ((w4.alloc (.cells (Array.replicate n (Value.slice none 0 0)) t)).alloc (.cells #[.slice (some ⟨w4.heap.size, 0, none⟩) n n] t')) xss n 0 (fun _ => 0) (fun _ => 0) := by
  have hsz : (w4.alloc (.cells (Array.replicate n (Value.slice none 0 0)) t)).heap.size = w4.heap.size + 1 := by simp
  refine ⟨?_, fun x hx hxn => ?_, fun x hx => absurd hx (Nat.not_lt_zero _), fun x hx => ?_, fun x y hx => absurd hx (Nat.not_lt_zero _), fun x y hx => absurd hx (Nat.not_lt_zero _), fun x hx => absurd hx (Nat.not_lt_zero _), fun x y _ hy => absurd hy (Nat.not_lt_zero _), by simp, ?_⟩
  · rw [← hsz, World.cell?_alloc_new]; rfl
  · rw [World.cell?_alloc_lt _ _ ⟨w4.heap.size, x, none⟩ (by rw [hsz]; exact Nat.lt_succ_self _)]
    exact (cell_rep (t := t) hxn).1
  · rw [World.frozen?_alloc_old _ _ ⟨w4.heap.size, x, none⟩ (by rw [hsz]; exact Nat.ne_of_lt (Nat.lt_succ_self _))]
    exact (cell_rep (t := t) hx).2
  · exact ((Below.refl _ w4).alloc (Nat.le_refl _) _).alloc (by rw [hsz]; omega) _
/-- where Inertia lays its things -/
def lyI (b4 b3 w0 : Nat) (bs cp : Nat → Nat) : Ly := ⟨b4 + 1, b3 + 1, b3 + 1 + 1, w0, w0 + 1, b4, b3, bs, cp, some ⟨b4, 0, none⟩, some ⟨b3, 0, none⟩⟩
theorem EW.start {w4 wr : World} {xss : List (List Int)} {n w0 : Nat} {bs cp : Nat → Nat} (h : IC w4 wr xss n n bs cp) (hw : w0 + 2 ≤ w4.heap.size) (d1 : w4.cell? ⟨w0, 0, none⟩ = some (.int .i64 0)) (d2 : w4.cell? ⟨w0 + 1, 0, none⟩ = some (.int .i64 0))
    (g1 : w4.frozen? ⟨w0, 0, none⟩ = false) (g2 : w4.frozen? ⟨w0 + 1, 0, none⟩ = false) (t t' t'' : TypeId) :
    EW (((wr.alloc (.cells (Array.replicate n (Value.bool false)) t)).alloc (.cells #[.slice (some ⟨wr.heap.size, 0, none⟩) n n] t')).alloc (.cells #[.int .i64 1] t'')) (lyI w4.heap.size wr.heap.size w0 bs cp) n (eI xss) (fun _ => false) 1 0 0 := by
  obtain ⟨w5, h5⟩ : ∃ x, wr.alloc (.cells (Array.replicate n (Value.bool false)) t) = x := ⟨_, rfl⟩
  obtain ⟨w6, h6⟩ : ∃ x, w5.alloc (.cells #[.slice (some ⟨wr.heap.size, 0, none⟩) n n] t') = x := ⟨_, rfl⟩
  obtain ⟨w7, h7⟩ : ∃ x, w6.alloc (.cells #[.int .i64 1] t'') = x := ⟨_, rfl⟩
  rw [h5, h6, h7]
  have s5 : w5.heap.size = wr.heap.size + 1 := by rw [← h5]; simp
  have s6 : w6.heap.size = wr.heap.size + 1 + 1 := by rw [← h6]; simp [s5]
  have s7 : w7.heap.size = wr.heap.size + 1 + 1 + 1 := by rw [← h7]; simp [s6]
  have hsz := h.sz
  have b5 : Below wr.heap.size wr w5 := by rw [← h5]; exact (Below.refl _ wr).alloc (Nat.le_refl _) _
  have b6 : Below w5.heap.size w5 w6 := by rw [← h6]; exact (Below.refl _ w5).alloc (Nat.le_refl _) _
  have b7 : Below w6.heap.size w6 w7 := by rw [← h7]; exact (Below.refl _ w6).alloc (Nat.le_refl _) _
  have k7 : ∀ x o, x < w6.heap.size → w7.cell? ⟨x, o, none⟩ = w6.cell? ⟨x, o, none⟩ ∧ w7.frozen? ⟨x, o, none⟩ = w6.frozen? ⟨x, o, none⟩ := fun x o hx => ⟨World.cell?_of_block (a := ⟨x, o, none⟩) (b7.block x hx), World.frozen?_of_block (a := ⟨x, o, none⟩) (b7.block x hx)⟩
  have k6 : ∀ x o, x < w5.heap.size → w7.cell? ⟨x, o, none⟩ = w5.cell? ⟨x, o, none⟩ ∧ w7.frozen? ⟨x, o, none⟩ = w5.frozen? ⟨x, o, none⟩ := fun x o hx => by
    obtain ⟨e1, e2⟩ := k7 x o (by omega)
    exact ⟨e1.trans (World.cell?_of_block (a := ⟨x, o, none⟩) (b6.block x hx)), e2.trans (World.frozen?_of_block (a := ⟨x, o, none⟩) (b6.block x hx))⟩
  have k5 : ∀ x o, x < wr.heap.size → w7.cell? ⟨x, o, none⟩ = wr.cell? ⟨x, o, none⟩ ∧ w7.frozen? ⟨x, o, none⟩ = wr.frozen? ⟨x, o, none⟩ := fun x o hx => by
    obtain ⟨e1, e2⟩ := k6 x o (by omega)
    exact ⟨e1.trans (World.cell?_of_block (a := ⟨x, o, none⟩) (b5.block x hx)), e2.trans (World.frozen?_of_block (a := ⟨x, o, none⟩) (b5.block x hx))⟩
  have k4 : ∀ x o, x < w4.heap.size → w7.cell? ⟨x, o, none⟩ = w4.cell? ⟨x, o, none⟩ ∧ w7.frozen? ⟨x, o, none⟩ = w4.frozen? ⟨x, o, none⟩ := fun x o hx => by
    obtain ⟨e1, e2⟩ := k5 x o (by omega)
    exact ⟨e1.trans (World.cell?_of_block (a := ⟨x, o, none⟩) (h.bel.block x hx)), e2.trans (World.frozen?_of_block (a := ⟨x, o, none⟩) (h.bel.block x hx))⟩
  have cd : w6.cell? ⟨wr.heap.size + 1, 0, none⟩ = some (.slice (some ⟨wr.heap.size, 0, none⟩) n n) := by rw [← h6, ← s5, World.cell?_alloc_new]; rfl
  have cb : w7.cell? ⟨wr.heap.size + 1 + 1, 0, none⟩ = some (.int .i64 1) := by rw [← h7, ← s6, World.cell?_alloc_new]; rfl
  have fb : w7.frozen? ⟨wr.heap.size + 1 + 1, 0, none⟩ = false := by rw [← h7, ← s6]; exact World.frozen?_alloc_new ..
  have dc : ∀ i, i < n → w5.cell? ⟨wr.heap.size, i, none⟩ = some (.bool false) ∧ w5.frozen? ⟨wr.heap.size, i, none⟩ = false := fun i hi => by
    rw [← h5]; exact cell_rep (t := t) hi
  refine ⟨(k5 _ _ (by show w4.heap.size + 1 < _; omega)).1.trans h.ca, (k7 _ _ (by show wr.heap.size + 1 < _; omega)).1.trans cd, cb, (k4 _ _ (by show w0 < _; omega)).1.trans d1, (k4 _ _ (by show w0 + 1 < _; omega)).1.trans d2, fb, (k4 _ _ (by show w0 < _; omega)).2.trans g1,
    (k4 _ _ (by show w0 + 1 < _; omega)).2.trans g2, fun _ => ⟨rfl, rfl⟩, fun i hi => (k5 _ _ (by show w4.heap.size < _; omega)).1.trans (h.hd i hi), fun i j hi hj => ?_, fun i j hi hj => ?_, fun i hi => (k6 _ _ (by show wr.heap.size < _; omega)).1.trans (dc i hi).1,
    fun i hi => (k6 _ _ (by show wr.heap.size < _; omega)).2.trans (dc i hi).2, ?_, fun i hi => h.os i hi, h.oi⟩
  · have := h.os i hi
    exact (k5 _ _ (by show bs i < _; omega)).1.trans (h.en i j hi hj)
  · have := h.os i hi
    exact (k5 _ _ (by show bs i < _; omega)).2.trans (h.fr i j hi hj)
  · show w0 < w0 + 1 ∧ w0 + 1 < w4.heap.size ∧ w4.heap.size < w4.heap.size + 1 ∧ w4.heap.size + 1 < wr.heap.size ∧ wr.heap.size < wr.heap.size + 1 ∧ wr.heap.size + 1 < wr.heap.size + 1 + 1 ∧ wr.heap.size + 1 + 1 < w7.heap.size
    omega
theorem box2 {w : World} {b : Nat} {u0 v0 u v : Value} (d1 : w.cell? ⟨b, 0, none⟩ = some u0) (d2 : w.cell? ⟨b + 1, 0, none⟩ = some v0) :
    ((w.setCell ⟨b, 0, none⟩ u).setCell ⟨b + 1, 0, none⟩ v).cell? ⟨b, 0, none⟩ = some u ∧ ((w.setCell ⟨b, 0, none⟩ u).setCell ⟨b + 1, 0, none⟩ v).cell? ⟨b + 1, 0, none⟩ = some v :=
  ⟨by rw [cell_ne (by omega)]; exact set_same d1, set_same (by rw [cell_ne (by omega)]; exact d2)⟩
set_option maxHeartbeats 8000000 in
theorem inertia_any {w : World} {A : Option Addr} {n cap : Nat} {xss : List (List Int)} (h : AM w A n xss) :
    Calls Try.prog 13 #[.slice A n cap] w fun e w' => ∃ (p q : Nat) (z : Int), e = .returned (.tuple #[.int .i64 p, .int .i64 q, .int .i64 z, .int .i64 (inE xss : Nat)]) ∧ InA xss p q z ∧ Below w.heap.size w w' := by
  have HX := Lib.hid h
  clear h
  obtain ⟨W, hW⟩ : ∃ W, (w.alloc (.cells #[.int .i64 0] 3)).alloc (.cells #[.int .i64 0] 3) = W := ⟨_, rfl⟩
  have hbel : Below w.heap.size w W := by rw [← hW]; exact ((Below.refl _ w).alloc (Nat.le_refl _) _).alloc (by simp) _
  have hsz : W.heap.size = w.heap.size + 2 := by rw [← hW]; simp
  have c1 : W.cell? ⟨w.heap.size, 0, none⟩ = some (.int .i64 0) := by rw [← hW, World.cell?_alloc_lt _ _ ⟨w.heap.size, 0, none⟩ (by simp), World.cell?_alloc_new]; rfl
  have c2 : W.cell? ⟨w.heap.size + 1, 0, none⟩ = some (.int .i64 0) := by
    rw [← hW, show w.heap.size + 1 = (w.alloc (.cells #[.int .i64 0] 3)).heap.size by simp, World.cell?_alloc_new]; rfl
  have f1 : W.frozen? ⟨w.heap.size, 0, none⟩ = false := by rw [← hW, World.frozen?_alloc_old _ _ ⟨w.heap.size, 0, none⟩ (by simp)]; exact World.frozen?_alloc_new ..
  have f2 : W.frozen? ⟨w.heap.size + 1, 0, none⟩ = false := by
    rw [← hW, show w.heap.size + 1 = (w.alloc (.cells #[.int .i64 0] 3)).heap.size by simp]; exact World.frozen?_alloc_new ..
  have HB := Lib.hid hbel
  have HSZ := Lib.hid hsz
  have HWE := Lib.hid hW
  have HR := Lib.hid (rank_any (cap := cap) (HX.out.call hbel))
  clear hbel hsz hW
  go_enter Try.func13, Try.ntmps13
  go_wp2_with fail
  rw [HWE.out]
  refine HR.out.mono ?_
  rintro e w3 ⟨r, rfl, hrk, hb3⟩
  have d1 := (World.cell?_of_block (a := ⟨w.heap.size, 0, none⟩) (hb3.block w.heap.size (by rw [HSZ.out]; omega))).trans c1
  have d2 := (World.cell?_of_block (a := ⟨w.heap.size + 1, 0, none⟩) (hb3.block (w.heap.size + 1) (by rw [HSZ.out]; omega))).trans c2
  have g1 := (World.frozen?_of_block (a := ⟨w.heap.size, 0, none⟩) (hb3.block w.heap.size (by rw [HSZ.out]; omega))).trans f1
  have g2 := (World.frozen?_of_block (a := ⟨w.heap.size + 1, 0, none⟩) (hb3.block (w.heap.size + 1) (by rw [HSZ.out]; omega))).trans f2
  have HB3 := Lib.hid hb3
  have HRK := Lib.hid hrk
  have HS3 : Hid (w.heap.size + 2 ≤ w3.heap.size) := Lib.hid (by rw [← HSZ.out]; exact hb3.size)
  have HB0 : Hid (Below w.heap.size w w3) := Lib.hid (HB.out.trans (hb3.mono HB.out.size))
  have HX3 : Hid (AM w3 A n xss) := Lib.hid (HX.out.call HB0.out)
  clear c1 c2 f1 f2 hb3 hrk HR HB3
  have HEND : Hid (∀ (c : Nat), (inE xss ≠ 0) → InA xss 0 0 0 ∧ Below w.heap.size w ((w3.setCell ⟨w.heap.size, 0, none⟩ (.int .i64 0)).setCell ⟨w.heap.size + 1, 0, none⟩ (.int .i64 0))) := Lib.hid fun _ hI => by
    refine ⟨?_, (HB0.out.setCell (p := ⟨w.heap.size, 0, none⟩) (Nat.le_refl _) _).setCell (p := ⟨w.heap.size + 1, 0, none⟩) (Nat.le_succ _) _⟩
    unfold InA
    rw [if_neg hI]
    exact ⟨rfl, rfl, rfl⟩
  by_cases hm : IsM xss
  · by_cases hs : SqS xss
    · have HDS := Lib.hid (decide_eq_true hs)
      by_cases hl : Sml xss
      · have hE : rkE xss = 0 := by unfold rkE; rw [if_pos hm, if_pos hl]
        have HI : Hid (inE xss = 0) := Lib.hid (by unfold inE; rw [if_pos ⟨hm, hs⟩, if_pos hl])
        rw [hE]
        have hm64 := hm.2.1
        rw [HX.out.ln] at hm64
        have HM := Lib.hid hm
        have HSY := Lib.hid hs
        have HSM := Lib.hid hl
        clear hm hs hl hE
        go_wp2_with fail
        refine (symmetric_any A cap xss n w3 HX3.out).mono ?_
        rintro e w4 ⟨rfl, nz, hw4⟩
        rw [HDS.out]
        rw [show w3.cell? ⟨w.heap.size, 0, none⟩ = w4.cell? ⟨w.heap.size, 0, none⟩ by rw [hw4]; rfl] at d1
        rw [show w3.cell? ⟨w.heap.size + 1, 0, none⟩ = w4.cell? ⟨w.heap.size + 1, 0, none⟩ by rw [hw4]; rfl] at d2
        rw [show w3.frozen? ⟨w.heap.size, 0, none⟩ = w4.frozen? ⟨w.heap.size, 0, none⟩ by rw [hw4]; rfl] at g1
        rw [show w3.frozen? ⟨w.heap.size + 1, 0, none⟩ = w4.frozen? ⟨w.heap.size + 1, 0, none⟩ by rw [hw4]; rfl] at g2
        have HB4 : Hid (Below w.heap.size w w4) := Lib.hid (by rw [hw4]; exact HB0.out.trans ⟨rfl, rfl, rfl, Nat.le_refl _, fun _ _ => rfl⟩)
        have HX4 : Hid (AM w4 A n xss) := Lib.hid (HX.out.call HB4.out)
        have HS4 : Hid (w.heap.size + 2 ≤ w4.heap.size) := Lib.hid (by rw [hw4]; exact HS3.out)
        have D1 := Lib.hid d1
        have D2 := Lib.hid d2
        have G1 := Lib.hid g1
        have G2 := Lib.hid g2
        clear hw4 HEND HB HSZ HWE HRK HS3 HB0 HX3 HDS d1 d2 g1 g2
        have hmk := make_introw n (by omega)
        go_wp2_with fail
        clear hmk
        go_loopw [37] (fun i' wr => ∃ (i : Nat) (bs cp : Nat → Nat), i ≤ n ∧ i' = .int .i64 i ∧ Hid (IC w4 wr xss n i bs cp)) (fun i _ => n - (intOf i).toNat)
        case atStart => exact ⟨0, _, _, Nat.zero_le _, rfl, Lib.hid (IC.start xss n _ _)⟩
        case round =>
          obtain ⟨i, bs, cp, hin, rfl, HC⟩ := hrel
          by_cases hlt : i < n
          · have hx := (HX4.out.rd.below HC.out.bel).imp fun _ h => h
            obtain ⟨b, off, rfl, hbl, hcs⟩ := hx.at_ (k := i) (by rw [HX4.out.ln]; exact hlt)
            obtain ⟨Ak, ck, c1, hri, -⟩ := hcs i (by rw [HX4.out.ln]; exact hlt)
            have hrl : rowL xss i = n := by have := HSY.out.1 i (by rw [HX.out.ln]; exact hlt); rw [HX.out.ln] at this; exact this
            have hll : (xss.getD i []).length < 1099511627776 := by unfold rowL at hrl; omega
            obtain ⟨row, hrow⟩ : ∃ row, xss.getD i [] = row := ⟨_, rfl⟩
            rw [hrow] at hri c1 hll
            have HRL := Lib.hid hrl
            have HRI := Lib.hid hri
            have HLL := Lib.hid hll
            have HRW := Lib.hid hrow
            have hca := HC.out.ca
            have hh0 := HC.out.h0 i (Nat.le_refl _) hlt
            have hfz := HC.out.fz i hlt
            have hsz := HC.out.sz
            clear hx hcs hri hrl hll hrow
            have HBS := Lib.hid (show b < w4.heap.size from hbl)
            go_wp2_with fail
            go_region_law ((refine step_appN (w := wr.drew) (xs := []) (ys := row) (B := wr.heap.size) (OR.nil _ _) HRI.out (by show 0 + _ < _; rw [Nat.zero_add]; exact HLL.out) (Nat.le_refl _) rfl rfl Try.underlying33 rfl rfl ?_; intro v' w' ho hg' hob; have hg := grown_undrew hg'; obtain ⟨g, c, rfl, hst⟩ := HC.out.step hlt (by rw [HRW.out]; exact ho) HRL.out hg; have hkeep := (HC.out.keep hg HBS.out hca c1).1; have hfz2 := HC.out.keep3 hg hfz; have hh2 := HC.out.keep4 hg hh0))
            all_goals
              have HST := Lib.hid hst
              clear hst ho hob hg hg' hkeep hfz2 hh2
              go_wp2_with fail
              go_roundw
              case rel => exact ⟨i + 1, _, _, by omega, by go_num, Lib.hid (HST.out.heap rfl rfl rfl rfl)⟩
              case measure => simp [intOf]; omega
          · obtain rfl : i = n := by omega
            have hca := HC.out.ca
            have hsz := HC.out.sz
            have hmk := make_bools 57 Try.underlying57 i (by omega)
            go_wp2_with fail
            clear hmk
            obtain ⟨W0, hW0⟩ : ∃ x, ((wr.alloc (.cells (Array.replicate i (Value.bool false)) 4)).alloc (.cells #[.slice (some ⟨wr.heap.size, 0, none⟩) i i] 57)).alloc (.cells #[.int .i64 1] 3) = x := ⟨_, rfl⟩
            have HE0 : Hid (EW W0 (lyI w4.heap.size wr.heap.size w.heap.size bs cp) i (eI xss) (fun _ => false) 1 0 0) := Lib.hid (by rw [← hW0]; exact EW.start HC.out HS4.out D1.out D2.out G1.out G2.out _ _ _)
            have HBL : Hid (Below w.heap.size w W0) := Lib.hid (by
              rw [← hW0]
              have k0 := HS4.out
              have k1 := HC.out.sz
              exact (((HB4.out.trans (HC.out.bel.mono (by omega))).alloc (by omega) _).alloc (by simp; omega) _).alloc (by simp; omega) _)
            have HSYM : Hid (Sym i (eI xss)) := Lib.hid fun x y hx hy => by
              have hs := HSY.out.2
              rw [HX.out.ln] at hs
              rcases Nat.lt_trichotomy x y with e | e | e
              · exact (hs y hy x e).symm
              · rw [e]
              · exact hs x hx y e
            have HRC : Hid (rowL xss 0 = i ∨ i = 0) := Lib.hid (by
              rcases Nat.eq_zero_or_pos i with e | e
              · exact Or.inr e
              · have := HSY.out.1 0 (by rw [HX.out.ln]; exact e)
                rw [HX.out.ln] at this
                exact Or.inl this)
            have HBN : Hid (bndM i i (eI xss) ≤ 1125899906842624) := Lib.hid (by
              have hl := HSM.out
              unfold Sml at hl
              rw [HX.out.ln] at hl
              rcases HRC.out with e | e
              · rw [e] at hl; exact hl
              · subst e
                show 1 ≤ _
                decide)
            have HPS0 : Hid (PS i (eI xss) (fun _ => 0) 0 1 (eI xss) (fun _ => false) 0 0) := Lib.hid (PS.start i (eI xss))
            rw [hW0]
            generalize hLY : lyI w4.heap.size wr.heap.size w.heap.size bs cp = L at HE0
            have l1 : L.ba = w4.heap.size + 1 := by rw [← hLY]; rfl
            have l2 : L.bd = wr.heap.size + 1 := by rw [← hLY]; rfl
            have l3 : L.bb = wr.heap.size + 1 + 1 := by rw [← hLY]; rfl
            have l4 : L.bp = w.heap.size := by rw [← hLY]; rfl
            have l5 : L.bq = w.heap.size + 1 := by rw [← hLY]; rfl
            have l6 : L.P = some ⟨w4.heap.size, 0, none⟩ := by rw [← hLY]; rfl
            have l7 : L.Q = some ⟨wr.heap.size, 0, none⟩ := by rw [← hLY]; rfl
            generalize w4.heap.size = b4 at l1 l6 ⊢
            generalize wr.heap.size = b3 at l2 l3 l7 ⊢
            have HLL := Lib.hid (And.intro l1 (And.intro l2 (And.intro l3 (And.intro l4 (And.intro l5 (And.intro l6 l7))))))
            clear hLY l1 l2 l3 l4 l5 l6 l7 hca hsz hW0 HC hlt hin HX4 HB4 HS4 D1 D2 G1 G2
            go_loopg [] (i + 1) (fun f wq => ∃ (D : Nat → Nat) (k : Nat) (b : Int) (a : Mx) (dn : Nat → Bool) (p q : Nat), i < f + k ∧ k ≤ i ∧ Hid (EW wq L i a dn b p q) ∧ Hid (PS i (eI xss) D k b a dn p q) ∧ Hid (Below w.heap.size w wq))
            case atStart => exact ⟨_, 0, 1, _, _, 0, 0, by omega, Nat.zero_le _, HE0, HPS0, HBL⟩
            case round =>
              clear HE0 HPS0 HBL
              obtain ⟨D, k, b, a, dn, p, q, hfk, hki, HE, HPS, HBL⟩ := hrel
              obtain ⟨l1, l2, l3, l4, l5, l6, l7⟩ := HLL.out
              have hca := HE.out.ca
              have hcd := HE.out.cd
              rw [l1, l6] at hca
              rw [l2, l7] at hcd
              have hdg := diagonal_any HE.out hm64
              have hpr := pair_any HE.out hm64
              rw [l6, l7] at hdg hpr
              have HDG := Lib.hid hdg
              have HPR := Lib.hid hpr
              have hpq := HPS.out.bst.pq
              clear l1 l2 l3 l4 l5 l6 l7 hdg hpr
              go_wp2_with fail
              refine HDG.out.mono ?_
              rintro e w1 ⟨rfl, (⟨x, hx, dx, hx0, rfl⟩ | ⟨hz, rfl⟩)⟩
              · obtain ⟨hq1, hpv, hbb, hps⟩ := HPS.out.one HSYM.out HBN.out hx dx hx0
                have hkn := hps.bst.kn
                have hel := elim_any HE.out hm64 (by omega) (by omega) hx hbb HPS.out.bst.b0 hpv hq1
                obtain ⟨l1, l2, l3, l4, l5, -, -⟩ := HLL.out
                rw [l1, l2, l3, l4, l5] at hel
                have HEL := Lib.hid hel
                have HPN := Lib.hid hps
                clear l1 l2 l3 l4 l5 hel hps hq1 hpv hbb
                go_wp2_with fail
                refine HEL.out.mono ?_
                rintro e w2 ⟨rfl, he2, hb2⟩
                have HE2 := Lib.hid he2
                have HB2 := Lib.hid (HBL.out.trans hb2)
                clear he2 hb2
                go_wp2_with fail
                go_roundg (i - k)
                case measure => omega
                case rel => exact ⟨_, k + 1, _, _, _, _, _, by omega, hkn, HE2, HPN, HB2⟩
              · have HZ := Lib.hid hz
                clear hz
                go_wp2_with fail
                refine HPR.out.mono ?_
                rintro e w1 ⟨rfl, (⟨x, y, hx, hy, dx, dy, hxy, rfl⟩ | ⟨hz2, rfl⟩)⟩
                · obtain ⟨c, t, a1, a2, a3, r1, r2, e1, e2, hc0, hbb, hcb, htb, hQ1, ea2, et, hQ2, ea3, hps, hp1, hq1⟩ := HPS.out.two HSYM.out HBN.out hx hy dx dy (HZ.out x hx dx) (HZ.out y hy dy) hxy
                  have hkn := hps.bst.kn
                  have hadd := add_any HE.out hm64 hx hy
                  rw [← e1] at hadd
                  have HEL1 := Lib.hid (fun wz (hz : EW wz L i a1 dn b p q) => elim_any hz hm64 (by omega) (by omega) hx hbb HPS.out.bst.b0 (by rw [e2]; exact hcb) hQ1)
                  have hP' : (p + if (0 < c ↔ 0 < b) then 1 else 0) ≤ 64 := by split <;> omega
                  have hQ' : (q + if (0 < c ↔ 0 < b) then 0 else 1) ≤ 64 := by split <;> omega
                  have HEL2 := Lib.hid (fun wz (hz : EW wz L i a2 (dnP x dn) c (p + if (0 < c ↔ 0 < b) then 1 else 0) (q + if (0 < c ↔ 0 < b) then 0 else 1)) => elim_any hz hm64 hP' hQ' hy hcb hc0 (by rw [et]; exact htb) hQ2)
                  obtain ⟨l1, l2, l3, l4, l5, -, -⟩ := HLL.out
                  rw [e2, ← ea2, l1, l2, l3, l4, l5] at HEL1
                  rw [et, ← ea3, hp1, hq1, l1, l2, l3, l4, l5] at HEL2
                  rw [l1, l4] at hadd
                  have HADD := Lib.hid hadd
                  have HPN := Lib.hid hps
                  clear l1 l2 l3 l4 l5 hadd hps e1 e2 hc0 hbb hcb htb hQ1 ea2 et hQ2 ea3 hp1 hq1 hP' hQ' HZ
                  go_wp2_with fail
                  refine HADD.out.mono ?_
                  rintro e w2 ⟨rfl, he2, hb2⟩
                  have HC1 := Lib.hid (HEL1.out w2 he2)
                  have HB2 := Lib.hid (HBL.out.trans hb2)
                  clear he2 hb2
                  go_wp2_with fail
                  refine HC1.out.mono ?_
                  rintro e w3' ⟨rfl, he3, hb3⟩
                  have HC2 := Lib.hid (HEL2.out w3' he3)
                  have HB3 := Lib.hid (HB2.out.trans hb3)
                  clear he3 hb3
                  go_wp2_with fail
                  refine HC2.out.mono ?_
                  rintro e w4' ⟨rfl, he4, hb4⟩
                  have HE4 := Lib.hid he4
                  have HB4' := Lib.hid (HB3.out.trans hb4)
                  clear he4 hb4
                  go_wp2_with fail
                  go_roundg (i - k)
                  case measure => omega
                  case rel => exact ⟨_, k + 2, _, _, _, _, _, by omega, hkn, HE4, HPN, HB4'⟩
                · have hzero : ∀ u v, u < i → v < i → ¬ Dn D k u → ¬ Dn D k v → bm (eI xss) D k u v = 0 := fun u v hu hv du dv => by
                    have e1 : dn u = false := by cases h : dn u; rfl; exact absurd ((HPS.out.dd u hu).1 h) du
                    have e2 : dn v = false := by cases h : dn v; rfl; exact absurd ((HPS.out.dd v hv).1 h) dv
                    rw [← HPS.out.en u v hu hv e1 e2]
                    exact hz2 u v hu hv e1 e2
                  have hinr := HPS.out.bst.inr HSYM.out dn HPS.out.dd hzero
                  have hrk := HPS.out.bst.rk hzero
                  have HANS : Hid (InA xss p q ((i : Int) - p - q)) := Lib.hid (by
                    unfold InA
                    rw [if_pos HI.out, HX.out.ln]
                    exact ⟨by omega, rfl, hinr, by rw [hpq]; exact hrk, fun h => ⟨HPS.out.bst.detn (by omega), HPS.out.bst.dets (by omega)⟩⟩)
                  obtain ⟨-, -, -, l4, l5, -, -⟩ := HLL.out
                  have c1 := HE.out.cp
                  have c2 := HE.out.cq
                  have f1 := HE.out.fp
                  have f2 := HE.out.fq
                  rw [l4] at c1 f1
                  rw [l5] at c2 f2
                  have hp64 : p ≤ 64 := by omega
                  have hq64 : q ≤ 64 := by omega
                  have hod := HE.out.od
                  obtain ⟨m1, -⟩ := HLL.out
                  rw [l4, l5, m1] at hod
                  have hlt4 : w.heap.size + 1 < b4 + 1 := by omega
                  have k1 : ∀ v : Value, (wr.setCell ⟨w.heap.size, 0, none⟩ v).cell? ⟨b4 + 1, 0, none⟩ = some (.slice (some ⟨b4, 0, none⟩) i i) := fun v => (cell_ne (by omega)).trans hca
                  have k2 : ∀ v u : Value, ((wr.setCell ⟨w.heap.size, 0, none⟩ v).setCell ⟨w.heap.size + 1, 0, none⟩ u).cell? ⟨b4 + 1, 0, none⟩ = some (.slice (some ⟨b4, 0, none⟩) i i) := fun v u => (cell_ne (by omega)).trans (k1 v)
                  clear hz2 hzero hinr hrk l4 l5 hod m1
                  go_wp2_with fail
                  go_region
                  all_goals go_wp2_with fail
                  all_goals
                    obtain ⟨y0, y1⟩ := box2 (w := wr) (u := .int .i64 p) (v := .int .i64 q) c1 c2
                    refine bodyPost_ret (v := .tuple #[.int .i64 p, .int .i64 q, .int .i64 ((i : Int) - p - q), .int .i64 0]) (by simp [results, Try.results13, go_sem, y0, y1]) rfl ?_
                    exact ⟨p, q, _, by rw [HI.out]; rfl, HANS.out, ((HBL.out.setCell (p := ⟨w.heap.size, 0, none⟩) (Nat.le_refl _) _).setCell (p := ⟨w.heap.size + 1, 0, none⟩) (Nat.le_succ _) _).trans ⟨rfl, rfl, rfl, Nat.le_refl _, fun _ _ => rfl⟩⟩
      · skip
        have hE : rkE xss = 9 := by unfold rkE; rw [if_pos hm, if_neg hl]
        have HI : Hid (inE xss = 9) := Lib.hid (by unfold inE; rw [if_pos ⟨hm, hs⟩, if_neg hl])
        rw [hE]
        go_wp2_with fail
        refine (symmetric_any A cap xss n w3 HX3.out).mono ?_
        rintro e w4 ⟨rfl, nz, rfl⟩
        rw [HDS.out]
        go_wp2_with fail
        obtain ⟨y0, y1⟩ := box2 (w := w3.drewN nz) (u := .int .i64 0) (v := .int .i64 0) d1 d2
        refine bodyPost_ret (v := .tuple #[.int .i64 0, .int .i64 0, .int .i64 0, .int .i64 9]) (by simp [results, Try.results13, go_sem, y0, y1]) rfl ?_
        obtain ⟨k1, k2⟩ := HEND.out 0 (by rw [HI.out]; decide)
        exact ⟨0, 0, 0, by rw [HI.out]; rfl, k1, k2.trans ⟨rfl, rfl, rfl, Nat.le_refl _, fun _ _ => rfl⟩⟩
    · have HDS := Lib.hid (decide_eq_false hs)
      by_cases hl : Sml xss
      · skip
        have hE : rkE xss = 0 := by unfold rkE; rw [if_pos hm, if_pos hl]
        have HI : Hid (inE xss = 1) := Lib.hid (by unfold inE; rw [if_neg fun h => hs h.2])
        rw [hE]
        go_wp2_with fail
        refine (symmetric_any A cap xss n w3 HX3.out).mono ?_
        rintro e w4 ⟨rfl, nz, rfl⟩
        rw [HDS.out]
        go_wp2_with fail
        obtain ⟨y0, y1⟩ := box2 (w := w3.drewN nz) (u := .int .i64 0) (v := .int .i64 0) d1 d2
        refine bodyPost_ret (v := .tuple #[.int .i64 0, .int .i64 0, .int .i64 0, .int .i64 1]) (by simp [results, Try.results13, go_sem, y0, y1]) rfl ?_
        obtain ⟨k1, k2⟩ := HEND.out 0 (by rw [HI.out]; decide)
        exact ⟨0, 0, 0, by rw [HI.out]; rfl, k1, k2.trans ⟨rfl, rfl, rfl, Nat.le_refl _, fun _ _ => rfl⟩⟩
      · skip
        have hE : rkE xss = 9 := by unfold rkE; rw [if_pos hm, if_neg hl]
        have HI : Hid (inE xss = 1) := Lib.hid (by unfold inE; rw [if_neg fun h => hs h.2])
        rw [hE]
        go_wp2_with fail
        refine (symmetric_any A cap xss n w3 HX3.out).mono ?_
        rintro e w4 ⟨rfl, nz, rfl⟩
        rw [HDS.out]
        go_wp2_with fail
        obtain ⟨y0, y1⟩ := box2 (w := w3.drewN nz) (u := .int .i64 0) (v := .int .i64 0) d1 d2
        refine bodyPost_ret (v := .tuple #[.int .i64 0, .int .i64 0, .int .i64 0, .int .i64 1]) (by simp [results, Try.results13, go_sem, y0, y1]) rfl ?_
        obtain ⟨k1, k2⟩ := HEND.out 0 (by rw [HI.out]; decide)
        exact ⟨0, 0, 0, by rw [HI.out]; rfl, k1, k2.trans ⟨rfl, rfl, rfl, Nat.le_refl _, fun _ _ => rfl⟩⟩
  · have hE : rkE xss = 1 := by unfold rkE; rw [if_neg hm]
    have HI : Hid (inE xss = 1) := Lib.hid (by unfold inE; rw [if_neg fun h => hm h.1])
    rw [hE]
    go_wp2_with fail
    obtain ⟨y0, y1⟩ := box2 (w := w3) (u := .int .i64 0) (v := .int .i64 0) d1 d2
    refine bodyPost_ret (v := .tuple #[.int .i64 0, .int .i64 0, .int .i64 0, .int .i64 1]) (by simp [results, Try.results13, go_sem, y0, y1]) rfl ?_
    obtain ⟨k1, k2⟩ := HEND.out 0 (by rw [HI.out]; decide)
    exact ⟨0, 0, 0, by rw [HI.out]; rfl, k1, k2⟩
end Go.Proofs.Yteanhbldhaiekaa
