/-
  The contract of connect.beside.
-/
import Derived.Test.YtaghemilihaiaaaEnd
import Derived.Test.YtaghemilihaiaaaConc
import Derived.Test.YtaghemilihaiaaaDClone
import Derived.Deep.RegionWith
import Derived.Deep.RegionLaw
import Derived.Deep.RegionHeld3
import Derived.Deep.DeepCutAuto
namespace Go.Proofs.Ytaghemilihaiaaa
open Go.RowKit

theorem conc2 {W0 W : World} {g : Nat} {P Q : Option Addr} {p q : Nat} {xs ys : List Int} (h1 : RI W0 (· < W0.heap.size) P xs) (h2 : RI W0 (· < W0.heap.size) Q ys) (hx : xs.length ≤ 100000) (hy : ys.length ≤ 100000) (hB : Below W0.heap.size W0 W)
    (c0 : W.cell? ⟨g, 0, none⟩ = some (.slice P xs.length p)) (c1 : W.cell? ⟨g, 1, none⟩ = some (.slice Q ys.length q)) :
    Calls Try.prog 72 #[.slice (some ⟨g, 0, none⟩) 2 2] W fun e w' => ∃ A c, e = .returned (.slice A (xs.length + ys.length) c) ∧ OI w' W.heap.size (.slice A (xs.length + ys.length) c) (xs ++ ys) ∧ Below W0.heap.size W0 w' ∧ Below W.heap.size W w' ∧ W0.heap.size ≤ W.heap.size := by
  have hg : g < W.heap.size := World.block_lt_of_cell? W _ c0
  have hr : RL W (· < W.heap.size) (some ⟨g, 0, none⟩) [xs, ys] := fun _ => ⟨g, 0, rfl, hg, fun k hk => by
    have hk' : k = 0 ∨ k = 1 := by simp at hk; omega
    rcases hk' with rfl | rfl
    · exact ⟨P, p, c0, (h1.below hB).imp fun _ hb => Nat.lt_of_lt_of_le hb hB.size, by unfold maxLen; simp; omega⟩
    · exact ⟨Q, q, c1, (h2.below hB).imp fun _ hb => Nat.lt_of_lt_of_le hb hB.size, by unfold maxLen; simp; omega⟩⟩
  refine (concat_any (c := 2) hr (by simp) (by simp; omega)).mono ?_
  rintro e w' ⟨v, rfl, ho, hb⟩
  have e : [xs, ys].flatten = xs ++ ys := by simp
  rw [e] at ho
  obtain ⟨A, c, rfl, -, -, -⟩ := ho.shape
  rw [List.length_append] at ho ⊢
  exact ⟨A, c, rfl, ho, hB.trans (hb.mono hB.size), hb, hB.size⟩
theorem cellW {X W : World} {a : Addr} {v : Value} (hb : Below X.heap.size X W) (hc : X.cell? a = some v) : W.cell? a = some v := (hb.cell (World.block_lt_of_cell? X a hc)).trans hc
theorem cellA {W : World} {o : Obj} {a : Addr} {v : Value} (hc : W.cell? a = some v) : (W.alloc o).cell? a = some v := (World.cell?_alloc_lt W o a (World.block_lt_of_cell? W a hc)).trans hc
theorem cellD {W : World} {a : Addr} {v : Value} (hc : W.cell? a = some v) : W.drew.cell? a = some v := hc
theorem cellN {W : World} {b o : Nat} {v : Value} {c : Array Value} {t : TypeId} (h : b = W.heap.size) (hv : c[o]? = some v) : (W.alloc (.cells c t)).cell? ⟨b, o, none⟩ = some v := by
  subst h
  rw [World.cell?_alloc_new]
  exact hv
theorem below_set {w0 W : World} {a : Addr} (hb : w0.heap.size ≤ a.block) (h : Below w0.heap.size w0 W) (v : Value) : Below w0.heap.size w0 (W.setCell a v) := h.setCell hb v
theorem shareH {G P : Prop} (g : G) (h : G → P) : P := h g
theorem below_al {w0 W : World} (h : Below w0.heap.size w0 W) (o : Obj) : Below w0.heap.size w0 (W.alloc o) := h.alloc h.size o
theorem zb_al {W : World} {b : Nat} (h : ZBox W b) (o : Obj) : ZBox (W.alloc o) b := h.below ((Below.refl _ _).alloc (Nat.le_refl _) _)
theorem zb_new {W : World} {b : Nat} (h : b = W.heap.size) : ZBox (W.alloc (.cells #[.slice none 0 0, .slice none 0 0, .int .i64 0] 24)) b := by
  subst h
  exact ZBox.new (heap_alloc_new W _) (by simp)
theorem shareG {G P : Prop} (h : G → P) (g : G) : P := h g
/-- the boxes of beside -/
structure BeS (w wr : World) (A1 A2 : Option Addr) (c1 c2 : Nat) (sa ma : List Int) (La : Int) (B1 B2 : Option Addr) (d1 d2 : Nat) (sb mb : List Int) (Lb : Int) : Prop where
  da : DBox wr w.heap.size A1 A2 c1 c2 sa ma La
  db : DBox wr (w.heap.size + 1) B1 B2 d1 d2 sb mb Lb
  zb : ZBox wr (w.heap.size + 2)
  bel : Below w.heap.size w wr
section
variable {w wr w' : World} {A1 A2 : Option Addr} {c1 c2 : Nat} {sa ma : List Int} {La : Int} {B1 B2 : Option Addr} {d1 d2 : Nat} {sb mb : List Int} {Lb : Int}
theorem BeS.call (h : BeS w wr A1 A2 c1 c2 sa ma La B1 B2 d1 d2 sb mb Lb) (hb : Below wr.heap.size wr w') : BeS w w' A1 A2 c1 c2 sa ma La B1 B2 d1 d2 sb mb Lb :=
  ⟨h.da.below hb, h.db.below hb, h.zb.below hb, h.bel.trans (hb.mono h.bel.size)⟩
theorem BeS.start (S : Nat → Prop) (hx : RI w S A1 sa) (hy : RI w S A2 ma) (hu : RI w S B1 sb) (hv : RI w S B2 mb) (hS : ∀ b, S b → b < w.heap.size) :
    BeS w (((w.alloc (.cells #[.slice A1 sa.length c1, .slice A2 ma.length c2, .int .i64 La] 24)).alloc (.cells #[.slice B1 sb.length d1, .slice B2 mb.length d2, .int .i64 Lb] 24)).alloc (.cells #[.slice none 0 0, .slice none 0 0, .int .i64 0] 24)) A1 A2 c1 c2 sa ma La B1 B2 d1 d2 sb mb Lb := by
  have hb0 : Below w.heap.size w (w.alloc (.cells #[.slice A1 sa.length c1, .slice A2 ma.length c2, .int .i64 La] 24)) := (Below.refl _ _).alloc (Nat.le_refl _) _
  have hs0 : (w.alloc (.cells #[.slice A1 sa.length c1, .slice A2 ma.length c2, .int .i64 La] 24)).heap.size = w.heap.size + 1 := by simp
  have da := DBox.start (c1 := c1) (c2 := c2) (L := La) S hx hy hS
  obtain ⟨w1, hw1⟩ : ∃ w1, w.alloc (.cells #[.slice A1 sa.length c1, .slice A2 ma.length c2, .int .i64 La] 24) = w1 := ⟨_, rfl⟩
  rw [hw1] at hb0 hs0 da ⊢
  have db := DBox.start (c1 := d1) (c2 := d2) (L := Lb) S (hu.keep fun b hb => hb0.block b (hS b hb)) (hv.keep fun b hb => hb0.block b (hS b hb)) (fun b hb => Nat.lt_of_lt_of_le (hS b hb) hb0.size)
  have hb1 : Below w1.heap.size w1 (w1.alloc (.cells #[.slice B1 sb.length d1, .slice B2 mb.length d2, .int .i64 Lb] 24)) := (Below.refl _ _).alloc (Nat.le_refl _) _
  have hs1 : (w1.alloc (.cells #[.slice B1 sb.length d1, .slice B2 mb.length d2, .int .i64 Lb] 24)).heap.size = w.heap.size + 2 := by simp [hs0]
  rw [hs0] at db
  obtain ⟨w2, hw2⟩ : ∃ w2, w1.alloc (.cells #[.slice B1 sb.length d1, .slice B2 mb.length d2, .int .i64 Lb] 24) = w2 := ⟨_, rfl⟩
  rw [hw2] at hb1 hs1 db ⊢
  have hb2 : Below w2.heap.size w2 (w2.alloc (.cells #[.slice none 0 0, .slice none 0 0, .int .i64 0] 24)) := (Below.refl _ _).alloc (Nat.le_refl _) _
  have hz := ZBox.new (b := w.heap.size + 2) (by rw [← hs1]; exact heap_alloc_new w2 (.cells #[.slice none 0 0, .slice none 0 0, .int .i64 0] 24)) (by simp [hs1])
  exact ⟨(da.below hb1).below hb2, db.below hb2, hz, (hb0.trans (hb1.mono hb0.size)).trans (hb2.mono (by rw [hs1]; omega))⟩
end
/-- the boxes, without the rows -/
structure BeC (w wr : World) (A2 : Option Addr) (c2 n : Nat) (B2 : Option Addr) (d2 m : Nat) : Prop where
  a1 : wr.cell? ⟨w.heap.size, 1, none⟩ = some (.slice A2 n c2)
  b1 : wr.cell? ⟨w.heap.size + 1, 1, none⟩ = some (.slice B2 m d2)
  zb : ZBox wr (w.heap.size + 2)
  bel : Below w.heap.size w wr
theorem BeC.store {w wr : World} {A2 B2 : Option Addr} {c2 n d2 m g k : Nat} (h : BeC w wr A2 c2 n B2 d2 m) (hg : w.heap.size + 3 ≤ g) (v : Value) : BeC w (wr.setCell ⟨g, k, none⟩ v) A2 c2 n B2 d2 m := by
  have o : ∀ b o, b < w.heap.size + 3 → (wr.setCell ⟨g, k, none⟩ v).cell? ⟨b, o, none⟩ = wr.cell? ⟨b, o, none⟩ := fun b o hb => World.cell?_of_block (a := ⟨b, o, none⟩) (Below.heap_setCell _ _ _ b (by show b ≠ g; omega))
  exact ⟨(o _ _ (by omega)).trans h.a1, (o _ _ (by omega)).trans h.b1, ⟨(o _ _ (by omega)).trans h.zb.z0, (o _ _ (by omega)).trans h.zb.z1, (o _ _ (by omega)).trans h.zb.z2, by rw [World.frozen?_setCell]; exact h.zb.f0, by rw [World.frozen?_setCell]; exact h.zb.f1, by rw [World.frozen?_setCell]; exact h.zb.f2, by rw [World.size_setCell]; exact h.zb.lt⟩, h.bel.setCell (by show w.heap.size ≤ g; omega) _⟩
theorem BeC.heap {w wr w' : World} {A2 B2 : Option Addr} {c2 n d2 m : Nat} (h : BeC w wr A2 c2 n B2 d2 m) (hb : Below wr.heap.size wr w') : BeC w w' A2 c2 n B2 d2 m :=
  ⟨(hb.cell (World.block_lt_of_cell? _ _ h.a1)).trans h.a1, (hb.cell (World.block_lt_of_cell? _ _ h.b1)).trans h.b1, h.zb.below hb, h.bel.trans (hb.mono h.bel.size)⟩
theorem keepB {w wr w' : World} {A1 A2 : Option Addr} {c1 c2 : Nat} {sa ma : List Int} {La : Int} {B1 B2 : Option Addr} {d1 d2 : Nat} {sb mb : List Int} {Lb : Int} (h : Hid (BeS w wr A1 A2 c1 c2 sa ma La B1 B2 d1 d2 sb mb Lb)) (hb : Below wr.heap.size wr w') :
    Hid (BeS w w' A1 A2 c1 c2 sa ma La B1 B2 d1 d2 sb mb Lb) ∧ w'.cell? ⟨w.heap.size, 0, none⟩ = some (.slice A1 sa.length c1) ∧ w'.cell? ⟨w.heap.size, 1, none⟩ = some (.slice A2 ma.length c2) ∧ w'.cell? ⟨w.heap.size + 1, 0, none⟩ = some (.slice B1 sb.length d1) ∧ w'.cell? ⟨w.heap.size + 1, 1, none⟩ = some (.slice B2 mb.length d2) := by
  have h' := h.out.call hb
  exact ⟨Lib.hid h', h'.da.c0, h'.da.c1, h'.db.c0, h'.db.c1⟩
/-- the new diagram: a box of two fresh rows -/
structure NwD (wx : World) (B b : Nat) (v1 v2 : Value) (xs ys : List Int) (K : Int) : Prop where
  c0 : wx.cell? ⟨b, 0, none⟩ = some v1
  c1 : wx.cell? ⟨b, 1, none⟩ = some v2
  c2 : wx.cell? ⟨b, 2, none⟩ = some (.int .i64 K)
  o1 : OI wx B v1 xs
  o2 : OI wx B v2 ys
  ne : ∀ g, v1.ownBlock = some g → v2.ownBlock ≠ some g
  nb : v2.ownBlock ≠ some b
  lo : B ≤ b
section
variable {wx w' : World} {B b n g c k : Nat} {v1 v2 : Value} {xs ys : List Int} {K : Int}
theorem NwD.call (h : NwD wx B b v1 v2 xs ys K) (hb : Below wx.heap.size wx w') : NwD w' B b v1 v2 xs ys K :=
  ⟨cellW hb h.c0, cellW hb h.c1, cellW hb h.c2, h.o1.below hb (Nat.le_refl _), h.o2.below hb (Nat.le_refl _), h.ne, h.nb, h.lo⟩
theorem NwD.put (h : NwD wx B b v1 (.slice (some ⟨g, 0, none⟩) n c) xs ys K) (hn : ys.length = n) (y : Int) : NwD (wx.setCell ⟨g, k, none⟩ (.int .i64 y)) B b v1 (.slice (some ⟨g, 0, none⟩) n c) xs (ys.set k y) K := by
  have hne : b ≠ g := fun e => h.nb (by rw [e]; rfl)
  have o : ∀ o, (wx.setCell ⟨g, k, none⟩ (.int .i64 y)).cell? ⟨b, o, none⟩ = wx.cell? ⟨b, o, none⟩ := fun o => World.cell?_of_block (a := ⟨b, o, none⟩) (Below.heap_setCell _ _ _ b hne)
  exact ⟨(o 0).trans h.c0, (o 1).trans h.c1, (o 2).trans h.c2, h.o1.keep fun g' hg' => Below.heap_setCell _ _ _ _ (fun e => h.ne g' hg' (by rw [e]; rfl)), h.o2.put hn k y, h.ne, h.nb, h.lo⟩
/-- an empty box of a diagram, with its type -/
structure ZB2 (w : World) (b : Nat) : Prop where
  z : ZBox w b
  t : ∃ cs, w.heap[b]? = some (.cells cs 24 (0, 0))
theorem ZB2.below {w : World} (h : ZB2 w b) (hb : Below w.heap.size w w') : ZB2 w' b := ⟨h.z.below hb, by obtain ⟨cs, h1⟩ := h.t; exact ⟨cs, by rw [hb.block b h.z.lt]; exact h1⟩⟩
theorem ZB2.drew {w : World} (h : ZB2 w b) : ZB2 w.drew b := ⟨h.z.drew, h.t⟩
theorem z2_al {w : World} (h : ZB2 w b) (o : Obj) : ZB2 (w.alloc o) b := h.below ((Below.refl _ _).alloc (Nat.le_refl _) _)
theorem z2_new {w : World} (h : b = w.heap.size) : ZB2 (w.alloc (.cells #[.slice none 0 0, .slice none 0 0, .int .i64 0] 24)) b := by
  subst h
  exact ⟨zb_new rfl, _, heap_alloc_new w _⟩
theorem own_ne {w : World} {v : Value} (h : OI w B v xs) (hz : ∃ cs, w.heap[b]? = some (.cells cs 24 (0, 0))) : v.ownBlock ≠ some b := fun e => by
  obtain ⟨cs, hT⟩ := hz
  rcases h.2 with ⟨rfl, -⟩ | ⟨g', c', cur, rfl, -, hh, -⟩
  · cases e
  · have e2 : g' = b := by injection e
    subst e2
    rw [hh] at hT
    injection hT with hT
    injection hT with _ hT
    exact absurd hT (by decide)
theorem seq2 {w0 X : World} {v : Value} (h : Below w0.heap.size w0 X) (hc : Below X.heap.size X w') (ho : OI w' X.heap.size v xs) : Below w0.heap.size w0 w' ∧ OI w' w0.heap.size v xs := ⟨h.trans (hc.mono h.size), ho.mono h.size⟩
/-- two rows made one behind the other -/
structure Two (wx : World) (N : Nat) (v1 v2 : Value) (xs ys : List Int) : Prop where
  o1 : OI wx N v1 xs
  o2 : OI wx N v2 ys
  ne : ∀ g, v1.ownBlock = some g → v2.ownBlock ≠ some g
theorem two_S {wS wM : World} {N : Nat} (h1 : OI wS N v1 xs) (hj : Below wS.heap.size wS wM ∧ OI wM wS.heap.size v2 ys) (hN : N ≤ wS.heap.size) : Two wM N v1 v2 xs ys :=
  ⟨h1.below hj.1 (Nat.le_refl _), hj.2.mono hN, fun g e1 e2 => by have := (h1.lt g e1).2; have := (hj.2.lt g e2).1; omega⟩
theorem two_M {wS wM : World} {N : Nat} (h2 : OI wM N v2 ys) (hj : Below wM.heap.size wM wS ∧ OI wS wM.heap.size v1 xs) (hN : N ≤ wM.heap.size) : Two wS N v1 v2 xs ys :=
  ⟨hj.2.mono hN, h2.below hj.1 (Nat.le_refl _), fun g e1 e2 => by have := (h2.lt g e2).2; have := (hj.2.lt g e1).1; omega⟩
theorem nw_alloc {N : Nat} (h : Two wx N v1 v2 xs ys) (hN : B ≤ N) (hl : N ≤ wx.heap.size) : NwD (wx.alloc (.cells #[v1, v2, .int .i64 K] 24)) B wx.heap.size v1 v2 xs ys K := by
  have hb : Below wx.heap.size wx (wx.alloc (.cells #[v1, v2, .int .i64 K] 24)) := (Below.refl _ _).alloc (Nat.le_refl _) _
  exact ⟨cellN rfl rfl, cellN rfl rfl, cellN rfl rfl, (h.o1.below hb (Nat.le_refl _)).mono hN, (h.o2.below hb (Nat.le_refl _)).mono hN, h.ne, fun e => by have := (h.o2.lt _ e).2; omega, by omega⟩
theorem nw_set {N : Nat} (h : Two wx N v1 v2 xs ys) (hz : ZB2 wx b) (hN : B ≤ N) (hl : B ≤ b) : NwD (((wx.setCell ⟨b, 0, none⟩ v1).setCell ⟨b, 1, none⟩ v2).setCell ⟨b, 2, none⟩ (.int .i64 K)) B b v1 v2 xs ys K := by
  have n1 := own_ne h.o1 hz.t
  have n2 := own_ne h.o2 hz.t
  have hk : ∀ g, g ≠ b → (((wx.setCell ⟨b, 0, none⟩ v1).setCell ⟨b, 1, none⟩ v2).setCell ⟨b, 2, none⟩ (.int .i64 K)).heap[g]? = wx.heap[g]? := fun g hg => by
    rw [Below.heap_setCell _ _ _ g hg, Below.heap_setCell _ _ _ g hg, Below.heap_setCell _ _ _ g hg]
  have ne : ∀ i j : Nat, i ≠ j → (⟨b, i, none⟩ : Addr) ≠ ⟨b, j, none⟩ := fun i j hij e => by injection e with _ e; exact hij e
  refine ⟨?_, ?_, ?_, (h.o1.keep fun g hg => hk g fun e => n1 (e ▸ hg)).mono hN, (h.o2.keep fun g hg => hk g fun e => n2 (e ▸ hg)).mono hN, h.ne, n2, hl⟩
  · rw [World.cell?_setCell_other (h := ne 2 0 (by decide)), World.cell?_setCell_other (h := ne 1 0 (by decide))]
    exact World.cell?_setCell_same (h := hz.z.z0) ..
  · rw [World.cell?_setCell_other (h := ne 2 1 (by decide))]
    exact World.cell?_setCell_same (h := (World.cell?_setCell_other (h := ne 0 1 (by decide)) ..).trans hz.z.z1) ..
  · exact World.cell?_setCell_same (h := (World.cell?_setCell_other (h := ne 1 2 (by decide)) ..).trans ((World.cell?_setCell_other (h := ne 0 2 (by decide)) ..).trans hz.z.z2)) ..
end
/-- the mates, the first k of the second diagram shifted -/
def mixM (ma mb : List Int) (k : Nat) : List Int := ma ++ ((mb.take k).map (· + (ma.length : Int)) ++ mb.drop k)
theorem mixM_len (ma mb : List Int) (k : Nat) : (mixM ma mb k).length = ma.length + mb.length := by simp [mixM]; omega
theorem mixM_0 (ma mb : List Int) : mixM ma mb 0 = ma ++ mb := by simp [mixM]
theorem mixM_all (ma mb : List Int) : mixM ma mb mb.length = unM ma mb := by simp [mixM, unM]
theorem gi_mixA {ma mb : List Int} {k j : Nat} (hj : j < ma.length) : gi (mixM ma mb k) j = gi ma j := gi_apA hj
theorem gi_mixB {ma mb : List Int} {k t : Nat} (hk : k ≤ mb.length) (ht : t < mb.length) : gi (mixM ma mb k) (ma.length + t) = if t < k then gi mb t + (ma.length : Int) else gi mb t := by
  have hl : ((mb.take k).map (· + (ma.length : Int))).length = k := by rw [List.length_map, List.length_take, Nat.min_eq_left hk]
  unfold mixM
  rw [gi_apB]
  by_cases h : t < k
  · rw [if_pos h, gi_apA (by rw [hl]; exact h)]
    unfold gi
    rw [List.getD_eq_getElem?_getD, List.getElem?_map, List.getElem?_take, if_pos h, List.getD_eq_getElem?_getD, List.getElem?_eq_getElem ht]
    rfl
  · have e : t = ((mb.take k).map (· + (ma.length : Int))).length + (t - k) := by rw [hl]; omega
    rw [if_neg h]
    have h2 := gi_apB (xs := (mb.take k).map (· + (ma.length : Int))) (ys := mb.drop k) (t - k)
    rw [← e] at h2
    rw [h2]
    unfold gi
    rw [List.getD_eq_getElem?_getD, List.getElem?_drop, show k + (t - k) = t by omega, List.getD_eq_getElem?_getD]
theorem mixM_at {ma mb : List Int} {k : Nat} (hk : k < mb.length) : gi (mixM ma mb k) (ma.length + k) = gi mb k := by
  rw [gi_mixB (Nat.le_of_lt hk) hk, if_neg (Nat.lt_irrefl k)]
theorem mixM_set {ma mb : List Int} {k : Nat} (hk : k < mb.length) : (mixM ma mb k).set (ma.length + k) (gi mb k + (ma.length : Int)) = mixM ma mb (k + 1) := by
  refine ext_gi (by rw [List.length_set, mixM_len, mixM_len]) fun j hj => ?_
  rw [List.length_set, mixM_len] at hj
  rw [gi_set (by rw [mixM_len]; omega)]
  by_cases h1 : j < ma.length
  · rw [if_neg (by omega), gi_mixA h1, gi_mixA h1]
  · obtain ⟨t, rfl⟩ : ∃ t, j = ma.length + t := ⟨j - ma.length, by omega⟩
    rw [gi_mixB (k := k + 1) (by omega) (by omega), gi_mixB (Nat.le_of_lt hk) (by omega)]
    by_cases h2 : t = k
    · subst h2; rw [if_pos rfl, if_pos (Nat.lt_succ_self _)]
    · rw [if_neg (by omega)]
      by_cases h3 : t < k
      · rw [if_pos h3, if_pos (by omega)]
      · rw [if_neg h3, if_neg (by omega)]
section
variable (A1 A2 : Option Addr) (c1 c2 : Nat) (sa ma : List Int) (La : Int) (B1 B2 : Option Addr) (d1 d2 : Nat) (sb mb : List Int) (Lb K : Int) (w : World) (S : Nat → Prop)
set_option maxRecDepth 100000 in
set_option maxHeartbeats 16000000 in
theorem beside_any (hx : RI w S A1 sa) (hy : RI w S A2 ma) (hu : RI w S B1 sb) (hv : RI w S B2 mb) (hS : ∀ b, S b → b < w.heap.size) (h64 : sa.length + sb.length ≤ 64) (ha : ma.length ≤ 256) (hb : mb.length ≤ 256) (hK : 0 ≤ K ∧ K ≤ 64) (hm : ∀ k, k < mb.length → 0 ≤ gi mb k ∧ gi mb k ≤ 256) :
    Calls Try.prog 52 #[.agg #[.slice A1 sa.length c1, .slice A2 ma.length c2, .int .i64 La], .agg #[.slice B1 sb.length d1, .slice B2 mb.length d2, .int .i64 Lb], .int .i64 K] w fun e w' =>
      ∃ v1 v2, e = .returned (.tuple #[.agg #[v1, v2, .int .i64 K], .int .i64 0]) ∧ Fresh w' w.heap.size v1 v2 (sa ++ sb) (unM ma mb) ∧ Below w.heap.size w w' := by
  have T0 := Lib.hid (BeS.start (c1 := c1) (c2 := c2) (La := La) (d1 := d1) (d2 := d2) (Lb := Lb) S hx hy hu hv hS)
  have HM := Lib.hid hm
  have k0 := T0.out.da.c0
  have k1 := T0.out.da.c1
  have l0 := T0.out.db.c0
  have l1 := T0.out.db.c1
  clear hx hy hu hv hS hm
  go_enter Try.func52, Try.ntmps52
  go_wp2_with fail
  generalize hW : ((w.alloc (.cells #[.slice A1 sa.length c1, .slice A2 ma.length c2, .int .i64 La] 24)).alloc (.cells #[.slice B1 sb.length d1, .slice B2 mb.length d2, .int .i64 Lb] 24)).alloc (.cells #[.slice none 0 0, .slice none 0 0, .int .i64 0] 24) = wr at *
  clear hW
  have hs0 : w.heap.size + 3 ≤ wr.heap.size := T0.out.zb.lt
  have hs1 : w.heap.size < wr.heap.size := by omega
  have hs2 : w.heap.size + 1 < wr.heap.size := by omega
  have HSA := Lib.hid T0.out.da.rs
  have HSB := Lib.hid T0.out.db.rs
  have HMA := Lib.hid T0.out.da.rm
  have HMB := Lib.hid T0.out.db.rm
  go_cut [8] (fun v wx => ∃ (b : Nat) (v1 v2 : Value), v = .pointer (some ⟨b, 0, none⟩) ∧ Hid (BeS w wx A1 A2 c1 c2 sa ma La B1 B2 d1 d2 sb mb Lb) ∧ Hid (NwD wx (w.heap.size + 3) b v1 v2 (sa ++ sb) (ma ++ mb) K))
  case first =>
    go_region_held3 (fun w' => Hid (BeS w w' A1 A2 c1 c2 sa ma La B1 B2 d1 d2 sb mb Lb) ∧ w'.cell? ⟨w.heap.size, 0, none⟩ = some (.slice A1 sa.length c1) ∧ w'.cell? ⟨w.heap.size, 1, none⟩ = some (.slice A2 ma.length c2) ∧ w'.cell? ⟨w.heap.size + 1, 0, none⟩ = some (.slice B1 sb.length d1) ∧ w'.cell? ⟨w.heap.size + 1, 1, none⟩ = some (.slice B2 mb.length d2))
      (((with_reducible refine keepB T0 ?_); (repeat (first | with_reducible exact HBS.out | with_reducible exact HBM.out | with_reducible exact Below.refl _ _ | with_reducible refine Below.drew ?_ | ((with_reducible refine below_set ?_ ?_ _); (focus (first | (simp; done) | (simp; omega)))) | with_reducible refine below_al ?_ _))))
      (first
        | (go_at_call 72; (with_reducible refine (conc2 (W0 := wr) HSA.out HSB.out (by omega) (by omega) ?_ (p := c1) (q := d1) ?_ ?_).mono ?_); (repeat (first | with_reducible exact HBS.out | with_reducible exact HBM.out | with_reducible exact Below.refl _ _ | with_reducible refine Below.drew ?_ | ((with_reducible refine below_set ?_ ?_ _); (focus (first | (simp; done) | (simp; omega)))) | with_reducible refine below_al ?_ _)); (repeat (first | with_reducible refine cellD ?_ | ((with_reducible refine cellN ?_ ?_); (focus (first | (with_reducible rfl) | (simp; done))); (focus (exact rfl))) | with_reducible refine cellW HCS.out ?_ | with_reducible refine cellW HCM.out ?_ | with_reducible refine cellA ?_)); rintro eS wS ⟨PS, pS, rfl, hoS, hbS, hcS, hnS⟩; have HOS := Lib.hid hoS; have HBS := Lib.hid hbS; have HCS := Lib.hid hcS; have szS := HBS.out.size; (try (refine shareH (G := ZB2 wS (wr.heap.size)) ?_ ?_; (focus ((repeat (first | with_reducible refine ZB2.drew ?_ | ((with_reducible refine z2_new ?_); (focus (first | (with_reducible rfl) | (simp; done)))) | with_reducible exact HZS.out | with_reducible exact HZM.out | with_reducible refine ZB2.below ?_ HCS.out | with_reducible refine ZB2.below ?_ HCM.out | with_reducible refine z2_al ?_ _)); done)); intro hzS; have HZS := Lib.hid hzS; have yS0 := hzS.z.z0; have yS1 := hzS.z.z1; have yS2 := hzS.z.z2; have gS0 := hzS.z.f0; have gS1 := hzS.z.f1; have gS2 := hzS.z.f2; have tS := hzS.z.lt; clear hzS)); (try (refine shareH (G := ZB2 wS (wr.heap.size + 1)) ?_ ?_; (focus ((repeat (first | with_reducible refine ZB2.drew ?_ | ((with_reducible refine z2_new ?_); (focus (first | (with_reducible rfl) | (simp; done)))) | with_reducible exact HZS.out | with_reducible exact HZM.out | with_reducible refine ZB2.below ?_ HCS.out | with_reducible refine ZB2.below ?_ HCM.out | with_reducible refine z2_al ?_ _)); done)); intro hzS; have HZS := Lib.hid hzS; have yS0 := hzS.z.z0; have yS1 := hzS.z.z1; have yS2 := hzS.z.z2; have gS0 := hzS.z.f0; have gS1 := hzS.z.f1; have gS2 := hzS.z.f2; have tS := hzS.z.lt; clear hzS)); (try (refine shareH (G := ZB2 wS (wr.heap.size + 1 + 1)) ?_ ?_; (focus ((repeat (first | with_reducible refine ZB2.drew ?_ | ((with_reducible refine z2_new ?_); (focus (first | (with_reducible rfl) | (simp; done)))) | with_reducible exact HZS.out | with_reducible exact HZM.out | with_reducible refine ZB2.below ?_ HCS.out | with_reducible refine ZB2.below ?_ HCM.out | with_reducible refine z2_al ?_ _)); done)); intro hzS; have HZS := Lib.hid hzS; have yS0 := hzS.z.z0; have yS1 := hzS.z.z1; have yS2 := hzS.z.z2; have gS0 := hzS.z.f0; have gS1 := hzS.z.f1; have gS2 := hzS.z.f2; have tS := hzS.z.lt; clear hzS)); (try (refine shareH (G := ZB2 wS (wM.heap.size)) ?_ ?_; (focus ((repeat (first | with_reducible refine ZB2.drew ?_ | ((with_reducible refine z2_new ?_); (focus (first | (with_reducible rfl) | (simp; done)))) | with_reducible exact HZS.out | with_reducible exact HZM.out | with_reducible refine ZB2.below ?_ HCS.out | with_reducible refine ZB2.below ?_ HCM.out | with_reducible refine z2_al ?_ _)); done)); intro hzS; have HZS := Lib.hid hzS; have yS0 := hzS.z.z0; have yS1 := hzS.z.z1; have yS2 := hzS.z.z2; have gS0 := hzS.z.f0; have gS1 := hzS.z.f1; have gS2 := hzS.z.f2; have tS := hzS.z.lt; clear hzS)); (try (refine shareH (G := ZB2 wS (wM.heap.size + 1)) ?_ ?_; (focus ((repeat (first | with_reducible refine ZB2.drew ?_ | ((with_reducible refine z2_new ?_); (focus (first | (with_reducible rfl) | (simp; done)))) | with_reducible exact HZS.out | with_reducible exact HZM.out | with_reducible refine ZB2.below ?_ HCS.out | with_reducible refine ZB2.below ?_ HCM.out | with_reducible refine z2_al ?_ _)); done)); intro hzS; have HZS := Lib.hid hzS; have yS0 := hzS.z.z0; have yS1 := hzS.z.z1; have yS2 := hzS.z.z2; have gS0 := hzS.z.f0; have gS1 := hzS.z.f1; have gS2 := hzS.z.f2; have tS := hzS.z.lt; clear hzS)); have HWS := Lib.hid (hoS.mono hnS); have snS := hnS; (try (refine shareH (seq2 (w0 := wM) ?_ hcS hoS) ?_; (focus ((repeat (first | with_reducible exact HBS.out | with_reducible exact HBM.out | with_reducible exact Below.refl _ _ | with_reducible refine Below.drew ?_ | ((with_reducible refine below_set ?_ ?_ _); (focus (first | (simp; done) | (simp; omega)))) | with_reducible refine below_al ?_ _)); done)); intro hj; have HJ := Lib.hid hj; clear hj)); clear hoS hbS hcS hnS)
        | (go_at_call 72; (with_reducible refine (conc2 (W0 := wr) HMA.out HMB.out (by omega) (by omega) ?_ (p := c2) (q := d2) ?_ ?_).mono ?_); (repeat (first | with_reducible exact HBS.out | with_reducible exact HBM.out | with_reducible exact Below.refl _ _ | with_reducible refine Below.drew ?_ | ((with_reducible refine below_set ?_ ?_ _); (focus (first | (simp; done) | (simp; omega)))) | with_reducible refine below_al ?_ _)); (repeat (first | with_reducible refine cellD ?_ | ((with_reducible refine cellN ?_ ?_); (focus (first | (with_reducible rfl) | (simp; done))); (focus (exact rfl))) | with_reducible refine cellW HCS.out ?_ | with_reducible refine cellW HCM.out ?_ | with_reducible refine cellA ?_)); rintro eM wM ⟨PM, pM, rfl, hoM, hbM, hcM, hnM⟩; have HOM := Lib.hid hoM; have HBM := Lib.hid hbM; have HCM := Lib.hid hcM; have szM := HBM.out.size; (try (refine shareH (G := ZB2 wM (wr.heap.size)) ?_ ?_; (focus ((repeat (first | with_reducible refine ZB2.drew ?_ | ((with_reducible refine z2_new ?_); (focus (first | (with_reducible rfl) | (simp; done)))) | with_reducible exact HZS.out | with_reducible exact HZM.out | with_reducible refine ZB2.below ?_ HCS.out | with_reducible refine ZB2.below ?_ HCM.out | with_reducible refine z2_al ?_ _)); done)); intro hzM; have HZM := Lib.hid hzM; have yM0 := hzM.z.z0; have yM1 := hzM.z.z1; have yM2 := hzM.z.z2; have gM0 := hzM.z.f0; have gM1 := hzM.z.f1; have gM2 := hzM.z.f2; have tM := hzM.z.lt; clear hzM)); (try (refine shareH (G := ZB2 wM (wr.heap.size + 1)) ?_ ?_; (focus ((repeat (first | with_reducible refine ZB2.drew ?_ | ((with_reducible refine z2_new ?_); (focus (first | (with_reducible rfl) | (simp; done)))) | with_reducible exact HZS.out | with_reducible exact HZM.out | with_reducible refine ZB2.below ?_ HCS.out | with_reducible refine ZB2.below ?_ HCM.out | with_reducible refine z2_al ?_ _)); done)); intro hzM; have HZM := Lib.hid hzM; have yM0 := hzM.z.z0; have yM1 := hzM.z.z1; have yM2 := hzM.z.z2; have gM0 := hzM.z.f0; have gM1 := hzM.z.f1; have gM2 := hzM.z.f2; have tM := hzM.z.lt; clear hzM)); (try (refine shareH (G := ZB2 wM (wr.heap.size + 1 + 1)) ?_ ?_; (focus ((repeat (first | with_reducible refine ZB2.drew ?_ | ((with_reducible refine z2_new ?_); (focus (first | (with_reducible rfl) | (simp; done)))) | with_reducible exact HZS.out | with_reducible exact HZM.out | with_reducible refine ZB2.below ?_ HCS.out | with_reducible refine ZB2.below ?_ HCM.out | with_reducible refine z2_al ?_ _)); done)); intro hzM; have HZM := Lib.hid hzM; have yM0 := hzM.z.z0; have yM1 := hzM.z.z1; have yM2 := hzM.z.z2; have gM0 := hzM.z.f0; have gM1 := hzM.z.f1; have gM2 := hzM.z.f2; have tM := hzM.z.lt; clear hzM)); (try (refine shareH (G := ZB2 wM (wS.heap.size)) ?_ ?_; (focus ((repeat (first | with_reducible refine ZB2.drew ?_ | ((with_reducible refine z2_new ?_); (focus (first | (with_reducible rfl) | (simp; done)))) | with_reducible exact HZS.out | with_reducible exact HZM.out | with_reducible refine ZB2.below ?_ HCS.out | with_reducible refine ZB2.below ?_ HCM.out | with_reducible refine z2_al ?_ _)); done)); intro hzM; have HZM := Lib.hid hzM; have yM0 := hzM.z.z0; have yM1 := hzM.z.z1; have yM2 := hzM.z.z2; have gM0 := hzM.z.f0; have gM1 := hzM.z.f1; have gM2 := hzM.z.f2; have tM := hzM.z.lt; clear hzM)); (try (refine shareH (G := ZB2 wM (wS.heap.size + 1)) ?_ ?_; (focus ((repeat (first | with_reducible refine ZB2.drew ?_ | ((with_reducible refine z2_new ?_); (focus (first | (with_reducible rfl) | (simp; done)))) | with_reducible exact HZS.out | with_reducible exact HZM.out | with_reducible refine ZB2.below ?_ HCS.out | with_reducible refine ZB2.below ?_ HCM.out | with_reducible refine z2_al ?_ _)); done)); intro hzM; have HZM := Lib.hid hzM; have yM0 := hzM.z.z0; have yM1 := hzM.z.z1; have yM2 := hzM.z.z2; have gM0 := hzM.z.f0; have gM1 := hzM.z.f1; have gM2 := hzM.z.f2; have tM := hzM.z.lt; clear hzM)); have HWM := Lib.hid (hoM.mono hnM); have snM := hnM; (try (refine shareH (seq2 (w0 := wS) ?_ hcM hoM) ?_; (focus ((repeat (first | with_reducible exact HBS.out | with_reducible exact HBM.out | with_reducible exact Below.refl _ _ | with_reducible refine Below.drew ?_ | ((with_reducible refine below_set ?_ ?_ _); (focus (first | (simp; done) | (simp; omega)))) | with_reducible refine below_al ?_ _)); done)); intro hj; have HJ := Lib.hid hj; clear hj)); clear hoM hbM hcM hnM))
    all_goals
      have hheld := And.left (by assumption)
      go_wp2_with fail
      go_meet
      case rel =>
        first
          | exact ⟨_, _, _, rfl, hheld, Lib.hid (nw_alloc (two_S HWS.out HJ.out HBS.out.size) hs0 HBM.out.size)⟩
          | exact ⟨_, _, _, rfl, hheld, Lib.hid (nw_alloc (two_M HWM.out HJ.out HBM.out.size) hs0 HBS.out.size)⟩
          | exact ⟨_, _, _, rfl, hheld, Lib.hid (nw_set (two_S HWS.out HJ.out HBS.out.size) HZM.out hs0 (by omega))⟩
          | exact ⟨_, _, _, rfl, hheld, Lib.hid (nw_set (two_M HWM.out HJ.out HBM.out.size) HZS.out hs0 (by omega))⟩
  case rest =>
    obtain ⟨b, v1, v2, rfl, HT, HNW⟩ := hcut
    clear T0 k0 k1 l0 l1 HSA HSB HMA HMB hs0 hs1 hs2
    rw [← mixM_0 ma mb] at HNW
    have HTC : Hid (BeC w wc A2 c2 ma.length B2 d2 mb.length) := Lib.hid ⟨HT.out.da.c1, HT.out.db.c1, HT.out.zb, HT.out.bel⟩
    clear HT
    have hx0 := HTC.out.b1
    go_wp2_with fail
    clear hx0
    obtain ⟨A5, k5, hv5, -, -, -⟩ := HNW.out.o2.shape
    rw [mixM_len] at hv5
    subst hv5
    go_loopw [40] (fun i' wr => ∃ k : Nat, k ≤ mb.length ∧ i' = .int .i64 k ∧ Hid (BeC w wr A2 c2 ma.length B2 d2 mb.length) ∧ Hid (NwD wr (w.heap.size + 3) b v1 (.slice A5 (ma.length + mb.length) k5) (sa ++ sb) (mixM ma mb k) K)) (fun i _ => mb.length - (intOf i).toNat)
    case atStart => exact ⟨0, Nat.zero_le _, rfl, HTC, HNW⟩
    case round =>
      clear HTC HNW
      obtain ⟨k, hk, rfl, HTC, HNW⟩ := hrel
      by_cases hlt : k < mb.length
      · have hlen := mixM_len ma mb k
        obtain ⟨g, c', e5, hg1, hg2, -, -, -, -⟩ := HNW.out.o2.block (by rw [hlen]; omega)
        injection e5 with e5 _ _
        subst e5
        have f0 := HNW.out.c0
        have f1 := HNW.out.c1
        have f2 := HNW.out.c2
        have ho := HNW.out.o2
        obtain ⟨q0, q1⟩ := row_at (k := ma.length + k) (xs := mixM ma mb k) (by rw [hlen]; exact ho) (by rw [hlen]; omega)
        rw [mixM_at hlt] at q0
        have hmb := HM.out k hlt
        have j1 := HTC.out.a1
        have HP := Lib.hid (HNW.out.put (k := ma.length + k) hlen (gi mb k + (ma.length : Int)))
        rw [mixM_set hlt] at HP
        obtain ⟨y, hy⟩ : ∃ y, gi mb k = y := ⟨_, rfl⟩
        rw [hy] at q0 hmb HP
        have HTS : Hid (BeC w (wr.setCell ⟨g, ma.length + k, none⟩ (.int .i64 (y + (ma.length : Int)))) A2 c2 ma.length B2 d2 mb.length) := Lib.hid (HTC.out.store hg1 _)
        have x1 : IntKind.i64.wrap ((ma.length : Int) + (k : Int)) = (ma.length : Int) + k := IntWalk.i64_in _ (by omega)
        have x2 : IntKind.i64.wrap (y + (ma.length : Int)) = y + (ma.length : Int) := IntWalk.i64_in _ (by omega)
        clear hy hlen ho HTC HNW
        go_wp2_with fail
        go_region
        all_goals
          go_wp2_with fail
          go_roundw
          case rel => exact ⟨k + 1, by omega, by go_num, Lib.hid (HTS.out.heap (Below.refl _ _).drew), Lib.hid (HP.out.call (Below.refl _ _).drew)⟩
          case measure => simp [intOf]; omega
      · obtain rfl : k = mb.length := by omega
        rw [mixM_all] at HNW
        have f0 := HNW.out.c0
        have f1 := HNW.out.c1
        have f2 := HNW.out.c2
        have y0 := HTC.out.zb.z0
        have y1 := HTC.out.zb.z1
        have y2 := HTC.out.zb.z2
        have g0 := HTC.out.zb.f0
        have g1 := HTC.out.zb.f1
        have g2 := HTC.out.zb.f2
        obtain ⟨P1, p1, hv1, -, -, -⟩ := HNW.out.o1.shape
        obtain ⟨n1, hn1⟩ : ∃ n, (sa ++ sb).length = n := ⟨_, rfl⟩
        rw [hn1] at hv1
        subst hv1
        have hlo := HNW.out.lo
        have hblk : ∀ x y z : Value, ∀ g, w.heap.size + 2 < g → (((wr.setCell ⟨w.heap.size + 2, 0, none⟩ x).setCell ⟨w.heap.size + 2, 1, none⟩ y).setCell ⟨w.heap.size + 2, 2, none⟩ z).heap[g]? = wr.heap[g]? := fun x y z g hg => by
          rw [Below.heap_setCell _ _ _ g (by simp; omega), Below.heap_setCell _ _ _ g (by simp; omega), Below.heap_setCell _ _ _ g (by simp; omega)]
        have HEND : Hid (∀ x y z : Value, Fresh (((wr.setCell ⟨w.heap.size + 2, 0, none⟩ x).setCell ⟨w.heap.size + 2, 1, none⟩ y).setCell ⟨w.heap.size + 2, 2, none⟩ z) w.heap.size (.slice P1 n1 p1) (.slice A5 (ma.length + mb.length) k5) (sa ++ sb) (unM ma mb) ∧ Below w.heap.size w (((wr.setCell ⟨w.heap.size + 2, 0, none⟩ x).setCell ⟨w.heap.size + 2, 1, none⟩ y).setCell ⟨w.heap.size + 2, 2, none⟩ z)) := Lib.hid fun x y z =>
          ⟨⟨(HNW.out.o1.keep fun g hg => hblk x y z g (by have := (HNW.out.o1.lt g hg).1; omega)).mono (by omega), (HNW.out.o2.keep fun g hg => hblk x y z g (by have := (HNW.out.o2.lt g hg).1; omega)).mono (by omega), HNW.out.ne⟩,
            ((HTC.out.bel.setCell (by simp) _).setCell (by simp) _).setCell (by simp) _⟩
        clear hblk hn1 HNW HTC
        go_wp2_with fail
        refine bodyPost_ret (v := .tuple #[.agg #[.slice P1 n1 p1, .slice A5 (ma.length + mb.length) k5, .int .i64 K], .int .i64 0]) (by simp [results, Try.results52, go_sem, y0, y1, y2]) rfl ?_
        exact ⟨_, _, rfl, (HEND.out _ _ _).1, (HEND.out _ _ _).2⟩
end
end Go.Proofs.Ytaghemilihaiaaa

