/-
  The contract of surface.Matrix.
  The determinant of a product. No program here.
-/
import Derived.Test.YteanhbldhaiekaaZ17
import Derived.Test.YteanhbldhaiekaaZ25
import Derived.Test.YteanhbldhaiekaaZ06
import Derived.Deep.RegionLaw
namespace Go.Proofs.Yteanhbldhaiekaa
open Go.RowKit

/-- the error of Matrix; the matrix -/
def mxE (S : Int) (ws : List Int) : Nat := if lpE S ws = 0 then if 64 < (lpL S ws).length then 5 else 0 else lpE S ws
def mxL (S : Int) (ws : List Int) : List (List Int) := if mxE S ws = 0 then mkL (lpL S ws).length (lpL S ws).length fun i j => elS ws (gL (lpL S ws) i) (gL (lpL S ws) j) else []
theorem mxL_no {S : Int} {ws : List Int} (h : mxE S ws ≠ 0) : mxL S ws = [] := by unfold mxL; rw [if_neg h]
theorem gL_mem {ds : List Lp} {k : Nat} (hk : k < ds.length) : gL ds k ∈ ds := by
  unfold gL
  rw [List.getD_eq_getElem?_getD, List.getElem?_eq_getElem hk]
  exact List.getElem_mem hk
theorem elS_rg (ws : List Int) (x y : Lp) : -1 ≤ elS ws x y ∧ elS ws x y ≤ 1 := by
  unfold elS
  (repeat' split) <;> omega
theorem MuS.call {w w1 wr w' : World} {xa xb : List (List Int)} {n d i : Nat} {bs : Nat → Nat} {a : Nat → Nat → Int} (h : MuS w w1 wr xa xb n d i bs a) (hb : Below wr.heap.size wr w') : MuS w w1 w' xa xb n d i bs a :=
  ⟨h.mi.keep h.le hb.size h.lt fun b _ hl => hb.block b hl, h.bel.trans (hb.mono h.bel.size), Nat.lt_of_lt_of_le h.lt hb.size, h.le, fun j hj => by
    obtain ⟨⟨v, hv⟩, hf⟩ := h.hd j hj
    exact ⟨⟨v, (World.cell?_of_block (a := ⟨w1.heap.size, j, none⟩) (hb.block _ h.lt)).trans hv⟩, (World.frozen?_of_block (a := ⟨w1.heap.size, j, none⟩) (hb.block _ h.lt)).trans hf⟩⟩
/-- one proof for many goals of one statement -/
theorem share {G P : Prop} (h : G → P) (g : G) : P := h g
set_option maxHeartbeats 8000000 in
theorem matrix_any {w : World} {A : Option Addr} {c : Nat} {S : Int} {ws : List Int} {T : Nat → Prop} (hr : RI w T A ws) (hT : ∀ b, T b → b < w.heap.size) (hl : ws.length ≤ maxLen) (h1 : -9223372036854775808 ≤ S) (h2 : S ≤ 9223372036854775807) :
    Calls Try.prog 21 #[.agg #[.int .i64 S, .slice A ws.length c]] w fun e w' => ∃ A' n c', e = .returned (.tuple #[.slice A' n c', .int .i64 (mxE S ws : Nat)]) ∧ Below w.heap.size w w' ∧ AM w' A' n (mxL S ws) := by
  obtain ⟨c0, c1⟩ := brd_box w S A ws.length c 37
  have hb : Below w.heap.size w (w.alloc (.cells #[.int .i64 S, .slice A ws.length c] 37)) := (Below.refl _ w).alloc (Nat.le_refl _) _
  have HB := Lib.hid hb
  have HR : Hid (RI (w.alloc (.cells #[.int .i64 S, .slice A ws.length c] 37)) (· < w.heap.size) A ws) := Lib.hid ((hr.keep fun b hb' => hb.block b (hT b hb')).imp hT)
  have HSZ : Hid ((w.alloc (.cells #[.int .i64 S, .slice A ws.length c] 37)).heap.size = w.heap.size + 1) := Lib.hid (by simp)
  have HV := Lib.hid (loops_any (c := c) HR.out (fun b hb => by rw [HSZ.out]; omega) hl h1 h2)
  clear hr hT hb
  obtain ⟨W, hW⟩ : ∃ W, w.alloc (.cells #[.int .i64 S, .slice A ws.length c] 37) = W := ⟨_, rfl⟩
  rw [hW] at c0 c1 HB HR HSZ HV
  have HW := Lib.hid hW
  clear hW
  go_enter Try.func21, Try.ntmps21
  go_wp2_with fail
  rw [HW.out]
  refine HV.out.mono ?_
  rintro e w2 ⟨v, rfl, hb2, hol⟩
  have HB2 := Lib.hid (HB.out.trans (hb2.mono HB.out.size))
  have HS2 : Hid (w.heap.size + 1 ≤ w2.heap.size) := Lib.hid (by rw [← HSZ.out]; exact hb2.size)
  have HR2 := Lib.hid (HR.out.keep (w' := w2) fun b hb => hb2.block b (by rw [HSZ.out]; omega))
  have d1 : w2.cell? ⟨w.heap.size, 1, none⟩ = some (.slice A ws.length c) := (World.cell?_of_block (a := ⟨w.heap.size, 1, none⟩) (hb2.block _ (by rw [HSZ.out]; exact Nat.lt_succ_self _))).trans c1
  obtain ⟨A2, c2, rfl, hrl⟩ := hol.reads
  have HRL := Lib.hid (hrl.imp (T := (· < w2.heap.size)) fun b hb => hb.2)
  clear hb2 HB HR HSZ HV HW c0 c1 hrl hol
  obtain ⟨e, he⟩ : ∃ e, lpE S ws = e := ⟨_, rfl⟩
  rw [he]
  by_cases h0 : e = 0
  · subst h0
    have hmem : ∀ k, k < (lpL S ws).length → gL (lpL S ws) k ∈ lpS ws (S.toNat - 1) := fun k hk => by
      have := gL_mem hk
      unfold lpL at this ⊢
      rw [if_pos he] at this ⊢
      exact this
    have hv : BrV S ws := Classical.byContradiction fun h => by unfold lpE at he; rw [if_neg h] at he; omega
    have HM : Hid (∀ k, k < (lpL S ws).length → (gL (lpL S ws) k).g < 10 ∧ (gL (lpL S ws) k).p < (gL (lpL S ws) k).q ∧ (gL (lpL S ws) k).q < ws.length) := Lib.hid fun k hk => by
      obtain ⟨a, b, c, d, -⟩ := lpS_mem ws _ _ (hmem k hk)
      have := hv.2.1
      exact ⟨by omega, c, d⟩
    have HX : Hid (mxE S ws = if 64 < (lpL S ws).length then 5 else 0) := Lib.hid (by unfold mxE; rw [if_pos he])
    have HWL : Hid (ws.length ≤ 200) := Lib.hid hv.2.2.1
    obtain ⟨ds, hds⟩ : ∃ ds, lpL S ws = ds := ⟨_, rfl⟩
    have HDS := Lib.hid hds
    rw [hds] at HRL HM HX ⊢
    obtain ⟨n, hn⟩ : ∃ n, ds.length = n := ⟨_, rfl⟩
    rw [hn] at HM HX ⊢
    have HN := Lib.hid hn
    clear hmem he hv hds hn
    by_cases hn64 : 64 < n
    · have HE : Hid (mxE S ws = 5) := Lib.hid (by rw [HX.out, if_pos hn64])
      go_wp2_with fail
      go_ret2
      exact ⟨_, _, _, by rw [HE.out]; rfl, HB2.out, by rw [mxL_no (by rw [HE.out]; decide)]; exact AM.nil0 _⟩
    · have HE : Hid (mxE S ws = 0) := Lib.hid (by rw [HX.out, if_neg hn64])
      have hmk := make_introw n (by omega)
      have H0 : Hid (MuS w2 w2 (w2.alloc (.cells (List.replicate n (Value.slice none 0 0)).toArray 33)) [] [] n n 0 (fun _ => 0) (fun _ _ => 0)) := MuS.start (Below.refl _ _)
      go_wp2_with fail
      clear hmk
      rw [show (List.replicate n (Value.slice none 0 0)).toArray = Array.replicate n (Value.slice none 0 0) by simp] at H0
      go_loopw [27] (fun i' wr => ∃ (i : Nat) (bs : Nat → Nat) (a : Nat → Nat → Int), i ≤ n ∧ i' = .int .i64 i ∧ Hid (MuS w2 w2 wr [] [] n n i bs a) ∧ Hid (∀ x, x < i → ∀ y, y < n → a x y = elS ws (gL ds x) (gL ds y))) (fun i _ => n - (intOf i).toNat)
      case atStart => exact ⟨0, _, _, Nat.zero_le _, rfl, H0, fun x hx => by omega⟩
      case round =>
        clear H0
        obtain ⟨i, bs, a, hi, rfl, HU, HP⟩ := hrel
        have hrl := HRL.out.keep (w' := wr) fun b hb => HU.out.bel.block b hb
        by_cases hlti : i < n
        · obtain ⟨b1, o1, rfl, hb1, hc⟩ := hrl.at_ (k := i) (by rw [HN.out]; exact hlti)
          obtain ⟨x0, x1, x2⟩ := hc i (by rw [HN.out]; exact hlti)
          have hbl : b1 < wr.heap.size := Nat.lt_of_lt_of_le hb1 HU.out.bel.size
          unfold lI at x0 x1 x2
          clear hc hrl
          go_upto_region 10 with fail
          have q0 := World.cell?_alloc_new wr #[.int .i64 (gL ds i).g, .int .i64 (gL ds i).p, .int .i64 (gL ds i).q] 71
          obtain ⟨w3, hw3⟩ : ∃ w3, wr.alloc (.cells #[.int .i64 (gL ds i).g, .int .i64 (gL ds i).p, .int .i64 (gL ds i).q] 71) = w3 := ⟨_, rfl⟩
          have HB3 : Hid (Below wr.heap.size wr w3) := Lib.hid (by rw [← hw3]; exact (Below.refl _ _).alloc (Nat.le_refl _) _)
          have HS3 : Hid (w3.heap.size = wr.heap.size + 1) := Lib.hid (by rw [← hw3]; simp)
          rw [hw3] at q0 ⊢
          have g0 : w3.cell? ⟨wr.heap.size, 0, none⟩ = some (.int .i64 (gL ds i).g) := q0 0
          have g1 : w3.cell? ⟨wr.heap.size, 1, none⟩ = some (.int .i64 (gL ds i).p) := q0 1
          have g2 : w3.cell? ⟨wr.heap.size, 2, none⟩ = some (.int .i64 (gL ds i).q) := q0 2
          have HU3 := Lib.hid (HU.out.call HB3.out)
          have HPU := Lib.hid (HU3.out.push hlti)
          obtain ⟨⟨v0, k0⟩, f0⟩ := HU3.out.hd i hlti
          have s0 := HU3.out.lt
          have hmk := make_ints 33 Try.underlying33 n (by omega)
          have c0' : (w3.alloc (.cells (Array.replicate n (Value.int .i64 0)) 3)).cell? ⟨w2.heap.size, i, none⟩ = some v0 := (World.cell?_alloc_lt w3 _ ⟨w2.heap.size, i, none⟩ s0).trans k0
          have f0' : (w3.alloc (.cells (Array.replicate n (Value.int .i64 0)) 3)).frozen? ⟨w2.heap.size, i, none⟩ = false := (World.frozen?_alloc_old w3 _ ⟨w2.heap.size, i, none⟩ (by simp; omega)).trans f0
          have HU2 : Hid (up bs i w3.heap.size i = w3.heap.size) := Lib.hid (if_pos rfl)
          have HPO : Hid (∀ x, x < i → ∀ y, y < n → up a i (fun _ => 0) x y = elS ws (gL ds x) (gL ds y)) := Lib.hid fun x hx y hy => by
            unfold up
            rw [if_neg (by omega)]
            exact HP.out x hx y hy
          clear q0 hw3 x0 x1 x2
          go_wp2_with fail
          obtain ⟨b8, hb8⟩ : ∃ b, wr.heap.size = b := ⟨_, rfl⟩
          have hb82 : w2.heap.size < b8 ∧ b8 < w3.heap.size := by have := HU.out.lt; have := HS3.out; omega
          rw [hb8] at g0 g1 g2 ⊢
          have hold : ∀ o, ((w3.setCell ⟨w2.heap.size, i, none⟩ (.slice (some ⟨w3.heap.size, 0, none⟩) n n)).alloc (.cells (Array.replicate n (Value.int .i64 0)) 3)).cell? ⟨b8, o, none⟩ = w3.cell? ⟨b8, o, none⟩ := fun o =>
            (World.cell?_alloc_lt _ _ ⟨b8, o, none⟩ (by rw [World.size_setCell]; exact hb82.2)).trans (set_other (by intro e; injection e with e; omega))
          have HBX : Hid (((w3.setCell ⟨w2.heap.size, i, none⟩ (.slice (some ⟨w3.heap.size, 0, none⟩) n n)).alloc (.cells (Array.replicate n (Value.int .i64 0)) 3)).cell? ⟨b8, 0, none⟩ = some (.int .i64 (gL ds i).g) ∧ ((w3.setCell ⟨w2.heap.size, i, none⟩ (.slice (some ⟨w3.heap.size, 0, none⟩) n n)).alloc (.cells (Array.replicate n (Value.int .i64 0)) 3)).cell? ⟨b8, 1, none⟩ = some (.int .i64 (gL ds i).p) ∧
              ((w3.setCell ⟨w2.heap.size, i, none⟩ (.slice (some ⟨w3.heap.size, 0, none⟩) n n)).alloc (.cells (Array.replicate n (Value.int .i64 0)) 3)).cell? ⟨b8, 2, none⟩ = some (.int .i64 (gL ds i).q)) := Lib.hid ⟨(hold 0).trans g0, (hold 1).trans g1, (hold 2).trans g2⟩
          have HB8 := Lib.hid hb82
          have HBE := Lib.hid hb8
          generalize up bs i w3.heap.size = bs' at HPU HU2
          generalize up a i (fun _ => 0) = a' at HPU HPO
          rw [show (List.replicate n (Value.int .i64 0)).toArray = Array.replicate n (Value.int .i64 0) by simp, World.setCell_alloc_past _ _ _ _ s0] at HPU
          generalize (w3.setCell ⟨w2.heap.size, i, none⟩ (.slice (some ⟨w3.heap.size, 0, none⟩) n n)).alloc (.cells (Array.replicate n (Value.int .i64 0)) 3) = w5 at HPU HBX ⊢
          clear hmk c0' f0' k0 f0 HU HU3 HP s0 g0 g1 g2 hold hb8 hb82 HB3 HS3 hbl
          generalize w3.heap.size = gb at HU2 HB8 ⊢
          go_loopw [40] (fun k' wq => ∃ (k : Nat) (a2 : Nat → Nat → Int), k ≤ n ∧ k' = .int .i64 k ∧ Hid (MuS w2 w2 wq [] [] n n (i + 1) bs' a2) ∧ Hid (∀ x, x < i → ∀ y, y < n → a2 x y = elS ws (gL ds x) (gL ds y)) ∧ Hid (∀ y, y < k → a2 i y = elS ws (gL ds i) (gL ds y)) ∧
            Hid (wq.cell? ⟨b8, 0, none⟩ = some (.int .i64 (gL ds i).g) ∧ wq.cell? ⟨b8, 1, none⟩ = some (.int .i64 (gL ds i).p) ∧ wq.cell? ⟨b8, 2, none⟩ = some (.int .i64 (gL ds i).q)) ∧ b8 < wq.heap.size) (fun k _ => n - (intOf k).toNat)
          case atStart => exact ⟨0, a', Nat.zero_le _, rfl, HPU, HPO, fun y hy => by omega, HBX, by have h1 := (HPU.out.mi.ad i (Nat.lt_succ_self _)).2.1; rw [HU2.out] at h1; have := HB8.out; omega⟩
          case round =>
            clear HPU HPO HBX
            obtain ⟨k, a2, hk, rfl, HU, HPO, HPK, HBX, hb8s⟩ := hrel
            have hrl := HRL.out.keep (w' := wr) fun b hb => HU.out.bel.block b hb
            by_cases hltk : k < n
            · obtain ⟨b1', o1', e1, hb1', hc⟩ := hrl.at_ (k := k) (by rw [HN.out]; exact hltk)
              injection e1 with e1
              injection e1 with e1 e2 _
              subst e1 e2
              obtain ⟨y0, y1, y2⟩ := hc k (by rw [HN.out]; exact hltk)
              have hbl : b1 < wr.heap.size := Nat.lt_of_lt_of_le hb1 HU.out.bel.size
              unfold lI at y0 y1 y2
              clear hc hrl
              go_upto_region 14 with fail
              have q0 := World.cell?_alloc_new wr #[.int .i64 (gL ds k).g, .int .i64 (gL ds k).p, .int .i64 (gL ds k).q] 71
              have r0 := fun o => World.cell?_alloc_lt wr (.cells #[.int .i64 (gL ds k).g, .int .i64 (gL ds k).p, .int .i64 (gL ds k).q] 71) ⟨b8, o, none⟩ hb8s
              obtain ⟨w6, hw6⟩ : ∃ w6, wr.alloc (.cells #[.int .i64 (gL ds k).g, .int .i64 (gL ds k).p, .int .i64 (gL ds k).q] 71) = w6 := ⟨_, rfl⟩
              have hb6 : Below wr.heap.size wr w6 := by rw [← hw6]; exact (Below.refl _ _).alloc (Nat.le_refl _) _
              have HU6 := Lib.hid (HU.out.call hb6)
              have hs6 : b8 < w6.heap.size := Nat.lt_of_lt_of_le hb8s hb6.size
              have hs7 : wr.heap.size < w6.heap.size := by rw [← hw6]; simp
              rw [hw6] at q0 r0 ⊢
              clear y0 y1 y2
              have y0 : w6.cell? ⟨wr.heap.size, 0, none⟩ = some (.int .i64 (gL ds k).g) := q0 0
              have y1 : w6.cell? ⟨wr.heap.size, 1, none⟩ = some (.int .i64 (gL ds k).p) := q0 1
              have y2 : w6.cell? ⟨wr.heap.size, 2, none⟩ = some (.int .i64 (gL ds k).q) := q0 2
              have x0 := (r0 0).trans HBX.out.1
              have x1 := (r0 1).trans HBX.out.2.1
              have x2 := (r0 2).trans HBX.out.2.2
              have HBX6 := Lib.hid (And.intro x0 (And.intro x1 x2))
              have HB26 : Hid (Below w2.heap.size w2 w6) := Lib.hid HU6.out.bel
              have d6 : w6.cell? ⟨w.heap.size, 1, none⟩ = some (.slice A ws.length c) := (World.cell?_of_block (a := ⟨w.heap.size, 1, none⟩) (HB26.out.block _ HS2.out)).trans d1
              have hri6 := (HR2.out.keep (w' := w6) fun b hb => HB26.out.block b (by have := HS2.out; have hb' : b < w.heap.size := hb; omega)).imp (T := (· < w6.heap.size)) fun b hb => by have := HS2.out; have := HB26.out.size; have hb' : b < w.heap.size := hb; show b < _; omega
              obtain ⟨m1, m2, m3⟩ := HM.out i hlti
              obtain ⟨m4, m5, m6⟩ := HM.out k hltk
              have hel := element_any (w := w6.drew) (c := c) (x := gL ds i) (y := gL ds k) hri6 rfl HWL.out ⟨m2, m3⟩ ⟨m5, m6⟩ ⟨m1, m4⟩
              obtain ⟨z, hz⟩ : ∃ z, elS ws (gL ds i) (gL ds k) = z := ⟨_, rfl⟩
              rw [hz] at hel
              have HZ := Lib.hid hz
              have hfc : ∀ wb, Below w6.heap.size w6 wb → wb.cell? ⟨w2.heap.size, i, none⟩ = some (.slice (some ⟨gb, 0, none⟩) n n) ∧ wb.cell? ⟨gb, k, none⟩ = some (.int .i64 (a2 i k)) ∧ wb.frozen? ⟨gb, k, none⟩ = false := fun wb hb => by
                have hm := HU6.out.call hb
                have e1 := hm.mi.hd i (Nat.lt_succ_self _)
                have e2 := hm.mi.en i k (Nat.lt_succ_self _) hltk
                have e3 := hm.mi.fr i k (Nat.lt_succ_self _) hltk
                rw [HU2.out] at e1 e2 e3
                exact ⟨e1, e2, e3⟩
              have HFC := Lib.hid hfc
              obtain ⟨k1, k2, k3⟩ := hfc w6 (Below.refl _ _)
              have HEL : Hid (Calls Try.prog 41 #[.slice A ws.length c, .agg #[.int .i64 (gL ds i).g, .int .i64 (gL ds i).p, .int .i64 (gL ds i).q], .agg #[.int .i64 (gL ds k).g, .int .i64 (gL ds k).p, .int .i64 (gL ds k).q]] w6.drew fun e w' => e = .returned (.int .i64 z) ∧ Below w6.heap.size w6 w') := Lib.hid (hel.mono fun e w' h => ⟨h.1, ((Below.refl _ w6).drew).trans h.2⟩)
              have HBD := Lib.hid hb6
              have HS67 := Lib.hid (And.intro hs6 hs7)
              have HFN : Hid (∀ wb, Below w6.heap.size w6 wb → Hid (MuS w2 w2 (wb.setCell ⟨gb, k, none⟩ (.int .i64 z)) [] [] n n (i + 1) bs' (fun p q => if p = i ∧ q = k then z else a2 p q)) ∧
                  Hid ((wb.setCell ⟨gb, k, none⟩ (.int .i64 z)).cell? ⟨b8, 0, none⟩ = some (.int .i64 (gL ds i).g) ∧ (wb.setCell ⟨gb, k, none⟩ (.int .i64 z)).cell? ⟨b8, 1, none⟩ = some (.int .i64 (gL ds i).p) ∧ (wb.setCell ⟨gb, k, none⟩ (.int .i64 z)).cell? ⟨b8, 2, none⟩ = some (.int .i64 (gL ds i).q)) ∧ b8 < (wb.setCell ⟨gb, k, none⟩ (.int .i64 z)).heap.size) := Lib.hid fun wb hb => by
                have hm := (HU6.out.call hb).store (x := i) (y := k) (Nat.lt_succ_self _) hltk z
                rw [HU2.out] at hm
                have hbx : ∀ o, (wb.setCell ⟨gb, k, none⟩ (.int .i64 z)).cell? ⟨b8, o, none⟩ = w6.cell? ⟨b8, o, none⟩ := fun o => (set_other (by intro e; injection e with e; have := HB8.out; omega)).trans (World.cell?_of_block (a := ⟨b8, o, none⟩) (hb.block _ hs6))
                exact ⟨Lib.hid hm, Lib.hid ⟨(hbx 0).trans HBX6.out.1, (hbx 1).trans HBX6.out.2.1, (hbx 2).trans HBX6.out.2.2⟩, by rw [World.size_setCell]; exact Nat.lt_of_lt_of_le hs6 hb.size⟩
              have HPO2 : Hid (∀ x, x < i → ∀ y, y < n → (if x = i ∧ y = k then z else a2 x y) = elS ws (gL ds x) (gL ds y)) := Lib.hid fun x hx y hy => by rw [if_neg (by omega)]; exact HPO.out x hx y hy
              have HPK2 : Hid (∀ y, y < k + 1 → (if i = i ∧ y = k then z else a2 i y) = elS ws (gL ds i) (gL ds y)) := Lib.hid fun y hy => by
                by_cases e : y = k
                · rw [if_pos ⟨rfl, e⟩, e, hz]
                · rw [if_neg fun h => e h.2]; exact HPK.out y (by omega)
              clear HPO HPK HBX6
              clear q0 r0 hw6 hb6 HU hri6 m1 m2 m3 m4 m5 m6 hel hz hfc hbl HBX hb8s
              obtain ⟨yg, hyg⟩ : ∃ x, (gL ds k).g = x := ⟨_, rfl⟩
              obtain ⟨yp, hyp⟩ : ∃ x, (gL ds k).p = x := ⟨_, rfl⟩
              obtain ⟨yq, hyq⟩ : ∃ x, (gL ds k).q = x := ⟨_, rfl⟩
              rw [hyg] at y0
              rw [hyp] at y1
              rw [hyq] at y2
              rw [hyg, hyp, hyq] at HEL
              clear HU6 HB26 HBD HS67 HZ
              apply share
              case h =>
                intro key
                go_region_law ((go_simp; go_at_call 41; (refine HEL.out.mono ?_; rintro e9 wb ⟨rfl, hb9⟩; obtain ⟨k4, k5, k6⟩ := HFC.out wb hb9; have HB9 := Lib.hid hb9)))
                all_goals
                  obtain ⟨HU7, HBX7, hb87⟩ := HFN.out wb HB9.out
                  generalize wb.setCell ⟨gb, k, none⟩ (.int .i64 z) = w7 at HU7 HBX7 hb87 ⊢
                  revert w7
                  clear k4 k5 k6 hb9 HB9
                  exact key
              case g =>
                intro w7 HU7 HBX7 hb87
                clear k1 k2 k3 x0 x1 x2 y0 y1 y2 d6 HFC HEL HFN hs6 hs7 d1 HR2 hyg hyp hyq hb1 hb1' HBE HB8 HU2 HRL HN HM HX HWL HB2 HS2
                go_wp2_with fail
                go_roundw
                case rel => exact ⟨k + 1, _, by omega, by go_num, HU7, HPO2, HPK2, HBX7, hb87⟩
                case measure => simp [intOf]; omega
            · obtain rfl : k = n := by omega
              have HPO2 : Hid (∀ x, x < i + 1 → ∀ y, y < k → a2 x y = elS ws (gL ds x) (gL ds y)) := Lib.hid fun x hx y hy => by
                by_cases e : x = i
                · subst e; exact HPK.out y hy
                · exact HPO.out x (by omega) y hy
              clear HPO HPK HBX
              go_wp2_with fail
              go_roundw
              case rel => exact ⟨i + 1, bs', a2, by omega, by go_num, HU, HPO2⟩
              case measure => simp [intOf]; omega
        · obtain rfl : i = n := by omega
          have HAM : Hid (AM wr (some ⟨w2.heap.size, 0, none⟩) i (mxL S ws)) := Lib.hid (by
            unfold mxL
            rw [if_pos HE.out, HDS.out, HN.out]
            exact (HU.out.mi.congr fun x y hx hy => HP.out x hx y hy).am HU.out.lt (by unfold maxLen; omega) (by unfold maxLen; omega) fun x y hx hy => by
              have := elS_rg ws (gL ds x) (gL ds y)
              omega)
          have HBW := Lib.hid (HB2.out.trans (HU.out.bel.mono HB2.out.size))
          clear HU HP hrl
          go_wp2_with fail
          go_ret2
          exact ⟨_, _, _, by rw [HE.out]; rfl, HBW.out, HAM.out⟩
  · have HE : Hid (mxE S ws = e) := Lib.hid (by unfold mxE; rw [he, if_neg h0])
    have z1 : ((e : Int) != 0) = true := by rw [bne_iff_ne]; omega
    go_wp2_with fail
    go_ret2
    exact ⟨_, _, _, by rw [HE.out]; rfl, HB2.out, by rw [mxL_no (by rw [HE.out]; exact h0)]; exact AM.nil0 _⟩
end Go.Proofs.Yteanhbldhaiekaa
namespace Go.Proofs.Yteanhbldhaiekaa

def mulM (n : Nat) (A B : Mx) : Mx := fun i j => sI n fun l => A i l * B l j
theorem sI_swn {n r s : Nat} (hr : r < n) (hs : s < n) (hne : r ≠ s) (f : Nat → Int) : sI n (fun l => f (swn r s l)) = sI n f := by
  have h : sI n (fun l => f (swn r s l) + -f l) = (f (swn r s r) + -f r) + (f (swn r s s) + -f s) :=
    sI_two (fun l => f (swn r s l) + -f l) hr hs hne fun j _ h1 h2 => by rw [swn_o h1 h2]; omega
  rw [sI_add, sI_neg, swn_l, swn_r] at h
  omega
theorem sI_bump {n r : Nat} (hr : r < n) (f : Nat → Int) (v : Int) : sI n (fun l => if l = r then f l + v else f l) = sI n f + v := by
  have h : sI n (fun l => if l = r then v else 0) = v := by
    rw [sI_one (k := r) _ hr fun j _ hj => if_neg hj, if_pos rfl]
  rw [sI_congr (g := fun k => f k + if k = r then v else 0) fun k _ => by split <;> omega, sI_add, h]
theorem det_mulM_dg {n : Nat} (d : Nat → Nat) (C : Mx) : det n (mulM n (dgM d) C) = det n (dgM d) * det n C := by
  have e1 : det n (dgM d) = pI n fun i => (d i : Int) := by
    rw [det_upper fun i j _ hj => by unfold dgM; rw [if_neg (by omega)]]
    exact pI_congr fun k _ => by unfold dgM; rw [if_pos rfl]
  have e2 : det n (mulM n (dgM d) C) = det n fun a b => if b < n then (d b : Int) * C b a else C b a := by
    rw [← det_tr]
    refine det_congr fun i j _ hj => ?_
    rw [if_pos hj]
    unfold mulM
    rw [sI_one (k := j) _ hj fun l _ hl => by unfold dgM; rw [if_neg (Ne.symm hl), Int.zero_mul]]
    unfold dgM
    rw [if_pos rfl]
  rw [e2, det_cmuls (fun a b => C b a) (fun i => (d i : Int)) n (Nat.le_refl _), e1, det_tr n C]
theorem det_mulM_step {n : Nat} {D B : Mx} (h : Eqv n n D B) (h0 : ∀ C, det n (mulM n D C) = det n D * det n C) : ∀ C, det n (mulM n B C) = det n B * det n C := by
  induction h with
  | refl => exact h0
  | @cong A B _ hc ih =>
    intro C
    rw [det_congr (B := A) hc, ← ih C]
    exact det_congr fun i j hi hj => sI_congr fun l hl => by rw [hc i l hi hl]
  | @radd B r s t h1 h2 h3 _ ih =>
    intro C
    rw [det_radd h1 h2 h3, ← ih C, ← det_radd (A := mulM n B C) (t := t) h1 h2 h3]
    refine det_congr fun i j _ _ => ?_
    unfold mulM
    by_cases e : i = r
    · rw [if_pos e, ← sI_mul, ← sI_add]
      exact sI_congr fun l _ => by dsimp only; rw [if_pos e, Int.add_mul, Int.mul_assoc]
    · rw [if_neg e]
      exact sI_congr fun l _ => by dsimp only; rw [if_neg e]
  | @cadd B r s t h1 h2 h3 _ ih =>
    intro C
    rw [det_cadd h1 h2 h3, ← det_radd (A := C) (t := t) h2 h1 (Ne.symm h3), ← ih]
    refine det_congr fun i j _ _ => ?_
    unfold mulM
    have e1 : (sI n fun l => (if l = r then B i l + t * B i s else B i l) * C l j) = (sI n fun l => B i l * C l j) + t * B i s * C r j := by
      rw [← sI_bump h1]
      refine sI_congr fun l _ => ?_
      (try dsimp only)
      split
      · rename_i e
        subst e
        rw [Int.add_mul]
      · rfl
    have e2 : (sI n fun l => B i l * (if l = s then C l j + t * C r j else C l j)) = (sI n fun l => B i l * C l j) + t * B i s * C r j := by
      rw [← sI_bump h2]
      refine sI_congr fun l _ => ?_
      (try dsimp only)
      split
      · rename_i e
        subst e
        rw [Int.mul_add, Int.mul_left_comm, Int.mul_assoc]
      · rfl
    exact e1.trans e2.symm
  | @rsw B r s h1 h2 h3 _ ih =>
    intro C
    rw [det_rswap h1 h2 h3, Int.neg_mul, ← ih C, ← det_rswap (A := mulM n B C) h1 h2 h3]
    rfl
  | @csw B r s h1 h2 h3 _ ih =>
    intro C
    have e : det n (fun i j => C (swn r s i) j) = -det n C := det_rswap h1 h2 h3
    rw [det_cswap h1 h2 h3, Int.neg_mul, ← Int.mul_neg, ← e, ← ih]
    refine det_congr fun i j _ _ => ?_
    unfold mulM
    rw [← sI_swn h1 h2 h3 fun l => B i l * C (swn r s l) j]
    exact sI_congr fun l _ => by rw [swn_swn]
  | @rneg B r h1 _ ih =>
    intro C
    rw [det_rmul (A := B) (t := -1) h1 (fun i j _ _ hne => if_neg hne) (fun j _ => by rw [if_pos rfl]; omega), Int.mul_assoc, ← ih C]
    refine det_rmul h1 (fun i j _ _ hne => ?_) (fun j _ => ?_)
    · exact sI_congr fun l _ => by dsimp only; rw [if_neg hne]
    · unfold mulM
      rw [← sI_mul]
      exact sI_congr fun l _ => by dsimp only; rw [if_pos rfl, Int.neg_mul]; omega
  | @cneg B r h1 _ ih =>
    intro C
    rw [det_cmul (A := B) (t := -1) h1 (fun i j _ _ hne => if_neg hne) (fun j _ => by rw [if_pos rfl]; omega), Int.mul_assoc, Int.mul_left_comm,
      ← det_rmul (A := C) (B := fun i j => if i = r then -C i j else C i j) (t := -1) h1 (fun i j _ _ hne => if_neg hne) (fun j _ => by rw [if_pos rfl]; omega), ← ih]
    refine det_congr fun i j _ _ => sI_congr fun l _ => ?_
    dsimp only
    split
    · rw [Int.neg_mul, Int.mul_neg]
    · rfl
theorem det_mulM {n : Nat} (A C : Mx) : det n (mulM n A C) = det n A * det n C := by
  obtain ⟨d, h, -⟩ := smith_ex n n A
  exact det_mulM_step h.symm (det_mulM_dg d) C
end Go.Proofs.Yteanhbldhaiekaa
