/-
  The contract of circlesOf: the Seifert circles, and the number of each half-edge's circle.
-/
import Derived.Test.YtaghemilihaiaaaOver
import Derived.Test.YtaghemilihaiaaaCycs
namespace Go.Proofs.Ytaghemilihaiaaa
open Go.RowKit

/-- what the search of circles has when it comes to k; the row of the numbers lies at w.heap.size + 1 -/
structure CcSt (w wr : World) (A1 A2 : Option Addr) (c1 c2 : Nat) (sg mt : List Int) (L : Int) (k : Nat) (p : List Int) (v : Value) : Prop where
  c0 : wr.cell? ⟨w.heap.size, 0, none⟩ = some (.slice A1 sg.length c1)
  c1 : wr.cell? ⟨w.heap.size, 1, none⟩ = some (.slice A2 mt.length c2)
  c2 : wr.cell? ⟨w.heap.size, 2, none⟩ = some (.int .i64 L)
  rs : RI wr (· < w.heap.size) A1 sg
  rm : RI wr (· < w.heap.size) A2 mt
  pr : PRow w wr w.heap.size (w.heap.size + 1) mt.length p
  num : NumL (nxC sg mt) mt.length (outB sg) k p
  row : RR 22 wr (w.heap.size + 1) (· = w.heap.size + 1) v (rows (cycsL (nxC sg mt) mt.length (outB sg) k))
/-- the same along the new circle u, its blocks from B on -/
structure CcMk (w wr : World) (A1 A2 : Option Addr) (c1 c2 : Nat) (sg mt : List Int) (L : Int) (k j : Nat) (p : List Int) (v u : Value) (B : Nat) : Prop where
  c0 : wr.cell? ⟨w.heap.size, 0, none⟩ = some (.slice A1 sg.length c1)
  c1 : wr.cell? ⟨w.heap.size, 1, none⟩ = some (.slice A2 mt.length c2)
  c2 : wr.cell? ⟨w.heap.size, 2, none⟩ = some (.int .i64 L)
  rs : RI wr (· < w.heap.size) A1 sg
  rm : RI wr (· < w.heap.size) A2 mt
  pr : PRow w wr w.heap.size (w.heap.size + 1) mt.length p
  num : NumJ (nxC sg mt) mt.length (outB sg) k j p
  row : RR 22 wr (w.heap.size + 1) (fun b => b = w.heap.size + 1 ∨ B ≤ b) v (rows (cycsL (nxC sg mt) mt.length (outB sg) k))
  list : OI wr B u (ints ((cyc (nxC sg mt) mt.length k).take j))
  gB : w.heap.size + 1 < B
  bw : B ≤ wr.heap.size
section
variable {w wr w' : World} {A1 A2 : Option Addr} {c1 c2 : Nat} {sg mt : List Int} {L : Int} {k j : Nat} {p : List Int} {v u : Value} {B : Nat}
theorem CcSt.db (h : CcSt w wr A1 A2 c1 c2 sg mt L k p v) : DBox wr w.heap.size A1 A2 c1 c2 sg mt L :=
  have h1 := h.pr.size
  ⟨h.c0, h.c1, h.c2, by omega, h.rs.imp fun b hb => by omega, h.rm.imp fun b hb => by omega⟩
theorem CcMk.db (h : CcMk w wr A1 A2 c1 c2 sg mt L k j p v u B) : DBox wr w.heap.size A1 A2 c1 c2 sg mt L :=
  have h1 := h.pr.size
  ⟨h.c0, h.c1, h.c2, by omega, h.rs.imp fun b hb => by omega, h.rm.imp fun b hb => by omega⟩
theorem CcSt.call (h : CcSt w wr A1 A2 c1 c2 sg mt L k p v) (hb : Below wr.heap.size wr w') : CcSt w w' A1 A2 c1 c2 sg mt L k p v := by
  have h1 := h.pr.size
  have h3 := hb.size
  have h0 : w.heap.size < wr.heap.size := by omega
  exact ⟨(hb.cell (p := ⟨w.heap.size, 0, none⟩) h0).trans h.c0, (hb.cell (p := ⟨w.heap.size, 1, none⟩) h0).trans h.c1, (hb.cell (p := ⟨w.heap.size, 2, none⟩) h0).trans h.c2,
    h.rs.keep fun b hlt => hb.block b (by omega), h.rm.keep fun b hlt => hb.block b (by omega),
    ⟨h.pr.own.below hb (Nat.le_refl _), h.pr.below.trans (hb.mono (by omega)), by omega⟩, h.num, h.row.below hb (Nat.le_refl _)⟩
theorem CcMk.call (h : CcMk w wr A1 A2 c1 c2 sg mt L k j p v u B) (hb : Below wr.heap.size wr w') : CcMk w w' A1 A2 c1 c2 sg mt L k j p v u B := by
  have h1 := h.pr.size
  have h3 := hb.size
  have h0 : w.heap.size < wr.heap.size := by omega
  exact ⟨(hb.cell (p := ⟨w.heap.size, 0, none⟩) h0).trans h.c0, (hb.cell (p := ⟨w.heap.size, 1, none⟩) h0).trans h.c1, (hb.cell (p := ⟨w.heap.size, 2, none⟩) h0).trans h.c2,
    h.rs.keep fun b hlt => hb.block b (by omega), h.rm.keep fun b hlt => hb.block b (by omega),
    ⟨h.pr.own.below hb (Nat.le_refl _), h.pr.below.trans (hb.mono (by omega)), by omega⟩, h.num, h.row.below hb (Nat.le_refl _), h.list.below hb (Nat.le_refl _), h.gB, Nat.le_trans h.bw h3⟩
theorem CcSt.skip (h : CcSt w wr A1 A2 c1 c2 sg mt L k p v) (hno : ¬ (outB sg k = true ∧ lstB (nxC sg mt) mt.length k = true)) : CcSt w wr A1 A2 c1 c2 sg mt L (k + 1) p v := by
  refine ⟨h.c0, h.c1, h.c2, h.rs, h.rm, h.pr, numL_skip h.num hno, ?_⟩
  rw [cycsL_succ, if_neg (by rw [Bool.and_eq_true]; exact hno), List.append_nil]
  exact h.row
theorem CcSt.begin (h : CcSt w wr A1 A2 c1 c2 sg mt L k p v) : CcMk w wr A1 A2 c1 c2 sg mt L k 0 p v (.slice none 0 0) wr.heap.size :=
  ⟨h.c0, h.c1, h.c2, h.rs, h.rm, h.pr, numJ_zero h.num, h.row.imp fun b h1 h2 h3 => h3.elim id fun h3 => by omega, OR.nil _ _, h.pr.size, Nat.le_refl _⟩
/-- one number is laid, one half-edge is appended -/
theorem CcMk.step {u' : Value} {o : Obj} (hd : IsD sg mt L) (hk : k < mt.length) (hl : lstB (nxC sg mt) mt.length k = true) (hj : j < per (nxC sg mt) mt.length k) (h : CcMk w wr A1 A2 c1 c2 sg mt L k j p v u B)
    (ho : OI w' B u' (ints ((cyc (nxC sg mt) mt.length k).take j) ++ [(it (nxC sg mt) j k : Int)]))
    (hg : ((wr.setCell ⟨w.heap.size + 1, it (nxC sg mt) j k, none⟩ (.int .i64 (ixB (nxC sg mt) mt.length (outB sg) k : Int))).alloc o).grownBy w' u.ownBlock) :
    CcMk w w' A1 A2 c1 c2 sg mt L k (j + 1) (p.set (it (nxC sg mt) j k) (ixB (nxC sg mt) mt.length (outB sg) k : Int)) v u' B := by
  have hrow : ∀ g, u.ownBlock = some g → w.heap.size + 1 < g := fun g hu => by have := (h.list.lt g hu).1; have := h.gB; omega
  have hB : ∀ g, u.ownBlock = some g → B ≤ g := fun g hu => (h.list.lt g hu).1
  have hblk : ∀ b, b < wr.heap.size → b ≠ w.heap.size + 1 → b < B → w'.heap[b]? = wr.heap[b]? := fun b h1 h2 h3 => by
    rw [hg.block b (by simp; omega) (fun e => by have := hB b e.symm; omega), Below.heap_alloc _ _ b (by simpa using h1), Below.heap_setCell wr _ _ b h2]
  have h1 := h.pr.size
  have h2 := h.gB
  have hcl : ∀ i, w'.cell? ⟨w.heap.size, i, none⟩ = wr.cell? ⟨w.heap.size, i, none⟩ := fun i => World.cell?_of_block (a := ⟨w.heap.size, i, none⟩) (hblk w.heap.size (by omega) (by omega) (by omega))
  refine ⟨(hcl 0).trans h.c0, (hcl 1).trans h.c1, (hcl 2).trans h.c2, h.rs.keep fun b hb => hblk b (by omega) (by omega) (by omega), h.rm.keep fun b hb => hblk b (by omega) (by omega) (by omega),
    (h.pr.store h.num.1 (by omega) _).grown (by omega) hg hrow, numJ_step (nxC_perm hd) hk hl h.num, h.row.keep fun b _ hb hF => hblk b hb (fun e => hF (.inl e)) (Nat.lt_of_not_le fun e => hF (.inr e)), ?_, h.gB, ?_⟩
  · rw [← cyc_take_succ hj, ints_append]
    exact ho
  · have h3 := hg.size
    have h4 := h.bw
    simp at h3
    omega
/-- the circle is done -/
theorem CcMk.push {v' : Value} {vs : List Value} (hd : IsD sg mt L) (hk : k < mt.length) (hwt : outB sg k = true) (hl : lstB (nxC sg mt) mt.length k = true) (hj : j = per (nxC sg mt) mt.length k) (h : CcMk w wr A1 A2 c1 c2 sg mt L k j p v u B)
    (HV : RRv 22 wr (w.heap.size + 1) (fun b => b = w.heap.size + 1 ∨ B ≤ b) v vs (rows (cycsL (nxC sg mt) mt.length (outB sg) k))) (ho : OR 22 id w' (w.heap.size + 1) v' (vs ++ [u])) (hg : (wr.alloc (.cells #[u] 22)).grownBy w' v.ownBlock) (hob : v'.ownBlock = v.ownBlock ∨ v'.ownBlock = some (wr.heap.size + 1)) :
    CcSt w w' A1 A2 c1 c2 sg mt L (k + 1) p v' := by
  have h1 := h.pr.size
  have h2 := h.gB
  have hvb : ∀ g, v.ownBlock = some g → w.heap.size + 1 < g := fun g hv => by
    have h3 := (HV.1.lt g hv).1
    have h4 := HV.2.1 g hv
    have : g ≠ w.heap.size + 1 := fun e => h4 (.inl e)
    omega
  have hblk : ∀ b, b < w.heap.size + 2 → w'.heap[b]? = wr.heap[b]? := fun b h3 => by
    rw [hg.block b (by simp; omega) (fun e => by have := hvb b e.symm; omega), Below.heap_alloc _ _ b (by omega)]
  have HV2 : RRv 22 wr (w.heap.size + 1) (· = w.heap.size + 1) v vs (rows (cycsL (nxC sg mt) mt.length (outB sg) k)) :=
    ⟨HV.1, fun g hg hF => HV.2.1 g hg (.inl hF), HV.2.2.1, fun i hi => ⟨(HV.2.2.2 i hi).1, fun g hg hF => (HV.2.2.2 i hi).2 g hg (.inl hF)⟩⟩
  have hlist : OI wr (w.heap.size + 1) u (ints (cyc (nxC sg mt) mt.length k)) := by
    have := h.list.mono (B' := w.heap.size + 1) (by omega)
    rwa [List.take_of_length_le (by rw [cyc_length]; omega)] at this
  have hR := RRv.push (by decide) HV2 hlist (fun g hgu hF => by have := (h.list.lt g hgu).1; omega) (fun b hF => by omega) ho hg hob
  have hcl : ∀ i, w'.cell? ⟨w.heap.size, i, none⟩ = wr.cell? ⟨w.heap.size, i, none⟩ := fun i => World.cell?_of_block (a := ⟨w.heap.size, i, none⟩) (hblk w.heap.size (by omega))
  refine ⟨(hcl 0).trans h.c0, (hcl 1).trans h.c1, (hcl 2).trans h.c2, h.rs.keep fun b hb => hblk b (by omega), h.rm.keep fun b hb => hblk b (by omega),
    h.pr.grown (by omega) hg hvb, numJ_end (nxC_perm hd) hk hwt hl h.num hj, ⟨vs ++ [u], ?_⟩⟩
  rw [cycsL_succ, if_pos (by rw [hwt, hl]; rfl)]
  unfold rows at hR ⊢
  rw [List.map_append]
  exact hR
end

/-- the numbers of the circles, by half-edges; -1 for the incoming ones -/
def numsL (sg mt : List Int) : List Int := (List.range mt.length).map (numI (nxC sg mt) mt.length (outB sg))
theorem numsL_length (sg mt : List Int) : (numsL sg mt).length = mt.length := by simp [numsL]
theorem gi_numsL {sg mt : List Int} {x : Nat} (hx : x < mt.length) : gi (numsL sg mt) x = numI (nxC sg mt) mt.length (outB sg) x := by simp [gi, numsL, hx]

theorem out_over {sg : List Int} {k : Nat} (hk : k % 4 ≠ 2) (hs : SgM sg) (hc : k / 4 < sg.length) : ((k : Int) == (overN sg (k / 4) : Int)) = outB sg k := by
  have h1 := hs (k / 4) hc
  unfold outB overN
  have hcase : k % 4 = 0 ∨ k % 4 = 1 ∨ k % 4 = 3 := by omega
  rcases hcase with e | e | e <;> rcases h1 with e1 | e1 <;> rw [e, e1] <;> simp <;> omega
end Go.Proofs.Ytaghemilihaiaaa

