/-
  The search of the circles in the reference: what it keeps.
-/
import Derived.Test.YtaghemilihaiaaaCircW
import Derived.Test.YtaghemilihaiaaaRStrands
namespace Go.Proofs.Ytaghemilihaiaaa
open Go.RowKit

/-- what the search of circles has when it comes to k; the row of the numbers lies at w.heap.size + 1 -/
structure RcSt (w wr : World) (A1 A2 : Option Addr) (c1 c2 : Nat) (sg mt : List Int) (L : Int) (k : Nat) (bs : List Bool) (v : Value) : Prop where
  c0 : wr.cell? ⟨w.heap.size, 0, none⟩ = some (.slice A1 sg.length c1)
  c1 : wr.cell? ⟨w.heap.size, 1, none⟩ = some (.slice A2 mt.length c2)
  c2 : wr.cell? ⟨w.heap.size, 2, none⟩ = some (.int .i64 L)
  rs : RI wr (· < w.heap.size) A1 sg
  rm : RI wr (· < w.heap.size) A2 mt
  br : BRow wr (w.heap.size + 1) mt.length bs
  bel : Below w.heap.size w wr
  num : SeenL (nxC sg mt) mt.length (outB sg) k bs
  row : RR 22 wr (w.heap.size + 1) (· = w.heap.size + 1) v (rows (cycsL (nxC sg mt) mt.length (outB sg) k))
/-- the same along the new circle u, its blocks from B on -/
structure RcMk (w wr : World) (A1 A2 : Option Addr) (c1 c2 : Nat) (sg mt : List Int) (L : Int) (k j : Nat) (bs : List Bool) (v u : Value) (B : Nat) : Prop where
  c0 : wr.cell? ⟨w.heap.size, 0, none⟩ = some (.slice A1 sg.length c1)
  c1 : wr.cell? ⟨w.heap.size, 1, none⟩ = some (.slice A2 mt.length c2)
  c2 : wr.cell? ⟨w.heap.size, 2, none⟩ = some (.int .i64 L)
  rs : RI wr (· < w.heap.size) A1 sg
  rm : RI wr (· < w.heap.size) A2 mt
  br : BRow wr (w.heap.size + 1) mt.length bs
  bel : Below w.heap.size w wr
  num : SeenJ (nxC sg mt) mt.length (outB sg) k j bs
  row : RR 22 wr (w.heap.size + 1) (fun b => b = w.heap.size + 1 ∨ B ≤ b) v (rows (cycsL (nxC sg mt) mt.length (outB sg) k))
  list : OI wr B u (ints ((cyc (nxC sg mt) mt.length k).take j))
  gB : w.heap.size + 1 < B
  bw : B ≤ wr.heap.size
section
variable {w wr w' : World} {A1 A2 : Option Addr} {c1 c2 : Nat} {sg mt : List Int} {L : Int} {k j : Nat} {bs : List Bool} {v u : Value} {B : Nat}
theorem RcSt.db (h : RcSt w wr A1 A2 c1 c2 sg mt L k bs v) : DBox wr w.heap.size A1 A2 c1 c2 sg mt L :=
  have h1 := h.br.size
  ⟨h.c0, h.c1, h.c2, by omega, h.rs.imp fun b hb => by omega, h.rm.imp fun b hb => by omega⟩
theorem RcMk.db (h : RcMk w wr A1 A2 c1 c2 sg mt L k j bs v u B) : DBox wr w.heap.size A1 A2 c1 c2 sg mt L :=
  have h1 := h.br.size
  ⟨h.c0, h.c1, h.c2, by omega, h.rs.imp fun b hb => by omega, h.rm.imp fun b hb => by omega⟩
theorem RcSt.call (h : RcSt w wr A1 A2 c1 c2 sg mt L k bs v) (hb : Below wr.heap.size wr w') : RcSt w w' A1 A2 c1 c2 sg mt L k bs v := by
  have h1 := h.br.size
  have h3 := hb.size
  have h0 : w.heap.size < wr.heap.size := by omega
  exact ⟨(hb.cell (p := ⟨w.heap.size, 0, none⟩) h0).trans h.c0, (hb.cell (p := ⟨w.heap.size, 1, none⟩) h0).trans h.c1, (hb.cell (p := ⟨w.heap.size, 2, none⟩) h0).trans h.c2,
    h.rs.keep fun b hlt => hb.block b (by omega), h.rm.keep fun b hlt => hb.block b (by omega),
    h.br.keep (hb.block _ h.br.size) h3, h.bel.trans (hb.mono (by omega)), h.num, h.row.below hb (Nat.le_refl _)⟩
theorem RcMk.call (h : RcMk w wr A1 A2 c1 c2 sg mt L k j bs v u B) (hb : Below wr.heap.size wr w') : RcMk w w' A1 A2 c1 c2 sg mt L k j bs v u B := by
  have h1 := h.br.size
  have h3 := hb.size
  have h0 : w.heap.size < wr.heap.size := by omega
  exact ⟨(hb.cell (p := ⟨w.heap.size, 0, none⟩) h0).trans h.c0, (hb.cell (p := ⟨w.heap.size, 1, none⟩) h0).trans h.c1, (hb.cell (p := ⟨w.heap.size, 2, none⟩) h0).trans h.c2,
    h.rs.keep fun b hlt => hb.block b (by omega), h.rm.keep fun b hlt => hb.block b (by omega),
    h.br.keep (hb.block _ h.br.size) h3, h.bel.trans (hb.mono (by omega)), h.num, h.row.below hb (Nat.le_refl _), h.list.below hb (Nat.le_refl _), h.gB, Nat.le_trans h.bw h3⟩
theorem RcSt.skip (h : RcSt w wr A1 A2 c1 c2 sg mt L k bs v) (hno : ¬ (outB sg k = true ∧ lstB (nxC sg mt) mt.length k = true)) : RcSt w wr A1 A2 c1 c2 sg mt L (k + 1) bs v := by
  refine ⟨h.c0, h.c1, h.c2, h.rs, h.rm, h.br, h.bel, seenL_skip h.num hno, ?_⟩
  rw [cycsL_succ, if_neg (by rw [Bool.and_eq_true]; exact hno), List.append_nil]
  exact h.row
theorem RcSt.begin (h : RcSt w wr A1 A2 c1 c2 sg mt L k bs v) : RcMk w wr A1 A2 c1 c2 sg mt L k 0 bs v (.slice none 0 0) wr.heap.size :=
  ⟨h.c0, h.c1, h.c2, h.rs, h.rm, h.br, h.bel, seenJ_zero h.num, h.row.imp fun b h1 h2 h3 => h3.elim id fun h3 => by omega, OR.nil _ _, h.br.size, Nat.le_refl _⟩
/-- one mark is laid, one half-edge is appended -/
theorem RcMk.step {u' : Value} {o : Obj} (hd : IsD sg mt L) (hk : k < mt.length) (_hl : lstB (nxC sg mt) mt.length k = true) (hj : j < per (nxC sg mt) mt.length k) (h : RcMk w wr A1 A2 c1 c2 sg mt L k j bs v u B)
    (ho : OI w' B u' (ints ((cyc (nxC sg mt) mt.length k).take j) ++ [(it (nxC sg mt) j k : Int)]))
    (hg : ((wr.setCell ⟨w.heap.size + 1, it (nxC sg mt) j k, none⟩ (.bool true)).alloc o).grownBy w' u.ownBlock) :
    RcMk w w' A1 A2 c1 c2 sg mt L k (j + 1) (bs.set (it (nxC sg mt) j k) true) v u' B := by
  have hrow : ∀ g, u.ownBlock = some g → w.heap.size + 1 < g := fun g hu => by have := (h.list.lt g hu).1; have := h.gB; omega
  have hB : ∀ g, u.ownBlock = some g → B ≤ g := fun g hu => (h.list.lt g hu).1
  have hblk : ∀ b, b < wr.heap.size → b ≠ w.heap.size + 1 → b < B → w'.heap[b]? = wr.heap[b]? := fun b h1 h2 h3 => by
    rw [hg.block b (by simp; omega) (fun e => by have := hB b e.symm; omega), Below.heap_alloc _ _ b (by simpa using h1), Below.heap_setCell wr _ _ b h2]
  have h1 := h.br.size
  have h2 := h.gB
  have hcl : ∀ i, w'.cell? ⟨w.heap.size, i, none⟩ = wr.cell? ⟨w.heap.size, i, none⟩ := fun i => World.cell?_of_block (a := ⟨w.heap.size, i, none⟩) (hblk w.heap.size (by omega) (by omega) (by omega))
  refine ⟨(hcl 0).trans h.c0, (hcl 1).trans h.c1, (hcl 2).trans h.c2, h.rs.keep fun b hb => hblk b (by omega) (by omega) (by omega), h.rm.keep fun b hb => hblk b (by omega) (by omega) (by omega),
    (h.br.mark _).keep (by rw [hg.block _ (by simp; omega) (fun e => by have := hrow _ e.symm; omega), Below.heap_alloc _ _ _ (by simpa using h1)]) (by have := hg.size; simp at this ⊢; omega),
    ((h.bel.setCell (by simp) _).alloc (by simp; omega) o).grown hg (by simp; omega) (fun g hu => by have := hrow g hu; omega), seenJ_step (nxC_perm hd) hk h.num, h.row.keep fun b _ hb hF => hblk b hb (fun e => hF (.inl e)) (Nat.lt_of_not_le fun e => hF (.inr e)), ?_, h.gB, ?_⟩
  · rw [← cyc_take_succ hj, ints_append]
    exact ho
  · have h3 := hg.size
    have h4 := h.bw
    simp at h3
    omega
/-- the circle is done -/
theorem RcMk.push {v' : Value} {vs : List Value} (hd : IsD sg mt L) (hk : k < mt.length) (hwt : outB sg k = true) (hl : lstB (nxC sg mt) mt.length k = true) (hj : j = per (nxC sg mt) mt.length k) (h : RcMk w wr A1 A2 c1 c2 sg mt L k j bs v u B)
    (HV : RRv 22 wr (w.heap.size + 1) (fun b => b = w.heap.size + 1 ∨ B ≤ b) v vs (rows (cycsL (nxC sg mt) mt.length (outB sg) k))) (ho : OR 22 id w' (w.heap.size + 1) v' (vs ++ [u])) (hg : (wr.alloc (.cells #[u] 22)).grownBy w' v.ownBlock) (hob : v'.ownBlock = v.ownBlock ∨ v'.ownBlock = some (wr.heap.size + 1)) :
    RcSt w w' A1 A2 c1 c2 sg mt L (k + 1) bs v' := by
  have h1 := h.br.size
  have h2 := h.gB
  have hvb : ∀ g, v.ownBlock = some g → w.heap.size + 1 < g := fun g hv => by
    have h3 := (HV.1.lt g hv).1
    have h4 := HV.2.1 g hv
    have : g ≠ w.heap.size + 1 := fun e => h4 (.inl e)
    omega
  have hblk : ∀ b, b < w.heap.size + 2 → w'.heap[b]? = wr.heap[b]? := fun b h3 => by
    rw [hg.block b (by simp; omega) (fun e => by have := hvb b e.symm; omega), Below.heap_alloc _ _ b (by omega)]
  have HV2 : RRv 22 wr (w.heap.size + 1) (· = w.heap.size + 1) v vs (rows (cycsL (nxC sg mt) mt.length (outB sg) k)) :=
    ⟨HV.1, fun g hg hF => HV.2.1 g hg (.inl hF), HV.2.2.1, fun i hi => ⟨(HV.2.2.2 i hi).1, fun g hg hF => (HV.2.2.2 i hi).2 g hg (.inl hF)⟩⟩
  have hlist : OI wr (w.heap.size + 1) u (ints (cyc (nxC sg mt) mt.length k)) := by
    have := h.list.mono (B' := w.heap.size + 1) (by omega)
    rwa [List.take_of_length_le (by rw [cyc_length]; omega)] at this
  have hR := RRv.push (by decide) HV2 hlist (fun g hgu hF => by have := (h.list.lt g hgu).1; omega) (fun b hF => by omega) ho hg hob
  have hcl : ∀ i, w'.cell? ⟨w.heap.size, i, none⟩ = wr.cell? ⟨w.heap.size, i, none⟩ := fun i => World.cell?_of_block (a := ⟨w.heap.size, i, none⟩) (hblk w.heap.size (by omega))
  refine ⟨(hcl 0).trans h.c0, (hcl 1).trans h.c1, (hcl 2).trans h.c2, h.rs.keep fun b hb => hblk b (by omega), h.rm.keep fun b hb => hblk b (by omega),
    h.br.keep (hblk _ (by omega)) (by have := hg.size; simp at this; omega), (h.bel.alloc (by omega) _).grown hg (by simp; omega) (fun g hv => by have := hvb g hv; omega), seenJ_end (nxC_perm hd) hk hwt hl h.num hj, ⟨vs ++ [u], ?_⟩⟩
  rw [cycsL_succ, if_pos (by rw [hwt, hl]; rfl)]
  unfold rows at hR ⊢
  rw [List.map_append]
  exact hR
end


set_option maxHeartbeats 1000000 in
theorem rnext_any {w : World} {A1 A2 : Option Addr} {c1 c2 : Nat} {sg mt : List Int} {L : Int} (hx : RI w (· < w.heap.size) A1 sg) (hy : RI w (· < w.heap.size) A2 mt) (hd : IsD sg mt L) {g : Nat} (hg : g < mt.length) (ho : outB sg g = true) :
    Calls Try.prog 38 #[.agg #[.slice A1 sg.length c1, .slice A2 mt.length c2, .int .i64 L], .int .i64 g] w fun e w' => e = .returned (.int .i64 (nxC sg mt g : Int)) ∧ Below w.heap.size w w' := by
  have hD := DBox.start (c1 := c1) (c2 := c2) (L := L) (· < w.heap.size) hx hy (fun _ h => h)
  have hb0 : Below w.heap.size w (w.alloc (.cells #[.slice A1 sg.length c1, .slice A2 mt.length c2, .int .i64 L] 24)) := (Below.refl _ _).alloc (Nat.le_refl _) _
  obtain ⟨hg1, hg2, -, -⟩ := hd.2.2.2.2.2.1.gn hg
  have hn := hd.2.1
  have hl := hd.1
  have hin := in_slot hd hg2 (mate_in hd hg ho)
  obtain ⟨m, hm⟩ : ∃ m, gn mt g = m := ⟨_, rfl⟩
  obtain ⟨mq, hmq⟩ : ∃ mq, m / 4 = mq := ⟨_, rfl⟩
  have hxn : nxC sg mt g = nxR sg mt g := if_pos ho
  have hnr : nxR sg mt g = if m % 4 = 0 then (if gi sg mq = 1 then 4 * mq + 1 else 4 * mq + 3) else 4 * mq + 2 := by
    unfold nxR overN
    rw [hm, hmq, Nat.mul_comm mq 4]
  rw [hm] at hg1 hg2
  have q1 : ((m : Nat) : Int).tdiv 4 = (mq : Int) := by rw [← hmq]; exact Int.ofNat_tdiv m 4
  have q1e : (m : Int) / 4 = (mq : Int) := by omega
  have hmq1 : mq < sg.length := by omega
  have hmqb : mq ≤ 64 := by omega
  have hsg := hd.2.2.2.2.1 mq hmq1
  obtain ⟨b1, o1, rfl, hb1, hc1⟩ := hx.at_ hmq1
  obtain ⟨b2, o2, rfl, hb2, hc2⟩ := hy.at_ hg
  have k3 := (hb0.cell (p := ⟨b1, o1 + mq, none⟩) hb1).trans (hc1 mq hmq1)
  have k4 := (hb0.cell (p := ⟨b2, o2 + g, none⟩) hb2).trans (hc2 g hg)
  have HB := Lib.hid hb0
  have HX := Lib.hid (hxn.trans hnr)
  rw [hg1] at k4
  clear hx hy hD hb0 hd hm hmq hn hxn hnr hc1 hc2 hin hg1
  by_cases h0 : m % 4 = 0
  · have q2 : ((m : Int) % 4 == 0) = true := by rw [beq_iff_eq]; omega
    rcases hsg with e | e
    · rw [e] at k3
      have HX2 : Hid (nxC sg mt g = 4 * mq + 1) := by have := HX.out; rw [if_pos h0, if_pos e] at this; exact this
      clear e h0
      go_enter Try.func38, Try.ntmps38
      go_wp2_with fail
      go_ret
      exact ⟨ret_int (by rw [HX2.out]; omega), HB.out⟩
    · rw [e] at k3
      have HX2 : Hid (nxC sg mt g = 4 * mq + 3) := by have := HX.out; rw [if_pos h0, if_neg (by omega)] at this; exact this
      clear e h0
      go_enter Try.func38, Try.ntmps38
      go_wp2_with fail
      go_ret
      exact ⟨ret_int (by rw [HX2.out]; omega), HB.out⟩
  · have q2 : ((m : Int) % 4 == 0) = false := by rw [beq_eq_false_iff_ne]; omega
    have HX2 : Hid (nxC sg mt g = 4 * mq + 2) := by have := HX.out; rw [if_neg h0] at this; exact this
    clear h0
    rcases hsg with e | e
    all_goals
      rw [e] at k3
      clear e
      go_enter Try.func38, Try.ntmps38
      go_wp2_with fail
      go_ret
      exact ⟨ret_int (by rw [HX2.out]; omega), HB.out⟩
end Go.Proofs.Ytaghemilihaiaaa

