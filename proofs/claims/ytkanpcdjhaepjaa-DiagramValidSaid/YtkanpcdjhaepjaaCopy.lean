/-
  The contract of the reference's Copy: an equal diagram in memory of its own.
-/
import Derived.Test.YtkanpcdjhaepjaaKBox
import Derived.Deep.RegionHeld3
namespace Go.Proofs.Ytkanpcdjhaepjaa
open Go.RowKit

theorem wp_appN {o : Oper} {a : Act} {K : Act → World → Prop} {Q : Exit → Act → World → Prop} {w : World} {B c : Nat} {v : Value} {xs ys : List Int} {s x : Operand} {t : TypeId} {S : Nat → Prop} {A : Option Addr}
    (hown : OI w B v xs) (hr : RI w S A ys) (hl : xs.length + ys.length < 1099511627776) (hB : B ≤ w.heap.size)
    (ho : o.op = .call { callee := .builtin .append, args := #[s, x], argTypes := #[t, t] })
    (ht : Try.prog.underlying t = some (.slice 3)) (hs : a.eval s = v) (hx : a.eval x = .slice A ys.length c)
    (h : ∀ v' w', OI w' B v' (xs ++ ys) → w.grownBy w' v.ownBlock → (v'.ownBlock = v.ownBlock ∨ v'.ownBlock = some w.heap.size) → K (a.put o.dst v') w') :
    o.wp Try.prog a w K Q := by
  obtain ⟨i0, hi, hz0, hz1, hz2⟩ := info_parts int_info
  have hrun : ∃ v' w', (Builtin.append_ #[t, t] o.type #[v, .slice A ys.length c]).run Try.prog w = .ok v' w' ∧ OI w' B v' (xs ++ ys) ∧ w.grownBy w' v.ownBlock ∧ (v'.ownBlock = v.ownBlock ∨ v'.ownBlock = some w.heap.size) := by
    rcases A with _ | ad
    · have hy : ys = [] := by
        rcases ys with _ | ⟨y, ys⟩
        · rfl
        · obtain ⟨b, off, he, _⟩ := hr (by simp)
          cases he
      subst hy
      exact ⟨v, w, run_app_nil ht hown c, by simpa using hown, World.grownBy.refl w _, .inl rfl⟩
    · have hcells : ∀ j u, (ys.map (Value.int .i64))[j]? = some u → w.cell? (ad.add j) = some u := by
        intro j u hu
        have hj : j < ys.length := by
          have := (List.getElem?_eq_some_iff.1 hu).1
          simpa using this
        obtain ⟨b, off, he, _, hc⟩ := hr.at_ hj
        injection he with he
        subst he
        have := hc j hj
        rw [map_gi hj] at hu
        injection hu with hu
        subst hu
        unfold Addr.add
        split
        · rename_i h0
          subst h0
          simpa using this
        · exact this
      obtain ⟨v', w', hrun, h2, h3, _, h5⟩ := run_append_own_at (P := Try.prog) w B t o.type 3 i0 (.int .i64 0) 1 8 ht hi hz0 hz1 hz2 rfl (by decide) v xs.length _ hown
        ad ys.length c (ys.map (Value.int .i64)) (by simp) hcells (ints_oneCell _ _) (by unfold maxLen; omega) (by omega) hB
      refine ⟨v', w', hrun, ?_, h3, h5⟩
      show OR _ _ _ _ _ _
      unfold OR
      simpa using h2
  obtain ⟨v', w', hrun, h2, h3, h5⟩ := hrun
  unfold Oper.wp execOp
  simp only [ho, resolve, invoke, builtin, Sem.run_bind, Sem.run_pure, Result.andThen_ok, List.map_toArray, List.map_cons, List.map_nil, hs, hx, hrun]
  exact h v' w' h2 h3 h5
theorem step_appN {ops : Array Oper} {o : Oper} {a : Act} {K : Act → World → Prop} {Q : Exit → Act → World → Prop} {E : Prop} {w : World} {B c : Nat} {v : Value} {xs ys : List Int} {s x : Operand} {t : TypeId} {S : Nat → Prop} {A : Option Addr}
    (hown : OI w B v xs) (hr : RI w S A ys) (hl : xs.length + ys.length < 1099511627776) (hB : B ≤ w.heap.size) (hgd : o.guard = none)
    (ho : o.op = .call { callee := .builtin .append, args := #[s, x], argTypes := #[t, t] })
    (ht : Try.prog.underlying t = some (.slice 3)) (hs : a.eval s = v) (hx : a.eval x = .slice A ys.length c)
    (h : ∀ v' w', OI w' B v' (xs ++ ys) → w.grownBy w' v.ownBlock → (v'.ownBlock = v.ownBlock ∨ v'.ownBlock = some w.heap.size) → K (a.put o.dst v') w') :
    if Region.wanted o (yielded ops a.tmps) = true then Oper.wp Try.prog o a w K Q else E := by
  have hw : Region.wanted o (yielded ops a.tmps) = true := by simp [Region.wanted, hgd]
  rw [if_pos hw]
  exact wp_appN hown hr hl hB ho ht hs hx h

theorem ZBox.keep2 {w w' : World} {b : Nat} (h : ZBox w b) (hb : w'.heap[b]? = w.heap[b]?) (hlt : b < w'.heap.size) : ZBox w' b :=
  ⟨(World.cell?_of_block (a := ⟨b, 0, none⟩) hb).trans h.z0, (World.cell?_of_block (a := ⟨b, 1, none⟩) hb).trans h.z1, (World.cell?_of_block (a := ⟨b, 2, none⟩) hb).trans h.z2,
    (World.frozen?_of_block (a := ⟨b, 0, none⟩) hb).trans h.f0, (World.frozen?_of_block (a := ⟨b, 1, none⟩) hb).trans h.f1, (World.frozen?_of_block (a := ⟨b, 2, none⟩) hb).trans h.f2, hlt⟩
/-- an append onto a slice that was built empty -/
theorem step_appE {ops : Array Oper} {o : Oper} {a : Act} {K : Act → World → Prop} {Q : Exit → Act → World → Prop} {E : Prop} {w : World} {B c g : Nat} {ys : List Int} {s x : Operand} {t : TypeId} {S : Nat → Prop} {A : Option Addr}
    (hr : RI w S A ys) (hl : ys.length < 1099511627776) (hh : w.heap[g]? = some (.cells #[] 3 (0, 0))) (hB : B ≤ g) (hgd : o.guard = none)
    (ho : o.op = .call { callee := .builtin .append, args := #[s, x], argTypes := #[t, t] })
    (ht : Try.prog.underlying t = some (.slice 3)) (hs : a.eval s = .slice (some ⟨g, 0, none⟩) 0 0) (hx : a.eval x = .slice A ys.length c)
    (h : ∀ v' w', OI w' B v' ys → w.grownBy w' (some g) → (v'.ownBlock = some g ∨ v'.ownBlock = some w.heap.size) → K (a.put o.dst v') w') :
    if Region.wanted o (yielded ops a.tmps) = true then Oper.wp Try.prog o a w K Q else E := by
  have hlt := (Array.getElem?_eq_some_iff.1 hh).1
  have hown : OI w B (.slice (some ⟨g, 0, none⟩) 0 0) [] := ⟨rfl, .inr ⟨g, 0, #[], rfl, hB, hh, Nat.le_refl _, Nat.zero_le _, rfl, rfl⟩⟩
  exact step_appN hown hr (by simpa using hl) (by omega) hgd ho ht hs hx (fun v' w' h1 h2 h3 => h v' w' (by simpa using h1) (by simpa [Value.ownBlock] using h2) (by simpa [Value.ownBlock] using h3))
theorem heap_at {w : World} {g : Nat} {o : Obj} (h : g = w.heap.size) : (w.alloc o).heap[g]? = some o := by subst h; exact heap_alloc_new _ _
theorem heap_past {w : World} {g : Nat} {o o' : Obj} (h : w.heap[g]? = some o) : (w.alloc o').heap[g]? = some o :=
  (Below.heap_alloc w o' g (Array.getElem?_eq_some_iff.1 h).1).trans h
theorem heap_grown {w w' : World} {g r : Nat} {o : Obj} (hg : w.grownBy w' (some r)) (h : w.heap[g]? = some o) (hne : g ≠ r) : w'.heap[g]? = some o :=
  (hg.block g (Array.getElem?_eq_some_iff.1 h).1 (fun e => by injection e with e; exact hne e)).trans h
/-- two rows, the second one laid last -/
theorem fresh_end {w1 wB w2 : World} {B gM : Nat} {v1 v2 : Value} {xs ys : List Int} (ho1 : OI w1 B v1 xs) (hB : ∀ k, k < w1.heap.size → wB.heap[k]? = w1.heap[k]?) (hs : w1.heap.size ≤ wB.heap.size) (hg2 : wB.grownBy w2 (some gM)) (ho2 : OI w2 B v2 ys)
    (hob2 : v2.ownBlock = some gM ∨ v2.ownBlock = some wB.heap.size) (hne : v1.ownBlock ≠ some gM) : Fresh w2 B v1 v2 xs ys ∧ Fresh w2 B v2 v1 ys xs := by
  have h1 : OI w2 B v1 xs := ho1.keep fun k hk => by
    have := (ho1.lt k hk).2
    rw [hg2.block k (by omega) (fun e => hne (by rw [hk]; exact e)), hB k this]
  have hap : ∀ g, v1.ownBlock = some g → v2.ownBlock ≠ some g := by
    intro g hg e
    have := (ho1.lt g hg).2
    rcases hob2 with h | h
    · rw [h] at e; injection e with e; subst e; exact hne hg
    · rw [h] at e; injection e with e; omega
  exact ⟨⟨h1, ho2, hap⟩, ⟨ho2, h1, fun g hg e => hap g e hg⟩⟩
/-- what holds in the copy's region -/
structure CSt (w0 w : World) (A1 A2 : Option Addr) (c1 c2 : Nat) (sg mt : List Int) (L : Int) : Prop where
  ko : KBox w w0.heap.size (w0.heap.size + 1) A1 A2 c1 c2 sg mt L
  zl : w0.heap.size + 1 < w.heap.size
  bl : Below w0.heap.size w0 w
section
variable {w0 w w' : World} {A1 A2 : Option Addr} {c1 c2 : Nat} {sg mt : List Int} {L : Int}
theorem CSt.below (h : CSt w0 w A1 A2 c1 c2 sg mt L) (hb : Below w.heap.size w w') : CSt w0 w' A1 A2 c1 c2 sg mt L :=
  ⟨h.ko.call hb, Nat.lt_of_lt_of_le h.zl hb.size, h.bl.trans (hb.mono h.bl.size)⟩
theorem CSt.grown (h : CSt w0 w A1 A2 c1 c2 sg mt L) {g : Nat} (hg : w.grownBy w' (some g)) (hgt : w0.heap.size + 1 < g) : CSt w0 w' A1 A2 c1 c2 sg mt L := by
  have hz := h.zl
  have hs := hg.size
  have hk : ∀ b, b < w.heap.size → b ≠ g → w'.heap[b]? = w.heap[b]? := fun b hb hne => hg.block b hb (fun e => by injection e with e; exact hne e)
  exact ⟨h.ko.below ⟨hg.os, hg.tape, hg.output, hs, fun b hb => hk b (by omega) (by omega)⟩ hs, by omega, h.bl.grown hg h.bl.size (fun j hj => by injection hj; omega)⟩
theorem CSt.store (h : CSt w0 w A1 A2 c1 c2 sg mt L) (k : Nat) (v : Value) : CSt w0 (w.setCell ⟨w0.heap.size + 1, k, none⟩ v) A1 A2 c1 c2 sg mt L :=
  ⟨h.ko.store (Nat.le_refl _) v, by simpa using h.zl, h.bl.setCell (by simp) _⟩
theorem ZBox.grownZ {b g : Nat} (h : ZBox w b) (hg : w.grownBy w' (some g)) (hne : b ≠ g) : ZBox w' b :=
  h.keep2 (hg.block b h.lt (fun e => by injection e with e; exact hne e)) (Nat.lt_of_lt_of_le h.lt hg.size)
theorem ZBox.allocZ {b : Nat} (h : ZBox w b) (o : Obj) : ZBox (w.alloc o) b := h.below ((Below.refl _ _).alloc (Nat.le_refl _) _)
theorem CSt.alloc (h : CSt w0 w A1 A2 c1 c2 sg mt L) (o : Obj) : CSt w0 (w.alloc o) A1 A2 c1 c2 sg mt L := h.below ((Below.refl _ _).alloc (Nat.le_refl _) _)
theorem CSt.drew (h : CSt w0 w A1 A2 c1 c2 sg mt L) : CSt w0 w.drew A1 A2 c1 c2 sg mt L := h.below (Below.refl _ _).drew
theorem CSt.cells (h : CSt w0 w A1 A2 c1 c2 sg mt L) : Hid (CSt w0 w A1 A2 c1 c2 sg mt L) ∧ w.cell? ⟨w0.heap.size, 0, none⟩ = some (.slice A1 sg.length c1) ∧ w.cell? ⟨w0.heap.size, 1, none⟩ = some (.slice A2 mt.length c2) ∧ w.cell? ⟨w0.heap.size, 2, none⟩ = some (.int .i64 L) :=
  ⟨Lib.hid h, h.ko.c0, h.ko.c1, h.ko.c2⟩
theorem Fresh.boxed {v1 v2 : Value} {sg mt : List Int} (h : Fresh w (w0.heap.size + 2) v1 v2 sg mt) (x y z : Value) :
    Fresh (((w.setCell ⟨w0.heap.size + 1, 0, none⟩ x).setCell ⟨w0.heap.size + 1, 1, none⟩ y).setCell ⟨w0.heap.size + 1, 2, none⟩ z) w0.heap.size v1 v2 sg mt := by
  have hblk : ∀ g, w0.heap.size + 2 ≤ g → (((w.setCell ⟨w0.heap.size + 1, 0, none⟩ x).setCell ⟨w0.heap.size + 1, 1, none⟩ y).setCell ⟨w0.heap.size + 1, 2, none⟩ z).heap[g]? = w.heap[g]? := fun g hg => by
    rw [Below.heap_setCell _ _ _ g (by simp; omega), Below.heap_setCell _ _ _ g (by simp; omega), Below.heap_setCell _ _ _ g (by simp; omega)]
  exact ⟨(h.os.keep fun g hg => hblk g (h.os.lt g hg).1).mono (by omega), (h.om.keep fun g hg => hblk g (h.om.lt g hg).1).mono (by omega), h.ne⟩
end

set_option maxHeartbeats 8000000 in
theorem copy_any (A1 A2 : Option Addr) (c1 c2 : Nat) (sg mt : List Int) (L : Int) (w : World) (S : Nat → Prop) (hx : RI w S A1 sg) (hy : RI w S A2 mt) (hS : ∀ b, S b → b < w.heap.size) (hm1 : sg.length ≤ 1000) (hm2 : mt.length ≤ 1000) :
    Calls Try.prog 33 #[.agg #[.slice A1 sg.length c1, .slice A2 mt.length c2, .int .i64 L]] w (ClonePost sg mt L w) := by
  have hk := (KBox.new (c1 := c1) (c2 := c2) (L := L) rfl rfl hx hy hS).alloc (.cells #[.slice none 0 0, .slice none 0 0, .int .i64 0] 24)
  have hz1 := (ZBox.new (heap_alloc_new (w.alloc (.cells #[.slice A1 sg.length c1, .slice A2 mt.length c2, .int .i64 L] 24)) (.cells #[.slice none 0 0, .slice none 0 0, .int .i64 0] 24)) (by simp))
  have hbl := (((Below.refl w.heap.size w).alloc (Nat.le_refl _) (.cells #[.slice A1 sg.length c1, .slice A2 mt.length c2, .int .i64 L] 24)).alloc (by simp) (.cells #[.slice none 0 0, .slice none 0 0, .int .i64 0] 24))
  have hs0 : (w.alloc (.cells #[.slice A1 sg.length c1, .slice A2 mt.length c2, .int .i64 L] 24)).heap.size = w.heap.size + 1 := by simp
  rw [hs0] at hz1
  have HC := Lib.hid (CSt.mk (w0 := w) (A1 := A1) (A2 := A2) (c1 := c1) (c2 := c2) (sg := sg) (mt := mt) (L := L) hk (by simp) hbl)
  have HZ := Lib.hid hz1
  have hsz : ((w.alloc (.cells #[.slice A1 sg.length c1, .slice A2 mt.length c2, .int .i64 L] 24)).alloc (.cells #[.slice none 0 0, .slice none 0 0, .int .i64 0] 24)).heap.size = w.heap.size + 2 := by simp
  have HSZ := Lib.hid hsz
  clear hx hy hS hk hz1 hbl hs0 hsz
  go_enter Try.func33, Try.ntmps33
  go_wp2_with fail
  generalize ((w.alloc (.cells #[.slice A1 sg.length c1, .slice A2 mt.length c2, .int .i64 L] 24)).alloc (.cells #[.slice none 0 0, .slice none 0 0, .int .i64 0] 24)) = W at *
  have k0 := HC.out.ko.c0
  have k1 := HC.out.ko.c1
  have k2 := HC.out.ko.c2
  have hW : w.heap.size + 2 = W.heap.size := HSZ.out.symm
  have HCd := Lib.hid HC.out.drew.cells
  have hzW := HC.out.zl
  go_region_held3 (fun w' => Hid (CSt w w' A1 A2 c1 c2 sg mt L) ∧ w'.cell? ⟨w.heap.size, 0, none⟩ = some (.slice A1 sg.length c1) ∧ w'.cell? ⟨w.heap.size, 1, none⟩ = some (.slice A2 mt.length c2) ∧ w'.cell? ⟨w.heap.size, 2, none⟩ = some (.int .i64 L))
    (first | exact HCd.out | exact CSt.cells hc1 | exact CSt.cells hc2 | exact CSt.cells (((hc2.store _ _).store _ _).store _ _) | exact CSt.cells (((hc1.store _ _).store _ _).store _ _) | exact CSt.cells (CSt.alloc (Hid.out (And.left (by assumption))) _))
    (first | (refine step_appE (ys := sg) (B := w.heap.size + 2) (CSt.ko (Hid.out (And.left (by assumption)))).rs (by omega) (by first | exact heap_alloc_new _ _ | ((refine heap_at ?_); first | rfl | (simp; done) | (simp; omega)) | ((refine heap_past ?_); ((refine heap_at ?_); first | rfl | (simp; done) | (simp; omega))) | ((refine heap_grown hg2 ?_ ?_); (focus ((refine heap_at ?_); first | rfl | (simp; done) | (simp; omega))); (first | omega | (simp; done) | (simp; omega))) | ((refine heap_grown hg2 ?_ ?_); (focus ((refine heap_past ?_); ((refine heap_at ?_); first | rfl | (simp; done) | (simp; omega)))); (first | omega | (simp; done) | (simp; omega)))) (by first | omega | (simp; omega)) rfl rfl Try.underlying22 rfl rfl ?_; intro v1 w1 ho1 hg1 hob1; have hc1 := CSt.grown (Hid.out (And.left (by assumption))) hg1 (by first | omega | (simp; omega)); have hq1 := hc1.zl; have hz1 := ZBox.grownZ (b := w.heap.size + 1) (by (repeat (first | exact hz2 | exact HZ.out | refine ZBox.drew ?_ | refine ZBox.allocZ ?_ _))) hg1 (by first | omega | (simp; omega)); have y10 := hz1.z0; have y11 := hz1.z1; have y12 := hz1.z2; have f10 := hz1.f0; have f11 := hz1.f1; have f12 := hz1.f2; obtain ⟨a1, d1, rfl, -, -, -⟩ := ho1.shape) | (refine step_appE (ys := mt) (B := w.heap.size + 2) (CSt.ko (Hid.out (And.left (by assumption)))).rm (by omega) (by first | exact heap_alloc_new _ _ | ((refine heap_at ?_); first | rfl | (simp; done) | (simp; omega)) | ((refine heap_past ?_); ((refine heap_at ?_); first | rfl | (simp; done) | (simp; omega))) | ((refine heap_grown hg1 ?_ ?_); (focus ((refine heap_at ?_); first | rfl | (simp; done) | (simp; omega))); (first | omega | (simp; done) | (simp; omega))) | ((refine heap_grown hg1 ?_ ?_); (focus ((refine heap_past ?_); ((refine heap_at ?_); first | rfl | (simp; done) | (simp; omega)))); (first | omega | (simp; done) | (simp; omega)))) (by first | omega | (simp; omega)) rfl rfl Try.underlying22 rfl rfl ?_; intro v2 w2 ho2 hg2 hob2; have hc2 := CSt.grown (Hid.out (And.left (by assumption))) hg2 (by first | omega | (simp; omega)); have hq2 := hc2.zl; have hz2 := ZBox.grownZ (b := w.heap.size + 1) (by (repeat (first | exact hz1 | exact HZ.out | refine ZBox.drew ?_ | refine ZBox.allocZ ?_ _))) hg2 (by first | omega | (simp; omega)); have y20 := hz2.z0; have y21 := hz2.z1; have y22 := hz2.z2; have f20 := hz2.f0; have f21 := hz2.f1; have f22 := hz2.f2; obtain ⟨a2, d2, rfl, -, -, -⟩ := ho2.shape))
  all_goals
    have HE := CSt.bl (w0 := w) (A1 := A1) (A2 := A2) (c1 := c1) (c2 := c2) (sg := sg) (mt := mt) (L := L) (Hid.out (And.left (by assumption)))
    first
      | have HF := (fresh_end ho1 (fun _ _ => rfl) (Nat.le_refl _) hg2 ho2 hob2 (by (intro e; have hl := (ho1.lt _ e).2; first | (exfalso; omega) | (rcases hob1 with h | h <;> (rw [h] at e; first | (simp at e; done) | (simp at e; omega)))))).1
      | have HF := (fresh_end ho1 (fun k hk => Below.heap_alloc _ _ k hk) (by simp) hg2 ho2 hob2 (by (intro e; have hl := (ho1.lt _ e).2; first | (exfalso; omega) | (rcases hob1 with h | h <;> (rw [h] at e; first | (simp at e; done) | (simp at e; omega)))))).1
      | have HF := (fresh_end ho2 (fun _ _ => rfl) (Nat.le_refl _) hg1 ho1 hob1 (by (intro e; have hl := (ho2.lt _ e).2; first | (exfalso; omega) | (rcases hob2 with h | h <;> (rw [h] at e; first | (simp at e; done) | (simp at e; omega)))))).2
      | have HF := (fresh_end ho2 (fun k hk => Below.heap_alloc _ _ k hk) (by simp) hg1 ho1 hob1 (by (intro e; have hl := (ho2.lt _ e).2; first | (exfalso; omega) | (rcases hob2 with h | h <;> (rw [h] at e; first | (simp at e; done) | (simp at e; omega)))))).2
    have HFB := Lib.hid (HF.boxed (w0 := w) (.slice a1 sg.length d1) (.slice a2 mt.length d2) (.int .i64 L))
    have HBB := Lib.hid HE
    clear HF HE
    go_wp2_with fail
    refine bodyPost_ret (v := .agg #[.slice a1 sg.length d1, .slice a2 mt.length d2, .int .i64 L]) (by first | (simp [results, Try.results33, go_sem, y20, y21, y22]; done) | (simp [results, Try.results33, go_sem, y10, y11, y12]; done)) rfl ?_
    exact ⟨_, _, rfl, HFB.out, HBB.out⟩
end Go.Proofs.Ytkanpcdjhaepjaa
