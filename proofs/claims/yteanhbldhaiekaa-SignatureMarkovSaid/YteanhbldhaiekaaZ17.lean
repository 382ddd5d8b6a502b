/-
  The contract of surface.element.
-/
import Derived.Test.YteanhbldhaiekaaZ16
import Derived.Laws.StructEq
namespace Go.Proofs.Yteanhbldhaiekaa
open Go.RowKit

/-- two boxes of loops -/
theorem lp_box (w : World) (x y : Lp) (t : TypeId) : let W := (w.alloc (.cells #[lI x.g, lI x.p, lI x.q] t)).alloc (.cells #[lI y.g, lI y.p, lI y.q] t)
    (W.cell? ⟨w.heap.size, 0, none⟩ = some (lI x.g) ∧ W.cell? ⟨w.heap.size, 1, none⟩ = some (lI x.p) ∧ W.cell? ⟨w.heap.size, 2, none⟩ = some (lI x.q)) ∧ W.cell? ⟨w.heap.size + 1, 0, none⟩ = some (lI y.g) ∧ W.cell? ⟨w.heap.size + 1, 1, none⟩ = some (lI y.p) ∧ W.cell? ⟨w.heap.size + 1, 2, none⟩ = some (lI y.q) := by
  have h0 : ∀ k, ((w.alloc (.cells #[lI x.g, lI x.p, lI x.q] t)).alloc (.cells #[lI y.g, lI y.p, lI y.q] t)).cell? ⟨w.heap.size, k, none⟩ = (w.alloc (.cells #[lI x.g, lI x.p, lI x.q] t)).cell? ⟨w.heap.size, k, none⟩ := fun k => World.cell?_alloc_lt _ _ ⟨w.heap.size, k, none⟩ (by simp)
  have h1 : w.heap.size + 1 = (w.alloc (.cells #[lI x.g, lI x.p, lI x.q] t)).heap.size := by simp
  refine ⟨⟨?_, ?_, ?_⟩, ?_, ?_, ?_⟩
  · rw [h0, World.cell?_alloc_new]; rfl
  · rw [h0, World.cell?_alloc_new]; rfl
  · rw [h0, World.cell?_alloc_new]; rfl
  · rw [h1, World.cell?_alloc_new]; rfl
  · rw [h1, World.cell?_alloc_new]; rfl
  · rw [h1, World.cell?_alloc_new]; rfl
/-- the entry in numbers -/
def elN (u v : Int) (xg xp xq yg yp yq : Nat) : Int :=
  if xg = yg ∧ xp = yp ∧ xq = yq then (if 0 < u ∧ 0 < v then -1 else if u < 0 ∧ v < 0 then 1 else 0)
  else if xg = yg ∧ xq = yp then (if v < 0 then -1 else 0)
  else if xg = yg ∧ xp = yq then (if 0 < u then 1 else 0)
  else if yg = xg + 1 ∧ xp < yp ∧ yp < xq ∧ xq < yq then 1
  else if yg = xg + 1 ∧ yp < xp ∧ xp < yq ∧ yq < xq then -1 else 0
theorem elS_eq {ws : List Int} {u v : Int} {xg xp xq yg yp yq : Nat} (hu : gi ws xp = u) (hv : gi ws xq = v) : elS ws ⟨xg, xp, xq⟩ ⟨yg, yp, yq⟩ = elN u v xg xp xq yg yp yq := by
  subst hu hv
  unfold elS elN
  simp only [Lp.mk.injEq]
set_option maxHeartbeats 4000000 in
theorem element_any {w : World} {A : Option Addr} {c n : Nat} {ws : List Int} {x y : Lp} (hr : RI w (· < w.heap.size) A ws) (hn : ws.length = n) (_hl : n ≤ 200) (hx : x.p < x.q ∧ x.q < n) (hy : y.p < y.q ∧ y.q < n) (hg : x.g < 10 ∧ y.g < 10) :
    Calls Try.prog 41 #[.slice A n c, .agg #[.int .i64 x.g, .int .i64 x.p, .int .i64 x.q], .agg #[.int .i64 y.g, .int .i64 y.p, .int .i64 y.q]] w fun e w' => e = .returned (.int .i64 (elS ws x y)) ∧ Below w.heap.size w w' := by
  obtain ⟨b, off, rfl, -, hc⟩ := hr.at_ (k := x.p) (by omega)
  have hb : Below w.heap.size w ((w.alloc (.cells #[lI x.g, lI x.p, lI x.q] 71)).alloc (.cells #[lI y.g, lI y.p, lI y.q] 71)) := ((Below.refl _ w).alloc (Nat.le_refl _) _).alloc (by simp) _
  have HB := Lib.hid hb
  have hr2 := hr.keep (w' := (w.alloc (.cells #[lI x.g, lI x.p, lI x.q] 71)).alloc (.cells #[lI y.g, lI y.p, lI y.q] 71)) fun k hk => hb.block k hk
  obtain ⟨b', off', e, -, hc2⟩ := hr2.at_ (k := x.p) (by omega)
  injection e with e
  injection e with e1 e2 _
  subst e1 e2
  obtain ⟨⟨x0, x1, x2⟩, y0, y1, y2⟩ := lp_box w x y 71
  have d1 := hc2 x.p (by omega)
  have d2 := hc2 x.q (by omega)
  have HE : Hid (elS ws x y = elS ws x y) := Lib.hid rfl
  obtain ⟨xg, xp, xq⟩ := x
  obtain ⟨yg, yp, yq⟩ := y
  obtain ⟨W, hW⟩ : ∃ W, (w.alloc (.cells #[lI xg, lI xp, lI xq] 71)).alloc (.cells #[lI yg, lI yp, lI yq] 71) = W := ⟨_, rfl⟩
  obtain ⟨z, hz⟩ : ∃ z, elS ws ⟨xg, xp, xq⟩ ⟨yg, yp, yq⟩ = z := ⟨_, rfl⟩
  rw [hz]
  have HZ := Lib.hid hz
  have HW := Lib.hid hW
  dsimp only at x0 x1 x2 y0 y1 y2 d1 d2 hx hy hg HB
  rw [hW] at x0 x1 x2 y0 y1 y2 d1 d2 HB
  unfold lI at x0 x1 x2 y0 y1 y2 HW
  clear hc hc2 hr hr2 hb HE hz hW
  have wx : IntKind.i64.wrap ((xg : Int) + 1) = (xg : Int) + 1 := by rw [IntKind.wrap_i64]; omega
  go_enter Try.func41, Try.ntmps41
  go_upto_region 1 with fail
  rw [HW.out]
  obtain ⟨u, hu⟩ : ∃ u, gi ws xp = u := ⟨_, rfl⟩
  obtain ⟨v, hv⟩ : ∃ v, gi ws xq = v := ⟨_, rfl⟩
  rw [hu] at d1
  rw [hv] at d2
  have HU := Lib.hid hu
  have HV := Lib.hid hv
  clear hu hv HW
  by_cases a1 : xg = yg ∧ xp = yp ∧ xq = yq
  · obtain ⟨rfl, rfl, rfl⟩ := a1
    by_cases b1 : 0 < u
    · by_cases b2 : 0 < v
      · have hz : z = -1 := by rw [← HZ.out, elS_eq HU.out HV.out]; unfold elN; (repeat' split) <;> first | rfl | omega
        subst hz
        go_wp2_with fail
        go_ret
        exact ⟨rfl, HB.out⟩
      · have hz : z = 0 := by rw [← HZ.out, elS_eq HU.out HV.out]; unfold elN; (repeat' split) <;> first | rfl | omega
        subst hz
        go_wp2_with fail
        go_ret
        exact ⟨rfl, HB.out⟩
    · by_cases b3 : u < 0
      · by_cases b4 : v < 0
        · have hz : z = 1 := by rw [← HZ.out, elS_eq HU.out HV.out]; unfold elN; (repeat' split) <;> first | rfl | omega
          subst hz
          go_wp2_with fail
          go_ret
          exact ⟨rfl, HB.out⟩
        · have hz : z = 0 := by rw [← HZ.out, elS_eq HU.out HV.out]; unfold elN; (repeat' split) <;> first | rfl | omega
          subst hz
          go_wp2_with fail
          go_ret
          exact ⟨rfl, HB.out⟩
      · have hz : z = 0 := by rw [← HZ.out, elS_eq HU.out HV.out]; unfold elN; (repeat' split) <;> first | rfl | omega
        subst hz
        go_wp2_with fail
        go_ret
        exact ⟨rfl, HB.out⟩
  · by_cases ag : xg = yg
    · subst ag
      have z1 : ((xg : Int) == (xg : Int) + 1) = false := by rw [beq_eq_false_iff_ne]; omega
      by_cases ap : xp = yp
      · subst ap
        have aq : ¬ xq = yq := fun h => a1 ⟨rfl, rfl, h⟩
        have z2 : ((xq : Int) == (yq : Int)) = false := by rw [beq_eq_false_iff_ne]; omega
        have z3 : ((xq : Int) == (xp : Int)) = false := by rw [beq_eq_false_iff_ne]; omega
        have z4 : ((xp : Int) == (yq : Int)) = false := by rw [beq_eq_false_iff_ne]; omega
        have hz : z = 0 := by rw [← HZ.out, elS_eq HU.out HV.out]; unfold elN; (repeat' split) <;> first | rfl | omega
        subst hz
        go_wp2_with fail
        go_ret
        exact ⟨rfl, HB.out⟩
      · have z5 : ((xp : Int) == (yp : Int)) = false := by rw [beq_eq_false_iff_ne]; omega
        by_cases c2 : xq = yp
        · subst c2
          by_cases b2 : v < 0
          · have hz : z = -1 := by rw [← HZ.out, elS_eq HU.out HV.out]; unfold elN; (repeat' split) <;> first | rfl | omega
            subst hz
            go_wp2_with fail
            go_ret
            exact ⟨rfl, HB.out⟩
          · have hz : z = 0 := by rw [← HZ.out, elS_eq HU.out HV.out]; unfold elN; (repeat' split) <;> first | rfl | omega
            subst hz
            go_wp2_with fail
            go_ret
            exact ⟨rfl, HB.out⟩
        · have z6 : ((xq : Int) == (yp : Int)) = false := by rw [beq_eq_false_iff_ne]; omega
          by_cases c3 : xp = yq
          · subst c3
            by_cases b1 : 0 < u
            · have hz : z = 1 := by rw [← HZ.out, elS_eq HU.out HV.out]; unfold elN; (repeat' split) <;> first | rfl | omega
              subst hz
              go_wp2_with fail
              go_ret
              exact ⟨rfl, HB.out⟩
            · have hz : z = 0 := by rw [← HZ.out, elS_eq HU.out HV.out]; unfold elN; (repeat' split) <;> first | rfl | omega
              subst hz
              go_wp2_with fail
              go_ret
              exact ⟨rfl, HB.out⟩
          · have z7 : ((xp : Int) == (yq : Int)) = false := by rw [beq_eq_false_iff_ne]; omega
            have hz : z = 0 := by rw [← HZ.out, elS_eq HU.out HV.out]; unfold elN; (repeat' split) <;> first | rfl | omega
            subst hz
            go_wp2_with fail
            go_ret
            exact ⟨rfl, HB.out⟩
    · have z8 : ((xg : Int) == (yg : Int)) = false := by rw [beq_eq_false_iff_ne]; omega
      by_cases ah : yg = xg + 1
      · subst ah
        by_cases a2 : xp < yp ∧ yp < xq ∧ xq < yq
        · obtain ⟨p1, p2, p3⟩ := a2
          have hz : z = 1 := by rw [← HZ.out, elS_eq HU.out HV.out]; unfold elN; (repeat' split) <;> first | rfl | omega
          subst hz
          go_wp2_with fail
          go_ret
          exact ⟨rfl, HB.out⟩
        · by_cases q1 : xp < yp
          · by_cases q2 : yp < xq
            · by_cases q3 : xq < yq
              · exact absurd ⟨q1, q2, q3⟩ a2
              · have r1 : ¬ yp < xp := by omega
                have hz : z = 0 := by rw [← HZ.out, elS_eq HU.out HV.out]; unfold elN; (repeat' split) <;> first | rfl | omega
                subst hz
                go_wp2_with fail
                go_ret
                exact ⟨rfl, HB.out⟩
            · have r1 : ¬ yp < xp := by omega
              have hz : z = 0 := by rw [← HZ.out, elS_eq HU.out HV.out]; unfold elN; (repeat' split) <;> first | rfl | omega
              subst hz
              go_wp2_with fail
              go_ret
              exact ⟨rfl, HB.out⟩
          · clear a2
            by_cases r1 : yp < xp
            · by_cases r2 : xp < yq
              · by_cases r3 : yq < xq
                · have hz : z = -1 := by rw [← HZ.out, elS_eq HU.out HV.out]; unfold elN; (repeat' split) <;> first | rfl | omega
                  subst hz
                  go_wp2_with fail
                  go_ret
                  exact ⟨rfl, HB.out⟩
                · have hz : z = 0 := by rw [← HZ.out, elS_eq HU.out HV.out]; unfold elN; (repeat' split) <;> first | rfl | omega
                  subst hz
                  go_wp2_with fail
                  go_ret
                  exact ⟨rfl, HB.out⟩
              · have hz : z = 0 := by rw [← HZ.out, elS_eq HU.out HV.out]; unfold elN; (repeat' split) <;> first | rfl | omega
                subst hz
                go_wp2_with fail
                go_ret
                exact ⟨rfl, HB.out⟩
            · have hz : z = 0 := by rw [← HZ.out, elS_eq HU.out HV.out]; unfold elN; (repeat' split) <;> first | rfl | omega
              subst hz
              go_wp2_with fail
              go_ret
              exact ⟨rfl, HB.out⟩
      · have z9 : ((yg : Int) == (xg : Int) + 1) = false := by rw [beq_eq_false_iff_ne]; omega
        have hz : z = 0 := by rw [← HZ.out, elS_eq HU.out HV.out]; unfold elN; (repeat' split) <;> first | rfl | omega
        subst hz
        go_wp2_with fail
        go_ret
        exact ⟨rfl, HB.out⟩
end Go.Proofs.Yteanhbldhaiekaa
