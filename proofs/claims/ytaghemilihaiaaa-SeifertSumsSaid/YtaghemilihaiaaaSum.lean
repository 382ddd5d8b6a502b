/-
  The contract of connect.Sum.
-/
import Derived.Test.YtaghemilihaiaaaBes
namespace Go.Proofs.Ytaghemilihaiaaa
open Go.RowKit

/-- behind three stores into the result's box, the rows lie as they lay -/
theorem fresh_end {w wr : World} {v1 v2 : Value} {xs ys : List Int} (hF : Fresh wr (w.heap.size + 3) v1 v2 xs ys) (hb : Below w.heap.size w wr) (x y z : Value) :
    Fresh (((wr.setCell ⟨w.heap.size + 2, 0, none⟩ x).setCell ⟨w.heap.size + 2, 1, none⟩ y).setCell ⟨w.heap.size + 2, 2, none⟩ z) w.heap.size v1 v2 xs ys ∧ Below w.heap.size w (((wr.setCell ⟨w.heap.size + 2, 0, none⟩ x).setCell ⟨w.heap.size + 2, 1, none⟩ y).setCell ⟨w.heap.size + 2, 2, none⟩ z) := by
  have hblk : ∀ g, w.heap.size + 2 < g → (((wr.setCell ⟨w.heap.size + 2, 0, none⟩ x).setCell ⟨w.heap.size + 2, 1, none⟩ y).setCell ⟨w.heap.size + 2, 2, none⟩ z).heap[g]? = wr.heap[g]? := fun g hg => by
    rw [Below.heap_setCell _ _ _ g (by simp; omega), Below.heap_setCell _ _ _ g (by simp; omega), Below.heap_setCell _ _ _ g (by simp; omega)]
  exact ⟨⟨(hF.os.keep fun g hg => hblk g (by have := (hF.os.lt g hg).1; omega)).mono (by omega), (hF.om.keep fun g hg => hblk g (by have := (hF.om.lt g hg).1; omega)).mono (by omega), hF.ne⟩, ((hb.setCell (by simp) _).setCell (by simp) _).setCell (by simp) _⟩
section
variable (A1 A2 : Option Addr) (c1 c2 : Nat) (sa ma : List Int) (La : Int) (B1 B2 : Option Addr) (d1 d2 : Nat) (sb mb : List Int) (Lb : Int) (w : World) (S : Nat → Prop) (hx : RI w S A1 sa) (hy : RI w S A2 ma) (hu : RI w S B1 sb) (hv : RI w S B2 mb) (hS : ∀ b, S b → b < w.heap.size)
  (ha : IsD sa ma La) (hb : IsD sb mb Lb) (h64 : sa.length + sb.length ≤ 64) (hL : La + Lb ≤ 64)
include hx hy hu hv hS ha hb h64 hL
set_option maxRecDepth 100000 in
set_option maxHeartbeats 16000000 in
theorem sum_loop (x y : Int) (he : EndP sa ma La x) (hf : EndP sb mb Lb y) (hxy : x = -1 ∨ y = -1) :
    Calls Try.prog 28 #[.agg #[.slice A1 sa.length c1, .slice A2 ma.length c2, .int .i64 La], .int .i64 x, .agg #[.slice B1 sb.length d1, .slice B2 mb.length d2, .int .i64 Lb], .int .i64 y] w fun e w' =>
      ∃ v1 v2, e = .returned (.tuple #[.agg #[v1, v2, .int .i64 (La + Lb - 1)], .int .i64 0]) ∧ Fresh w' w.heap.size v1 v2 (sa ++ sb) (unM ma mb) ∧ Below w.heap.size w w' := by
  have T0 := Lib.hid (BeS.start (c1 := c1) (c2 := c2) (La := La) (d1 := d1) (d2 := d2) (Lb := Lb) S hx hy hu hv hS)
  have HA := Lib.hid ha
  have HB := Lib.hid hb
  have HDA := Lib.hid (decide_eq_true ha)
  have HDB := Lib.hid (decide_eq_true hb)
  have HE := Lib.hid he
  have HF := Lib.hid hf
  have ha1 := ha.1
  have hb1 := hb.1
  have hla : ma.length ≤ 256 := by have := ha.2.1; omega
  have hlb : mb.length ≤ 256 := by have := hb.2.1; omega
  have hL0 : 0 ≤ La ∧ 0 ≤ Lb := ⟨ha.2.2.1, hb.2.2.1⟩
  have hL1 : 1 ≤ La + Lb := by
    rcases hxy with rfl | rfl
    · rcases he with ⟨-, h⟩ | ⟨h, e, -⟩
      · omega
      · omega
    · rcases hf with ⟨-, h⟩ | ⟨h, e, -⟩
      · omega
      · omega
  have HMR : Hid (∀ k, k < mb.length → 0 ≤ gi mb k ∧ gi mb k ≤ 256) := Lib.hid fun k hk => by obtain ⟨h1, h2, -, -⟩ := hb.2.2.2.2.2.1 k hk; omega
  clear hx hy hu hv hS ha hb he hf
  go_enter Try.func28, Try.ntmps28
  go_wp2_with fail
  generalize hW : ((w.alloc (.cells #[.slice A1 sa.length c1, .slice A2 ma.length c2, .int .i64 La] 24)).alloc (.cells #[.slice B1 sb.length d1, .slice B2 mb.length d2, .int .i64 Lb] 24)).alloc (.cells #[.slice none 0 0, .slice none 0 0, .int .i64 0] 24) = wr at *
  clear hW
  refine (dvalid_is _ true T0.out.da.rs T0.out.da.rm (fun _ h => h) (by unfold maxLen; omega) (by unfold maxLen; omega) HDA.out).mono ?_
  rintro e w1 ⟨rfl, hb1⟩
  have T1 := Lib.hid (T0.out.call hb1)
  clear hb1 T0
  have k0 := T1.out.db.c0
  have k1 := T1.out.db.c1
  have k2 := T1.out.db.c2
  go_wp2_with fail
  clear k0 k1 k2
  refine (dvalid_is _ true T1.out.db.rs T1.out.db.rm (fun _ h => h) (by unfold maxLen; omega) (by unfold maxLen; omega) HDB.out).mono ?_
  rintro e w2 ⟨rfl, hb1⟩
  have T2 := Lib.hid (T1.out.call hb1)
  clear hb1 T1
  have k0 := T2.out.da.c0
  have k1 := T2.out.da.c1
  have k2 := T2.out.da.c2
  go_wp2_with fail
  clear k0 k1 k2
  refine (end_yes A1 A2 c1 c2 sa ma La x w2 _ T2.out.da.rs T2.out.da.rm (fun _ h => h) HA.out.2.1 (by omega) HE.out).mono ?_
  rintro e w3 ⟨rfl, hb1⟩
  have T3 := Lib.hid (T2.out.call hb1)
  clear hb1 T2
  have k0 := T3.out.db.c0
  have k1 := T3.out.db.c1
  have k2 := T3.out.db.c2
  go_wp2_with fail
  clear k0 k1 k2
  refine (end_yes B1 B2 d1 d2 sb mb Lb y w3 _ T3.out.db.rs T3.out.db.rm (fun _ h => h) HB.out.2.1 (by omega) HF.out).mono ?_
  rintro e w4 ⟨rfl, hb1⟩
  have T4 := Lib.hid (T3.out.call hb1)
  clear hb1 T3
  have k0 := T4.out.da.c0
  have k1 := T4.out.da.c1
  have k2 := T4.out.da.c2
  have l0 := T4.out.db.c0
  have l1 := T4.out.db.c1
  have l2 := T4.out.db.c2
  have x1 : IntKind.i64.wrap (La + Lb) = La + Lb := IntWalk.i64_in _ (by omega)
  have x2 : IntKind.i64.wrap (La + Lb - 1) = La + Lb - 1 := IntWalk.i64_in _ (by omega)
  have HBE := Lib.hid (beside_any A1 A2 c1 c2 sa ma La B1 B2 d1 d2 sb mb Lb (La + Lb - 1) w4 (· < w4.heap.size) T4.out.da.rs T4.out.da.rm T4.out.db.rs T4.out.db.rm (fun _ h => h) (by omega) (by omega) (by omega) (by omega) HMR.out)
  have hcase : (x = -1) ∨ (x ≠ -1 ∧ y = -1) := by omega
  clear hxy
  rcases hcase with rfl | ⟨hne, rfl⟩
  all_goals
    (try have z1 : (x == -1) = false := beq_eq_false_iff_ne.2 hne)
    go_wp2_with fail
    refine HBE.out.mono ?_
    rintro e w5 ⟨v1, v2, rfl, hF, hb1⟩
    have T5 := Lib.hid (T4.out.call hb1)
    have hs4 : w.heap.size + 3 ≤ w4.heap.size := T4.out.zb.lt
    have y0 := T5.out.zb.z0
    have y1 := T5.out.zb.z1
    have y2 := T5.out.zb.z2
    have g0 := T5.out.zb.f0
    have g1 := T5.out.zb.f1
    have g2 := T5.out.zb.f2
    obtain ⟨P1, p1, rfl, -, -, -⟩ := hF.os.shape
    obtain ⟨P2, p2, rfl, -, -, -⟩ := hF.om.shape
    obtain ⟨n1, hn1⟩ : ∃ n, (sa ++ sb).length = n := ⟨_, rfl⟩
    obtain ⟨n2, hn2⟩ : ∃ n, (unM ma mb).length = n := ⟨_, rfl⟩
    rw [hn1, hn2] at hF ⊢
    have HEND := Lib.hid (fresh_end (w := w) (hF.mono hs4) T5.out.bel (.slice P1 n1 p1) (.slice P2 n2 p2) (.int .i64 (La + Lb - 1)))
    clear hF hb1 hn1 hn2 T4 T5 k0 k1 k2 l0 l1 l2 hs4
    go_wp2_with fail
    refine bodyPost_ret (v := .tuple #[.agg #[.slice P1 n1 p1, .slice P2 n2 p2, .int .i64 (La + Lb - 1)], .int .i64 0]) (by simp [results, Try.results28, go_sem, y0, y1, y2]) rfl ?_
    exact ⟨_, _, rfl, HEND.out.1, HEND.out.2⟩
set_option maxRecDepth 100000 in
set_option maxHeartbeats 16000000 in
theorem sum_main (x y : Nat) (hx1 : x < ma.length) (hy1 : y < mb.length) (ox : outB sa x = true) (oy : outB sb y = true) :
    Calls Try.prog 28 #[.agg #[.slice A1 sa.length c1, .slice A2 ma.length c2, .int .i64 La], .int .i64 x, .agg #[.slice B1 sb.length d1, .slice B2 mb.length d2, .int .i64 Lb], .int .i64 y] w fun e w' =>
      ∃ v1 v2, e = .returned (.tuple #[.agg #[v1, v2, .int .i64 (La + Lb)], .int .i64 0]) ∧ Fresh w' w.heap.size v1 v2 (sa ++ sb) (suM ma mb x y) ∧ Below w.heap.size w w' := by
  have T0 := Lib.hid (BeS.start (c1 := c1) (c2 := c2) (La := La) (d1 := d1) (d2 := d2) (Lb := Lb) S hx hy hu hv hS)
  have HA := Lib.hid ha
  have HB := Lib.hid hb
  have HDA := Lib.hid (decide_eq_true ha)
  have HDB := Lib.hid (decide_eq_true hb)
  have ha1 := ha.1
  have hb1 := hb.1
  have hla : ma.length ≤ 256 := by have := ha.2.1; omega
  have hlb : mb.length ≤ 256 := by have := hb.2.1; omega
  have hL0 : 0 ≤ La ∧ 0 ≤ Lb := ⟨ha.2.2.1, hb.2.2.1⟩
  have he : EndP sa ma La x := .inr ⟨x, rfl, hx1, ox⟩
  have hf : EndP sb mb Lb y := .inr ⟨y, rfl, hy1, oy⟩
  have HMR : Hid (∀ k, k < mb.length → 0 ≤ gi mb k ∧ gi mb k ≤ 256) := Lib.hid fun k hk => by obtain ⟨h1, h2, -, -⟩ := hb.2.2.2.2.2.1 k hk; omega
  have HE := Lib.hid he
  have HF := Lib.hid hf
  have HUI := Lib.hid (un_inv ha hb)
  have HUL := Lib.hid (unM_len ma mb)
  clear hx hy hu hv hS ha hb he hf ox oy
  go_enter Try.func28, Try.ntmps28
  go_wp2_with fail
  generalize hW : ((w.alloc (.cells #[.slice A1 sa.length c1, .slice A2 ma.length c2, .int .i64 La] 24)).alloc (.cells #[.slice B1 sb.length d1, .slice B2 mb.length d2, .int .i64 Lb] 24)).alloc (.cells #[.slice none 0 0, .slice none 0 0, .int .i64 0] 24) = wr at *
  clear hW
  refine (dvalid_is _ true T0.out.da.rs T0.out.da.rm (fun _ h => h) (by unfold maxLen; omega) (by unfold maxLen; omega) HDA.out).mono ?_
  rintro e w1 ⟨rfl, hb1⟩
  have T1 := Lib.hid (T0.out.call hb1)
  clear hb1 T0
  have k0 := T1.out.db.c0
  have k1 := T1.out.db.c1
  have k2 := T1.out.db.c2
  go_wp2_with fail
  clear k0 k1 k2
  refine (dvalid_is _ true T1.out.db.rs T1.out.db.rm (fun _ h => h) (by unfold maxLen; omega) (by unfold maxLen; omega) HDB.out).mono ?_
  rintro e w2 ⟨rfl, hb1⟩
  have T2 := Lib.hid (T1.out.call hb1)
  clear hb1 T1
  have k0 := T2.out.da.c0
  have k1 := T2.out.da.c1
  have k2 := T2.out.da.c2
  go_wp2_with fail
  clear k0 k1 k2
  refine (end_yes A1 A2 c1 c2 sa ma La x w2 _ T2.out.da.rs T2.out.da.rm (fun _ h => h) HA.out.2.1 (by omega) HE.out).mono ?_
  rintro e w3 ⟨rfl, hb1⟩
  have T3 := Lib.hid (T2.out.call hb1)
  clear hb1 T2
  have k0 := T3.out.db.c0
  have k1 := T3.out.db.c1
  have k2 := T3.out.db.c2
  go_wp2_with fail
  clear k0 k1 k2
  refine (end_yes B1 B2 d1 d2 sb mb Lb y w3 _ T3.out.db.rs T3.out.db.rm (fun _ h => h) HB.out.2.1 (by omega) HF.out).mono ?_
  rintro e w4 ⟨rfl, hb1⟩
  have T4 := Lib.hid (T3.out.call hb1)
  clear hb1 T3
  have k0 := T4.out.da.c0
  have k1 := T4.out.da.c1
  have k2 := T4.out.da.c2
  have l0 := T4.out.db.c0
  have l1 := T4.out.db.c1
  have l2 := T4.out.db.c2
  have x1 : IntKind.i64.wrap (La + Lb) = La + Lb := IntWalk.i64_in _ (by omega)
  have HBE := Lib.hid (beside_any A1 A2 c1 c2 sa ma La B1 B2 d1 d2 sb mb Lb (La + Lb) w4 (· < w4.heap.size) T4.out.da.rs T4.out.da.rm T4.out.db.rs T4.out.db.rm (fun _ h => h) (by omega) (by omega) (by omega) (by omega) HMR.out)
  have z1 : ((x : Int) == -1) = false := by rw [beq_eq_false_iff_ne]; omega
  have z2 : ((y : Int) == -1) = false := by rw [beq_eq_false_iff_ne]; omega
  have x3 : IntKind.i64.wrap ((ma.length : Int) + (y : Int)) = (ma.length : Int) + y := IntWalk.i64_in _ (by omega)
  go_wp2_with fail
  refine HBE.out.mono ?_
  rintro e w5 ⟨v1, v2, rfl, hF, hb1⟩
  have T5 := Lib.hid (T4.out.call hb1)
  have hs4 : w.heap.size + 3 ≤ w4.heap.size := T4.out.zb.lt
  obtain ⟨P1, p1, rfl, -, -, -⟩ := hF.os.shape
  obtain ⟨g, p2, rfl, hg1, hg2, -, -, -, -⟩ := hF.om.block (by rw [HUL.out]; omega)
  obtain ⟨n1, hn1⟩ : ∃ n, (sa ++ sb).length = n := ⟨_, rfl⟩
  rw [hn1] at hF ⊢
  have HBF := Lib.hid hF
  have HB45 := Lib.hid hb1
  have k0 := T5.out.da.c1
  have s0 := T5.out.da.lt
  obtain ⟨w6, hw6⟩ : ∃ w6, w5.alloc (.cells #[.slice P1 n1 p1, .slice (some ⟨g, 0, none⟩) (unM ma mb).length p2, .int .i64 (La + Lb)] 24) = w6 := ⟨_, rfl⟩
  have HB56 : Hid (Below w5.heap.size w5 w6) := Lib.hid (by rw [← hw6]; exact (Below.refl _ _).alloc (Nat.le_refl _) _)
  have hh6 : Hid (w6.heap[w5.heap.size]? = some (.cells #[.slice P1 n1 p1, .slice (some ⟨g, 0, none⟩) (unM ma mb).length p2, .int .i64 (La + Lb)] 24 (0, 0))) := Lib.hid (by rw [← hw6]; exact heap_alloc_new w5 _)
  have j0 : w6.cell? ⟨w5.heap.size, 0, none⟩ = some (.slice P1 n1 p1) := by rw [cell_of_row _ _ _ _ _ _ hh6.out]; rfl
  have j1 : w6.cell? ⟨w5.heap.size, 1, none⟩ = some (.slice (some ⟨g, 0, none⟩) (unM ma mb).length p2) := by rw [cell_of_row _ _ _ _ _ _ hh6.out]; rfl
  have j2 : w6.cell? ⟨w5.heap.size, 2, none⟩ = some (.int .i64 (La + Lb)) := by rw [cell_of_row _ _ _ _ _ _ hh6.out]; rfl
  have k6 : w6.cell? ⟨w.heap.size, 1, none⟩ = some (.slice A2 ma.length c2) := (HB56.out.cell (p := ⟨w.heap.size, 1, none⟩) s0).trans k0
  have HCR := Lib.hid (cross_any (x := x) (y := ma.length + y) (hF.om.below HB56.out (Nat.le_refl _)) HUI.out (by rw [HUL.out]; omega) (by rw [HUL.out]; omega))
  rw [Int.natCast_add] at HCR
  clear hF hb1 hn1 k0
  go_wp2_with fail
  first | rw [hw6] | skip
  clear hw6
  refine HCR.out.mono ?_
  rintro e w7 ⟨rfl, ho7, hb7, hk7⟩
  have HB67 := Lib.hid (hb7 w4.heap.size hg1)
  have HB47 : Hid (Below w4.heap.size w4 w7) := Lib.hid ((HB45.out.trans (HB56.out.mono HB45.out.size)).trans HB67.out)
  have T7 := Lib.hid (T4.out.call HB47.out)
  have hr7 : w7.heap[w5.heap.size]? = w6.heap[w5.heap.size]? := hk7 _ (by omega)
  have j0 := (World.cell?_of_block (a := ⟨w5.heap.size, 0, none⟩) hr7).trans j0
  have j1 := (World.cell?_of_block (a := ⟨w5.heap.size, 1, none⟩) hr7).trans j1
  have j2 := (World.cell?_of_block (a := ⟨w5.heap.size, 2, none⟩) hr7).trans j2
  have hF7 : Fresh w7 w4.heap.size (.slice P1 n1 p1) (.slice (some ⟨g, 0, none⟩) (unM ma mb).length p2) (sa ++ sb) (suM ma mb x y) :=
    ⟨(HBF.out.os.below HB56.out (Nat.le_refl _)).keep fun b hb => hk7 b (fun e => HBF.out.ne b hb (by rw [e]; rfl)), ho7, HBF.out.ne⟩
  have y0 := T7.out.zb.z0
  have y1 := T7.out.zb.z1
  have y2 := T7.out.zb.z2
  have g0 := T7.out.zb.f0
  have g1 := T7.out.zb.f1
  have g2 := T7.out.zb.f2
  obtain ⟨n2, hn2⟩ : ∃ n, (unM ma mb).length = n := ⟨_, rfl⟩
  rw [hn2] at hF7 j1 ⊢
  have HEND := Lib.hid (fresh_end (w := w) (hF7.mono hs4) T7.out.bel (.slice P1 n1 p1) (.slice (some ⟨g, 0, none⟩) n2 p2) (.int .i64 (La + Lb)))
  clear hF7 hn2 hr7 ho7 hb7 hk7 T4 T5 T7 l0 l1 l2 hs4 HBF HB45 HB56 HB67 HB47 HCR hh6
  go_wp2_with fail
  refine bodyPost_ret (v := .tuple #[.agg #[.slice P1 n1 p1, .slice (some ⟨g, 0, none⟩) n2 p2, .int .i64 (La + Lb)], .int .i64 0]) (by simp [results, Try.results28, go_sem, y0, y1, y2]) rfl ?_
  exact ⟨_, _, rfl, HEND.out.1, HEND.out.2⟩
end
end Go.Proofs.Ytaghemilihaiaaa

