/-
  The law SeifertSums, walked: the call returns true and writes nothing that was there.
-/
import Derived.Test.YtaghemilihaiaaaAw32
import Derived.Test.YtaghemilihaiaaaSumL
import Derived.Test.YtaghemilihaiaaaDArg
namespace Go.Proofs.Ytaghemilihaiaaa
open Go.RowKit

section
variable (A0 B0 : Option Addr) (c0 e0 : Nat) (sg0 mt0 : List Int) (L0 : Int) (A1 B1 : Option Addr) (c1 e1 : Nat) (sg1 mt1 : List Int) (L1 : Int) (n2 n3 : Int) (w : World) (w0 : DArg w A0 B0 sg0 mt0 L0) (w1 : DArg w A1 B1 sg1 mt1 L1)
include w0 w1

set_option maxHeartbeats 2000000 in
theorem sus_great (hg : 7 < sg0.length ∨ 7 < sg1.length) : Calls Try.prog 9 #[.agg #[.slice A0 sg0.length c0, .slice B0 mt0.length e0, .int .i64 L0], .agg #[.slice A1 sg1.length c1, .slice B1 mt1.length e1, .int .i64 L1], .int .u8 n2, .int .u8 n3] w fun e w' => e = .returned (.bool true) ∧ Below w.heap.size w w' := by
  have T0 := Lib.hid (SuS.start (c1 := c0) (c2 := e0) (La := L0) (d1 := c1) (d2 := e1) (Lb := L1) (· < w.heap.size) w0.rs w0.rm w1.rs w1.rm (fun _ h => h))
  clear w0 w1
  by_cases h1 : (7 : Int) < sg0.length
  · clear hg
    go_enter Try.func9, Try.ntmps9
    go_wp2_with fail
    generalize hW : (w.alloc (.cells #[.slice A0 sg0.length c0, .slice B0 mt0.length e0, .int .i64 L0] 24)).alloc (.cells #[.slice A1 sg1.length c1, .slice B1 mt1.length e1, .int .i64 L1] 24) = wr at *
    clear hW
    refine (awake32 _).mono ?_
    rintro e x1 ⟨rfl, hb⟩
    have T1 := Lib.hid (T0.out.call hb)
    clear hb T0
    have k0 := T1.out.da.c0
    have k1 := T1.out.da.c1
    have k2 := T1.out.da.c2
    have l0 := T1.out.db.c0
    have l1 := T1.out.db.c1
    have l2 := T1.out.db.c2
    go_wp2_with fail
    go_ret
    exact ⟨rfl, T1.out.bel⟩
  · have h2 : (7 : Int) < sg1.length := by omega
    clear hg
    go_enter Try.func9, Try.ntmps9
    go_wp2_with fail
    generalize hW : (w.alloc (.cells #[.slice A0 sg0.length c0, .slice B0 mt0.length e0, .int .i64 L0] 24)).alloc (.cells #[.slice A1 sg1.length c1, .slice B1 mt1.length e1, .int .i64 L1] 24) = wr at *
    clear hW
    refine (awake32 _).mono ?_
    rintro e x1 ⟨rfl, hb⟩
    have T1 := Lib.hid (T0.out.call hb)
    clear hb T0
    have k0 := T1.out.da.c0
    have k1 := T1.out.da.c1
    have k2 := T1.out.da.c2
    have l0 := T1.out.db.c0
    have l1 := T1.out.db.c1
    have l2 := T1.out.db.c2
    go_wp2_with fail
    go_ret
    exact ⟨rfl, T1.out.bel⟩

set_option maxHeartbeats 4000000 in
theorem sus_a (s0 : ¬ 7 < sg0.length) (s1 : ¬ 7 < sg1.length) (hno : ¬ (IsD sg0 mt0 L0 ∧ ((graphL mt0 sg0.length).length : Int) + L0 = 1)) : Calls Try.prog 9 #[.agg #[.slice A0 sg0.length c0, .slice B0 mt0.length e0, .int .i64 L0], .agg #[.slice A1 sg1.length c1, .slice B1 mt1.length e1, .int .i64 L1], .int .u8 n2, .int .u8 n3] w fun e w' => e = .returned (.bool true) ∧ Below w.heap.size w w' := by
  have T0 := Lib.hid (SuS.start (c1 := c0) (c2 := e0) (La := L0) (d1 := c1) (d2 := e1) (Lb := L1) (· < w.heap.size) w0.rs w0.rm w1.rs w1.rm (fun _ h => h))
  have HM0 := Lib.hid w0.lm
  have HM1 := Lib.hid w1.lm
  have g1 : ¬ (7 : Int) < sg0.length := by omega
  have g2 : ¬ (7 : Int) < sg1.length := by omega
  have HN := Lib.hid hno
  clear w0 w1 hno
  go_enter Try.func9, Try.ntmps9
  go_wp2_with fail
  generalize hW : (w.alloc (.cells #[.slice A0 sg0.length c0, .slice B0 mt0.length e0, .int .i64 L0] 24)).alloc (.cells #[.slice A1 sg1.length c1, .slice B1 mt1.length e1, .int .i64 L1] 24) = wr at *
  clear hW
  refine (awake32 _).mono ?_
  rintro e x1 ⟨rfl, hb⟩
  have T1 := Lib.hid (T0.out.call hb)
  clear hb T0
  have k0 := T1.out.da.c0
  have k1 := T1.out.da.c1
  have k2 := T1.out.da.c2
  have l0 := T1.out.db.c0
  have l1 := T1.out.db.c1
  have l2 := T1.out.db.c2
  go_wp2_with fail
  refine (genus_all A0 B0 c0 e0 sg0 mt0 L0 x1 (· < x1.heap.size) T1.out.da.rs T1.out.da.rm (fun _ h => h) (by unfold maxLen; omega) HM0.out).mono ?_
  rintro e x2 ⟨na, ra, rfl, hga, hb⟩
  have HGa := Lib.hid hga
  have T2 := Lib.hid (T1.out.call hb)
  clear hb T1 k0 k1 k2 l0 l1 l2 hga
  have k0 := T2.out.da.c0
  have k1 := T2.out.da.c1
  have k2 := T2.out.da.c2
  have l0 := T2.out.db.c0
  have l1 := T2.out.db.c1
  have l2 := T2.out.db.c2
  have z1 : (ra : Int) ≠ 0 := by
    rcases HGa.out with ⟨-, h1, h2, -⟩ | ⟨h, -⟩
    · exact absurd ⟨h1, h2⟩ HN.out
    · omega
  have z2 : ((ra : Int) == 0) = false := beq_eq_false_iff_ne.2 z1
  clear HGa HN
  go_wp2_with fail
  refine (genus_all A1 B1 c1 e1 sg1 mt1 L1 x2 (· < x2.heap.size) T2.out.db.rs T2.out.db.rm (fun _ h => h) (by unfold maxLen; omega) HM1.out).mono ?_
  rintro e x3 ⟨nb, rb, rfl, hgb, hb⟩
  have HGb := Lib.hid hgb
  have T3 := Lib.hid (T2.out.call hb)
  clear hb T2 k0 k1 k2 l0 l1 l2 hgb
  have k0 := T3.out.da.c0
  have k1 := T3.out.da.c1
  have k2 := T3.out.da.c2
  have l0 := T3.out.db.c0
  have l1 := T3.out.db.c1
  have l2 := T3.out.db.c2
  go_wp2_with fail
  go_ret
  exact ⟨rfl, T3.out.bel⟩

set_option maxHeartbeats 4000000 in
theorem sus_b (s0 : ¬ 7 < sg0.length) (s1 : ¬ 7 < sg1.length) (hy : IsD sg0 mt0 L0 ∧ ((graphL mt0 sg0.length).length : Int) + L0 = 1) (hno : ¬ (IsD sg1 mt1 L1 ∧ ((graphL mt1 sg1.length).length : Int) + L1 = 1)) : Calls Try.prog 9 #[.agg #[.slice A0 sg0.length c0, .slice B0 mt0.length e0, .int .i64 L0], .agg #[.slice A1 sg1.length c1, .slice B1 mt1.length e1, .int .i64 L1], .int .u8 n2, .int .u8 n3] w fun e w' => e = .returned (.bool true) ∧ Below w.heap.size w w' := by
  have T0 := Lib.hid (SuS.start (c1 := c0) (c2 := e0) (La := L0) (d1 := c1) (d2 := e1) (Lb := L1) (· < w.heap.size) w0.rs w0.rm w1.rs w1.rm (fun _ h => h))
  have HM0 := Lib.hid w0.lm
  have HM1 := Lib.hid w1.lm
  have g1 : ¬ (7 : Int) < sg0.length := by omega
  have g2 : ¬ (7 : Int) < sg1.length := by omega
  have HN := Lib.hid hno
  have HY := Lib.hid hy
  clear w0 w1 hno hy
  go_enter Try.func9, Try.ntmps9
  go_wp2_with fail
  generalize hW : (w.alloc (.cells #[.slice A0 sg0.length c0, .slice B0 mt0.length e0, .int .i64 L0] 24)).alloc (.cells #[.slice A1 sg1.length c1, .slice B1 mt1.length e1, .int .i64 L1] 24) = wr at *
  clear hW
  refine (awake32 _).mono ?_
  rintro e x1 ⟨rfl, hb⟩
  have T1 := Lib.hid (T0.out.call hb)
  clear hb T0
  have k0 := T1.out.da.c0
  have k1 := T1.out.da.c1
  have k2 := T1.out.da.c2
  have l0 := T1.out.db.c0
  have l1 := T1.out.db.c1
  have l2 := T1.out.db.c2
  go_wp2_with fail
  refine (genus_all A0 B0 c0 e0 sg0 mt0 L0 x1 (· < x1.heap.size) T1.out.da.rs T1.out.da.rm (fun _ h => h) (by unfold maxLen; omega) HM0.out).mono ?_
  rintro e x2 ⟨na, ra, rfl, hga, hb⟩
  have HGa := Lib.hid hga
  have T2 := Lib.hid (T1.out.call hb)
  clear hb T1 k0 k1 k2 l0 l1 l2 hga
  have k0 := T2.out.da.c0
  have k1 := T2.out.da.c1
  have k2 := T2.out.da.c2
  have l0 := T2.out.db.c0
  have l1 := T2.out.db.c1
  have l2 := T2.out.db.c2
  obtain rfl : ra = 0 := by
    rcases HGa.out with ⟨h, -, -, -⟩ | ⟨-, h⟩
    · exact h
    · exact absurd HY.out h
  clear HGa HY
  go_wp2_with fail
  refine (genus_all A1 B1 c1 e1 sg1 mt1 L1 x2 (· < x2.heap.size) T2.out.db.rs T2.out.db.rm (fun _ h => h) (by unfold maxLen; omega) HM1.out).mono ?_
  rintro e x3 ⟨nb, rb, rfl, hgb, hb⟩
  have HGb := Lib.hid hgb
  have T3 := Lib.hid (T2.out.call hb)
  clear hb T2 k0 k1 k2 l0 l1 l2 hgb
  have k0 := T3.out.da.c0
  have k1 := T3.out.da.c1
  have k2 := T3.out.da.c2
  have l0 := T3.out.db.c0
  have l1 := T3.out.db.c1
  have l2 := T3.out.db.c2
  have z1 : (rb : Int) ≠ 0 := by
    rcases HGb.out with ⟨-, h1, h2, -⟩ | ⟨h, -⟩
    · exact absurd ⟨h1, h2⟩ HN.out
    · omega
  have z2 : ((rb : Int) == 0) = false := beq_eq_false_iff_ne.2 z1
  clear HGb HN
  go_wp2_with fail
  go_ret
  exact ⟨rfl, T3.out.bel⟩

set_option maxHeartbeats 16000000 in
theorem sus_ok (s0 : ¬ 7 < sg0.length) (s1 : ¬ 7 < sg1.length) (hy : IsD sg0 mt0 L0 ∧ ((graphL mt0 sg0.length).length : Int) + L0 = 1) (hy2 : IsD sg1 mt1 L1 ∧ ((graphL mt1 sg1.length).length : Int) + L1 = 1) (hk2 : 0 ≤ n2 ∧ n2 ≤ 255) (hk3 : 0 ≤ n3 ∧ n3 ≤ 255) : Calls Try.prog 9 #[.agg #[.slice A0 sg0.length c0, .slice B0 mt0.length e0, .int .i64 L0], .agg #[.slice A1 sg1.length c1, .slice B1 mt1.length e1, .int .i64 L1], .int .u8 n2, .int .u8 n3] w fun e w' => e = .returned (.bool true) ∧ Below w.heap.size w w' := by
  have T0 := Lib.hid (SuS.start (c1 := c0) (c2 := e0) (La := L0) (d1 := c1) (d2 := e1) (Lb := L1) (· < w.heap.size) w0.rs w0.rm w1.rs w1.rm (fun _ h => h))
  have HM0 := Lib.hid w0.lm
  have HM1 := Lib.hid w1.lm
  have g1 : ¬ (7 : Int) < sg0.length := by omega
  have g2 : ¬ (7 : Int) < sg1.length := by omega
  have HYa := Lib.hid hy
  have HYb := Lib.hid hy2
  have HK2 := Lib.hid hk2
  have HK3 := Lib.hid hk3
  have H64 : Hid (sg0.length + sg1.length ≤ 64) := Lib.hid (by omega)
  obtain ⟨da, hda, hga⟩ := genus_nat hy.1 hy.2
  obtain ⟨db, hdb, hgb⟩ := genus_nat hy2.1 hy2.2
  have hga2 : ggN sg0 mt0 L0 = 2 * (da : Int) := hga
  have hgb2 : ggN sg1 mt1 L1 = 2 * (db : Int) := hgb
  have HGA := Lib.hid hga2
  have HGB := Lib.hid hgb2
  have td : ∀ d : Int, (2 * d).tdiv 2 = d := fun d => by rw [Int.mul_comm]; exact Int.mul_tdiv_cancel _ (by decide)
  have HTD := Lib.hid td
  clear w0 w1 hy hy2 hga hgb hga2 hgb2 td hk2 hk3
  go_enter Try.func9, Try.ntmps9
  go_wp2_with fail
  generalize hW : (w.alloc (.cells #[.slice A0 sg0.length c0, .slice B0 mt0.length e0, .int .i64 L0] 24)).alloc (.cells #[.slice A1 sg1.length c1, .slice B1 mt1.length e1, .int .i64 L1] 24) = wr at *
  clear hW
  refine (awake32 _).mono ?_
  rintro e x1 ⟨rfl, hb⟩
  have T1 := Lib.hid (T0.out.call hb)
  clear hb T0
  have k0 := T1.out.da.c0
  have k1 := T1.out.da.c1
  have k2 := T1.out.da.c2
  have l0 := T1.out.db.c0
  have l1 := T1.out.db.c1
  have l2 := T1.out.db.c2
  go_wp2_with fail
  refine (genus_all A0 B0 c0 e0 sg0 mt0 L0 x1 (· < x1.heap.size) T1.out.da.rs T1.out.da.rm (fun _ h => h) (by unfold maxLen; omega) HM0.out).mono ?_
  rintro e x2 ⟨na, ra, rfl, hga, hb⟩
  have HGa := Lib.hid hga
  have T2 := Lib.hid (T1.out.call hb)
  clear hb T1 k0 k1 k2 l0 l1 l2 hga
  have k0 := T2.out.da.c0
  have k1 := T2.out.da.c1
  have k2 := T2.out.da.c2
  have l0 := T2.out.db.c0
  have l1 := T2.out.db.c1
  have l2 := T2.out.db.c2
  obtain ⟨rfl, rfl⟩ : ra = 0 ∧ na = (da : Int) := by
    rcases HGa.out with ⟨h, -, -, h2⟩ | ⟨-, h⟩
    · exact ⟨h, h2.trans (by have := HGA.out; unfold ggN at this; rw [this]; exact HTD.out _)⟩
    · exact absurd HYa.out h
  clear HGa
  go_wp2_with fail
  refine (genus_all A1 B1 c1 e1 sg1 mt1 L1 x2 (· < x2.heap.size) T2.out.db.rs T2.out.db.rm (fun _ h => h) (by unfold maxLen; omega) HM1.out).mono ?_
  rintro e x3 ⟨nb, rb, rfl, hgb, hb⟩
  have HGb := Lib.hid hgb
  have T3 := Lib.hid (T2.out.call hb)
  clear hb T2 k0 k1 k2 l0 l1 l2 hgb
  have k0 := T3.out.da.c0
  have k1 := T3.out.da.c1
  have k2 := T3.out.da.c2
  have l0 := T3.out.db.c0
  have l1 := T3.out.db.c1
  have l2 := T3.out.db.c2
  obtain ⟨rfl, rfl⟩ : rb = 0 ∧ nb = (db : Int) := by
    rcases HGb.out with ⟨h, -, -, h2⟩ | ⟨-, h⟩
    · exact ⟨h, h2.trans (by have := HGB.out; unfold ggN at this; rw [this]; exact HTD.out _)⟩
    · exact absurd HYb.out h
  clear HGb
  have hs1 : w.heap.size < x3.heap.size := T3.out.da.lt
  have hs2 : w.heap.size + 1 < x3.heap.size := T3.out.db.lt
  have HRA := Lib.hid T3.out.da.rs
  have HMA := Lib.hid T3.out.da.rm
  have HRB := Lib.hid T3.out.db.rs
  have HMB := Lib.hid T3.out.db.rm
  go_wp2_with fail
  go_cut [13, 14] (fun v u wx => ∃ (b : Nat) (P1 : Option Addr) (p1 : Nat) (P2 : Option Addr) (p2 : Nat) (sc mc : List Int) (Lc : Int), v = .pointer (some ⟨b, 0, none⟩) ∧ u = .int .i64 0 ∧ Hid (SumG sg0 mt0 L0 sg1 mt1 L1 sc mc Lc) ∧ Hid (SuS w wx A0 B0 c0 e0 sg0 mt0 L0 A1 B1 c1 e1 sg1 mt1 L1) ∧ Hid (NwD wx x3.heap.size b (.slice P1 sc.length p1) (.slice P2 mc.length p2) sc mc Lc))
  case first =>
    go_region_held3 (fun w' => Hid (SuS w w' A0 B0 c0 e0 sg0 mt0 L0 A1 B1 c1 e1 sg1 mt1 L1) ∧ w'.cell? ⟨w.heap.size, 0, none⟩ = some (.slice A0 sg0.length c0) ∧ w'.cell? ⟨w.heap.size, 1, none⟩ = some (.slice B0 mt0.length e0) ∧ w'.cell? ⟨w.heap.size, 2, none⟩ = some (.int .i64 L0) ∧ w'.cell? ⟨w.heap.size + 1, 0, none⟩ = some (.slice A1 sg1.length c1) ∧ w'.cell? ⟨w.heap.size + 1, 1, none⟩ = some (.slice B1 mt1.length e1) ∧ w'.cell? ⟨w.heap.size + 1, 2, none⟩ = some (.int .i64 L1))
      (((with_reducible refine keepS T3 ?_); (repeat (first | with_reducible exact HBP.out | with_reducible exact HBQ.out | with_reducible exact HBS.out | with_reducible exact Below.refl _ _ | with_reducible refine Below.drew ?_ | ((with_reducible refine below_set ?_ ?_ _); (focus (first | (simp; done) | (simp; omega)))) | with_reducible refine below_al ?_ _))))
      (first
        | (go_at_call 29; (with_reducible refine (lout2 (W0 := x3) HYa.out.1 HRA.out HMA.out HK2.out ?_).mono ?_); (repeat (first | with_reducible exact HBP.out | with_reducible exact HBQ.out | with_reducible exact HBS.out | with_reducible exact Below.refl _ _ | with_reducible refine Below.drew ?_ | ((with_reducible refine below_set ?_ ?_ _); (focus (first | (simp; done) | (simp; omega)))) | with_reducible refine below_al ?_ _)); rintro eP wP ⟨aP, rfl, hEP, hBP, hCP, hnP⟩; have HEP := Lib.hid hEP; have HBP := Lib.hid hBP; have HCP := Lib.hid hCP; have szP := HBP.out.size; (try (refine shareH (G := ZB2 wP (x3.heap.size)) ?_ ?_; (focus ((repeat (first | with_reducible refine ZB2.drew ?_ | ((with_reducible refine z2_new ?_); (focus (first | (with_reducible rfl) | (simp; done)))) | with_reducible exact HZP.out | with_reducible exact HZQ.out | with_reducible refine ZB2.below ?_ HCP.out | with_reducible refine ZB2.below ?_ HCQ.out | with_reducible refine ZB2.below ?_ HCS.out | with_reducible refine z2_al ?_ _)); done)); intro hzP; have HZP := Lib.hid hzP; have yP0 := hzP.z.z0; have yP1 := hzP.z.z1; have yP2 := hzP.z.z2; have gP0 := hzP.z.f0; have gP1 := hzP.z.f1; have gP2 := hzP.z.f2; have tP := hzP.z.lt; clear hzP)); (try (refine shareH (G := ZB2 wP (wQ.heap.size)) ?_ ?_; (focus ((repeat (first | with_reducible refine ZB2.drew ?_ | ((with_reducible refine z2_new ?_); (focus (first | (with_reducible rfl) | (simp; done)))) | with_reducible exact HZP.out | with_reducible exact HZQ.out | with_reducible refine ZB2.below ?_ HCP.out | with_reducible refine ZB2.below ?_ HCQ.out | with_reducible refine ZB2.below ?_ HCS.out | with_reducible refine z2_al ?_ _)); done)); intro hzP; have HZP := Lib.hid hzP; have yP0 := hzP.z.z0; have yP1 := hzP.z.z1; have yP2 := hzP.z.z2; have gP0 := hzP.z.f0; have gP1 := hzP.z.f1; have gP2 := hzP.z.f2; have tP := hzP.z.lt; clear hzP)); clear hEP hBP hCP hnP)
        | (go_at_call 29; (with_reducible refine (lout2 (W0 := x3) HYb.out.1 HRB.out HMB.out HK3.out ?_).mono ?_); (repeat (first | with_reducible exact HBP.out | with_reducible exact HBQ.out | with_reducible exact HBS.out | with_reducible exact Below.refl _ _ | with_reducible refine Below.drew ?_ | ((with_reducible refine below_set ?_ ?_ _); (focus (first | (simp; done) | (simp; omega)))) | with_reducible refine below_al ?_ _)); rintro eQ wQ ⟨aQ, rfl, hEQ, hBQ, hCQ, hnQ⟩; have HEQ := Lib.hid hEQ; have HBQ := Lib.hid hBQ; have HCQ := Lib.hid hCQ; have szQ := HBQ.out.size; (try (refine shareH (G := ZB2 wQ (x3.heap.size)) ?_ ?_; (focus ((repeat (first | with_reducible refine ZB2.drew ?_ | ((with_reducible refine z2_new ?_); (focus (first | (with_reducible rfl) | (simp; done)))) | with_reducible exact HZP.out | with_reducible exact HZQ.out | with_reducible refine ZB2.below ?_ HCP.out | with_reducible refine ZB2.below ?_ HCQ.out | with_reducible refine ZB2.below ?_ HCS.out | with_reducible refine z2_al ?_ _)); done)); intro hzQ; have HZQ := Lib.hid hzQ; have yQ0 := hzQ.z.z0; have yQ1 := hzQ.z.z1; have yQ2 := hzQ.z.z2; have gQ0 := hzQ.z.f0; have gQ1 := hzQ.z.f1; have gQ2 := hzQ.z.f2; have tQ := hzQ.z.lt; clear hzQ)); (try (refine shareH (G := ZB2 wQ (wP.heap.size)) ?_ ?_; (focus ((repeat (first | with_reducible refine ZB2.drew ?_ | ((with_reducible refine z2_new ?_); (focus (first | (with_reducible rfl) | (simp; done)))) | with_reducible exact HZP.out | with_reducible exact HZQ.out | with_reducible refine ZB2.below ?_ HCP.out | with_reducible refine ZB2.below ?_ HCQ.out | with_reducible refine ZB2.below ?_ HCS.out | with_reducible refine z2_al ?_ _)); done)); intro hzQ; have HZQ := Lib.hid hzQ; have yQ0 := hzQ.z.z0; have yQ1 := hzQ.z.z1; have yQ2 := hzQ.z.z2; have gQ0 := hzQ.z.f0; have gQ1 := hzQ.z.f1; have gQ2 := hzQ.z.f2; have tQ := hzQ.z.lt; clear hzQ)); clear hEQ hBQ hCQ hnQ)
        | (go_at_call 28; (with_reducible refine (sum_any (W0 := x3) HYa.out.1 HYb.out.1 HYa.out.2 HYb.out.2 H64.out HRA.out HMA.out HRB.out HMB.out HEP.out HEQ.out ?_).mono ?_); (repeat (first | with_reducible exact HBP.out | with_reducible exact HBQ.out | with_reducible exact HBS.out | with_reducible exact Below.refl _ _ | with_reducible refine Below.drew ?_ | ((with_reducible refine below_set ?_ ?_ _); (focus (first | (simp; done) | (simp; omega)))) | with_reducible refine below_al ?_ _)); rintro eS wS ⟨P1, p1, P2, p2, sc, mc, Lc, rfl, hGS, hTS, hBS, hCS, hnS⟩; have HGS := Lib.hid hGS; have HTS := Lib.hid hTS; have HBS := Lib.hid hBS; have HCS := Lib.hid hCS; have szS := HBS.out.size; (try (refine shareH (G := ZB2 wS (x3.heap.size)) ?_ ?_; (focus ((repeat (first | with_reducible refine ZB2.drew ?_ | ((with_reducible refine z2_new ?_); (focus (first | (with_reducible rfl) | (simp; done)))) | with_reducible exact HZP.out | with_reducible exact HZQ.out | with_reducible refine ZB2.below ?_ HCP.out | with_reducible refine ZB2.below ?_ HCQ.out | with_reducible refine ZB2.below ?_ HCS.out | with_reducible refine z2_al ?_ _)); done)); intro hzS; have HZS := Lib.hid hzS; have yS0 := hzS.z.z0; have yS1 := hzS.z.z1; have yS2 := hzS.z.z2; have gS0 := hzS.z.f0; have gS1 := hzS.z.f1; have gS2 := hzS.z.f2; have tS := hzS.z.lt; clear hzS)); (try (refine shareH (G := ZB2 wS (wP.heap.size)) ?_ ?_; (focus ((repeat (first | with_reducible refine ZB2.drew ?_ | ((with_reducible refine z2_new ?_); (focus (first | (with_reducible rfl) | (simp; done)))) | with_reducible exact HZP.out | with_reducible exact HZQ.out | with_reducible refine ZB2.below ?_ HCP.out | with_reducible refine ZB2.below ?_ HCQ.out | with_reducible refine ZB2.below ?_ HCS.out | with_reducible refine z2_al ?_ _)); done)); intro hzS; have HZS := Lib.hid hzS; have yS0 := hzS.z.z0; have yS1 := hzS.z.z1; have yS2 := hzS.z.z2; have gS0 := hzS.z.f0; have gS1 := hzS.z.f1; have gS2 := hzS.z.f2; have tS := hzS.z.lt; clear hzS)); (try (refine shareH (G := ZB2 wS (wQ.heap.size)) ?_ ?_; (focus ((repeat (first | with_reducible refine ZB2.drew ?_ | ((with_reducible refine z2_new ?_); (focus (first | (with_reducible rfl) | (simp; done)))) | with_reducible exact HZP.out | with_reducible exact HZQ.out | with_reducible refine ZB2.below ?_ HCP.out | with_reducible refine ZB2.below ?_ HCQ.out | with_reducible refine ZB2.below ?_ HCS.out | with_reducible refine z2_al ?_ _)); done)); intro hzS; have HZS := Lib.hid hzS; have yS0 := hzS.z.z0; have yS1 := hzS.z.z1; have yS2 := hzS.z.z2; have gS0 := hzS.z.f0; have gS1 := hzS.z.f1; have gS2 := hzS.z.f2; have tS := hzS.z.lt; clear hzS)); clear hGS hTS hBS hCS hnS))
    all_goals
      have hheld := And.left (by assumption)
      go_wp2_with fail
      go_meet
      case rel =>
        first
          | exact ⟨_, _, _, _, _, _, _, _, rfl, rfl, HGS, hheld, Lib.hid (nw_alloc HTS.out (Nat.le_refl _) HBS.out.size)⟩
          | exact ⟨_, _, _, _, _, _, _, _, rfl, rfl, HGS, hheld, Lib.hid (nw_set HTS.out HZS.out (Nat.le_refl _) (by omega))⟩
  case rest =>
    obtain ⟨b, P1, p1, P2, p2, sc, mc, Lc, rfl, rfl, HG, HT, HNW⟩ := hcut
    clear T3 k0 k1 k2 l0 l1 l2 HRA HMA HRB HMB hs1 hs2
    have y0 := HNW.out.c0
    have y1 := HNW.out.c1
    have y2 := HNW.out.c2
    obtain ⟨A1', c1', hv1, -, -, hr1⟩ := HNW.out.o1.reads
    injection hv1 with hv1 _ _
    subst hv1
    obtain ⟨A2', c2', hv2, -, -, hr2⟩ := HNW.out.o2.reads
    injection hv2 with hv2 _ _
    subst hv2
    have HR1 := Lib.hid (hr1.imp fun b h => h.2)
    have HR2 := Lib.hid (hr2.imp fun b h => h.2)
    have HGG := Lib.hid (genus_nat HG.out.hd HG.out.hg)
    clear hr1 hr2
    go_wp2_with fail
    refine (sgenus_ok _ _ _ _ sc mc Lc _ _ HR1.out HR2.out (fun _ h => h) HG.out.hd HG.out.hg).mono ?_
    rintro e x9 ⟨rfl, hb⟩
    have T9 := Lib.hid (HT.out.call hb)
    obtain ⟨dc, hdc, hgc⟩ := HGG.out
    have e1 : dc = da + db := by
      have h1 := HG.out.gen
      have h2 := HGA.out
      have h3 := HGB.out
      rw [h2, h3] at h1
      unfold ggN at h1
      omega
    rw [hgc, HTD.out]
    have z1 : ((dc : Int) == (da : Int) + db) = true := by rw [beq_iff_eq]; omega
    have z2 : IntKind.i64.wrap ((da : Int) + db) = (da : Int) + db := IntWalk.i64_in _ (by omega)
    clear hb hgc e1
    go_wp2_with fail
    go_ret
    exact ⟨rfl, T9.out.bel⟩
end
theorem seifertSums_walk (A0 B0 : Option Addr) (c0 e0 : Nat) (sg0 mt0 : List Int) (L0 : Int) (A1 B1 : Option Addr) (c1 e1 : Nat) (sg1 mt1 : List Int) (L1 : Int) (n2 n3 : Int) (w : World) (w0 : DArg w A0 B0 sg0 mt0 L0) (w1 : DArg w A1 B1 sg1 mt1 L1) (f2 : (Lit.int .u8 n2).wf = true) (f3 : (Lit.int .u8 n3).wf = true) :
    Calls Try.prog 9 #[.agg #[.slice A0 sg0.length c0, .slice B0 mt0.length e0, .int .i64 L0], .agg #[.slice A1 sg1.length c1, .slice B1 mt1.length e1, .int .i64 L1], .int .u8 n2, .int .u8 n3] w fun e w' => e = .returned (.bool true) ∧ Below w.heap.size w w' := by
  have k2 : 0 ≤ n2 ∧ n2 ≤ 255 := by
    have h1 : IntKind.u8.min = 0 := rfl
    have h2 : IntKind.u8.max = 255 := rfl
    simp only [Lit.wf, Bool.and_eq_true, decide_eq_true_eq] at f2
    omega
  have k3 : 0 ≤ n3 ∧ n3 ≤ 255 := by
    have h1 : IntKind.u8.min = 0 := rfl
    have h2 : IntKind.u8.max = 255 := rfl
    simp only [Lit.wf, Bool.and_eq_true, decide_eq_true_eq] at f3
    omega
  by_cases hg : 7 < sg0.length ∨ 7 < sg1.length
  · exact sus_great A0 B0 c0 e0 sg0 mt0 L0 A1 B1 c1 e1 sg1 mt1 L1 n2 n3 w w0 w1 hg
  · by_cases ha : IsD sg0 mt0 L0 ∧ ((graphL mt0 sg0.length).length : Int) + L0 = 1
    · by_cases hb : IsD sg1 mt1 L1 ∧ ((graphL mt1 sg1.length).length : Int) + L1 = 1
      · exact sus_ok A0 B0 c0 e0 sg0 mt0 L0 A1 B1 c1 e1 sg1 mt1 L1 n2 n3 w w0 w1 (by omega) (by omega) ha hb k2 k3
      · exact sus_b A0 B0 c0 e0 sg0 mt0 L0 A1 B1 c1 e1 sg1 mt1 L1 n2 n3 w w0 w1 (by omega) (by omega) ha hb
    · exact sus_a A0 B0 c0 e0 sg0 mt0 L0 A1 B1 c1 e1 sg1 mt1 L1 n2 n3 w w0 w1 (by omega) (by omega) ha
end Go.Proofs.Ytaghemilihaiaaa

