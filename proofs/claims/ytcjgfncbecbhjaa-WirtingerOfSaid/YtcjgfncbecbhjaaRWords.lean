/-
  The contract of the reference's Words.
-/
import Derived.Test.YtcjgfncbecbhjaaSame
import Derived.Test.YtcjgfncbecbhjaaRArcs
import Derived.Test.YtcjgfncbecbhjaaAwake
namespace Go.Proofs.Ytcjgfncbecbhjaa
open Go.RowKit

section
variable (A1 A2 : Option Addr) (c1 c2 : Nat) (sg mt : List Int) (L : Int) (w : World) (S : Nat → Prop) (hx : RI w S A1 sg) (hy : RI w S A2 mt) (hS : ∀ b, S b → b < w.heap.size)
include hx hy hS
set_option maxRecDepth 100000 in
set_option maxHeartbeats 8000000 in
theorem rwords_ok (hd : IsD sg mt L) :
    Calls Try.prog 21 #[.agg #[.slice A1 sg.length c1, .slice A2 mt.length c2, .int .i64 L]] w fun e w' => ∃ v, e = .returned v ∧ RR 22 w' w.heap.size (fun _ => False) v (wrdL sg mt sg.length) ∧ Below w.heap.size w w' := by
  have HD := Lib.hid (DBox.start (c1 := c1) (c2 := c2) (L := L) S hx hy hS)
  have H := Lib.hid hd
  have hcn : arC sg mt ≤ 256 := by
    have h1 := cnt_le (headB (arR sg mt)) mt.length
    have h2 := hd.1
    have h3 := hd.2.1
    unfold arC; omega
  obtain ⟨m, hm⟩ : ∃ m, arC sg mt = m := ⟨_, rfl⟩
  rw [hm] at hcn
  have HM := Lib.hid hm
  have h64 := hd.1
  clear hx hy hS hd hm
  go_enter Try.func21, Try.ntmps21
  go_wp2_with fail
  refine (rarcs_ok A1 A2 c1 c2 sg mt L _ (· < (w.alloc (.cells #[.slice A1 sg.length c1, .slice A2 mt.length c2, .int .i64 L] 24)).heap.size) HD.out.rs HD.out.rm (fun _ h => h) H.out).mono ?_
  rintro e w1 ⟨va, rfl, ho, hb1⟩
  have HD1 := Lib.hid (HD.out.below hb1)
  have HB1 := Lib.hid (below_box (o := (.cells #[.slice A1 sg.length c1, .slice A2 mt.length c2, .int .i64 L] 24)) (by simpa using hb1))
  obtain ⟨Aa, ca, hva, -, -, hra⟩ := ho.reads
  rw [arL_len] at hva
  subst hva
  have HRA := Lib.hid (hra.imp (T := (· < w1.heap.size)) fun b hb => hb.2)
  clear ho hb1 hra HD
  obtain ⟨B, hB⟩ : ∃ B, w1.heap.size = B := ⟨_, rfl⟩
  have HBE := Lib.hid hB
  clear hB
  have HV0 : Hid (RR 22 w1 B (fun _ => False) (.slice none 0 0) (wrdL sg mt 0)) := RR.nil _ _ _
  have HW0 : Hid (Below B w1 w1) := Below.refl _ _
  go_wp2_with fail
  go_loopw [5, 6] (fun vs i wr => ∃ k : Nat, k ≤ sg.length ∧ i = .int .i64 k ∧ Hid (RR 22 wr B (fun _ => False) vs (wrdL sg mt k)) ∧ Hid (Below B w1 wr)) (fun _ i _ => sg.length - (intOf i).toNat)
  case atStart => exact ⟨0, Nat.zero_le _, rfl, HV0, HW0⟩
  case round =>
    clear HV0 HW0
    obtain ⟨k, hk, rfl, HV, HB⟩ := hrel
    have hdr := HD1.out.below (by rw [HBE.out]; exact HB.out)
    have k0 := hdr.c0
    have hsz : B ≤ wr.heap.size := by have := HB.out.size; have := HBE.out; omega
    by_cases hlt : k < sg.length
    · have harc := HRA.out.keep (w' := wr) (fun b hb => HB.out.block b (by rw [← HBE.out]; exact hb))
      have hm4 := H.out.2.1
      obtain ⟨vs, hvs⟩ : ∃ v, u5 = v := ⟨_, rfl⟩
      rw [hvs] at HV ⊢
      clear hvs
      obtain ⟨b, off, rfl, -, hc⟩ := hdr.rs.at_ hlt
      have q1 := hc k hlt
      obtain ⟨b3, off3, rfl, -, hc3⟩ := harc.at_ (k := 4 * k) (by rw [arL_len]; omega)
      have a0 := hc3 (4 * k) (by rw [arL_len]; omega)
      have a2 := hc3 (4 * k + 2) (by rw [arL_len]; omega)
      have a1 := hc3 (4 * k + 1) (by rw [arL_len]; omega)
      rw [gi_arL (by omega)] at a0 a1 a2
      have hx0 := arN_lt H.out.2.2.2.2.2.1 H.out.2.1 (show 4 * k < mt.length by omega)
      have hx1 := arN_lt H.out.2.2.2.2.2.1 H.out.2.1 (show 4 * k + 1 < mt.length by omega)
      have hx2 := arN_lt H.out.2.2.2.2.2.1 H.out.2.1 (show 4 * k + 2 < mt.length by omega)
      rw [HM.out] at hx0 hx1 hx2
      have hrel : relL sg mt k = if 0 < gi sg k then [-((arN sg mt (4 * k + 2) : Int) + 1), -((arN sg mt (4 * k + 1) : Int) + 1), (arN sg mt (4 * k) : Int) + 1, (arN sg mt (4 * k + 1) : Int) + 1]
        else [-((arN sg mt (4 * k + 2) : Int) + 1), (arN sg mt (4 * k + 1) : Int) + 1, (arN sg mt (4 * k) : Int) + 1, -((arN sg mt (4 * k + 1) : Int) + 1)] := rfl
      have hsgn : gi sg k = 1 ∨ gi sg k = -1 := H.out.2.2.2.2.1 k hlt
      obtain ⟨x0, hy0⟩ : ∃ x, arN sg mt (4 * k) = x := ⟨_, rfl⟩
      obtain ⟨x1, hy1⟩ : ∃ x, arN sg mt (4 * k + 1) = x := ⟨_, rfl⟩
      obtain ⟨x2, hy2⟩ : ∃ x, arN sg mt (4 * k + 2) = x := ⟨_, rfl⟩
      obtain ⟨sn, hsn⟩ : ∃ x, gi sg k = x := ⟨_, rfl⟩
      rw [hy0] at a0 hx0 hrel
      rw [hy1] at a1 hx1 hrel
      rw [hy2] at a2 hx2 hrel
      rw [hsn] at q1 hrel hsgn
      have HREL := Lib.hid hrel
      have HBP : Hid (Bd [-((x2 : Int) + 1), -((x1 : Int) + 1), (x0 : Int) + 1, (x1 : Int) + 1]) := bd4 (by omega) (by omega) (by omega) (by omega)
      have HBN : Hid (Bd [-((x2 : Int) + 1), (x1 : Int) + 1, (x0 : Int) + 1, -((x1 : Int) + 1)]) := bd4 (by omega) (by omega) (by omega) (by omega)
      have s0 : IntKind.i64.wrap (4 * (k : Int)) = 4 * (k : Int) := IntWalk.i64_in _ (by omega)
      have s1 : IntKind.i64.wrap (4 * (k : Int) + 1) = 4 * (k : Int) + 1 := IntWalk.i64_in _ (by omega)
      have s2 : IntKind.i64.wrap (4 * (k : Int) + 2) = 4 * (k : Int) + 2 := IntWalk.i64_in _ (by omega)
      have s3 : IntKind.i64.wrap ((x0 : Int) + 1) = (x0 : Int) + 1 := IntWalk.i64_in _ (by omega)
      have s4 : IntKind.i64.wrap ((x1 : Int) + 1) = (x1 : Int) + 1 := IntWalk.i64_in _ (by omega)
      have s5 : IntKind.i64.wrap ((x2 : Int) + 1) = (x2 : Int) + 1 := IntWalk.i64_in _ (by omega)
      have t0 : (0 : Int) ≤ 4 * (k : Int) ∧ 4 * (k : Int) < mt.length := by omega
      have t1 : (0 : Int) ≤ 4 * (k : Int) + 1 ∧ 4 * (k : Int) + 1 < mt.length := by omega
      have t2 : (0 : Int) ≤ 4 * (k : Int) + 2 ∧ 4 * (k : Int) + 2 < mt.length := by omega
      have r0 : (4 * (k : Int)).toNat = 4 * k := by omega
      have r1 : (4 * (k : Int) + 1).toNat = 4 * k + 1 := by omega
      have r2 : (4 * (k : Int) + 2).toNat = 4 * k + 2 := by omega
      clear harc hc hc3 hy0 hy1 hy2 hsn hrel hm4 hdr
      go_wp2_with fail
      go_quiet (fail)
      obtain ⟨wq, hwq⟩ : ∃ wq, wr.drewN nq = wq := ⟨_, rfl⟩
      rw [hwq]
      have hbq : Below wr.heap.size wr wq := by rw [← hwq]; exact below_drewN (Below.refl _ _) _
      have HVq : Hid (RR 22 wq B (fun _ => False) vs (wrdL sg mt k)) := HV.out.below hbq (Nat.le_refl _)
      have HBq := Lib.hid (HB.out.trans (hbq.mono hsz))
      have hszq : B ≤ wq.heap.size := Nat.le_trans hsz hbq.size
      have k0q : wq.cell? ⟨w.heap.size, 0, none⟩ = some (.slice (some ⟨b, off, none⟩) sg.length c1) := by rw [← hwq]; exact k0
      have q1q : wq.cell? ⟨b, off + k, none⟩ = some (.int .i64 sn) := by rw [← hwq]; exact q1
      clear hwq hbq HV HB s0 s1 s2 s3 s5 t0 t1 t2 r0 r1 r2 a0 a1 a2 q1 k0 hsz
      have n0 : IntKind.i64.wrap (-((x2 : Int) + 1)) = -((x2 : Int) + 1) := IntWalk.i64_in _ (by omega)
      have n1 : IntKind.i64.wrap (-((x1 : Int) + 1)) = -((x1 : Int) + 1) := IntWalk.i64_in _ (by omega)
      rcases hsgn with hs | hs
      · subst hs
        have hys : relL sg mt k = [-((x2 : Int) + 1), -((x1 : Int) + 1), (x0 : Int) + 1, (x1 : Int) + 1] := by rw [HREL.out]; rfl
        have HYS := Lib.hid hys
        have HCALL : Hid (Calls Try.prog 52 #[.slice (some ⟨wq.heap.size, 0, none⟩) 4 4] (wq.alloc (.cells #[.int .i64 (-((x2 : Int) + 1)), .int .i64 (-((x1 : Int) + 1)), .int .i64 ((x0 : Int) + 1), .int .i64 ((x1 : Int) + 1)] 3)) fun e wb => ∃ (Ar : Option Addr) (nr cr : Nat) (vl : List Value), e = .returned (.slice Ar nr cr) ∧ Hid (Below B w1 wb) ∧
            Hid (RRv 22 wb B (fun _ => False) vs vl (wrdL sg mt k)) ∧ Hid (OI wb B (.slice Ar nr cr) (redL (relL sg mt k))) ∧ vl.length = k ∧ B ≤ wb.heap.size) := by
          have hr := lit_RI wq [-((x2 : Int) + 1), -((x1 : Int) + 1), (x0 : Int) + 1, (x1 : Int) + 1] (· < wq.heap.size + 1) (by omega) #[.int .i64 (-((x2 : Int) + 1)), .int .i64 (-((x1 : Int) + 1)), .int .i64 ((x0 : Int) + 1), .int .i64 ((x1 : Int) + 1)] rfl
          refine (rreduced_any _ 4 [-((x2 : Int) + 1), -((x1 : Int) + 1), (x0 : Int) + 1, (x1 : Int) + 1] _ (· < wq.heap.size + 1) hr (fun b hb => by simpa using hb) (by simp) HBP.out).mono ?_
          rintro e9 wb ⟨vr, rfl, hor, hbr⟩
          have hbb := ((Below.refl wq.heap.size wq).alloc (Nat.le_refl _) _).trans (hbr.mono (by simp))
          obtain ⟨vl, hvl⟩ := HVq.out.below hbb (Nat.le_refl _)
          have hvn := hvl.2.2.1
          rw [wrdL_len] at hvn
          have hor2 := hor.mono (B' := B) (by simp; omega)
          obtain ⟨Ar, cr, rfl, -, -, -⟩ := hor.shape
          rw [← hys] at hor2
          have hB9 := HBq.out.trans (hbb.mono hszq)
          exact ⟨Ar, _, cr, vl, rfl, hB9, hvl, (by rw [← hys]; exact hor2), hvn, Nat.le_trans hszq hbb.size⟩
        clear hys
        go_wp2_with fail
        refine HCALL.out.mono ?_
        rintro e9 wb ⟨Ar, nr, cr, vl, rfl, HBb, HVL, HOR, hvn, hszb⟩
        have HVN : Hid (vl.length < 1099511627776) := Lib.hid (by omega)
        clear HCALL hvn
        go_wp2_with (at_builtin; refine app_row (f := id) (y := Value.slice Ar nr cr) row_info rfl (by decide) rfl HVL.out.1 HVN.out hszb rfl rfl Try.underlying40 rfl rfl ?_; intro v' w' ho hg hob)
        have hR := RRv.push (by decide) HVL.out HOR.out (fun _ _ h => h) (fun b hF => hF.elim) ho hg hob
        have hbn := HBb.out.trans (HVL.out.1.grown_below (Below.refl _ _) hszb _ hg)
        have HV' : Hid (RR 22 w' B (fun _ => False) v' (wrdL sg mt (k + 1))) := by rw [wrdL_succ]; exact ⟨_, hR⟩
        have HB' := Lib.hid hbn
        clear ho hg hob hR hbn
        go_roundw
        case rel => exact ⟨k + 1, by omega, by go_num, HV', HB'⟩
        case measure => simp [intOf]; omega
      · subst hs
        have hys : relL sg mt k = [-((x2 : Int) + 1), (x1 : Int) + 1, (x0 : Int) + 1, -((x1 : Int) + 1)] := by rw [HREL.out]; rfl
        have HYS := Lib.hid hys
        have HCALL : Hid (Calls Try.prog 52 #[.slice (some ⟨wq.heap.size, 0, none⟩) 4 4] (wq.alloc (.cells #[.int .i64 (-((x2 : Int) + 1)), .int .i64 ((x1 : Int) + 1), .int .i64 ((x0 : Int) + 1), .int .i64 (-((x1 : Int) + 1))] 3)) fun e wb => ∃ (Ar : Option Addr) (nr cr : Nat) (vl : List Value), e = .returned (.slice Ar nr cr) ∧ Hid (Below B w1 wb) ∧
            Hid (RRv 22 wb B (fun _ => False) vs vl (wrdL sg mt k)) ∧ Hid (OI wb B (.slice Ar nr cr) (redL (relL sg mt k))) ∧ vl.length = k ∧ B ≤ wb.heap.size) := by
          have hr := lit_RI wq [-((x2 : Int) + 1), (x1 : Int) + 1, (x0 : Int) + 1, -((x1 : Int) + 1)] (· < wq.heap.size + 1) (by omega) #[.int .i64 (-((x2 : Int) + 1)), .int .i64 ((x1 : Int) + 1), .int .i64 ((x0 : Int) + 1), .int .i64 (-((x1 : Int) + 1))] rfl
          refine (rreduced_any _ 4 [-((x2 : Int) + 1), (x1 : Int) + 1, (x0 : Int) + 1, -((x1 : Int) + 1)] _ (· < wq.heap.size + 1) hr (fun b hb => by simpa using hb) (by simp) HBN.out).mono ?_
          rintro e9 wb ⟨vr, rfl, hor, hbr⟩
          have hbb := ((Below.refl wq.heap.size wq).alloc (Nat.le_refl _) _).trans (hbr.mono (by simp))
          obtain ⟨vl, hvl⟩ := HVq.out.below hbb (Nat.le_refl _)
          have hvn := hvl.2.2.1
          rw [wrdL_len] at hvn
          have hor2 := hor.mono (B' := B) (by simp; omega)
          obtain ⟨Ar, cr, rfl, -, -, -⟩ := hor.shape
          rw [← hys] at hor2
          have hB9 := HBq.out.trans (hbb.mono hszq)
          exact ⟨Ar, _, cr, vl, rfl, hB9, hvl, (by rw [← hys]; exact hor2), hvn, Nat.le_trans hszq hbb.size⟩
        clear hys
        go_wp2_with fail
        refine HCALL.out.mono ?_
        rintro e9 wb ⟨Ar, nr, cr, vl, rfl, HBb, HVL, HOR, hvn, hszb⟩
        have HVN : Hid (vl.length < 1099511627776) := Lib.hid (by omega)
        clear HCALL hvn
        go_wp2_with (at_builtin; refine app_row (f := id) (y := Value.slice Ar nr cr) row_info rfl (by decide) rfl HVL.out.1 HVN.out hszb rfl rfl Try.underlying40 rfl rfl ?_; intro v' w' ho hg hob)
        have hR := RRv.push (by decide) HVL.out HOR.out (fun _ _ h => h) (fun b hF => hF.elim) ho hg hob
        have hbn := HBb.out.trans (HVL.out.1.grown_below (Below.refl _ _) hszb _ hg)
        have HV' : Hid (RR 22 w' B (fun _ => False) v' (wrdL sg mt (k + 1))) := by rw [wrdL_succ]; exact ⟨_, hR⟩
        have HB' := Lib.hid hbn
        clear ho hg hob hR hbn
        go_roundw
        case rel => exact ⟨k + 1, by omega, by go_num, HV', HB'⟩
        case measure => simp [intOf]; omega
    · obtain rfl : sg.length = k := by omega
      go_wp2_with fail
      go_ret
      exact ⟨_, rfl, HV.out.mono (by rw [← HBE.out]; exact HB1.out.size), HB1.out.trans (HB.out.mono (by rw [← HBE.out]; exact HB1.out.size))⟩
end
end Go.Proofs.Ytcjgfncbecbhjaa

