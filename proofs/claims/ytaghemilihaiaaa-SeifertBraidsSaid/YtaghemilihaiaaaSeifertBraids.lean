/-
  The law SeifertBraids, walked: the call returns true and writes nothing that was there.
-/
import Derived.Test.YtaghemilihaiaaaBrM
import Derived.Test.YtaghemilihaiaaaAw32
import Derived.Test.YtaghemilihaiaaaSInc
import Derived.Lib.AppendZeros
import Derived.Deep.CutBlock
import Derived.Deep.RegionHeld3
import Derived.Deep.DeepCutAuto
import Derived.IntWalk
namespace Go.Proofs.Ytaghemilihaiaaa
open Go.RowKit

section
variable (A : Option Addr) (c : Nat) (xs : List Int) (w : World) (hx : SmA w A xs) (s : Int) (hs : 0 ≤ s ∧ s ≤ 255)
include hx hs
set_option maxRecDepth 100000 in
set_option maxHeartbeats 4000000 in
theorem sbr_great (hg : 14 < xs.length) : Calls Try.prog 8 #[.int .u8 s, .slice A xs.length c] w fun e w' => e = .returned (.bool true) ∧ Below w.heap.size w w' := by
  have hg2 : (14 : Int) < xs.length := by omega
  have hl := hx.ln
  unfold maxLen at hl
  clear hx
  go_enter Try.func8, Try.ntmps8
  go_wp2_with fail
  refine (awake32 _).mono ?_
  rintro e w1 ⟨rfl, hb⟩
  have HB := Lib.hid hb
  clear hb
  go_wp2_with fail
  go_ret
  exact ⟨rfl, HB.out⟩

set_option maxRecDepth 100000 in
set_option maxHeartbeats 16000000 in
theorem sbr_main (hg : xs.length ≤ 14) : Calls Try.prog 8 #[.int .u8 s, .slice A xs.length c] w fun e w' => e = .returned (.bool true) ∧ Below w.heap.size w w' := by
  have hg2 : ¬ (14 : Int) < xs.length := by omega
  obtain ⟨t, ht⟩ : ∃ t : Nat, s % 5 = t := ⟨(s % 5).toNat, by omega⟩
  have ht5 : t < 5 := by omega
  obtain ⟨m, hm, hm1, hm2⟩ : ∃ m : Nat, 2 + (t : Int) = m ∧ 2 ≤ m ∧ m ≤ 6 := ⟨2 + t, by omega, by omega, by omega⟩
  obtain ⟨n, hn⟩ : ∃ n : Nat, xs.length = n := ⟨_, rfl⟩
  have HX := Lib.hid hx
  have HN := Lib.hid hn
  rw [hn] at hg hg2 ⊢
  clear hx hn
  have mk := make_ints 22 Try.underlying22 m (by omega)
  go_enter Try.func8, Try.ntmps8
  go_wp2_with fail
  refine (awake32 _).mono ?_
  rintro e w1 ⟨rfl, hb⟩
  have HB1 := Lib.hid hb
  have HX1 := Lib.hid (HX.out.call hb)
  clear hb HX
  have ZM : Hid (IntKind.i64.wrap (m : Int) = m) := Lib.hid (IntWalk.i64_in _ (by omega))
  go_upto_region 6 with (fail)
  go_cut [6, 7] (fun p q wx => ∃ bu bd gu gd : Nat, p = .pointer (some ⟨bu, 0, none⟩) ∧ q = .pointer (some ⟨bd, 0, none⟩) ∧ Hid (BrV w1 wx bu bd gu gd m (List.replicate m 0) (List.replicate m 0)))
  case first =>
    go_region
    all_goals
      go_wp2_with fail
      go_meet
      case rel =>
        exact ⟨_, _, _, _, rfl, rfl, Lib.hid (BrV.start (by unfold maxLen; omega) (by first | exact (four _ _ _ _ _).1 | exact (four _ _ _ _ _).2.1 | exact (four _ _ _ _ _).2.2.1 | exact (four _ _ _ _ _).2.2.2) (by first | exact (four _ _ _ _ _).1 | exact (four _ _ _ _ _).2.1 | exact (four _ _ _ _ _).2.2.1 | exact (four _ _ _ _ _).2.2.2) (by first | exact (four _ _ _ _ _).1 | exact (four _ _ _ _ _).2.1 | exact (four _ _ _ _ _).2.2.1 | exact (four _ _ _ _ _).2.2.2) (by first | exact (four _ _ _ _ _).1 | exact (four _ _ _ _ _).2.1 | exact (four _ _ _ _ _).2.2.1 | exact (four _ _ _ _ _).2.2.2) (by omega) (by omega) (by omega) (by omega) (below4 _ _ _ _ _))⟩
  case rest =>
    obtain ⟨bu, bd, gu, gd, rfl, rfl, HV⟩ := hcut
    clear mk
    go_wp2_with fail
    go_loopw [8, 37] (fun j i wr => ∃ k : Nat, k ≤ m ∧ i = .int .i64 k ∧ ∃ (u d : List Int), Hid (BrV w1 wr bu bd gu gd m u d) ∧ Hid (∀ j, j < k → gi u j = -1 ∧ gi d j = -1)) (fun _ i _ => m - (intOf i).toNat)
    case atStart => exact ⟨0, Nat.zero_le _, rfl, _, _, HV, Lib.hid fun j hj => absurd hj (Nat.not_lt_zero j)⟩
    case round =>
      clear HV
      obtain ⟨k, hk, rfl, u, d, HV, HJ⟩ := hrel
      by_cases hlt : k < m
      · have y0 := HV.out.u0
        have y1 := HV.out.d0
        obtain ⟨⟨c1, q1⟩, c2, q2⟩ := HV.out.at_ hlt
        have n1 := HV.out.n1
        obtain ⟨n2, n3⟩ := HV.out.n2
        obtain ⟨n4, n5⟩ := HV.out.n3
        have HV2 := Lib.hid (HV.out.set2 k (-1) (-1))
        have HJ2 : Hid (∀ j, j < k + 1 → gi (u.set k (-1)) j = -1 ∧ gi (d.set k (-1)) j = -1) := Lib.hid fun j hj => by
          rw [gi_set (by rw [HV.out.lu]; exact hlt), gi_set (by rw [HV.out.ld]; exact hlt)]
          by_cases e : j = k
          · rw [if_pos e, if_pos e]; exact ⟨rfl, rfl⟩
          · rw [if_neg e, if_neg e]; exact HJ.out j (by omega)
        clear HV HJ
        go_wp2_with fail
        go_region
        all_goals
          go_wp2_with fail
          go_roundw
          case rel => exact ⟨k + 1, by omega, by go_num, _, _, Lib.hid (HV2.out.heap ((Below.refl _ _).drew)), HJ2⟩
          case measure => simp [intOf]; omega
      · obtain rfl : k = m := by omega
        obtain rfl : u = List.replicate k (-1) := ext_gi (by rw [HV.out.lu]; simp) fun j hj => by rw [HV.out.lu] at hj; rw [(HJ.out j hj).1, gi_replicate hj]
        obtain rfl : d = List.replicate k (-1) := ext_gi (by rw [HV.out.ld]; simp) fun j hj => by rw [HV.out.ld] at hj; rw [(HJ.out j hj).2, gi_replicate hj]
        clear HJ
        have HW0 := Lib.hid (HV.out.box (N := 4 * n) (by unfold maxLen; omega))
        have HBV := Lib.hid HV.out.bel
        have mk : ∀ w : World, (Instr.makeSlice 22 (.int .i64 (4 * (n : Int))) (.int .i64 (4 * (n : Int)))).run Try.prog w = .ok (.slice (some ⟨w.heap.size, 0, none⟩) (4 * n) (4 * n)) (w.alloc (.cells (List.replicate (4 * n) (Value.int .i64 0)).toArray 3)) := fun w => by
          have := make_ints 22 Try.underlying22 (4 * n) (by omega) w
          rwa [show ((4 * n : Nat) : Int) = 4 * (n : Int) by omega] at this
        clear HV
        go_upto_region 14 with (fail)
        clear mk
        obtain ⟨gm, hgm⟩ : ∃ g, wr.heap.size = g := ⟨_, rfl⟩
        rw [hgm] at HW0 ⊢
        generalize hW : (wr.alloc (.cells (Array.replicate (4 * n) (Value.int .i64 0)) 3)).alloc (.cells #[.slice none 0 0, .slice (some ⟨gm, 0, none⟩) (4 * n) (4 * n), .int .i64 0] 24) = W at *
        obtain ⟨bx, hbx⟩ : ∃ b, gm + 1 = b := ⟨_, rfl⟩
        rw [hbx] at HW0 ⊢
        clear hW hgm hbx HBV
        obtain ⟨m, rfl⟩ : ∃ m, m = k := ⟨_, rfl⟩
        have hcol : ∀ c, c < n → 1 ≤ colW m xs c ∧ colW m xs c < m := fun c _ => colW_lt ⟨hm1, hm2⟩ xs c
        have HC := Lib.hid hcol
        have HN2 : Hid ((sgW xs).length = n) := Lib.hid ((sgW_length xs).trans HN.out)
        clear hcol
        have HW1 : Hid (BrW w1 W ⟨bu, bd, bx, gu, gd, gm⟩ m (4 * n) (.slice none 0 0) (.slice none 0 0) [] 0 (stB n m (colW m xs) (sgW xs) 0)) := HW0
        clear HW0
        go_wp2_with fail
        go_loopw [55] (fun i wr => ∃ k : Nat, k ≤ n ∧ i = .int .i64 k ∧ ∃ vs : Value, Hid (BrW w1 wr ⟨bu, bd, bx, gu, gd, gm⟩ m (4 * n) vs vs ((sgW xs).take k) 0 (stB n m (colW m xs) (sgW xs) k))) (fun i _ => n - (intOf i).toNat)
        case atStart => exact ⟨0, Nat.zero_le _, rfl, _, HW1⟩
        case round =>
          clear HW1
          obtain ⟨k, hk, rfl, vs, HW⟩ := hrel
          by_cases hlt : k < n
          · obtain ⟨b, off, rfl, -, hc⟩ := (HX1.out.call HW.out.bel).rd (fun e => by have := HN.out; rw [e] at this; simp at this; omega)
            have k0 := hc k (by rw [HN.out]; exact hlt)
            clear hc
            have hx8 := HX1.out.rg k
            obtain ⟨p, hp, hp1, hp2⟩ : ∃ p : Nat, (m : Int) - 1 = p ∧ 0 < p ∧ p ≤ 5 := ⟨m - 1, by omega, by omega, by omega⟩
            obtain ⟨u, v, i, hu, hu1, hu2, hv, hv2, hi, hi2, hi3⟩ := col_of (gi xs k) p hp1 hp2
            have HK : Hid (colW m xs k = i + 1) := Lib.hid (by
              unfold colW
              rw [hp, hu, show u + (m : Int) - 1 = v by omega, hi]
              rfl)
            have hv3 : u + (m : Int) - 1 = v := by omega
            have z0 : ((p : Int) == 0) = false := by rw [beq_eq_false_iff_ne]; omega
            have HS : Hid ((sgW xs).take (k + 1) = (sgW xs).take k ++ [if 0 ≤ gi xs k then 1 else -1]) := Lib.hid (sgW_take (by rw [HN.out]; exact hlt))
            have HE : ∀ r, Hid (he (sgW xs) k r = if 0 ≤ gi xs k then 4 * k + r % 4 else 4 * k + (r + 1) % 4) := fun r => Lib.hid (he_sg (by rw [HN.out]; exact hlt) r)
            have HE0 := HE 0
            have HE1 := HE 1
            have HE2 := HE 2
            have HE3 := HE 3
            clear HE hv
            obtain ⟨x, hx⟩ : ∃ x, gi xs k = x := ⟨_, rfl⟩
            rw [hx] at k0 hx8 hu HS HE0 HE1 HE2 HE3
            clear hx
            have HU := Lib.hid fun q (hq : q < m) => stB_u (sg := sgW xs) HC.out hk hq
            have HO := Lib.hid HW.out.os
            have hsz := HW.out.bel.size
            have y00 := HW.out.x0
            clear hv2 hi
            by_cases hx0 : 0 ≤ x
            case' pos =>
              have q0 : decide (0 ≤ x) = true := decide_eq_true hx0
              have E3 : he (sgW xs) k 3 = 4 * k + 3 := by have := HE3.out; rw [if_pos hx0] at this; exact this
              have E0 : he (sgW xs) k 0 = 4 * k := by have := HE0.out; rw [if_pos hx0] at this; exact this
              have E1 : he (sgW xs) k 1 = 4 * k + 1 := by have := HE1.out; rw [if_pos hx0] at this; exact this
              have E2 : he (sgW xs) k 2 = 4 * k + 2 := by have := HE2.out; rw [if_pos hx0] at this; exact this
              have HH3 := Lib.hid E3
              have HH0 := Lib.hid E0
              have HH1 := Lib.hid E1
              have HH2 := Lib.hid E2
              clear E3 E0 E1 E2
              have HS2 : Hid ((sgW xs).take (k + 1) = (sgW xs).take k ++ [1]) := Lib.hid (by have := HS.out; rw [if_pos hx0] at this; exact this)
              have HLN : Hid (((sgW xs).take k).length < 1099511627776) := Lib.hid (by have := List.length_take_le k (sgW xs); omega)
              go_wp2_with (at_builtin; refine app1 HO.out HLN.out hsz rfl rfl Try.underlying22 rfl rfl ?_; intro v' w2 ho2 hg hob; obtain ⟨Av, cv, hv', -, -, -⟩ := ho2.shape; rw [← HS2.out] at ho2 hv'; obtain ⟨nv, hnv⟩ : ∃ nv, ((sgW xs).take (k + 1)).length = nv := ⟨_, rfl⟩; rw [hnv] at hv'; subst hv'; have HW2 := Lib.hid (HW.out.app (HS2.out ▸ ho2) hg hob); have HW3 := Lib.hid (HS2.out.symm ▸ HW2.out.setX0 (.slice Av nv cv)); have y0 := HW2.out.x0; have f0 := HW2.out.f0; clear HW2 hnv ho2 hg hob HW HO hsz y00)
            case' neg =>
              have q0 : decide (0 ≤ x) = false := decide_eq_false hx0
              have E3 : he (sgW xs) k 3 = 4 * k := by have := HE3.out; rw [if_neg hx0] at this; exact this
              have E0 : he (sgW xs) k 0 = 4 * k + 1 := by have := HE0.out; rw [if_neg hx0] at this; exact this
              have E1 : he (sgW xs) k 1 = 4 * k + 2 := by have := HE1.out; rw [if_neg hx0] at this; exact this
              have E2 : he (sgW xs) k 2 = 4 * k + 3 := by have := HE2.out; rw [if_neg hx0] at this; exact this
              have HH3 := Lib.hid E3
              have HH0 := Lib.hid E0
              have HH1 := Lib.hid E1
              have HH2 := Lib.hid E2
              clear E3 E0 E1 E2
              have HS2 : Hid ((sgW xs).take (k + 1) = (sgW xs).take k ++ [-1]) := Lib.hid (by have := HS.out; rw [if_neg hx0] at this; exact this)
              have HLN : Hid (((sgW xs).take k).length < 1099511627776) := Lib.hid (by have := List.length_take_le k (sgW xs); omega)
              go_wp2_with (at_builtin; refine app1 HO.out HLN.out hsz rfl rfl Try.underlying22 rfl rfl ?_; intro v' w2 ho2 hg hob; obtain ⟨Av, cv, hv', -, -, -⟩ := ho2.shape; rw [← HS2.out] at ho2 hv'; obtain ⟨nv, hnv⟩ : ∃ nv, ((sgW xs).take (k + 1)).length = nv := ⟨_, rfl⟩; rw [hnv] at hv'; subst hv'; have HW2 := Lib.hid (HW.out.app (HS2.out ▸ ho2) hg hob); have HW3 := Lib.hid (HS2.out.symm ▸ HW2.out.setX0 (.slice Av nv cv)); have y0 := HW2.out.x0; have f0 := HW2.out.f0; clear HW2 hnv ho2 hg hob HW HO hsz y00)
            case' pos =>
              refine (enter_any HW3.out (a := i) (e := he (sgW xs) k 3) (by omega) (he_lt hlt 3) (HU.out i (by omega)) rfl (by rw [HH3.out]; omega)).mono ?_
              rintro e w4 ⟨rfl, hw4⟩
              have HW4 := Lib.hid hw4
              clear hw4 HW3 y0 f0
              go_wp2_with fail
              refine (enter_any HW4.out (a := i + 1) (e := he (sgW xs) k 0) (by omega) (he_lt hlt 0) (by rw [entB_u]; exact HU.out (i + 1) (by omega)) (by omega) (by rw [HH0.out]; omega)).mono ?_
              rintro e w5 ⟨rfl, hw5⟩
              have HW5 := Lib.hid hw5
              have e : stB n m (colW m xs) (sgW xs) (k + 1) = ⟨(((entB (entB (stB n m (colW m xs) (sgW xs) k) i (he (sgW xs) k 3)) (i + 1) (he (sgW xs) k 0)).u.set i (4 * (k : Int) + 2)).set (i + 1) (4 * (k : Int) + 1)), (entB (entB (stB n m (colW m xs) (sgW xs) k) i (he (sgW xs) k 3)) (i + 1) (he (sgW xs) k 0)).d, (entB (entB (stB n m (colW m xs) (sgW xs) k) i (he (sgW xs) k 3)) (i + 1) (he (sgW xs) k 0)).m⟩ := by
                show stepB (sgW xs) (colW m xs) (stB n m (colW m xs) (sgW xs) k) k = _
                unfold stepB leadB
                rw [HK.out, Nat.add_sub_cancel]
                have c2 : ((he (sgW xs) k 2 : Nat) : Int) = 4 * (k : Int) + 2 := by rw [HH2.out]; omega
                have c1 : ((he (sgW xs) k 1 : Nat) : Int) = 4 * (k : Int) + 1 := by rw [HH1.out]; omega
                rw [c2, c1]
              have HW6 : Hid (BrW w1 ((w5.setCell ⟨gu, i, none⟩ (.int .i64 (4 * (k : Int) + 2))).setCell ⟨gu, i + 1, none⟩ (.int .i64 (4 * (k : Int) + 1))) ⟨bu, bd, bx, gu, gd, gm⟩ m (4 * n) (.slice Av nv cv) (.slice Av nv cv) ((sgW xs).take (k + 1)) 0 (stB n m (colW m xs) (sgW xs) (k + 1))) := Lib.hid (e ▸ (hw5.setU i (4 * (k : Int) + 2)).setU (i + 1) (4 * (k : Int) + 1))
              have HW7 : Hid (BrW w1 ((w5.setCell ⟨gu, i + 1, none⟩ (.int .i64 (4 * (k : Int) + 1))).setCell ⟨gu, i, none⟩ (.int .i64 (4 * (k : Int) + 2))) ⟨bu, bd, bx, gu, gd, gm⟩ m (4 * n) (.slice Av nv cv) (.slice Av nv cv) ((sgW xs).take (k + 1)) 0 (stB n m (colW m xs) (sgW xs) (k + 1))) := Lib.hid (by
                rw [e, List.set_comm _ _ (by omega)]
                exact (hw5.setU (i + 1) (4 * (k : Int) + 1)).setU i (4 * (k : Int) + 2))
              clear e
            case' neg =>
              refine (enter_any HW3.out (a := i) (e := he (sgW xs) k 3) (by omega) (he_lt hlt 3) (HU.out i (by omega)) rfl (by rw [HH3.out]; omega)).mono ?_
              rintro e w4 ⟨rfl, hw4⟩
              have HW4 := Lib.hid hw4
              clear hw4 HW3 y0 f0
              go_wp2_with fail
              refine (enter_any HW4.out (a := i + 1) (e := he (sgW xs) k 0) (by omega) (he_lt hlt 0) (by rw [entB_u]; exact HU.out (i + 1) (by omega)) (by omega) (by rw [HH0.out]; omega)).mono ?_
              rintro e w5 ⟨rfl, hw5⟩
              have HW5 := Lib.hid hw5
              have e : stB n m (colW m xs) (sgW xs) (k + 1) = ⟨(((entB (entB (stB n m (colW m xs) (sgW xs) k) i (he (sgW xs) k 3)) (i + 1) (he (sgW xs) k 0)).u.set i (4 * (k : Int) + 3)).set (i + 1) (4 * (k : Int) + 2)), (entB (entB (stB n m (colW m xs) (sgW xs) k) i (he (sgW xs) k 3)) (i + 1) (he (sgW xs) k 0)).d, (entB (entB (stB n m (colW m xs) (sgW xs) k) i (he (sgW xs) k 3)) (i + 1) (he (sgW xs) k 0)).m⟩ := by
                show stepB (sgW xs) (colW m xs) (stB n m (colW m xs) (sgW xs) k) k = _
                unfold stepB leadB
                rw [HK.out, Nat.add_sub_cancel]
                have c2 : ((he (sgW xs) k 2 : Nat) : Int) = 4 * (k : Int) + 3 := by rw [HH2.out]; omega
                have c1 : ((he (sgW xs) k 1 : Nat) : Int) = 4 * (k : Int) + 2 := by rw [HH1.out]; omega
                rw [c2, c1]
              have HW6 : Hid (BrW w1 ((w5.setCell ⟨gu, i, none⟩ (.int .i64 (4 * (k : Int) + 3))).setCell ⟨gu, i + 1, none⟩ (.int .i64 (4 * (k : Int) + 2))) ⟨bu, bd, bx, gu, gd, gm⟩ m (4 * n) (.slice Av nv cv) (.slice Av nv cv) ((sgW xs).take (k + 1)) 0 (stB n m (colW m xs) (sgW xs) (k + 1))) := Lib.hid (e ▸ (hw5.setU i (4 * (k : Int) + 3)).setU (i + 1) (4 * (k : Int) + 2))
              have HW7 : Hid (BrW w1 ((w5.setCell ⟨gu, i + 1, none⟩ (.int .i64 (4 * (k : Int) + 2))).setCell ⟨gu, i, none⟩ (.int .i64 (4 * (k : Int) + 3))) ⟨bu, bd, bx, gu, gd, gm⟩ m (4 * n) (.slice Av nv cv) (.slice Av nv cv) ((sgW xs).take (k + 1)) 0 (stB n m (colW m xs) (sgW xs) (k + 1))) := Lib.hid (by
                rw [e, List.set_comm _ _ (by omega)]
                exact (hw5.setU (i + 1) (4 * (k : Int) + 2)).setU i (4 * (k : Int) + 3))
              clear e
            all_goals
              have y0 := HW5.out.u0
              obtain ⟨c1, q1⟩ := HW5.out.up_at (k := i) (by omega)
              obtain ⟨c2, q2⟩ := HW5.out.up_at (k := i + 1) (by omega)
              have nb1 : gu ≠ bu := HW5.out.n2.1
              have nb2 : bu ≠ gu := nb1.symm
              have hi4 : i + 1 < m := by omega
              have hi6 : (i : Int) + 1 < m := by omega
              have y0 : w5.cell? ⟨bu, 0, none⟩ = some (.slice (some ⟨gu, 0, none⟩) m m) := y0
              have hi5 : i < m := by omega
              have zi : IntKind.i64.wrap ((i : Int) + 1) = (i : Int) + 1 := IntWalk.i64_in _ (by omega)
              have zi2 : (0 : Int) ≤ (i : Int) + 1 := by omega
              have zi3 : ((i : Int) + 1).toNat = i + 1 := by omega
              clear hw5 HW4 HW5 hp hi2 hv3 hu
              go_wp2_with fail
              go_region
              all_goals
                go_wp2_with fail
                go_roundw
                case rel => exact ⟨k + 1, by omega, by go_num, _, Lib.hid ((by first | exact HW6.out | exact HW7.out : BrW _ _ _ _ _ _ _ _ _ _).heap (Below.refl _ _).drew)⟩
                case measure => simp [intOf]; omega
          · obtain rfl : k = n := by omega
            have hst : (sgW xs).take k = sgW xs := List.take_of_length_le (by rw [HN2.out]; exact Nat.le_refl _)
            rw [hst] at HW
            clear hst
            have HF := Lib.hid (braid_all (sg := sgW xs) HN2.out (sgW_SgM xs) HC.out (by omega) (by omega))
            have HP := Lib.hid fun q (hq : q < m) => stB_fin (sg := sgW xs) HC.out hq
            obtain ⟨S, hS⟩ : ∃ S, stB k m (colW m xs) (sgW xs) k = S := ⟨_, rfl⟩
            rw [hS] at HF HP HW
            clear hS
            have HW2 : Hid (BrW w1 wr ⟨bu, bd, bx, gu, gd, gm⟩ m (4 * k) vs vs (sgW xs) ((loM S 0 : Nat) : Int) ⟨S.u, S.d, clM S 0⟩) := HW
            obtain ⟨A1, c1, rfl, -⟩ := HW.out.dbox
            clear HW
            go_wp2_with fail
            go_loopw [125] (fun i wr => ∃ j : Nat, j ≤ m ∧ i = .int .i64 j ∧ Hid (BrW w1 wr ⟨bu, bd, bx, gu, gd, gm⟩ m (4 * k) (.slice A1 (sgW xs).length c1) (.slice A1 (sgW xs).length c1) (sgW xs) ((loM S j : Nat) : Int) ⟨S.u, S.d, clM S j⟩)) (fun i _ => m - (intOf i).toNat)
            case atStart => exact ⟨0, Nat.zero_le _, rfl, HW2⟩
            case round =>
              clear HW2
              obtain ⟨j, hj, rfl, HW⟩ := hrel
              have hlo : loM S j ≤ j := cnt_le _ _
              obtain ⟨lo, hlo2⟩ : ∃ lo, loM S j = lo := ⟨_, rfl⟩
              by_cases hlt : j < m
              · have y0 : wr.cell? ⟨bu, 0, none⟩ = some (.slice (some ⟨gu, 0, none⟩) m m) := HW.out.u0
                obtain ⟨c2, q2⟩ := HW.out.up_at hlt
                replace c2 : wr.cell? ⟨gu, j, none⟩ = some (.int .i64 (gi S.u j)) := c2
                rcases HP.out j hlt with hu | ⟨x, y, hu, hd, hx, hy, hxy⟩
                · have HL : Hid (loM S (j + 1) = lo + 1 ∧ clM S (j + 1) = clM S j) := Lib.hid ⟨by
                    have : loM S (j + 1) = loM S j + 1 := by
                      unfold loM
                      rw [cnt_succ, if_pos (decide_eq_true (by omega))]
                    rw [this, hlo2], by
                    show (if gi S.u j < 0 then clM S j else _) = _
                    rw [if_pos (by omega)]⟩
                  rw [hlo2] at HW
                  have y2 : wr.cell? ⟨bx, 2, none⟩ = some (.int .i64 (lo : Int)) := HW.out.x2
                  have f2 : wr.frozen? ⟨bx, 2, none⟩ = false := HW.out.f2
                  have HW3 := Lib.hid (HW.out.setX2 ((lo : Int) + 1))
                  rw [hu] at c2
                  clear hu HW
                  rw [hlo2] at hlo
                  clear hlo2
                  go_wp2_with fail
                  go_roundw
                  case rel => exact ⟨j + 1, by omega, by go_num, Lib.hid (by rw [HL.out.1, HL.out.2]; exact HW3.out)⟩
                  case measure => simp [intOf]; omega
                · have HL : Hid (loM S (j + 1) = loM S j ∧ clM S (j + 1) = ((clM S j).set x (y : Int)).set y (x : Int)) := Lib.hid ⟨by
                    unfold loM
                    rw [cnt_succ, if_neg (by rw [decide_eq_false (by omega)]; exact Bool.false_ne_true), Nat.add_zero], by
                    show (if gi S.u j < 0 then clM S j else ((clM S j).set (gn S.u j) (gi S.d j)).set (gn S.d j) (gi S.u j)) = _
                    rw [if_neg (by omega), hu, hd, show gn S.u j = x by unfold gn; rw [hu]; rfl, show gn S.d j = y by unfold gn; rw [hd]; rfl]⟩
                  have y1 : wr.cell? ⟨bd, 0, none⟩ = some (.slice (some ⟨gd, 0, none⟩) m m) := HW.out.d0
                  have y3 : wr.cell? ⟨bx, 1, none⟩ = some (.slice (some ⟨gm, 0, none⟩) (4 * k) (4 * k)) := HW.out.x1
                  obtain ⟨c3, q3⟩ := HW.out.down_at hlt
                  replace c3 : wr.cell? ⟨gd, j, none⟩ = some (.int .i64 (gi S.d j)) := c3
                  obtain ⟨c4, q4⟩ := HW.out.mate_at hx
                  obtain ⟨c5, q5⟩ := HW.out.mate_at hy
                  replace c4 : wr.cell? ⟨gm, x, none⟩ = some (.int .i64 (gi (clM S j) x)) := c4
                  replace c5 : wr.cell? ⟨gm, y, none⟩ = some (.int .i64 (gi (clM S j) y)) := c5
                  replace q4 : wr.frozen? ⟨gm, x, none⟩ = false := q4
                  replace q5 : wr.frozen? ⟨gm, y, none⟩ = false := q5
                  have HW3 := Lib.hid ((HW.out.setM x (y : Int)).setM y (x : Int))
                  have HW4 : Hid (BrW w1 ((wr.setCell ⟨gm, y, none⟩ (.int .i64 (x : Int))).setCell ⟨gm, x, none⟩ (.int .i64 (y : Int))) ⟨bu, bd, bx, gu, gd, gm⟩ m (4 * k) (.slice A1 (sgW xs).length c1) (.slice A1 (sgW xs).length c1) (sgW xs) ((loM S j : Nat) : Int) ⟨S.u, S.d, ((clM S j).set x (y : Int)).set y (x : Int)⟩) := Lib.hid (by
                    rw [List.set_comm _ _ hxy]
                    exact (HW.out.setM y (x : Int)).setM x (y : Int))
                  rw [hu] at c2
                  rw [hd] at c3
                  have n1 : gu ≠ gm := HW.out.n1.2.1
                  have n2 : gd ≠ gm := HW.out.n1.2.2
                  have n3 : gm ≠ bu := HW.out.n4.1
                  have n4 : gm ≠ bd := HW.out.n4.2.1
                  have n5 : gm ≠ bx := HW.out.n4.2.2
                  have n1' := n1.symm
                  have n2' := n2.symm
                  have n3' := n3.symm
                  have n4' := n4.symm
                  have n5' := n5.symm
                  have hyx : y ≠ x := hxy.symm
                  have hx4 : (x : Int) < 4 * k := by omega
                  have hy4 : (y : Int) < 4 * k := by omega
                  clear hu hd HW hlo hlo2 HP HF
                  go_wp2_with fail
                  go_region_held3 (fun w' => w'.cell? ⟨bu, 0, none⟩ = some (.slice (some ⟨gu, 0, none⟩) m m) ∧ w'.cell? ⟨bd, 0, none⟩ = some (.slice (some ⟨gd, 0, none⟩) m m) ∧ w'.cell? ⟨bx, 1, none⟩ = some (.slice (some ⟨gm, 0, none⟩) (4 * k) (4 * k)) ∧ w'.cell? ⟨gu, j, none⟩ = some (.int .i64 (x : Int)) ∧ w'.cell? ⟨gd, j, none⟩ = some (.int .i64 (y : Int)))
                    (go_keep) (fail)
                  all_goals
                    go_wp2_with fail
                    go_roundw
                    case rel => exact ⟨j + 1, by omega, by go_num, Lib.hid (by rw [HL.out.1, HL.out.2]; exact (by first | exact HW3.out | exact HW4.out : BrW _ _ _ _ _ _ _ _ _ _).heap (Below.refl _ _).drew)⟩
                    case measure => simp [intOf]; omega
              · obtain rfl : j = m := by omega
                obtain ⟨A1', c1', e1, hD⟩ := HW.out.dbox
                injection e1 with e1 _ e2
                subst e1 e2
                replace hD : DBox wr bx A1 (some ⟨gm, 0, none⟩) c1 (4 * k) (sgW xs) (clM S j) ((loM S j : Nat) : Int) := hD
                have hml : (clM S j).length = 4 * k := HW.out.lm
                obtain ⟨hI, hcc, hin⟩ := HF.out
                rw [hlo2] at hI hcc hD
                obtain ⟨M, hM⟩ : ∃ M, clM S j = M := ⟨_, rfl⟩
                rw [hM] at hI hcc hin hD hml
                obtain ⟨cl, hcl⟩ : ∃ cl, (circL (sgW xs) M).length = cl := ⟨_, rfl⟩
                have HB := Lib.hid (HB1.out.trans (HW.out.bel.mono HB1.out.size))
                have HD := Lib.hid hD
                have HI := Lib.hid hI
                have HCL := Lib.hid hcl
                have HIN := Lib.hid hin
                rw [hcl] at hcc
                have hmn : M.length ≤ maxLen := by rw [hml]; unfold maxLen; omega
                have hsn : (sgW xs).length ≤ maxLen := by rw [HN2.out]; unfold maxLen; omega
                have h256 : M.length ≤ 256 := by omega
                have k0 := HD.out.c0
                have k1 := HD.out.c1
                have k2 := HD.out.c2
                have ev : Hid ((((circL (sgW xs) M).length : Nat) : Int) + (lo : Int) - ((sgW xs).length : Int) = (j : Int) - k) := Lib.hid (by rw [hcl, HN2.out]; omega)
                have zz : ((cl : Int) + (lo : Int) == (j : Int)) = true := by rw [beq_iff_eq]; omega
                have zw : IntKind.i64.wrap ((cl : Int) + (lo : Int)) = (cl : Int) + (lo : Int) := IntWalk.i64_in _ (by omega)
                have zv : IntKind.i64.wrap ((j : Int) - k) = (j : Int) - k := IntWalk.i64_in _ (by omega)
                clear HW hD hI hcl hin hcc hM hml HF HP hlo hlo2
                go_wp2_with fail
                refine (dvalid_is (fun b => b < wr.heap.size) true HD.out.rs HD.out.rm (fun _ h => h) hsn hmn (decide_eq_true HI.out)).mono ?_
                rintro e x1 ⟨rfl, hb⟩
                have HD1 := Lib.hid (HD.out.below hb)
                have HB2 := Lib.hid (HB.out.trans (hb.mono HB.out.size))
                clear hb k0 k1 k2 HD HB
                have k0 := HD1.out.c0
                have k1 := HD1.out.c1
                have k2 := HD1.out.c2
                go_wp2_with fail
                refine (scirc_ok _ _ _ _ (sgW xs) M (lo : Int) x1 (· < x1.heap.size) HD1.out.rs HD1.out.rm (fun _ h => h) HI.out).mono ?_
                rintro e x2 ⟨v, rfl, hr, hb⟩
                obtain ⟨Av, cv, rfl, -, -, -⟩ := hr.shape
                rw [rows_cycs_length, HCL.out]
                have HD2 := Lib.hid (HD1.out.below hb)
                have HB3 := Lib.hid (HB2.out.trans (hb.mono HB2.out.size))
                clear hb hr k0 k1 k2 HD1 HB2
                have k0 := HD2.out.c0
                have k1 := HD2.out.c1
                have k2 := HD2.out.c2
                go_wp2_with fail
                refine (seuler_ok _ _ _ _ (sgW xs) M (lo : Int) x2 (· < x2.heap.size) HD2.out.rs HD2.out.rm (fun _ h => h) HI.out).mono ?_
                rintro e x3 ⟨rfl, hb⟩
                rw [ev.out]
                have HD3 := Lib.hid (HD2.out.below hb)
                have HB4 := Lib.hid (HB3.out.trans (hb.mono HB3.out.size))
                clear hb k0 k1 k2 HD2 HB3
                have k0 := HD3.out.c0
                have k1 := HD3.out.c1
                have k2 := HD3.out.c2
                go_wp2_with fail
                refine (sinc_ok _ _ _ _ (sgW xs) M (lo : Int) x3 (· < x3.heap.size) HD3.out.rs HD3.out.rm (fun _ h => h) HI.out h256).mono ?_
                rintro e x4 ⟨v, rfl, hp, hb⟩
                rw [HIN.out] at hp
                obtain ⟨Ap, cp, rfl, -, -⟩ := hp.shape
                have HB5 := Lib.hid (HB4.out.trans (hb.mono HB4.out.size))
                clear hb hp k0 k1 k2 HD3 HB4
                go_wp2_with fail
                go_ret
                exact ⟨rfl, HB5.out⟩
theorem seifertBraids_walk2 : Calls Try.prog 8 #[.int .u8 s, .slice A xs.length c] w fun e w' => e = .returned (.bool true) ∧ Below w.heap.size w w' := by
  by_cases hg : 14 < xs.length
  · exact sbr_great A c xs w hx s hs hg
  · exact sbr_main A c xs w hx s hs (by omega)
end
theorem seifertBraids_walk (s : Int) (A : Option Addr) (c : Nat) (xs : List Int) (w : World) (hs : (Lit.int .u8 s).wf = true) (hx : SmA w A xs) :
    Calls Try.prog 8 #[.int .u8 s, .slice A xs.length c] w fun e w' => e = .returned (.bool true) ∧ Below w.heap.size w w' := by
  refine seifertBraids_walk2 A c xs w hx s ?_
  have h1 : IntKind.u8.min = 0 := rfl
  have h2 : IntKind.u8.max = 255 := rfl
  simp only [Lit.wf, Bool.and_eq_true, decide_eq_true_eq] at hs
  omega
end Go.Proofs.Ytaghemilihaiaaa

