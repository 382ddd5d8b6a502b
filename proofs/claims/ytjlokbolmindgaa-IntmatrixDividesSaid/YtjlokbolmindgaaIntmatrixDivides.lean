/-
  The law IntmatrixDivides, walked: the call returns true and writes nothing that was there.
-/
import Derived.Test.YtjlokbolmindgaaL26
import Derived.Deep.CutBlock
namespace Go.Proofs.Ytjlokbolmindgaa
open Go.RowKit

section
variable (A : Option Addr) (cap : Nat) (xss : List (List Int)) (w : World) (hm : AM w A xss.length xss)
include hm
set_option maxHeartbeats 2000000 in
theorem idiv_no (h : ¬ szB xss 12) : Calls Try.prog 7 #[.slice A xss.length cap] w fun e w' => e = .returned (.bool true) ∧ Below w.heap.size w w' := by
  have H := Lib.hid hm
  have HD := Lib.hid (decide_eq_false h)
  clear hm h
  go_enter Try.func7, Try.ntmps7
  go_wp2_with fail
  refine (awake26 w).mono ?_
  rintro e w1 ⟨rfl, hb⟩
  have H1 := Lib.hid (H.out.call hb)
  have HB1 := Lib.hid hb
  clear hb
  go_wp2_with fail
  refine (size_any (cap := cap) H1.out 12).mono ?_
  rintro e w2 ⟨rfl, rfl⟩
  rw [HD.out]
  go_wp2_with fail
  go_ret
  exact ⟨rfl, HB1.out⟩
set_option maxHeartbeats 2000000 in
theorem idiv_big (h : szB xss 12) (hs : ¬ Sml xss) : Calls Try.prog 7 #[.slice A xss.length cap] w fun e w' => e = .returned (.bool true) ∧ Below w.heap.size w w' := by
  have H := Lib.hid hm
  have HD := Lib.hid (decide_eq_true h)
  obtain ⟨d, hd⟩ := smD_ex xss
  have HSD := Lib.hid hd
  have HE := Lib.hid (rkE_9 h.1 hs)
  have HNS := Lib.hid (decide_eq_false hs)
  have HM := Lib.hid h.1
  clear hm h hs hd
  go_enter Try.func7, Try.ntmps7
  go_wp2_with fail
  refine (awake26 w).mono ?_
  rintro e w1 ⟨rfl, hb⟩
  have H1 := Lib.hid (H.out.call hb)
  have HB1 := Lib.hid hb
  clear hb
  go_wp2_with fail
  refine (size_any (cap := cap) H1.out 12).mono ?_
  rintro e w2 ⟨rfl, rfl⟩
  rw [HD.out]
  go_wp2_with fail
  refine (smith_any (cap := cap) H1.out HSD.out).mono ?_
  rintro e w3 ⟨V, rfl, hV, hb, -⟩
  obtain ⟨A2, c2, rfl, -⟩ := hV.shape
  have H3 := Lib.hid (H1.out.call hb)
  have HB3 := Lib.hid (below_cons HB1.out hb)
  rw [HE.out]
  clear hb hV
  generalize List.length _ = ln
  go_wp2_with fail
  refine (rank_any (cap := cap) H3.out).mono ?_
  rintro e w4 ⟨r, rfl, -, hb⟩
  have H4 := Lib.hid (H3.out.call hb)
  have HB4 := Lib.hid (below_cons HB3.out hb)
  rw [HE.out]
  clear hb
  go_wp2_with fail
  refine (rsmall_any (cap := cap) H4.out HM.out false HNS.out).mono ?_
  rintro e w5 ⟨rfl, rfl⟩
  go_wp2_with fail
  go_ret
  exact ⟨rfl, HB4.out⟩
set_option maxHeartbeats 8000000 in
set_option maxRecDepth 100000 in
theorem idiv_ok (h : szB xss 12) (hs : Sml xss) : Calls Try.prog 7 #[.slice A xss.length cap] w fun e w' => e = .returned (.bool true) ∧ Below w.heap.size w w' := by
  have H := Lib.hid hm
  have HD := Lib.hid (decide_eq_true h)
  obtain ⟨d, hd⟩ := smD_ex xss
  have HSD := Lib.hid hd
  have hR := rkE_0 h.1 hs
  have HE := Lib.hid hR
  obtain ⟨n, hn⟩ : ∃ n, xss.length = n := ⟨_, rfl⟩
  obtain ⟨c, hc⟩ : ∃ c, rowL xss 0 = c := ⟨_, rfl⟩
  obtain ⟨p, hp⟩ : ∃ p, min n c = p := ⟨_, rfl⟩
  have hL : smL xss d = (List.range p).map fun j => (d j : Int) := by unfold smL; rw [if_pos hR, hn, hc, hp]
  have HL := Lib.hid hL
  have hsh : shp xss = (c : Nat) := by unfold shp; rw [if_pos h.1, hc]
  have HSH := Lib.hid hsh
  have hc12 : c ≤ 12 := by have := h.2.1; omega
  have hn12 : n ≤ 12 := by have := h.2.2; omega
  have hp12 : p ≤ 12 := by omega
  have HP := Lib.hid hp
  have HCH : Hid (Chain d p) := by have := hd.ch; rw [hn, hc, hp] at this; exact this
  have HQ : Hid (Eqv n c (eI xss) (dgM d)) := by have := hd.eq; rw [hn, hc] at this; exact this
  have HBN : Hid (bndM n c (eI xss) ≤ 1125899906842624) := by have := hs.lt; rw [hn, hc] at this; exact this
  have HSI : Hid ((∃ r v, ElR xss.length (rowL xss 0) (eI xss) r v) → ∃ r, SmI n c r (eI xss) d) := by
    rintro ⟨r, v, hE⟩
    rw [hn, hc] at hE
    exact ⟨r, hE.smI HQ.out (by rw [hp]; exact HCH.out)⟩
  have HRK : Hid (∀ r, rkR xss r → RkP n c (eI xss) r) := fun r h => by
    unfold rkR at h
    rw [if_pos hR, hn, hc] at h
    exact h
  have HDE : Hid (n = c → dtE xss = 0 ∧ dtV xss = det n (eI xss)) := fun e => by
    have h1 : dtE xss = 0 := by unfold dtE; rw [if_pos ⟨h.1, by omega⟩, if_pos hs]
    refine ⟨h1, ?_⟩
    unfold dtV
    rw [if_pos h1, hn]
  rw [hn] at H ⊢
  clear hm h hs hd hR hc hp hL hsh hn
  go_enter Try.func7, Try.ntmps7
  go_wp2_with fail
  refine (awake26 w).mono ?_
  rintro e w1 ⟨rfl, hb⟩
  have H1 := Lib.hid (H.out.call hb)
  have HB1 := Lib.hid hb
  clear hb
  go_wp2_with fail
  refine (size_any (cap := cap) H1.out 12).mono ?_
  rintro e w2 ⟨rfl, rfl⟩
  rw [HD.out, HSH.out]
  go_wp2_with fail
  refine (smith_any (cap := cap) H1.out HSD.out).mono ?_
  rintro e w3 ⟨V, rfl, hV, hb, hE⟩
  rw [HL.out] at hV
  obtain ⟨A2, c2, rfl, -, -, hri⟩ := hV.reads
  have H3 := Lib.hid (H1.out.call hb)
  have HB3 := Lib.hid (below_cons HB1.out hb)
  have HRI := Lib.hid (hri.imp (T := (· < w3.heap.size)) fun _ h => h.2)
  obtain ⟨r, hsi⟩ := HSI.out (hE HE.out)
  have HSI2 := Lib.hid hsi
  have hlen : ((List.range p).map fun j => (d j : Int)).length = p := by simp
  rw [hlen, HE.out]
  clear hb hV hri hE hlen HSI hsi
  go_wp2_with fail
  refine (rank_any (cap := cap) H3.out).mono ?_
  rintro e w4 ⟨r', rfl, hrk, hb⟩
  obtain rfl : r' = r := RkP.uniq (HRK.out _ hrk) HSI2.out.rk
  have H4 := Lib.hid (H3.out.call hb)
  have HB4 := Lib.hid (below_cons HB3.out hb)
  have HRI4 := Lib.hid (HRI.out.below hb)
  rw [HE.out]
  clear hb hrk HRI
  have hrp : r' ≤ p := by have := HSI2.out.rp; rw [HP.out] at this; exact this
  go_upto_region 10 with fail
  go_cut [59] from 53 to 59 (fun v wx => v = .bool false ∧ wx = w4)
  case first =>
    by_cases hlt : c < n
    · have hlt' : (c : Int) < (n : Int) := by omega
      have hpc : ((p : Int) != (c : Int)) = false := by rw [bne_eq_false_iff_eq]; have := HP.out; omega
      go_wp2_with fail
      go_meet
      case rel => exact ⟨rfl, rfl⟩
    · have hlt' : ¬ (c : Int) < (n : Int) := by omega
      have hpc : ((p : Int) != (n : Int)) = false := by rw [bne_eq_false_iff_eq]; have := HP.out; omega
      go_wp2_with fail
      go_meet
      case rel => exact ⟨rfl, rfl⟩
  case rest =>
    obtain ⟨rfl, rfl⟩ := hcut
    go_wp2_with fail
    go_loopw [9, 10, 62] (fun a' q' k' wr => ∃ k a q : Nat, k ≤ p ∧ k' = .int .i64 k ∧ a' = .int .i64 a ∧ q' = .int .i64 q ∧ Hid (a = min k r') ∧ Hid (q = pN k d) ∧ wc = wr) (fun _ _ k _ => p - (intOf k).toNat)
    case atStart => exact ⟨0, 0, 1, Nat.zero_le _, rfl, rfl, rfl, (Nat.zero_min _).symm, rfl, rfl⟩
    case round =>
      obtain ⟨k, a, q, hk, rfl, rfl, rfl, HA, HQ2, rfl⟩ := hrel
      by_cases hlt : k < p
      · obtain ⟨bk, ok, rfl, -, hcj⟩ := HRI4.out.at_ (k := k) (by simpa using hlt)
        have c1 := hcj k (by simpa using hlt)
        rw [gi_map_range hlt] at c1
        have HCJ : Hid (∀ j, j < p → wc.cell? ⟨bk, ok + j, none⟩ = some (.int .i64 ((d j : Nat) : Int))) := fun j hj => by
          have := hcj j (by simpa using hj)
          rwa [gi_map_range hj] at this
        have hdl := HSI2.out.le k (by rw [HP.out]; exact hlt)
        have hbn := HBN.out
        obtain ⟨z, hz⟩ : ∃ z, d k = z := ⟨_, rfl⟩
        have HZ := Lib.hid hz
        rw [hz] at c1 hdl
        have hzl : z ≤ 1125899906842624 := by omega
        have HPN : Hid (pN (k + 1) d = q * z) := by show pN k d * d k = _; rw [← HQ2.out, hz]
        have hpl := HSI2.out.pr (k + 1) (by rw [HP.out]; exact hlt)
        rw [HPN.out] at hpl
        obtain ⟨q2, hq2⟩ : ∃ q2, q * z = q2 := ⟨_, rfl⟩
        rw [hq2] at hpl HPN
        have y1 : IntKind.i64.wrap ((q : Int) * (z : Int)) = (q2 : Int) := by rw [← Int.natCast_mul, hq2]; exact IntWalk.i64_in _ (by omega)
        have HQ3 : Hid (q2 = pN (k + 1) d) := HPN.out.symm
        have zn : decide ((z : Int) < 0) = false := decide_eq_false (by omega)
        clear hcj hdl hbn hz hpl hq2 HPN
        go_upto_region 16 with fail
        go_cut [106] from 67 to 106 (fun v wx => v = .bool false ∧ wx = wc)
        case first =>
          rcases Nat.eq_zero_or_pos k with h0 | h0
          · subst h0
            go_wp2_with fail
            go_meet
            case rel => exact ⟨rfl, rfl⟩
          · obtain ⟨k1, rfl⟩ : ∃ k1, k = k1 + 1 := ⟨k - 1, by omega⟩
            have c2 := HCJ.out k1 (by omega)
            have HDV := Lib.hid (HCH.out k1 hlt)
            obtain ⟨y, hy⟩ : ∃ y, d k1 = y := ⟨_, rfl⟩
            rw [hy, HZ.out] at HDV
            rw [hy] at c2
            have x1 : IntKind.i64.wrap (((k1 + 1 : Nat) : Int) - 1) = (k1 : Int) := by rw [IntWalk.i64_in _ (by omega)]; omega
            have x1' : IntKind.i64.wrap ((k1 : Int) + 1 - 1) = (k1 : Int) := by rw [IntWalk.i64_in _ (by omega)]; omega
            have x2 : decide ((0 : Int) < ((k1 + 1 : Nat) : Int)) = true := decide_eq_true (by omega)
            have x2' : decide ((0 : Int) < (k1 : Int) + 1) = true := decide_eq_true (by omega)
            clear hy
            by_cases hy0 : y = 0
            · subst hy0
              obtain rfl : z = 0 := Nat.eq_zero_of_zero_dvd HDV.out
              go_wp2_with fail
              go_meet
              case rel => exact ⟨rfl, rfl⟩
            · have y3 : ((y : Int) == 0) = false := by rw [beq_eq_false_iff_ne]; omega
              have y4 : ((y : Int) != 0) = true := by rw [bne_iff_ne]; omega
              have y5 : (z : Int).tmod (y : Int) = 0 := by
                have := Int.ofNat_tmod z y
                rw [Nat.mod_eq_zero_of_dvd HDV.out] at this
                exact this.symm
              have y5' : (z : Int) % (y : Int) = 0 := Int.emod_eq_zero_of_dvd (Int.natCast_dvd_natCast.2 HDV.out)
              have y6 : ¬ (y : Int) = 0 := by omega
              have y7 : IntKind.i64.wrap 0 = 0 := IntWalk.i64_in _ (by omega)
              go_wp2_with fail
              go_meet
              case rel => exact ⟨rfl, rfl⟩
        case rest =>
          obtain ⟨rfl, rfl⟩ := hcut
          clear zn hzl c1
          by_cases hz0 : z = 0
          · subst hz0
            obtain rfl : q2 = 0 := by
              have e : IntKind.i64.wrap 0 = 0 := IntWalk.i64_in _ (by omega)
              have h := y1
              rw [show (q : Int) * ((0 : Nat) : Int) = 0 from Int.mul_zero _, e] at h
              omega
            clear y1
            have HA2 : Hid (a = min (k + 1) r') := by
              have := HA.out
              have : ¬ k < r' := fun h => HSI2.out.nz k h HZ.out
              show a = _
              omega
            clear HA
            go_wp2_with fail
            go_roundw
            case rel => exact ⟨k + 1, a, 0, by omega, by go_num, rfl, by first | rfl | (simp; done), HA2, HQ3, by trivial⟩
            case measure => simp [intOf]; omega
          · have hz0' : ((z : Int) != 0) = true := by rw [bne_iff_ne]; omega
            have HA2 : Hid (a + 1 = min (k + 1) r') := by
              have := HA.out
              have : ¬ r' ≤ k := fun h => hz0 (by rw [← HZ.out]; exact HSI2.out.z k h (by rw [HP.out]; exact hlt))
              show a + 1 = _
              omega
            have hal : a ≤ 12 := by have := HA.out; omega
            clear HA
            go_wp2_with fail
            go_roundw
            case rel => exact ⟨k + 1, a + 1, q2, by omega, by go_num, by go_num, rfl, HA2, HQ3, by trivial⟩
            case measure => simp [intOf]; omega
      · obtain rfl : k = p := by omega
        obtain rfl : a = r' := by have := HA.out; omega
        have hql : q ≤ 1125899906842624 := by
          rw [HQ2.out]
          exact Nat.le_trans (HSI2.out.pr k (by rw [HP.out]; exact Nat.le_refl _)) HBN.out
        have HQ3 := HQ2
        by_cases hnc : n = c
        · subst hnc
          have hdd := HDE.out rfl
          have hpn : k = n := by have := HP.out; omega
          have hde := det_eqv HQ.out
          rw [det_dg, ← pN_pI, ← hpn, ← HQ3.out, hpn, ← hdd.2] at hde
          have HDE0 := Lib.hid hdd.1
          obtain ⟨dv, hdv⟩ : ∃ dv, dtV xss = dv := ⟨_, rfl⟩
          rw [hdv] at hde
          have HDV := Lib.hid hdv
          have x1 : IntKind.i64.wrap (-(q : Int)) = -(q : Int) := IntWalk.i64_in _ (by omega)
          clear hdd hdv HDE HA HQ2 HQ3 hpn
          by_cases e1 : dv = (q : Int)
          · have e2 : (dv == (q : Int)) = true := by rw [beq_iff_eq]; exact e1
            clear hde e1
            go_wp2_with fail
            refine (det_any (cap := cap) H4.out).mono ?_
            rintro e w6 ⟨rfl, hb⟩
            have HB6 := Lib.hid (below_cons HB4.out hb)
            rw [HDE0.out, HDV.out]
            clear hb
            go_wp2_with fail
            go_ret
            exact ⟨rfl, HB6.out⟩
          · have e2 : (dv == (q : Int)) = false := by rw [beq_eq_false_iff_ne]; exact e1
            have e3 : (dv == -(q : Int)) = true := by rw [beq_iff_eq]; omega
            clear hde e1
            go_wp2_with fail
            refine (det_any (cap := cap) H4.out).mono ?_
            rintro e w6 ⟨rfl, hb⟩
            have HB6 := Lib.hid (below_cons HB4.out hb)
            rw [HDE0.out, HDV.out]
            clear hb
            go_wp2_with fail
            go_ret
            exact ⟨rfl, HB6.out⟩
        · have hnc' : ((n : Int) != (c : Int)) = true := by rw [bne_iff_ne]; omega
          clear hnc
          go_wp2_with fail
          go_ret
          exact ⟨rfl, HB4.out⟩
theorem intmatrixDivides_walk : Calls Try.prog 7 #[.slice A xss.length cap] w fun e w' => e = .returned (.bool true) ∧ Below w.heap.size w w' := by
  by_cases h : szB xss 12
  · by_cases hs : Sml xss
    · exact idiv_ok A cap xss w hm h hs
    · exact idiv_big A cap xss w hm h hs
  · exact idiv_no A cap xss w hm h
end
end Go.Proofs.Ytjlokbolmindgaa

