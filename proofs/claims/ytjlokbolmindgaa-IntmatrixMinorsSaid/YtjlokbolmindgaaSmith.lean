/-
  The contracts of Smith and Kernel.
-/
import Derived.Test.YtjlokbolmindgaaDR
import Derived.Test.YtjlokbolmindgaaFac
namespace Go.Proofs.Ytjlokbolmindgaa
open Go.RowKit

/-- d are the invariant factors -/
structure SmD (xss : List (List Int)) (d : Nat → Nat) : Prop where
  eq : Eqv xss.length (rowL xss 0) (eI xss) (dgM d)
  ch : Chain d (min xss.length (rowL xss 0))
theorem smD_ex (xss : List (List Int)) : ∃ d, SmD xss d := by
  obtain ⟨d, h1, h2⟩ := smith_ex xss.length (rowL xss 0) (eI xss)
  exact ⟨d, h1, h2⟩
/-- the list of Smith -/
def smL (xss : List (List Int)) (d : Nat → Nat) : List Int := if rkE xss = 0 then (List.range (min xss.length (rowL xss 0))).map fun j => (d j : Int) else []
set_option maxHeartbeats 4000000 in
theorem smith_any {w : World} {A : Option Addr} {n cap : Nat} {xss : List (List Int)} {d : Nat → Nat} (h : AM w A n xss) (hd : SmD xss d) :
    Calls Try.prog 14 #[.slice A n cap] w fun e w' => ∃ V, e = .returned (.tuple #[V, .int .i64 (rkE xss : Nat)]) ∧ OI w' w.heap.size V (smL xss d) ∧ Below w.heap.size w w' ∧ (rkE xss = 0 → ∃ r v, ElR xss.length (rowL xss 0) (eI xss) r v) := by
  have H := Lib.hid h
  have HD := Lib.hid hd
  clear h hd
  by_cases hm : IsM xss
  · have H1 := Lib.hid (H.out.ism (cap := cap) true (decide_eq_true hm))
    have HM := Lib.hid hm
    by_cases hs : Sml xss
    · have H2 := Lib.hid (H.out.sml (cap := cap) hm true (decide_eq_true hs))
      have H3 := Lib.hid (H.out.elim (cap := cap) hm hs)
      have HE := Lib.hid (show rkE xss = 0 by unfold rkE; rw [if_pos hm, if_pos hs])
      have HS := Lib.hid hs
      clear hm hs
      go_enter Try.func14, Try.ntmps14
      go_wp2_with fail
      refine H1.out.mono ?_
      rintro e w1 ⟨rfl, rfl⟩
      go_wp2_with fail
      refine H2.out.mono ?_
      rintro e w1 ⟨rfl, rfl⟩
      go_wp2_with fail
      refine H3.out.mono ?_
      rintro e w1 ⟨r, v, rfl, hb, hr⟩
      have hvb := hr.bd
      have hsb := HS.out
      unfold Sml at hsb
      rw [H.out.ln] at hsb
      have HA := Lib.hid (abs_any v (by omega) (by omega))
      obtain ⟨q, hq⟩ : ∃ q, v.natAbs = q := ⟨_, rfl⟩
      have hql : q ≤ 1125899906842624 := by omega
      rw [hq] at HA
      obtain ⟨M, hM⟩ : ∃ M, 2 * q = M := ⟨_, rfl⟩
      have x1 : IntKind.u64.wrap (2 * (q : Int)) = (M : Int) := by rw [show (2 : Int) * (q : Int) = (M : Int) by omega]; exact wrapN _ (by omega)
      have hA1 := H.out.call hb
      have hln := H.out.ln
      have hmm := HM.out
      have HF := Lib.hid (factors_any A cap xss n (rowL xss 0) r v d w1 _ hA1.rd (fun _ h => h) hln (fun i hi => hmm.1 i (by omega)) rfl (by have := hmm.2.1; omega) hmm.2.2
        (fun i j hi hj => by have := bnd_ent (m := eI xss) hi hj; omega) M (by omega) (by omega) hr (by have := HD.out.eq; rwa [hln] at this) _ rfl (by have := HD.out.ch; rwa [hln] at this))
      have HB := Lib.hid hb
      have HR := Lib.hid hr
      clear hvb hsb hb hr hq hM hA1 hmm
      go_wp2_with fail
      refine (HA.out w1).mono ?_
      rintro e w2 ⟨rfl, rfl⟩
      go_wp2_with fail
      refine HF.out.mono ?_
      rintro e w2 ⟨V, rfl, hV, hb2⟩
      have HV := Lib.hid hV
      have HB2 := Lib.hid hb2
      clear hV hb2
      obtain ⟨A2, c2, rfl, -⟩ := HV.out.shape
      have HL := Lib.hid hln
      clear hln
      generalize List.length _ = ln at HV
      go_wp2_with fail
      go_ret2
      refine ⟨_, by rw [HE.out]; rfl, ?_, HB.out.trans (HB2.out.mono HB.out.size), fun _ => ⟨r, v, by rw [HL.out]; exact HR.out⟩⟩
      unfold smL
      rw [if_pos HE.out, HL.out]
      exact HV.out.mono HB.out.size
    · have H2 := Lib.hid (H.out.sml (cap := cap) hm false (decide_eq_false hs))
      have HE := Lib.hid (show rkE xss = 9 by unfold rkE; rw [if_pos hm, if_neg hs])
      clear hm hs
      go_enter Try.func14, Try.ntmps14
      go_wp2_with fail
      refine H1.out.mono ?_
      rintro e w1 ⟨rfl, rfl⟩
      go_wp2_with fail
      refine H2.out.mono ?_
      rintro e w1 ⟨rfl, rfl⟩
      go_wp2_with fail
      go_ret2
      refine ⟨_, by rw [HE.out]; rfl, ?_, Below.refl _ _, fun e => by rw [HE.out] at e; cases e⟩
      unfold smL
      rw [if_neg (by rw [HE.out]; decide)]
      exact OR.nil _ _
  · have H1 := Lib.hid (H.out.ism (cap := cap) false (decide_eq_false hm))
    have HE := Lib.hid (show rkE xss = 1 by unfold rkE; rw [if_neg hm])
    clear hm
    go_enter Try.func14, Try.ntmps14
    go_wp2_with fail
    refine H1.out.mono ?_
    rintro e w1 ⟨rfl, rfl⟩
    go_wp2_with fail
    go_ret2
    refine ⟨_, by rw [HE.out]; rfl, ?_, Below.refl _ _, fun e => by rw [HE.out] at e; cases e⟩
    unfold smL
    rw [if_neg (by rw [HE.out]; decide)]
    exact OR.nil _ _
/-- the error of Kernel; the number of solutions -/
def krE (xss : List (List Int)) (md : Int) : Nat := if IsM xss then if 1 ≤ md ∧ md ≤ 1125899906842624 then if Sml xss then if kerN xss.length (rowL xss 0) (eI xss) md.toNat ≤ 1125899906842624 then 0 else 9 else 9 else 2 else 1
def krV (xss : List (List Int)) (md : Int) : Nat := if krE xss md = 0 then kerN xss.length (rowL xss 0) (eI xss) md.toNat else 0
/-- the numbers that are multiplied -/
def soN (p : Nat) (q : Nat) (d : Nat → Nat) (j : Nat) : Nat := if j < p then Nat.gcd q (d j) else q
theorem ker_soN {xss : List (List Int)} {d : Nat → Nat} (h : SmD xss d) {q : Nat} (hq : 0 < q) : kerN xss.length (rowL xss 0) (eI xss) q = pN (rowL xss 0) (soN (min xss.length (rowL xss 0)) q d) := by
  rw [← ker_eqv hq h.eq, ker_diag hq]
  refine pN_congr fun j hj => ?_
  unfold soN
  by_cases e : j < xss.length
  · rw [if_pos e, if_pos (by omega)]
  · rw [if_neg e, if_neg (by omega)]
theorem soN_pos {p q : Nat} {d : Nat → Nat} (hq : 0 < q) (j : Nat) : 1 ≤ soN p q d j := by
  unfold soN
  split
  · exact Nat.gcd_pos_of_pos_left _ hq
  · exact hq
theorem soN_le {p q : Nat} {d : Nat → Nat} (hq : 0 < q) (j : Nat) : soN p q d j ≤ q := by
  unfold soN
  split
  · exact Nat.le_of_dvd hq (Nat.gcd_dvd_left ..)
  · exact Nat.le_refl _
theorem gi_map_range {p j : Nat} {d : Nat → Nat} (hj : j < p) : gi ((List.range p).map fun j => (d j : Int)) j = d j := by
  rw [gi_lt (by simpa using hj)]; simp
theorem elr_le {n c r : Nat} {m : Mx} {v : Int} {d : Nat → Nat} (h : ElR n c m r v) (he : Eqv n c m (dgM d)) (hd : Chain d (min n c)) {j : Nat} (hj : j < min n c) : d j ≤ bndM n c m := by
  obtain ⟨h1, h2⟩ := elr_fac h he hd
  by_cases hjr : j < r
  · exact Nat.le_trans (Nat.le_of_dvd (Int.natAbs_pos.2 h.nz) (h1 j hjr)) h.bd
  · rw [h2 j (by omega) hj]; exact Nat.zero_le _
set_option maxHeartbeats 4000000 in
theorem kernel_any {w : World} {A : Option Addr} {n cap : Nat} {xss : List (List Int)} (md : Int) (h : AM w A n xss) :
    Calls Try.prog 17 #[.slice A n cap, .int .i64 md] w fun e w' => e = .returned (.tuple #[.int .i64 (krV xss md : Nat), .int .i64 (krE xss md : Nat)]) ∧ Below w.heap.size w w' := by
  have H := Lib.hid h
  have HV : Hid (∀ e, e ≠ 0 → krE xss md = e → krV xss md = 0) := fun e h1 h2 => by unfold krV; rw [if_neg (by rw [h2]; exact h1)]
  clear h
  by_cases hm : IsM xss
  · have H1 := Lib.hid (H.out.ism (cap := cap) true (decide_eq_true hm))
    have HM := Lib.hid hm
    by_cases h1 : md < 1
    · have HE := Lib.hid (show krE xss md = 2 by unfold krE; rw [if_pos hm, if_neg (by omega)])
      have HV2 := Lib.hid (HV.out 2 (by decide) HE.out)
      clear hm HV
      go_enter Try.func17, Try.ntmps17
      go_wp2_with fail
      refine H1.out.mono ?_
      rintro e w1 ⟨rfl, rfl⟩
      go_wp2_with fail
      go_ret2
      exact ⟨by rw [HE.out, HV2.out]; rfl, Below.refl _ _⟩
    · by_cases h2 : 1125899906842624 < md
      · have HE := Lib.hid (show krE xss md = 2 by unfold krE; rw [if_pos hm, if_neg (by omega)])
        have HV2 := Lib.hid (HV.out 2 (by decide) HE.out)
        clear hm HV
        go_enter Try.func17, Try.ntmps17
        go_wp2_with fail
        refine H1.out.mono ?_
        rintro e w1 ⟨rfl, rfl⟩
        go_wp2_with fail
        go_ret2
        exact ⟨by rw [HE.out, HV2.out]; rfl, Below.refl _ _⟩
      · obtain ⟨q, rfl⟩ : ∃ q : Nat, md = q := ⟨md.toNat, by omega⟩
        have hq1 : 1 ≤ q := by omega
        have hq2 : q ≤ 1125899906842624 := by omega
        obtain ⟨d, hd⟩ := smD_ex xss
        have HD := Lib.hid hd
        have HS := Lib.hid (smith_any (cap := cap) H.out hd)
        clear hd h1 h2
        by_cases hs : Sml xss
        · have hR : rkE xss = 0 := by unfold rkE; rw [if_pos hm, if_pos hs]
          have HR := Lib.hid hR
          have HSM := Lib.hid hs
          have hl := H.out.ln
          have hc64 := hm.2.2
          obtain ⟨c, hc⟩ : ∃ c, rowL xss 0 = c := ⟨_, rfl⟩
          obtain ⟨p, hp⟩ : ∃ p, min n c = p := ⟨_, rfl⟩
          have HC := Lib.hid (H.out.cols (cap := cap))
          have HKN : Hid (kerN xss.length (rowL xss 0) (eI xss) q = pN c (soN p q d)) := by
            rw [ker_soN HD.out hq1, hc, hl, hp]
            exact rfl
          have HE : Hid (krE xss q = if pN c (soN p q d) ≤ 1125899906842624 then 0 else 9) := by
            unfold krE
            rw [if_pos hm, if_pos ⟨by omega, by omega⟩, if_pos hs, Int.toNat_natCast, HKN.out]
            exact rfl
          rw [hc] at hc64 HC
          have HCE := Lib.hid hc
          have HPE := Lib.hid hp
          have hpl : p ≤ 64 := by omega
          clear hm hs hR hl hc hp
          go_enter Try.func17, Try.ntmps17
          go_wp2_with fail
          refine H1.out.mono ?_
          rintro e w1 ⟨rfl, rfl⟩
          go_wp2_with fail
          refine HS.out.mono ?_
          rintro e w1 ⟨V, rfl, hV, hb, hr⟩
          have hL : smL xss d = (List.range p).map fun j => (d j : Int) := by unfold smL; rw [if_pos HR.out, H.out.ln, HCE.out, HPE.out]
          rw [hL] at hV
          obtain ⟨A2, c2, rfl, -, -, hri⟩ := hV.reads
          have HRI := Lib.hid hri
          have HB := Lib.hid hb
          have HDL : Hid (∀ j, j < p → d j ≤ 1125899906842624) := fun j hj => by
            obtain ⟨r, v, hE⟩ := hr HR.out
            have h1 := elr_le hE HD.out.eq HD.out.ch (j := j) (by rw [H.out.ln, HCE.out, HPE.out]; exact hj)
            exact Nat.le_trans h1 HSM.out
          have hlen : ((List.range p).map fun j => (d j : Int)).length = p := by simp
          rw [hlen]
          have HR0 := Lib.hid (show ((rkE xss : Nat) : Int) = 0 by rw [HR.out]; rfl)
          rw [HR0.out]
          have HC1 := Lib.hid ((H.out.call hb).cols (cap := cap))
          rw [HCE.out] at HC1
          clear hV hri hb hr hL hlen HS HC
          go_wp2_with fail
          refine HC1.out.mono ?_
          rintro e w2 ⟨rfl, rfl⟩
          go_wp2_with fail
          go_loopw [8, 30] (fun a' k' wr => ∃ k a : Nat, k ≤ c ∧ k' = .int .i64 k ∧ a' = .int .i64 a ∧ Hid (a = pN k (soN p q d)) ∧ 1 ≤ a ∧ a ≤ 1125899906842624 ∧ Hid (∃ N, wr = w1.drewN N)) (fun _ k _ => c - (intOf k).toNat)
          case atStart => exact ⟨0, 1, Nat.zero_le _, rfl, rfl, rfl, by decide, by decide, ⟨0, rfl⟩⟩
          case round =>
            obtain ⟨k, a, hk, rfl, rfl, HA, ha1, ha2, HW⟩ := hrel
            by_cases hlt : k < c
            · have hs1 := soN_pos (p := p) (d := d) hq1 k
              have hs2 := soN_le (p := p) (d := d) hq1 k
              have HPN : Hid (pN (k + 1) (soN p q d) = a * soN p q d k) := by show pN k _ * _ = _; rw [← HA.out]
              have HMO : Hid (pN (k + 1) (soN p q d) ≤ pN c (soN p q d)) := pN_mono (fun i _ => soN_pos hq1 i) (by omega)
              obtain ⟨g, hg⟩ : ∃ g, 1125899906842624 / a = g := ⟨_, rfl⟩
              have HG := Lib.hid hg
              have HSO := Lib.hid (show soN p q d k = (if k < p then Nat.gcd q (d k) else q) from rfl)
              obtain ⟨s, hs⟩ : ∃ s, soN p q d k = s := ⟨_, rfl⟩
              rw [hs] at hs1 hs2 HPN HSO
              have x1 : (1125899906842624 : Int).tdiv (a : Int) = (g : Int) := by rw [← hg]; exact Int.ofNat_tdiv 1125899906842624 a
              have x1' : (1125899906842624 : Int) / (a : Int) = (g : Int) := by rw [← hg]; rfl
              have hgl : g ≤ 1125899906842624 := by rw [← hg]; exact Nat.div_le_self _ _
              have x3 : IntKind.i64.wrap (g : Int) = (g : Int) := IntWalk.i64_in (g : Int) (by omega)
              have x4 : ¬ (a : Int) = 0 := by omega
              have HDV : Hid (g < s ↔ 1125899906842624 < s * a) := by rw [← hg]; exact Nat.div_lt_iff_lt_mul (by omega)
              obtain ⟨N, rfl⟩ := HW.out
              clear hg hs HW
              go_upto_if 37 with fail
              go_cut [10] from 37 to 46 (fun v wx => v = .int .i64 s ∧ Hid (∃ N, wx = w1.drewN N))
              case first =>
                by_cases hkp : k < p
                · have e := HSO.out
                  rw [if_pos hkp] at e
                  obtain ⟨bk, ok, rfl, -, hcj⟩ := HRI.out.at_ (k := k) (by simpa using hkp)
                  have c1 := hcj k (by simpa using hkp)
                  rw [gi_map_range hkp] at c1
                  have hdl := HDL.out k hkp
                  obtain ⟨z, hz⟩ : ∃ z, d k = z := ⟨_, rfl⟩
                  rw [hz] at c1 hdl e
                  have y1 : IntKind.u64.wrap (q : Int) = (q : Int) := wrapN _ (by omega)
                  have y2 : IntKind.u64.wrap (z : Int) = (z : Int) := wrapN _ (by omega)
                  have y3 : IntKind.i64.wrap (s : Int) = (s : Int) := IntWalk.i64_in (s : Int) (by omega)
                  have HGC : Hid (∀ w, Calls Try.prog 34 #[.int .u64 q, .int .u64 z] w fun e w' => e = .returned (.int .u64 (s : Nat)) ∧ ∃ n, w' = w.drewN n) := by
                    rw [e]; exact gcd_any q z (by omega) (by omega)
                  clear hcj hz e hdl
                  go_wp2_with fail
                  refine (HGC.out _).mono ?_
                  rintro e w3 ⟨rfl, n3, rfl⟩
                  go_wp2_with fail
                  go_meet
                  case rel => exact ⟨rfl, ⟨N + n3, rfl⟩⟩
                · have e := HSO.out
                  rw [if_neg hkp] at e
                  subst e
                  go_wp2_with fail
                  go_meet
                  case rel => exact ⟨rfl, ⟨N, rfl⟩⟩
              case rest =>
                obtain ⟨rfl, HW⟩ := hcut
                by_cases hbig : g < s
                · have hb2 := HDV.out.1 hbig
                  have hE : krE xss q = 9 := by
                    have h1 := HMO.out
                    rw [HPN.out, Nat.mul_comm] at h1
                    rw [HE.out, if_neg (by omega)]
                  have HE9 := Lib.hid hE
                  have HV9 := Lib.hid (HV.out 9 (by decide) hE)
                  have z1 : decide (g < s) = true := decide_eq_true hbig
                  clear hb2 hE
                  go_wp2_with fail
                  go_ret2
                  refine ⟨by rw [HE9.out, HV9.out]; rfl, ?_⟩
                  obtain ⟨N2, rfl⟩ := HW.out
                  exact ⟨HB.out.os, HB.out.tape, HB.out.output, HB.out.size, HB.out.block⟩
                · have hb2 : s * a ≤ 1125899906842624 := Nat.le_of_not_lt fun h => hbig (HDV.out.2 h)
                  obtain ⟨t, ht⟩ : ∃ t, a * s = t := ⟨_, rfl⟩
                  rw [Nat.mul_comm, ht] at hb2
                  have ht1 : 1 ≤ t := by rw [← ht]; exact Nat.mul_pos (by omega) (by omega)
                  have y1 : IntKind.i64.wrap ((a : Int) * (s : Int)) = (t : Int) := by rw [← Int.natCast_mul, ht]; exact IntWalk.i64_in (t : Int) (by omega)
                  have HA' : Hid (t = pN (k + 1) (soN p q d)) := by
                    rw [HPN.out, ht]; exact rfl
                  have z1 : decide (g < s) = false := decide_eq_false hbig
                  clear ht HA
                  go_wp2_with fail
                  go_roundw
                  case rel => exact ⟨k + 1, t, by omega, by go_num, rfl, HA', ht1, hb2, HW⟩
                  case measure => simp [intOf]; omega
            · obtain rfl : k = c := by omega
              have HK0 : Hid (krE xss q = 0) := by
                have h := HE.out
                rw [if_pos (by rw [← HA.out]; omega)] at h
                exact h
              have HKV : Hid (krV xss q = a) := by
                unfold krV
                rw [if_pos HK0.out, Int.toNat_natCast, HKN.out, HA.out]
                exact rfl
              go_wp2_with fail
              go_ret2
              refine ⟨by rw [HK0.out, HKV.out]; rfl, ?_⟩
              obtain ⟨N2, rfl⟩ := HW.out
              exact ⟨HB.out.os, HB.out.tape, HB.out.output, HB.out.size, HB.out.block⟩
        · have hE : krE xss q = 9 := by unfold krE; rw [if_pos hm, if_pos ⟨by omega, by omega⟩, if_neg hs]
          have HE := Lib.hid hE
          have HV2 := Lib.hid (HV.out 9 (by decide) hE)
          have HR0 := Lib.hid (show ((rkE xss : Nat) : Int) = 9 by unfold rkE; rw [if_pos hm, if_neg hs]; rfl)
          clear hm hs hE HV
          go_enter Try.func17, Try.ntmps17
          go_wp2_with fail
          refine H1.out.mono ?_
          rintro e w1 ⟨rfl, rfl⟩
          go_wp2_with fail
          refine HS.out.mono ?_
          rintro e w1 ⟨V, rfl, hV, hb, -⟩
          obtain ⟨A2, c2, rfl, -⟩ := hV.shape
          have HB := Lib.hid hb
          rw [HR0.out]
          clear hb hV
          go_wp2_with fail
          go_ret2
          exact ⟨by rw [HE.out, HV2.out]; rfl, HB.out⟩
  · have H1 := Lib.hid (H.out.ism (cap := cap) false (decide_eq_false hm))
    have HE := Lib.hid (show krE xss md = 1 by unfold krE; rw [if_neg hm])
    have HV2 := Lib.hid (HV.out 1 (by decide) HE.out)
    clear hm HV
    go_enter Try.func17, Try.ntmps17
    go_wp2_with fail
    refine H1.out.mono ?_
    rintro e w1 ⟨rfl, rfl⟩
    go_wp2_with fail
    go_ret2
    exact ⟨by rw [HE.out, HV2.out]; rfl, Below.refl _ _⟩
end Go.Proofs.Ytjlokbolmindgaa

