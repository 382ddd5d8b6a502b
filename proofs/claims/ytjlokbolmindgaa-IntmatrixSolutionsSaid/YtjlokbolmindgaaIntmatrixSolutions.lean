/-
  The law IntmatrixSolutions, walked: the call returns true and writes nothing that was there.
-/
import Derived.Test.YtjlokbolmindgaaL26
namespace Go.Proofs.Ytjlokbolmindgaa
open Go.RowKit

section
variable (A : Option Addr) (cap : Nat) (xss : List (List Int)) (a1 : Int) (w : World) (hm : AM w A xss.length xss)
include hm
set_option maxHeartbeats 2000000 in
theorem isol_no (h : ¬ szB xss 12) : Calls Try.prog 5 #[.slice A xss.length cap, .int .u16 a1] w fun e w' => e = .returned (.bool true) ∧ Below w.heap.size w w' := by
  have H := Lib.hid hm
  have HD := Lib.hid (decide_eq_false h)
  clear hm h
  go_enter Try.func5, Try.ntmps5
  go_wp2_with fail
  refine (awake26 w).mono ?_
  rintro e w1 ⟨rfl, hb⟩
  have H1 := Lib.hid (H.out.call hb)
  have HB1 := Lib.hid hb
  clear hb
  go_wp2_with fail
  refine (size_any (cap := cap) H1.out 12).mono ?_
  rintro e w2 ⟨rfl, rfl⟩
  rw [HD.out]
  go_wp2_with fail
  go_ret
  exact ⟨rfl, HB1.out⟩
set_option maxHeartbeats 2000000 in
theorem isol_zero (h : szB xss 12) : Calls Try.prog 5 #[.slice A xss.length cap, .int .u16 0] w fun e w' => e = .returned (.bool true) ∧ Below w.heap.size w w' := by
  have H := Lib.hid hm
  have HD := Lib.hid (decide_eq_true h)
  clear hm h
  go_enter Try.func5, Try.ntmps5
  go_wp2_with fail
  refine (awake26 w).mono ?_
  rintro e w1 ⟨rfl, hb⟩
  have H1 := Lib.hid (H.out.call hb)
  have HB1 := Lib.hid hb
  clear hb
  go_wp2_with fail
  refine (size_any (cap := cap) H1.out 12).mono ?_
  rintro e w2 ⟨rfl, rfl⟩
  rw [HD.out]
  go_wp2_with fail
  go_ret
  exact ⟨rfl, HB1.out⟩
set_option maxHeartbeats 2000000 in
theorem isol_big (h : szB xss 12) (hs : ¬ Sml xss) (q : Nat) (hq : 1 ≤ q ∧ q ≤ 65535) : Calls Try.prog 5 #[.slice A xss.length cap, .int .u16 (q : Nat)] w fun e w' => e = .returned (.bool true) ∧ Below w.heap.size w w' := by
  have H := Lib.hid hm
  have HD := Lib.hid (decide_eq_true h)
  obtain ⟨d, hd⟩ := smD_ex xss
  have HSD := Lib.hid hd
  have HE := Lib.hid (rkE_9 h.1 hs)
  have hk : krE xss q = 9 := by unfold krE; rw [if_pos h.1, if_pos (by omega), if_neg hs]
  have HK := Lib.hid hk
  have HV : Hid (krV xss q = 0) := by unfold krV; rw [if_neg (by rw [hk]; decide)]; exact rfl
  have q0 : ((q : Int) == 0) = false := by rw [beq_eq_false_iff_ne]; omega
  have x1 : IntKind.i64.wrap (q : Int) = (q : Int) := IntWalk.i64_in _ (by omega)
  clear hm h hs hd hk hq
  go_enter Try.func5, Try.ntmps5
  go_wp2_with fail
  refine (awake26 w).mono ?_
  rintro e w1 ⟨rfl, hb⟩
  have H1 := Lib.hid (H.out.call hb)
  have HB1 := Lib.hid hb
  clear hb
  go_wp2_with fail
  refine (size_any (cap := cap) H1.out 12).mono ?_
  rintro e w2 ⟨rfl, rfl⟩
  rw [HD.out]
  go_wp2_with fail
  refine (smith_any (cap := cap) H1.out HSD.out).mono ?_
  rintro e w3 ⟨V, rfl, hV, hb, -⟩
  obtain ⟨A2, c2, rfl, -⟩ := hV.shape
  have H3 := Lib.hid (H1.out.call hb)
  have HB3 := Lib.hid (below_cons HB1.out hb)
  rw [HE.out]
  clear hb hV
  generalize List.length _ = ln
  go_wp2_with fail
  refine (kernel_any (cap := cap) q H3.out).mono ?_
  rintro e w4 ⟨rfl, hb⟩
  have HB4 := Lib.hid (below_cons HB3.out hb)
  rw [HK.out, HV.out]
  clear hb
  go_wp2_with fail
  go_ret
  exact ⟨rfl, HB4.out⟩
set_option maxHeartbeats 4000000 in
theorem isol_ok (h : szB xss 12) (hs : Sml xss) (q : Nat) (hq : 1 ≤ q ∧ q ≤ 65535) : Calls Try.prog 5 #[.slice A xss.length cap, .int .u16 (q : Nat)] w fun e w' => e = .returned (.bool true) ∧ Below w.heap.size w w' := by
  have H := Lib.hid hm
  have HD := Lib.hid (decide_eq_true h)
  obtain ⟨d, hd⟩ := smD_ex xss
  have HSD := Lib.hid hd
  have hR := rkE_0 h.1 hs
  have HE := Lib.hid hR
  obtain ⟨c, hc⟩ : ∃ c, rowL xss 0 = c := ⟨_, rfl⟩
  obtain ⟨p, hp⟩ : ∃ p, min xss.length c = p := ⟨_, rfl⟩
  have hk : krE xss q = if pN c (soN p q d) ≤ 1125899906842624 then 0 else 9 := by
    unfold krE
    rw [if_pos h.1, if_pos (by omega), if_pos hs, Int.toNat_natCast, ker_soN hd hq.1, hc, hp]
  have HK := Lib.hid hk
  have HV : Hid (krV xss q = if pN c (soN p q d) ≤ 1125899906842624 then pN c (soN p q d) else 0) := by
    unfold krV
    rw [hk, Int.toNat_natCast, ker_soN hd hq.1, hc, hp]
    show (if _ then _ else _) = (if _ then _ else _)
    by_cases e : pN c (soN p q d) ≤ 1125899906842624
    · rw [if_pos e, if_pos e, if_pos rfl]
    · rw [if_neg e, if_neg e, if_neg (by decide)]
  have hL : smL xss d = (List.range p).map fun j => (d j : Int) := by unfold smL; rw [if_pos hR, hc, hp]
  have HL := Lib.hid hL
  have hsh : shp xss = (c : Nat) := by unfold shp; rw [if_pos h.1, hc]
  have HSH := Lib.hid hsh
  have hc12 : c ≤ 12 := by have := h.2.1; omega
  have hp12 : p ≤ 12 := by omega
  have HDL : Hid ((∃ r v, ElR xss.length (rowL xss 0) (eI xss) r v) → ∀ j, j < p → d j ≤ 1125899906842624) := by
    rintro ⟨r, v, hE⟩ j hj
    exact Nat.le_trans (elr_le hE hd.eq hd.ch (j := j) (by rw [hc, hp]; exact hj)) hs.lt
  have q0 : ((q : Int) == 0) = false := by rw [beq_eq_false_iff_ne]; omega
  have x1 : IntKind.i64.wrap (q : Int) = (q : Int) := IntWalk.i64_in _ (by omega)
  obtain ⟨hq1, hq2⟩ := hq
  clear hm h hs hd hk hR hc hp hL hsh
  go_enter Try.func5, Try.ntmps5
  go_wp2_with fail
  refine (awake26 w).mono ?_
  rintro e w1 ⟨rfl, hb⟩
  have H1 := Lib.hid (H.out.call hb)
  have HB1 := Lib.hid hb
  clear hb
  go_wp2_with fail
  refine (size_any (cap := cap) H1.out 12).mono ?_
  rintro e w2 ⟨rfl, rfl⟩
  rw [HD.out, HSH.out]
  go_wp2_with fail
  refine (smith_any (cap := cap) H1.out HSD.out).mono ?_
  rintro e w3 ⟨V, rfl, hV, hb, hE⟩
  rw [HL.out] at hV
  obtain ⟨A2, c2, rfl, -, -, hri⟩ := hV.reads
  have H3 := Lib.hid (H1.out.call hb)
  have HB3 := Lib.hid (below_cons HB1.out hb)
  have HRI := Lib.hid (hri.imp (T := (· < w3.heap.size)) fun _ h => h.2)
  have HDL2 := Lib.hid (HDL.out (hE HE.out))
  have hlen : ((List.range p).map fun j => (d j : Int)).length = p := by simp
  rw [hlen, HE.out]
  clear hb hV hri hE hlen HDL
  go_wp2_with fail
  refine (kernel_any (cap := cap) q H3.out).mono ?_
  rintro e w4 ⟨rfl, hb⟩
  have HB4 := Lib.hid (below_cons HB3.out hb)
  have HRI4 := Lib.hid (HRI.out.below hb)
  clear hb HRI
  obtain ⟨er, hk⟩ : ∃ er, krE xss q = er := ⟨_, rfl⟩
  obtain ⟨kv, hv⟩ : ∃ kv, krV xss q = kv := ⟨_, rfl⟩
  rw [hk] at HK ⊢
  rw [hv] at HV ⊢
  clear hk hv
  go_wp2_with fail
  go_loopw [11, 52] (fun a' k' wr => ∃ k a : Nat, k ≤ c ∧ k' = .int .i64 k ∧ a' = .int .i64 a ∧ Hid (a = pN k (soN p q d)) ∧ 1 ≤ a ∧ a ≤ 1125899906842624 ∧ Hid (∃ N, wr = w4.drewN N)) (fun _ k _ => c - (intOf k).toNat)
  case atStart => exact ⟨0, 1, Nat.zero_le _, rfl, rfl, rfl, by decide, by decide, ⟨0, rfl⟩⟩
  case round =>
    obtain ⟨k, a, hk, rfl, rfl, HA, ha1, ha2, HW⟩ := hrel
    by_cases hlt : k < c
    · have hs1 := soN_pos (p := p) (d := d) hq1 k
      have hs2 := soN_le (p := p) (d := d) hq1 k
      have HPN : Hid (pN (k + 1) (soN p q d) = a * soN p q d k) := by show pN k _ * _ = _; rw [← HA.out]
      have HMO : Hid (pN (k + 1) (soN p q d) ≤ pN c (soN p q d)) := pN_mono (fun i _ => soN_pos hq1 i) (by omega)
      have HSO := Lib.hid (show soN p q d k = (if k < p then Nat.gcd q (d k) else q) from rfl)
      obtain ⟨s, hs⟩ : ∃ s, soN p q d k = s := ⟨_, rfl⟩
      rw [hs] at hs1 hs2 HPN HSO
      obtain ⟨g, hg⟩ : ∃ g, 1125899906842624 / s = g := ⟨_, rfl⟩
      have z1 : (1125899906842624 : Int).tdiv (s : Int) = (g : Int) := by rw [← hg]; exact Int.ofNat_tdiv 1125899906842624 s
      have z1' : (1125899906842624 : Int) / (s : Int) = (g : Int) := by rw [← hg]; rfl
      have hgl : g ≤ 1125899906842624 := by rw [← hg]; exact Nat.div_le_self _ _
      have z3 : IntKind.i64.wrap (g : Int) = (g : Int) := IntWalk.i64_in _ (by omega)
      have z4 : ¬ (s : Int) = 0 := by omega
      have HDV : Hid (g < a ↔ 1125899906842624 < a * s) := by rw [← hg]; exact Nat.div_lt_iff_lt_mul (by omega)
      obtain ⟨N, rfl⟩ := HW.out
      clear hg hs HW
      go_upto_if 60 with fail
      go_cut [13] from 60 to 67 (fun v wx => v = .int .i64 s ∧ Hid (∃ N, wx = w4.drewN N))
      case first =>
        by_cases hkp : k < p
        · have e := HSO.out
          rw [if_pos hkp] at e
          obtain ⟨bk, ok, rfl, -, hcj⟩ := HRI4.out.at_ (k := k) (by simpa using hkp)
          have c1 := hcj k (by simpa using hkp)
          rw [gi_map_range hkp] at c1
          have hdl := HDL2.out k hkp
          obtain ⟨z, hz⟩ : ∃ z, d k = z := ⟨_, rfl⟩
          rw [hz] at c1 hdl e
          have HGC : Hid (∀ w, Calls Try.prog 19 #[.int .i64 q, .int .i64 z] w fun e w' => e = .returned (.int .i64 (s : Nat)) ∧ ∃ n, w' = w.drewN n) := by
            rw [e]; exact rgcd_any q z (by omega) (by omega)
          clear hcj hz e hdl
          go_wp2_with fail
          refine (HGC.out _).mono ?_
          rintro e w3 ⟨rfl, n3, rfl⟩
          go_wp2_with fail
          go_meet
          case rel => exact ⟨rfl, ⟨N + n3, rfl⟩⟩
        · have e := HSO.out
          rw [if_neg hkp] at e
          subst e
          go_wp2_with fail
          go_meet
          case rel => exact ⟨rfl, ⟨N, rfl⟩⟩
      case rest =>
        obtain ⟨rfl, HW⟩ := hcut
        by_cases hbig : g < a
        · have hb2 := HDV.out.1 hbig
          have h1 := HMO.out
          rw [HPN.out] at h1
          have hE9 := HK.out
          rw [if_neg (by omega)] at hE9
          have hV0 := HV.out
          rw [if_neg (by omega)] at hV0
          subst hE9 hV0
          have z5 : decide (g < a) = true := decide_eq_true hbig
          clear hb2 h1
          go_wp2_with fail
          go_ret
          refine ⟨rfl, ?_⟩
          obtain ⟨N2, rfl⟩ := HW.out
          exact below_drewN HB4.out N2
        · have hb2 : a * s ≤ 1125899906842624 := Nat.le_of_not_lt fun h => hbig (HDV.out.2 h)
          obtain ⟨t, ht⟩ : ∃ t, a * s = t := ⟨_, rfl⟩
          rw [ht] at hb2
          have ht1 : 1 ≤ t := by rw [← ht]; exact Nat.mul_pos (by omega) (by omega)
          have y1 : IntKind.i64.wrap ((a : Int) * (s : Int)) = (t : Int) := by rw [← Int.natCast_mul, ht]; exact IntWalk.i64_in _ (by omega)
          have HA' : Hid (t = pN (k + 1) (soN p q d)) := by
            rw [HPN.out, ht]; exact rfl
          have z5 : decide (g < a) = false := decide_eq_false hbig
          clear ht HA
          go_wp2_with fail
          go_roundw
          case rel => exact ⟨k + 1, t, by omega, by go_num, rfl, HA', ht1, hb2, HW⟩
          case measure => simp [intOf]; omega
    · obtain rfl : k = c := by omega
      have hle : pN k (soN p q d) ≤ 1125899906842624 := by rw [← HA.out]; exact ha2
      have hE9 := HK.out
      rw [if_pos hle] at hE9
      have hV0 := HV.out
      rw [if_pos hle, ← HA.out] at hV0
      subst hE9 hV0
      clear hle
      go_wp2_with fail
      go_ret
      refine ⟨rfl, ?_⟩
      obtain ⟨N2, rfl⟩ := HW.out
      exact below_drewN HB4.out N2
theorem intmatrixSolutions_walk (h1 : (Lit.int .u16 a1).wf = true) : Calls Try.prog 5 #[.slice A xss.length cap, .int .u16 a1] w fun e w' => e = .returned (.bool true) ∧ Below w.heap.size w w' := by
  obtain ⟨h2, h3⟩ := u16_wf h1
  obtain ⟨q, rfl⟩ : ∃ q : Nat, a1 = q := ⟨a1.toNat, by omega⟩
  by_cases h : szB xss 12
  · by_cases h0 : q = 0
    · subst h0
      exact isol_zero A cap xss w hm h
    · by_cases hs : Sml xss
      · exact isol_ok A cap xss w hm h hs q (by omega)
      · exact isol_big A cap xss w hm h hs q (by omega)
  · exact isol_no A cap xss _ w hm h
end
end Go.Proofs.Ytjlokbolmindgaa

