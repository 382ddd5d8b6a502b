/-
  The reference's Longitude.
-/
import Derived.Test.YtcjgfncbecbhjaaLong
import Derived.Test.YtcjgfncbecbhjaaRCmp
import Derived.Test.YtcjgfncbecbhjaaSame
namespace Go.Proofs.Ytcjgfncbecbhjaa
open Go.RowKit

theorem RI.cell {w : World} {S : Nat → Prop} {b off : Nat} {xs : List Int} {k : Nat} (h : RI w S (some ⟨b, off, none⟩) xs) (hk : k < xs.length) : w.cell? ⟨b, off + k, none⟩ = some (.int .i64 (gi xs k)) := by
  obtain ⟨b', off', e, -, hc⟩ := h.at_ hk
  injection e with e
  injection e with e1 e2
  subst e1 e2
  exact hc k hk
section
variable (A1 A2 : Option Addr) (c1 c2 : Nat) (sg mt : List Int) (L : Int) (w : World) (S : Nat → Prop) (hx : RI w S A1 sg) (hy : RI w S A2 mt) (hS : ∀ b, S b → b < w.heap.size)
include hx hy hS
set_option maxHeartbeats 2000000 in
theorem rlong_out (ci : Int) (hd : IsD sg mt L) (hci : ((strandsL sg mt).length : Int) ≤ ci) :
    Calls Try.prog 33 #[.agg #[.slice A1 sg.length c1, .slice A2 mt.length c2, .int .i64 L], .int .i64 ci] w fun e w' => e = .returned (.slice none 0 0) ∧ Below w.heap.size w w' := by
  have HD := Lib.hid (DBox.start (c1 := c1) (c2 := c2) (L := L) S hx hy hS)
  have H := Lib.hid hd
  clear hx hy hS hd
  go_enter Try.func33, Try.ntmps33
  go_wp2_with fail
  refine (rstrands_any A1 A2 c1 c2 sg mt L _ (· < (w.alloc (.cells #[.slice A1 sg.length c1, .slice A2 mt.length c2, .int .i64 L] 24)).heap.size) HD.out.rs HD.out.rm (fun _ h => h) H.out).mono ?_
  rintro e w1 ⟨v, rfl, hr, hb⟩
  obtain ⟨As, cs, rfl, -⟩ := hr.reads
  rw [rows_cycs_length]
  have HB1 := Lib.hid (below_box (o := (.cells #[.slice A1 sg.length c1, .slice A2 mt.length c2, .int .i64 L] 24)) (by simpa using hb))
  obtain ⟨ns, hns⟩ : ∃ n, (strandsL sg mt).length = n := ⟨_, rfl⟩
  rw [hns] at hci ⊢
  clear hr hb hns HD
  go_wp2_with fail
  go_ret
  exact ⟨rfl, HB1.out⟩
set_option maxRecDepth 100000 in
set_option maxHeartbeats 8000000 in
theorem rlong_ok (i : Nat) (hd : IsD sg mt L) (hi : i < (strandsL sg mt).length) :
    Calls Try.prog 33 #[.agg #[.slice A1 sg.length c1, .slice A2 mt.length c2, .int .i64 L], .int .i64 (i : Int)] w fun e w' => ∃ v, e = .returned v ∧ OI w' w.heap.size v (lonL sg mt i) ∧ Below w.heap.size w w' := by
  have HD := Lib.hid (DBox.start (c1 := c1) (c2 := c2) (L := L) S hx hy hS)
  have H := Lib.hid hd
  have HI := Lib.hid hi
  have hsg := hd.1
  have hmt := hd.2.1
  have hnl : (strandsL sg mt).length ≤ 256 := by
    have h1 := strandsL_most sg mt
    omega
  obtain ⟨p, hp⟩ : ∃ p, (stN sg mt i).length = p := ⟨_, rfl⟩
  have hp0 : 0 < p := by rw [← hp]; exact st_pos hd hi
  have hp1 : p ≤ 256 := by rw [← hp]; have := stN_len hd.2.2.2.2.2.1 hd.2.1 hi; omega
  have HP := Lib.hid hp
  have hac : arC sg mt ≤ 256 := by
    have h1 := cnt_le (headB (arR sg mt)) mt.length
    unfold arC; omega
  have HAC := Lib.hid hac
  have HMT := Lib.hid hmt
  clear hx hy hS hd hp hac hmt
  go_enter Try.func33, Try.ntmps33
  go_wp2_with fail
  refine (rstrands_any A1 A2 c1 c2 sg mt L _ (· < (w.alloc (.cells #[.slice A1 sg.length c1, .slice A2 mt.length c2, .int .i64 L] 24)).heap.size) HD.out.rs HD.out.rm (fun _ h => h) H.out).mono ?_
  rintro e w1 ⟨v, rfl, hr, hb⟩
  obtain ⟨As, cs, rfl, hrl⟩ := hr.reads
  rw [rows_cycs_length]
  have HB1 := Lib.hid (below_box (o := (.cells #[.slice A1 sg.length c1, .slice A2 mt.length c2, .int .i64 L] 24)) (by simpa using hb))
  have HD1 := Lib.hid (HD.out.below hb)
  have HRL := Lib.hid (hrl.imp (T := (· < w1.heap.size)) fun b hb => hb.2)
  obtain ⟨ns, hns⟩ : ∃ n, (strandsL sg mt).length = n := ⟨_, rfl⟩
  rw [hns] at hi hnl ⊢
  have h2 : ¬ (ns : Int) ≤ (i : Int) := by omega
  have h3 : (i : Int) < (ns : Int) := by omega
  clear hr hrl hb hns hi HD
  have k0 := HD1.out.c0
  have k1 := HD1.out.c1
  have k2 := HD1.out.c2
  go_wp2_with fail
  refine (rarcs_ok A1 A2 c1 c2 sg mt L w1 (· < w1.heap.size) HD1.out.rs HD1.out.rm (fun _ h => h) H.out).mono ?_
  rintro e w2 ⟨va, rfl, hoa, hb⟩
  have HB2 := Lib.hid (HB1.out.trans (hb.mono HB1.out.size))
  have HD2 := Lib.hid (HD1.out.below hb)
  obtain ⟨Aa, ca, hva, -, -, hra⟩ := hoa.reads
  rw [arL_len] at hva
  subst hva
  have HRA := Lib.hid (hra.imp (T := (· < w2.heap.size)) fun b hb => hb.2)
  have HRL2 := Lib.hid ((HRL.out.below hb).imp (T := (· < w2.heap.size)) fun b h => Nat.lt_of_lt_of_le h hb.size)
  clear hoa hra hb k0 k1 k2 HD1 HRL HB1
  have k0 := HD2.out.c0
  have k1 := HD2.out.c1
  have k2 := HD2.out.c2
  go_wp2_with fail
  refine (rcomp_ok A1 A2 c1 c2 sg mt L w2 (· < w2.heap.size) HD2.out.rs HD2.out.rm (fun _ h => h) H.out).mono ?_
  rintro e w5 ⟨vc, rfl, hoc, hb⟩
  have HB5 := Lib.hid (HB2.out.trans (hb.mono HB2.out.size))
  have HD5 := Lib.hid (HD2.out.below hb)
  have hcl : (cmpL sg mt L.toNat).length = arC sg mt + L.toNat := cmp_len _ _ _
  obtain ⟨l, hl⟩ : ∃ l, L.toNat = l := ⟨_, rfl⟩
  rw [hl] at hoc hcl
  obtain ⟨Ac, cc, hvc, -, -, hrc⟩ := hoc.reads
  rw [hcl] at hvc
  obtain ⟨ml, hml⟩ : ∃ ml, arC sg mt + l = ml := ⟨_, rfl⟩
  rw [hml] at hvc hcl
  subst hvc
  have HCL := Lib.hid hcl
  have HML := Lib.hid hml
  have HC5 := Lib.hid (hrc.imp (T := (· < w5.heap.size)) fun b hb => hb.2)
  have HA5 := Lib.hid ((HRA.out.below hb).imp (T := (· < w5.heap.size)) fun b h => Nat.lt_of_lt_of_le h hb.size)
  have hrl := HRL2.out.below hb
  obtain ⟨b, off, rfl, -, hc⟩ := hrl.at_ (k := i) (by rw [rows_cycs_length]; exact HI.out)
  obtain ⟨Ak, ck, k3, r3, -⟩ := hc i (by rw [rows_cycs_length]; exact HI.out)
  rw [rows_getD HI.out, stN_eq HI.out] at k3 r3
  rw [ints_length, HP.out] at k3
  have HR5 := Lib.hid (r3.imp (T := (· < w5.heap.size)) fun b h => Nat.lt_of_lt_of_le h hb.size)
  have HV0 : Hid (OI w5 w5.heap.size (.slice none 0 0) (lnL sg mt i 0)) := OR.nil _ _
  clear hoc hrc hb hrl hc r3 HRA HRL2 HD2 HB2 k0 k1 k2 hcl hl hml
  have k0 := HD5.out.c0
  have k1 := HD5.out.c1
  have k2 := HD5.out.c2
  go_wp2_with fail
  clear k0 k1 k2 k3
  go_loopw [10, 11, 12] (fun v s i' wr => ∃ k : Nat, k ≤ p ∧ i' = .int .i64 k ∧ s = .int .i64 (lnS sg mt i k) ∧ Hid (OI wr w5.heap.size v (lnL sg mt i k)) ∧ Hid (Below w5.heap.size w5 wr)) (fun _ _ i' _ => p - (intOf i').toNat)
  case atStart => exact ⟨0, Nat.zero_le _, rfl, rfl, HV0, Below.refl _ _⟩
  case round =>
    clear HV0
    obtain ⟨k, hk, rfl, rfl, HV, HB⟩ := hrel
    by_cases hlt : k < p
    · have hkl : k < (stN sg mt i).length := by rw [HP.out]; exact hlt
      have hr := HR5.out.below HB.out
      obtain ⟨b2, off2, rfl, -, hc⟩ := hr.at_ (k := k) (by rw [ints_length]; exact hkl)
      have c1 := hc k (by rw [ints_length]; exact hkl)
      rw [gi_ints hkl] at c1
      have hxl := (st_lt H.out HI.out hkl).1
      have hlL := lnL_succ sg mt i k
      have hlS := lnS_succ sg mt i k
      have hml := m_lt H.out HI.out hkl
      have hbS := lnS_bd H.out HI.out k (by omega)
      have hmm := (H.out.2.2.2.2.2.1.gn hxl).1
      have hme : mN sg mt i k = gn mt (gN (stN sg mt i) k) := rfl
      have HDr := HD5.out.below HB.out
      have k0 := HDr.c0
      have k1 := HDr.c1
      obtain ⟨x, hx⟩ : ∃ x, gN (stN sg mt i) k = x := ⟨_, rfl⟩
      rw [hx] at c1 hxl hmm hme
      obtain ⟨b6, off6, rfl, -, hc6⟩ := HDr.rm.at_ hxl
      have c6 := hc6 x hxl
      rw [hmm, ← hme] at c6
      have hoc := own_cmp H.out HI.out l (x := mN sg mt i k + 1)
      obtain ⟨m, hm⟩ : ∃ m, mN sg mt i k = m := ⟨_, rfl⟩
      rw [hm] at hlL hlS hml c6 hoc
      rw [HP.out] at hlS hoc
      have i0 : (0 : Int) ≤ (k : Int) ∧ (k : Int) < (p : Int) := by omega
      have i3 : (0 : Int) ≤ (x : Int) ∧ (x : Int) < (mt.length : Int) := by omega
      clear hr hc hx hmm hme hc6 hm
      go_wp2_with fail
      go_quiet (fail)
      obtain ⟨wq, hwq⟩ : ∃ wq, wr.drewN nq = wq := ⟨_, rfl⟩
      rw [hwq]
      have HVq : Hid (OI wq w5.heap.size u10 (lnL sg mt i k)) := by rw [← hwq]; exact HV.out.drewN nq
      have HBq : Hid (Below w5.heap.size w5 wq) := by rw [← hwq]; exact below_drewN HB.out nq
      have hszq := HBq.out.size
      clear hwq c1 c6 k0 k1 HV HB HDr i0 i3
      by_cases e0 : m % 4 = 0
      · rw [if_pos e0] at hlL hlS
        have hyl : m + 1 < mt.length := by have := HMT.out; omega
        have hcl : m / 4 < sg.length := by have := HMT.out; omega
        have hoc := hoc hyl
        have hal := arN_lt (sg := sg) H.out.2.2.2.2.2.1 H.out.2.1 hyl
        have hsn := H.out.2.2.2.2.1 _ hcl
        obtain ⟨b3, off3, rfl, -, hc3⟩ := (HA5.out.below HBq.out).at_ (k := m + 1) (by rw [arL_len]; exact hyl)
        have c2 := hc3 (m + 1) (by rw [arL_len]; exact hyl)
        rw [gi_arL hyl] at c2
        have HDr := HD5.out.below HBq.out
        have k0 := HDr.c0
        obtain ⟨b4, off4, rfl, -, hc4⟩ := HDr.rs.at_ hcl
        have c3 := hc4 _ hcl
        obtain ⟨o, ho⟩ : ∃ o, arN sg mt (m + 1) = o := ⟨_, rfl⟩
        obtain ⟨c, hc⟩ : ∃ c, m / 4 = c := ⟨_, rfl⟩
        have hcm : m = 4 * c := by omega
        rw [ho] at c2
        rw [hc] at c3 hcl hsn hlL hlS
        rw [ho] at hal hlL hlS hoc
        obtain ⟨b5, off5, rfl, -, hc5⟩ := (HC5.out.below HBq.out).at_ (k := o) (by rw [HCL.out]; have := HML.out; omega)
        have c5 := hc5 o (by rw [HCL.out]; have := HML.out; omega)
        have HCr := Lib.hid (HC5.out.below HBq.out)
        obtain ⟨q5, hq5⟩ : ∃ y, gi (cmpL sg mt l) o = y := ⟨_, rfl⟩
        rw [hq5] at c5 hoc
        obtain ⟨s, hs⟩ : ∃ s, lnS sg mt i k = s := ⟨_, rfl⟩
        rw [hs] at hlS hbS ⊢
        obtain ⟨sn, hsn1⟩ : ∃ x, gi sg c = x := ⟨_, rfl⟩
        rw [hsn1] at c3 hsn hlL hlS
        obtain ⟨t, ht⟩ : ∃ t, sn * ((o : Int) + 1) = t := ⟨_, rfl⟩
        rw [ht] at hlL
        have ho2 : o ≤ 256 := by have := HAC.out; omega
        have homl : o < ml := by have := HML.out; omega
        have ht2 : t = (o : Int) + 1 ∨ t = -((o : Int) + 1) := by
          rcases hsn with e | e
          · rw [e] at ht; exact .inl (by omega)
          · rw [e] at ht; exact .inr (by omega)
        have wm : IntKind.i64.wrap (sn * ((o : Int) + 1)) = t := by rw [ht]; exact IntWalk.i64_in _ (by omega)
        have ws : IntKind.i64.wrap (s + sn) = s + sn := IntWalk.i64_in _ (by omega)
        clear ht ht2 hsn
        have hsb : s ≤ 300 ∧ -300 ≤ s := by omega
        have m1 : (m : Int).tmod 4 = 0 := by rw [Int.tmod_eq_emod_of_nonneg (by omega)]; omega
        have m2 : (m : Int) % 4 = 0 := by omega
        have s2 : (m : Int).tdiv 4 = (c : Int) := by rw [Int.tdiv_eq_ediv_of_nonneg (by omega)]; omega
        obtain ⟨y, hy⟩ : ∃ y, m + 1 = y := ⟨_, rfl⟩
        have hy2 : (m : Int) + 1 = (y : Int) := by omega
        rw [hy] at c2 hyl
        have hyb : y ≤ 300 := by have := HMT.out; omega
        have hcb : c ≤ 300 := by have := HMT.out; omega
        have i1 : (0 : Int) ≤ (y : Int) ∧ (y : Int) < (mt.length : Int) := by omega
        have i2 : (0 : Int) ≤ (c : Int) ∧ (c : Int) < (sg.length : Int) := by omega
        have i4 : (0 : Int) ≤ (o : Int) ∧ (o : Int) < (ml : Int) := by omega
        have hll : (lnL sg mt i k).length < 1099511627776 := by have := lnL_len (sg := sg) (mt := mt) (i := i) k; omega
        have HLL := Lib.hid hll
        have HLN := Lib.hid hlL
        have HCC := Lib.hid hcl
        have HOC : Hid (o < (cmpL sg mt l).length) := by rw [HCL.out]; exact homl
        have HSN := Lib.hid hsn1
        have HQ5 := Lib.hid hq5
        have w0 : IntKind.i64.wrap ((o : Int) + 1) = (o : Int) + 1 := IntWalk.i64_in _ (by omega)
        have s3 : IntKind.i64.wrap (c : Int) = (c : Int) := IntWalk.i64_in _ (by omega)
        have s1 : IntKind.i64.wrap ((m : Int) + 1) = (y : Int) := by rw [hy2]; exact IntWalk.i64_in _ (by omega)
        clear hc3 hc4 hc5 HDr ho hc hal hml hll hlL hcl hq5 hsn1 hy hy2 hcm e0 HCr
        by_cases hq : q5 = (i : Int)
        · have HS := Lib.hid (hlS.trans (if_pos (hoc.2 hq)))
          have hqq : (q5 == (i : Int)) = true := by rw [beq_iff_eq]; exact hq
          clear hq hlS hbS hoc
          go_wp2_with (at_builtin; refine app1 HVq.out HLL.out hszq rfl rfl Try.underlying22 rfl rfl ?_; intro v' w' ho hg hob; have hbn := HVq.out.grown_below HBq.out hszq _ hg; have k0n := (HD5.out.below hbn).c0; have c3n := (HD5.out.below hbn).rs.cell HCC.out; have c5n := (HC5.out.below hbn).cell HOC.out; rw [HSN.out] at c3n; rw [HQ5.out] at c5n)
          have HV' : Hid (OI w' w5.heap.size v' (lnL sg mt i (k + 1))) := by rw [HLN.out]; exact ho
          have HB' := Lib.hid hbn
          clear ho hg hob hbn k0n c3n c5n HVq HBq HLN ws wm s1 s2 s3 w0 m1 m2 i1 i2 i4 HSN HQ5 HCC HOC
          go_roundw
          case rel => exact ⟨k + 1, by omega, by go_num, by rw [HS.out], HV', HB'⟩
          case measure => simp [intOf]; omega
        · have HS := Lib.hid (hlS.trans (if_neg (fun e => hq (hoc.1 e))))
          have hqq : (q5 == (i : Int)) = false := by rw [beq_eq_false_iff_ne]; exact hq
          clear hq hlS hbS hoc
          go_wp2_with (at_builtin; refine app1 HVq.out HLL.out hszq rfl rfl Try.underlying22 rfl rfl ?_; intro v' w' ho hg hob; have hbn := HVq.out.grown_below HBq.out hszq _ hg; have k0n := (HD5.out.below hbn).c0; have c3n := (HD5.out.below hbn).rs.cell HCC.out; have c5n := (HC5.out.below hbn).cell HOC.out; rw [HSN.out] at c3n; rw [HQ5.out] at c5n)
          have HV' : Hid (OI w' w5.heap.size v' (lnL sg mt i (k + 1))) := by rw [HLN.out]; exact ho
          have HB' := Lib.hid hbn
          clear ho hg hob hbn k0n c3n c5n HVq HBq HLN ws wm s1 s2 s3 w0 m1 m2 i1 i2 i4 HSN HQ5 HCC HOC
          go_roundw
          case rel => exact ⟨k + 1, by omega, by go_num, by rw [HS.out], HV', HB'⟩
          case measure => simp [intOf]; omega
      · rw [if_neg e0] at hlL hlS
        have m1 : (((m : Int).tmod 4) != 0) = true := by rw [bne_iff_ne, Int.tmod_eq_emod_of_nonneg (by omega)]; omega
        have m2 : ((m : Int) % 4 != 0) = true := by rw [bne_iff_ne]; omega
        have m3 : (((m % 4 : Nat) : Int) != 0) = true := by rw [bne_iff_ne]; omega
        have HV' : Hid (OI wq w5.heap.size u10 (lnL sg mt i (k + 1))) := by rw [hlL]; exact HVq.out
        have HS := Lib.hid hlS
        clear hoc hlL hlS e0
        go_wp2_with fail
        go_roundw
        case rel => exact ⟨k + 1, by omega, by go_num, by rw [HS.out], HV', HBq⟩
        case measure => simp [intOf]; omega
    · obtain rfl : p = k := by omega
      have hkl : 0 < (stN sg mt i).length := by rw [HP.out]; exact hp0
      have hr := HR5.out.below HB.out
      obtain ⟨b2, off2, rfl, -, hc⟩ := hr.at_ (k := 0) (by rw [ints_length]; exact hkl)
      have c1 := hc 0 (by rw [ints_length]; exact hkl)
      rw [gi_ints hkl, Nat.add_zero] at c1
      have hxl := (st_lt H.out HI.out hkl).1
      have hF : lnF sg mt i = (arN sg mt (gN (stN sg mt i) 0) : Int) + 1 := rfl
      obtain ⟨x, hx⟩ : ∃ x, gN (stN sg mt i) 0 = x := ⟨_, rfl⟩
      rw [hx] at c1 hxl hF
      obtain ⟨b3, off3, rfl, -, hc3⟩ := (HA5.out.below HB.out).at_ (k := x) (by rw [arL_len]; exact hxl)
      have c2 := hc3 x (by rw [arL_len]; exact hxl)
      rw [gi_arL hxl] at c2
      have hal := arN_lt (sg := sg) H.out.2.2.2.2.2.1 H.out.2.1 hxl
      obtain ⟨o, ho⟩ : ∃ o, arN sg mt x = o := ⟨_, rfl⟩
      rw [ho] at c2 hal hF
      have ho2 : o ≤ 256 := by have := HAC.out; omega
      have hbS := lnS_bd H.out HI.out p (by rw [HP.out]; exact Nat.le_refl _)
      have hT : lnT sg mt i = if 0 < lnS sg mt i p then - lnF sg mt i else lnF sg mt i := by unfold lnT; rw [HP.out]
      have hW0 : Hid (OI wr w5.heap.size u10 (lonW sg mt i 0)) := by rw [lonW_zero, HP.out]; exact HV.out
      have hE : lonL sg mt i = redL (lonW sg mt i (lnS sg mt i p).natAbs) := by unfold lonL; rw [HP.out]
      obtain ⟨s, hs⟩ : ∃ s, lnS sg mt i p = s := ⟨_, rfl⟩
      rw [hs] at hbS hT hE ⊢
      obtain ⟨f, hf⟩ : ∃ f, lnF sg mt i = f := ⟨_, rfl⟩
      rw [hf] at hT hF
      have w0 : IntKind.i64.wrap ((o : Int) + 1) = f := by rw [hF]; exact IntWalk.i64_in _ (by omega)
      have w1 : IntKind.i64.wrap (0 - f) = -f := by rw [hF, Int.zero_sub]; exact IntWalk.i64_in _ (by omega)
      have w1' : IntKind.i64.wrap (-f) = -f := by rw [hF]; exact IntWalk.i64_in _ (by omega)
      have i1 : (0 : Int) ≤ (x : Int) ∧ (x : Int) < (mt.length : Int) := by omega
      have i0 : (0 : Int) < (p : Int) := by omega
      obtain ⟨q, hq⟩ : ∃ q : Nat, s.natAbs = q := ⟨_, rfl⟩
      have hq2 : q ≤ 256 := by omega
      rw [hq] at hE
      have HE := Lib.hid hE
      have HF := Lib.hid hF
      clear hr hc hc3 hx ho hs hf hlt hal HV hkl hE hF
      obtain ⟨w6, rfl⟩ : ∃ x : World, x = wr := ⟨_, rfl⟩
      by_cases hpos : 0 < s
      · have HT := Lib.hid (hT.trans (if_pos hpos))
        obtain rfl : s = (q : Int) := by omega
        clear hbS hq hT
        go_wp2_with fail
        go_loopw [10, 11] (fun v s' wr => ∃ r k : Nat, r + k = q ∧ s' = .int .i64 ((r : Int)) ∧ Hid (OI wr w5.heap.size v (lonW sg mt i k)) ∧ Hid (Below w5.heap.size w5 wr)) (fun _ s' _ => (intOf s').natAbs)
        case atStart => exact ⟨q, 0, rfl, rfl, hW0, HB⟩
        case round =>
          clear hW0 HB
          obtain ⟨r, k, hrk, rfl, HV, HB⟩ := hrel
          have hln := lonW_len (sg := sg) (mt := mt) (i := i) (k := k)
          rw [HP.out] at hln
          by_cases hr0 : r = 0
          · subst hr0
            obtain rfl : q = k := by omega
            obtain ⟨Av, cv, hv, -, -, hrv⟩ := HV.out.reads
            subst hv
            have HRV := Lib.hid hrv
            have HBD := Lib.hid (lonW_bd H.out HI.out (k := q))
            have hll : (lonW sg mt i q).length < 1099511627776 := by omega
            have HLL := Lib.hid hll
            have HBT := Lib.hid (HB5.out.trans (HB.out.mono HB5.out.size))
            have hs1 := HBT.out.size
            clear hrv hll hln HV HB hrk
            go_wp2_with fail
            refine (rreduced_any Av cv (lonW sg mt i q) wr (· < wr.heap.size) (HRV.out.imp fun b hb => hb.2) (fun _ h => h) HLL.out HBD.out).mono ?_
            rintro e w9 ⟨v9, rfl, ho, hb⟩
            have HO9 : Hid (OI w9 w.heap.size v9 (lonL sg mt i)) := by rw [HE.out]; exact ho.mono hs1
            have HB9 := Lib.hid (HBT.out.trans (hb.mono hs1))
            clear ho hb HRV
            go_wp2_with fail
            go_ret
            exact ⟨_, rfl, HO9.out, HB9.out⟩
          · obtain ⟨r, rfl⟩ : ∃ z, r = z + 1 := ⟨r - 1, by omega⟩
            have hll : (lonW sg mt i k).length < 1099511627776 := by omega
            have HLL := Lib.hid hll
            have hsz := HB.out.size
            obtain ⟨z, hz⟩ : ∃ z : Int, ((r + 1 : Nat) : Int) = z := ⟨_, rfl⟩
            rw [hz]
            have z1 : (z != 0) = true := by rw [bne_iff_ne]; omega
            have z2 : 0 < z := by omega
            have z3 : IntKind.i64.wrap (z - 1) = (r : Int) := by rw [show z - 1 = (r : Int) by omega]; exact IntWalk.i64_in _ (by omega)
            have HZ := Lib.hid hz
            clear hll hln hz hr0
            go_wp2_with (at_builtin; refine app1 HV.out HLL.out hsz rfl rfl Try.underlying22 rfl rfl ?_; intro v' w' ho hg hob)
            have HV' : Hid (OI w' w5.heap.size v' (lonW sg mt i (k + 1))) := by rw [lonW_succ, HT.out]; exact ho
            have HB' := Lib.hid (HV.out.grown_below HB.out hsz _ hg)
            clear ho hg hob HV HB HLL z1 z2 z3 w0 w1 w1'
            go_roundw
            case rel => exact ⟨r, k + 1, by omega, by rfl, HV', HB'⟩
            case measure => have hz := HZ.out; simp [intOf]; omega
      · have HT := Lib.hid (hT.trans (if_neg hpos))
        obtain rfl : s = -(q : Int) := by omega
        clear hbS hq hT
        go_wp2_with fail
        go_loopw [10, 11] (fun v s' wr => ∃ r k : Nat, r + k = q ∧ s' = .int .i64 (-(r : Int)) ∧ Hid (OI wr w5.heap.size v (lonW sg mt i k)) ∧ Hid (Below w5.heap.size w5 wr)) (fun _ s' _ => (intOf s').natAbs)
        case atStart => exact ⟨q, 0, rfl, rfl, hW0, HB⟩
        case round =>
          clear hW0 HB
          obtain ⟨r, k, hrk, rfl, HV, HB⟩ := hrel
          have hln := lonW_len (sg := sg) (mt := mt) (i := i) (k := k)
          rw [HP.out] at hln
          by_cases hr0 : r = 0
          · subst hr0
            obtain rfl : q = k := by omega
            obtain ⟨Av, cv, hv, -, -, hrv⟩ := HV.out.reads
            subst hv
            have HRV := Lib.hid hrv
            have HBD := Lib.hid (lonW_bd H.out HI.out (k := q))
            have hll : (lonW sg mt i q).length < 1099511627776 := by omega
            have HLL := Lib.hid hll
            have HBT := Lib.hid (HB5.out.trans (HB.out.mono HB5.out.size))
            have hs1 := HBT.out.size
            clear hrv hll hln HV HB hrk
            go_wp2_with fail
            refine (rreduced_any Av cv (lonW sg mt i q) wr (· < wr.heap.size) (HRV.out.imp fun b hb => hb.2) (fun _ h => h) HLL.out HBD.out).mono ?_
            rintro e w9 ⟨v9, rfl, ho, hb⟩
            have HO9 : Hid (OI w9 w.heap.size v9 (lonL sg mt i)) := by rw [HE.out]; exact ho.mono hs1
            have HB9 := Lib.hid (HBT.out.trans (hb.mono hs1))
            clear ho hb HRV
            go_wp2_with fail
            go_ret
            exact ⟨_, rfl, HO9.out, HB9.out⟩
          · obtain ⟨r, rfl⟩ : ∃ z, r = z + 1 := ⟨r - 1, by omega⟩
            have hll : (lonW sg mt i k).length < 1099511627776 := by omega
            have HLL := Lib.hid hll
            have hsz := HB.out.size
            obtain ⟨z, hz⟩ : ∃ z : Int, -((r + 1 : Nat) : Int) = z := ⟨_, rfl⟩
            rw [hz]
            have z1 : (z != 0) = true := by rw [bne_iff_ne]; omega
            have z2 : ¬ 0 < z := by omega
            have z3 : IntKind.i64.wrap (z + 1) = -(r : Int) := by rw [show z + 1 = -(r : Int) by omega]; exact IntWalk.i64_in _ (by omega)
            have HZ := Lib.hid hz
            clear hll hln hz hr0
            go_wp2_with (at_builtin; refine app1 HV.out HLL.out hsz rfl rfl Try.underlying22 rfl rfl ?_; intro v' w' ho hg hob)
            have HV' : Hid (OI w' w5.heap.size v' (lonW sg mt i (k + 1))) := by rw [lonW_succ, HT.out]; exact ho
            have HB' := Lib.hid (HV.out.grown_below HB.out hsz _ hg)
            clear ho hg hob HV HB HLL z1 z2 z3 w0 w1 w1'
            go_roundw
            case rel => exact ⟨r, k + 1, by omega, by rfl, HV', HB'⟩
            case measure => have hz := HZ.out; simp [intOf]; omega
end
end Go.Proofs.Ytcjgfncbecbhjaa

