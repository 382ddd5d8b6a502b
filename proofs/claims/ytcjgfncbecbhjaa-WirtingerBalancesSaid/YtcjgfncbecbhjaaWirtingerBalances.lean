/-
  The law WirtingerBalances, walked: the call returns true and writes nothing that was there.
-/
import Derived.Test.YtcjgfncbecbhjaaAw22
import Derived.Test.YtcjgfncbecbhjaaSums
import Derived.Test.YtcjgfncbecbhjaaCont
import Derived.Test.YtcjgfncbecbhjaaOSt
import Derived.Test.YtcjgfncbecbhjaaDArg
import Derived.Deep.RegionHeld3
namespace Go.Proofs.Ytcjgfncbecbhjaa
open Go.RowKit

theorem bal1_any (y : Int) (w : World) : Calls Try.prog 27 #[.int .i64 y] w fun e w' => e = .returned (.bool (y != 0)) ∧ w = w' := by
  cases hq : (y != 0)
  · go_enter Try.func27, Try.ntmps27
    go_wp2_with fail
    go_ret
    exact ⟨rfl, rfl⟩
  · go_enter Try.func27, Try.ntmps27
    go_wp2_with fail
    go_ret
    exact ⟨rfl, rfl⟩
theorem enBal : Enters 27 := enters_of Try.func27 (by kernel_rfl) rfl
theorem prBal (xs : List Int) : PrOk 27 (fun y => y != 0) xs := fun _ _ W => bal1_any _ W
theorem below_of_drewN {w w' : World} {n : Nat} (h : w' = w.drewN n) : Below w.heap.size w w' := by rw [h]; exact below_drewN (Below.refl _ _) n
theorem cmp_bd {sg mt : List Int} {L : Int} (hd : IsD sg mt L) (l : Nat) : CmB (cmpL sg mt l) ((strandsL sg mt).length + l) := fun a ha => by
  rw [cmp_len] at ha
  exact cmp_all hd ha
/-- the sums over a relator are all 0 -/
theorem zero_any {sg mt : List Int} {L : Int} (hd : IsD sg mt L) {l k p n : Nat} (hk : k < sg.length) (hn : WV (n : Int) ((wrdL sg mt sg.length).getD k [])) :
    (smL (cmpL sg mt l) (exL n ((wrdL sg mt sg.length).getD k [])) p n).any (fun y => y != 0) = false := by
  rw [List.any_eq_false]
  intro x hx
  obtain ⟨j, hj, rfl⟩ := List.mem_iff_getElem.1 hx
  have hj' := hj
  rw [smL_len] at hj'
  have h1 := sums_bal (cs := cmpL sg mt l) (c := p) hj' (wv_ga hn)
  rw [wrd_bal hd hk] at h1
  have e : gi (smL (cmpL sg mt l) (exL n ((wrdL sg mt sg.length).getD k [])) p n) j = (smL (cmpL sg mt l) (exL n ((wrdL sg mt sg.length).getD k [])) p n)[j] := gi_lt hj
  rw [← e, h1]
  simp
section
variable (A1 A2 : Option Addr) (c1 c2 : Nat) (sg mt : List Int) (L : Int) (w : World) (hd : DArg w A1 A2 sg mt L)
include hd

set_option maxHeartbeats 2000000 in
theorem wbl_great (hf : ¬ fewB sg mt L) :
    Calls Try.prog 6 #[.agg #[.slice A1 sg.length c1, .slice A2 mt.length c2, .int .i64 L]] w fun e w' => e = .returned (.bool true) ∧ Below w.heap.size w w' := by
  have HD := Lib.hid (DBox.start (c1 := c1) (c2 := c2) (L := L) (· < w.heap.size) hd.rs hd.rm (fun _ h => h))
  have HL1 := Lib.hid hd.ls
  have HL2 := Lib.hid hd.lm
  have HF := Lib.hid hf
  clear hd hf
  go_enter Try.func6, Try.ntmps6
  go_wp2_with fail
  refine (awake22 _).mono ?_
  rintro e w1 ⟨rfl, hb⟩
  have HD1 := Lib.hid (HD.out.below hb)
  have HB1 := Lib.hid (below_box (o := (.cells #[.slice A1 sg.length c1, .slice A2 mt.length c2, .int .i64 L] 24)) (by simpa using hb))
  clear hb
  have k0 := HD1.out.c0
  have k1 := HD1.out.c1
  have k2 := HD1.out.c2
  go_wp2_with fail
  refine (few_no A1 A2 c1 c2 sg mt L w1 HF.out).mono ?_
  rintro e w2 ⟨rfl, hb⟩
  have HD2 := Lib.hid (HD1.out.below hb)
  have HB2 := Lib.hid (HB1.out.trans (hb.mono HB1.out.size))
  clear hb k0 k1 k2 HD1 HB1
  have k0 := HD2.out.c0
  have k1 := HD2.out.c1
  have k2 := HD2.out.c2
  go_wp2_with fail
  refine (awake22 _).mono ?_
  rintro e w3 ⟨rfl, hb⟩
  have HD3 := Lib.hid (HD2.out.below hb)
  have HB3 := Lib.hid (HB2.out.trans (hb.mono HB2.out.size))
  clear hb k0 k1 k2 HD2 HB2
  have k0 := HD3.out.c0
  have k1 := HD3.out.c1
  have k2 := HD3.out.c2
  go_wp2_with fail
  go_ret
  exact ⟨rfl, HB3.out⟩

set_option maxHeartbeats 2000000 in
theorem wbl_no (hf : fewB sg mt L) (hno : ¬ IsD sg mt L) :
    Calls Try.prog 6 #[.agg #[.slice A1 sg.length c1, .slice A2 mt.length c2, .int .i64 L]] w fun e w' => e = .returned (.bool true) ∧ Below w.heap.size w w' := by
  have HD := Lib.hid (DBox.start (c1 := c1) (c2 := c2) (L := L) (· < w.heap.size) hd.rs hd.rm (fun _ h => h))
  have HL1 := Lib.hid hd.ls
  have HL2 := Lib.hid hd.lm
  have HF := Lib.hid hf
  have HR := Lib.hid (decide_eq_false hno)
  clear hd hf hno
  go_enter Try.func6, Try.ntmps6
  go_wp2_with fail
  refine (awake22 _).mono ?_
  rintro e w1 ⟨rfl, hb⟩
  have HD1 := Lib.hid (HD.out.below hb)
  have HB1 := Lib.hid (below_box (o := (.cells #[.slice A1 sg.length c1, .slice A2 mt.length c2, .int .i64 L] 24)) (by simpa using hb))
  clear hb
  have k0 := HD1.out.c0
  have k1 := HD1.out.c1
  have k2 := HD1.out.c2
  go_wp2_with fail
  refine (few_yes A1 A2 c1 c2 sg mt L w1 HF.out).mono ?_
  rintro e w2 ⟨rfl, hb⟩
  have HD2 := Lib.hid (HD1.out.below hb)
  have HB2 := Lib.hid (HB1.out.trans (hb.mono HB1.out.size))
  clear hb k0 k1 k2 HD1 HB1
  have k0 := HD2.out.c0
  have k1 := HD2.out.c1
  have k2 := HD2.out.c2
  go_wp2_with fail
  refine (dvalid_is (· < w2.heap.size) false HD2.out.rs HD2.out.rm (fun _ h => h) HL1.out HL2.out HR.out).mono ?_
  rintro e w3 ⟨rfl, hb⟩
  have HD3 := Lib.hid (HD2.out.below hb)
  have HB3 := Lib.hid (HB2.out.trans (hb.mono HB2.out.size))
  clear hb k0 k1 k2 HD2 HB2
  have k0 := HD3.out.c0
  have k1 := HD3.out.c1
  have k2 := HD3.out.c2
  go_wp2_with fail
  refine (awake22 _).mono ?_
  rintro e w4 ⟨rfl, hb⟩
  have HD4 := Lib.hid (HD3.out.below hb)
  have HB4 := Lib.hid (HB3.out.trans (hb.mono HB3.out.size))
  clear hb k0 k1 k2 HD3 HB3
  have k0 := HD4.out.c0
  have k1 := HD4.out.c1
  have k2 := HD4.out.c2
  go_wp2_with fail
  go_ret
  exact ⟨rfl, HB4.out⟩

set_option maxHeartbeats 8000000 in
theorem wbl_ok (hf : fewB sg mt L) (hi : IsD sg mt L) :
    Calls Try.prog 6 #[.agg #[.slice A1 sg.length c1, .slice A2 mt.length c2, .int .i64 L]] w fun e w' => e = .returned (.bool true) ∧ Below w.heap.size w w' := by
  have HD := Lib.hid (DBox.start (c1 := c1) (c2 := c2) (L := L) (· < w.heap.size) hd.rs hd.rm (fun _ h => h))
  have HL1 := Lib.hid hd.ls
  have HL2 := Lib.hid hd.lm
  have HF := Lib.hid hf
  have HI := Lib.hid hi
  have hcn : arC sg mt ≤ 256 := by
    have h1 := cnt_le (headB (arR sg mt)) mt.length
    have h2 := hi.1
    have h3 := hi.2.1
    unfold arC; omega
  obtain ⟨m, hm⟩ : ∃ m, arC sg mt = m := ⟨_, rfl⟩
  rw [hm] at hcn
  have HM := Lib.hid hm
  obtain ⟨l, rfl⟩ : ∃ l : Nat, L = (l : Int) := ⟨L.toNat, by have := hi.2.2.1; omega⟩
  have hL2 : l ≤ 64 := by have := hi.2.2.2.1; omega
  have hcl : (cmpL sg mt l).length = m + l := by rw [cmp_len, hm]
  have HCL := Lib.hid hcl
  have hml : m + l ≤ maxLen := by unfold maxLen; omega
  have HML := Lib.hid hml
  have hsl : sg.length ≤ maxLen := hd.ls
  have HSL := Lib.hid hsl
  clear hd hf hi hm hcl hml hsl
  go_enter Try.func6, Try.ntmps6
  go_wp2_with fail
  refine (awake22 _).mono ?_
  rintro e w1 ⟨rfl, hb⟩
  have HD1 := Lib.hid (HD.out.below hb)
  have HB1 := Lib.hid (below_box (o := (.cells #[.slice A1 sg.length c1, .slice A2 mt.length c2, .int .i64 (l : Int)] 24)) (by simpa using hb))
  clear hb
  have k0 := HD1.out.c0
  have k1 := HD1.out.c1
  have k2 := HD1.out.c2
  go_wp2_with fail
  refine (few_yes A1 A2 c1 c2 sg mt (l : Int) w1 HF.out).mono ?_
  rintro e w2 ⟨rfl, hb⟩
  have HD2 := Lib.hid (HD1.out.below hb)
  have HB2 := Lib.hid (HB1.out.trans (hb.mono HB1.out.size))
  clear hb k0 k1 k2 HD1 HB1
  have k0 := HD2.out.c0
  have k1 := HD2.out.c1
  have k2 := HD2.out.c2
  go_wp2_with fail
  refine (dvalid_is (· < w2.heap.size) true HD2.out.rs HD2.out.rm (fun _ h => h) HL1.out HL2.out (decide_eq_true HI.out)).mono ?_
  rintro e w3 ⟨rfl, hb⟩
  have HD3 := Lib.hid (HD2.out.below hb)
  have HB3 := Lib.hid (HB2.out.trans (hb.mono HB2.out.size))
  clear hb k0 k1 k2 HD2 HB2
  have k0 := HD3.out.c0
  have k1 := HD3.out.c1
  have k2 := HD3.out.c2
  go_wp2_with fail
  refine (of_ok A1 A2 c1 c2 sg mt (l : Int) w3 (· < w3.heap.size) HD3.out.rs HD3.out.rm (fun _ h => h) HI.out).mono ?_
  rintro e w4 ⟨v2, v3, rfl, ho, hr, hb⟩
  rw [show ((l : Int)).toNat = l from rfl] at ho
  rw [HM.out]
  have HD4 := Lib.hid (HD3.out.below hb)
  have HB4 := Lib.hid (HB3.out.trans (hb.mono HB3.out.size))
  obtain ⟨Ac, cc, hv2, -, -, hrc⟩ := ho.reads
  obtain ⟨Aw, cw, hv3, hrw⟩ := hr.reads
  rw [HCL.out] at hv2
  rw [wrdL_len] at hv3
  subst hv2 hv3
  have HRC := Lib.hid (hrc.imp (T := (· < w4.heap.size)) fun b hb => hb.2)
  have HRW := Lib.hid (hrw.imp (T := (· < w4.heap.size)) fun b hb => hb.2)
  clear hb ho hr hrc hrw k0 k1 k2 HD3 HB3
  have HX4 := Lib.hid ((Below.refl w4.heap.size w4).alloc (Nat.le_refl _) (.cells #[.int .i64 ((m : Int) + (l : Int)), .slice Ac (m + l) cc, .slice Aw sg.length cw] 35))
  have HS4 : Hid (OSt (w4.alloc (.cells #[.int .i64 ((m : Int) + (l : Int)), .slice Ac (m + l) cc, .slice Aw sg.length cw] 35)) w.heap.size w4.heap.size A1 A2 Ac Aw c1 c2 cc cw sg mt l m) :=
    ⟨HD4.out.below HX4.out, heap_alloc_new _ _, (HRC.out.below HX4.out).imp fun b hb => by have := HX4.out.size; omega, (HRW.out.below HX4.out).imp fun b hb => by have := HX4.out.size; omega⟩
  have HB4' := Lib.hid (HB4.out.trans (HX4.out.mono HB4.out.size))
  have k0 := HD4.out.c0
  have k1 := HD4.out.c1
  have k2 := HD4.out.c2
  have kk := (HS4.out.pack).2
  clear HX4 HRC HRW
  go_wp2_with fail
  obtain ⟨gb, hgb⟩ : ∃ g, w4.heap.size = g := ⟨_, rfl⟩
  rw [hgb] at HS4 ⊢
  generalize (w4.alloc (.cells #[.int .i64 ((m : Int) + (l : Int)), .slice Ac (m + l) cc, .slice Aw sg.length cw] 35)) = w4a at HS4 HB4' kk ⊢
  clear k0 k1 k2 kk hgb HB4 HD4
  obtain ⟨-, k0, k1, k2, g0, g1, g2⟩ := HS4.out.pack
  have hnl : (strandsL sg mt).length ≤ 256 := by
    have h1 := strandsL_most sg mt
    have h2 := HI.out.1
    have h3 := HI.out.2.1
    omega
  obtain ⟨ns, hns⟩ : ∃ n, (strandsL sg mt).length = n := ⟨_, rfl⟩
  rw [hns] at hnl
  have HNS := Lib.hid hns
  have hsgl := HI.out.1
  have HGV := Lib.hid (group_valid HI.out hL2)
  have HCB := Lib.hid (cmp_bd HI.out l)
  clear hns
  go_wp2_with fail
  clear k0 k1 k2 g0 g1 g2
  go_loopw [30] (fun i wr => ∃ k : Nat, k ≤ sg.length ∧ i = .int .i64 k ∧ Hid (OSt wr w.heap.size gb A1 A2 Ac Aw c1 c2 cc cw sg mt l m) ∧ Hid (Below w.heap.size w wr)) (fun i _ => sg.length - (intOf i).toNat)
  case atStart => exact ⟨0, Nat.zero_le _, rfl, HS4, HB4'⟩
  case round =>
    clear HS4 HB4'
    obtain ⟨k, hk, rfl, HS, HB⟩ := hrel
    by_cases hlt : k < sg.length
    · obtain ⟨b, off, rfl, -, hc⟩ := HS.out.wd.at_ (k := k) (by rw [wrdL_len]; exact hlt)
      obtain ⟨Ak, ck, k3, r3, -⟩ := hc k (by rw [wrdL_len]; exact hlt)
      have hsh := wrd_short (mt := mt) hlt
      have hwv := HGV.out.2.2.2.2 k (by rw [wrdL_len]; exact hlt)
      have hwv2 : WV (((m + l : Nat) : Int)) ((wrdL sg mt sg.length).getD k []) := by rw [HM.out] at hwv; rw [Int.natCast_add]; exact hwv
      have HZ := Lib.hid (zero_any HI.out (l := l) (p := ns + l) hlt hwv2)
      have hpos : 0 < m + l := by
        have := arN_lt (sg := sg) HI.out.2.2.2.2.2.1 HI.out.2.1 (show 4 * k < mt.length by have := HI.out.2.1; omega)
        rw [HM.out] at this
        omega
      obtain ⟨ys, hys⟩ : ∃ ys, (wrdL sg mt sg.length).getD k [] = ys := ⟨_, rfl⟩
      rw [hys] at k3 r3 hsh hwv2 HZ
      obtain ⟨q, hq⟩ : ∃ q, ys.length = q := ⟨_, rfl⟩
      have HQ := Lib.hid hq
      have HR3 := Lib.hid r3
      have HWV := Lib.hid hwv2
      rw [hq] at k3 hsh
      have h4 : ¬ (4 : Int) < (q : Int) := by omega
      have HSd := Lib.hid (HS.out.below (Below.refl _ _).drew)
      have hsz := HB.out.size
      clear hc hwv hwv2 hys hq r3
      go_wp2_with fail
      clear k3
      go_region_held3 (fun w' => Hid (OSt w' w.heap.size gb A1 A2 Ac (some ⟨b, off, none⟩) c1 c2 cc cw sg mt l m) ∧ w'.cell? ⟨w.heap.size, 0, none⟩ = some (.slice A1 sg.length c1) ∧ w'.cell? ⟨w.heap.size, 1, none⟩ = some (.slice A2 mt.length c2) ∧ w'.cell? ⟨w.heap.size, 2, none⟩ = some (.int .i64 (l : Int)) ∧ w'.cell? ⟨gb, 0, none⟩ = some (.int .i64 ((m : Int) + (l : Int))) ∧ w'.cell? ⟨gb, 1, none⟩ = some (.slice Ac (m + l) cc) ∧ w'.cell? ⟨gb, 2, none⟩ = some (.slice (some ⟨b, off, none⟩) sg.length cw))
        (first | exact HSd.out.pack | exact hSa.pack | exact hSb.pack)
        (first
          | (go_at_call 25; ((refine (components_ok A1 A2 c1 c2 sg mt (l : Int) wr.drew (· < wr.drew.heap.size) HSd.out.db.rs HSd.out.db.rm (fun _ h => h) HI.out).mono ?_); rintro e9 wa ⟨rfl, hba⟩; have hSa := HSd.out.below hba; rw [HNS.out]))
          | (go_at_call 24; (have hs9 := sums_any Ak Ac ck cc (ns + l) ys (cmpL sg mt l) wa (· < wa.heap.size) (· < wa.heap.size) ((HR3.out.keep (w' := wa) fun b hb => hba.block b hb).imp fun b hb => (by have := hba.size; exact Nat.lt_of_lt_of_le hb this)) (fun _ h => h) hSa.cm (fun _ h => h) (by rw [HQ.out]; omega) (by rw [HCL.out]; exact hpos) (by rw [HCL.out]; omega) (by omega) (by rw [HCL.out]; exact HWV.out) (by rw [← HNS.out]; exact HCB.out); rw [HCL.out, HQ.out, Int.natCast_add] at hs9; refine hs9.mono ?_; rintro e9 wb ⟨vb, rfl, hob, hbb⟩; have hSb := hSa.below hbb; clear hs9)))
      have hs1 := hba.size
      have HBb := Lib.hid ((HB.out.drew.trans (hba.mono hsz)).trans (hbb.mono (Nat.le_trans hsz hs1)))
      obtain ⟨Al, cl, hvl, -, -, hrl⟩ := hob.reads
      rw [smL_len] at hvl
      subst hvl
      have HL := Lib.hid hrl
      have HSb := Lib.hid hSb
      clear hba hbb hob hSa hSb hrl hs1 hsz
      go_wp2_with fail
      refine (any_is enBal _ Al cl _ _ wb _ HL.out (smL_len _ _ _ _) (by unfold maxLen; omega) (prBal _) HZ.out).mono ?_
      rintro e w7 ⟨rfl, rfl⟩
      go_wp2_with fail
      go_roundw
      case rel => exact ⟨k + 1, by omega, by go_num, HSb, HBb⟩
      case measure => simp [intOf]; omega
    · obtain rfl : sg.length = k := by omega
      go_wp2_with fail
      go_ret
      exact ⟨rfl, HB.out⟩

theorem wirtingerBalances_walk : 
    Calls Try.prog 6 #[.agg #[.slice A1 sg.length c1, .slice A2 mt.length c2, .int .i64 L]] w fun e w' => e = .returned (.bool true) ∧ Below w.heap.size w w' := by
  by_cases hf : fewB sg mt L
  · by_cases hi : IsD sg mt L
    · exact wbl_ok A1 A2 c1 c2 sg mt L w hd hf hi
    · exact wbl_no A1 A2 c1 c2 sg mt L w hd hf hi
  · exact wbl_great A1 A2 c1 c2 sg mt L w hd hf
end
end Go.Proofs.Ytcjgfncbecbhjaa

