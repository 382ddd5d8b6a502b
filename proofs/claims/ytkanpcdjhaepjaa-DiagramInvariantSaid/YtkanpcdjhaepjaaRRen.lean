/-
  The contracts of the reference's Renumber, IsPerm, In.
-/
import Derived.Test.YtkanpcdjhaepjaaRen
namespace Go.Proofs.Ytkanpcdjhaepjaa
open Go.RowKit

def RRenOk (sg mt xs : List Int) (L : Int) (w : World) (e : Ending) (w' : World) : Prop := ∃ v1 v2, e = .returned (.agg #[v1, v2, .int .i64 L]) ∧ Fresh w' w.heap.size v1 v2 (renS sg xs) (renM mt xs sg.length) ∧ Below w.heap.size w w'

section
variable (A1 A2 A3 : Option Addr) (c1 c2 c3 : Nat) (sg mt xs : List Int) (L : Int) (w : World) (S : Nat → Prop) (hx : RI w S A1 sg) (hy : RI w S A2 mt) (hz : RI w S A3 xs) (hS : ∀ b, S b → b < w.heap.size)
include hx hy hS

include hz in
set_option maxRecDepth 100000 in
set_option maxHeartbeats 16000000 in
theorem rren_ok (hd : IsD sg mt L) (hperm : PermI xs sg.length) :
    Calls Try.prog 38 #[.agg #[.slice A1 sg.length c1, .slice A2 mt.length c2, .int .i64 L], .slice A3 sg.length c3] w (RRenOk sg mt xs L w) := by
  have HD1 := Lib.hid ((DBox.start (c1 := c1) (c2 := c2) (L := L) S hx hy hS).below ((Below.refl _ _).alloc (Nat.le_refl _) (.cells #[.slice none 0 0, .slice none 0 0, .int .i64 0] 24)))
  have hz1 := (ZBox.new (heap_alloc_new (w.alloc (.cells #[.slice A1 sg.length c1, .slice A2 mt.length c2, .int .i64 L] 24)) (.cells #[.slice none 0 0, .slice none 0 0, .int .i64 0] 24)) (by simp))
  have HB1 := Lib.hid (((Below.refl w.heap.size w).alloc (Nat.le_refl _) (.cells #[.slice A1 sg.length c1, .slice A2 mt.length c2, .int .i64 L] 24)).alloc (by simp) (.cells #[.slice none 0 0, .slice none 0 0, .int .i64 0] 24))
  have hs0 : (w.alloc (.cells #[.slice A1 sg.length c1, .slice A2 mt.length c2, .int .i64 L] 24)).heap.size = w.heap.size + 1 := by simp
  rw [hs0] at hz1
  have HZ1 := Lib.hid hz1
  have HX := Lib.hid (hx.imp hS)
  have HY := Lib.hid (hy.imp hS)
  have HXS := Lib.hid (hz.imp hS)
  have H := Lib.hid (decide_eq_true hd)
  have hn := hd.1
  have hm1 : sg.length ≤ maxLen := by unfold maxLen; omega
  have hm2 : mt.length ≤ maxLen := by have := hd.2.1; unfold maxLen; omega
  have HM := Lib.hid hperm.1
  have HDD := Lib.hid hd
  have HP := Lib.hid hperm
  have hmk2 := make4 sg.length (by omega)
  have w4 : IntKind.i64.wrap (4 * (sg.length : Int)) = 4 * (sg.length : Int) := IntWalk.i64_in _ (by omega)
  have hmk := make_ints 22 Try.underlying22 sg.length (by omega)
  clear hx hy hz hS hd hz1 hs0 hperm
  have T0 := Lib.hid (RSt.start HX.out HY.out HXS.out HB1.out HD1.out HZ1.out hm1)
  have k0 := HD1.out.c0
  have hsz : ((w.alloc (.cells #[.slice A1 sg.length c1, .slice A2 mt.length c2, .int .i64 L] 24)).alloc (.cells #[.slice none 0 0, .slice none 0 0, .int .i64 0] 24)).heap.size = w.heap.size + 2 := by simp
  have HSZ := Lib.hid hsz
  clear hsz
  go_enter Try.func38, Try.ntmps38
  go_wp2_with fail
  rw [HSZ.out] at T0
  clear hmk2 k0 HB1 HD1 HZ1 HSZ
  generalize ((w.alloc (.cells #[.slice A1 sg.length c1, .slice A2 mt.length c2, .int .i64 L] 24)).alloc (.cells #[.slice none 0 0, .slice none 0 0, .int .i64 0] 24)).alloc (.cells (Array.replicate sg.length (Value.int .i64 0)) 3) = w2 at *
  obtain ⟨gp, hgp⟩ : ∃ g, w.heap.size + 1 + 1 = g := ⟨_, rfl⟩
  rw [show w.heap.size + 2 = gp from hgp] at T0
  rw [hgp]
  clear hgp
  have hmk2 := make4 sg.length (by omega)
  go_loopw [7] (fun i wr => ∃ (k : Nat) (p : List Int), k ≤ sg.length ∧ i = .int .i64 k ∧ Hid (RSt w wr gp A1 A2 A3 c1 c2 sg mt xs L p) ∧ Hid (AtI xs sg.length k p)) (fun i _ => sg.length - (intOf i).toNat)
  case atStart => exact ⟨0, _, Nat.zero_le _, rfl, T0, Lib.hid ⟨by simp, fun i h => by omega⟩⟩
  case round =>
    clear T0
    obtain ⟨k, p, hk, rfl, HT, HV⟩ := hrel
    by_cases hlt : k < sg.length
    · obtain ⟨bx, ox, rfl, -, hcx⟩ := HT.out.rx.at_ (k := k) (by rw [HM.out]; exact hlt)
      have k3 := hcx k (by rw [HM.out]; exact hlt)
      clear hcx
      obtain ⟨hce, hcl⟩ := HP.out.2.gn hlt
      have HV' := Lib.hid (at_step HP.out hlt HV.out)
      have HT' := Lib.hid (HT.out.store (gn xs k) (k : Int))
      obtain ⟨k4, k5⟩ := HT.out.pr.at_ HT.out.pl hcl
      rw [hce] at k3
      obtain ⟨c, hc⟩ : ∃ c, gn xs k = c := ⟨_, rfl⟩
      rw [hc] at hcl k3 k4 k5 HT' HV'
      have hsg := HT.out.pr.size
      have z1 : (0 : Int) ≤ (c : Int) ∧ (c : Int) < (sg.length : Int) := by omega
      clear hce HT HV hc
      go_wp2_with fail
      go_roundw
      case rel => exact ⟨k + 1, _, by omega, by go_num, HT', HV'⟩
      case measure => simp [intOf]; omega
    · obtain rfl : k = sg.length := by omega
      have HN : Hid (∀ c, c < sg.length → gi p c = (ivX xs sg.length c : Int)) := Lib.hid fun c hc => at_end HP.out HV.out hc
      have k2 := HT.out.c2
      clear HV
      go_wp2_with fail
      have hlz := HT.out.zb.lt
      have hlw : w.heap.size < wr.heap.size := by omega
      go_cut [8] (fun v wx => ∃ b g1 g2 : Nat, v = .pointer (some ⟨b, 0, none⟩) ∧ Hid (R2St w wx gp A1 A2 A3 c1 c2 sg mt xs L p b g1 g2 (List.replicate sg.length 0) (List.replicate (4 * sg.length) 0)))
      case first =>
        go_region_held3 (fun w' => Hid (RSt w w' gp A1 A2 A3 c1 c2 sg mt xs L p) ∧ w'.cell? ⟨w.heap.size, 2, none⟩ = some (.int .i64 L)) ((refine keepR ⟨HT, k2⟩ ?_; (repeat (first | exact Below.refl _ _ | refine Below.drew ?_ | refine Below.alloc ?_ (by simp <;> omega) _)))) (fail)
        all_goals
          go_wp2_with fail
          go_meet
          case rel =>
            have hheld := And.left (by assumption)
            have hps := HT.out.pr.size
            first
              | exact ⟨_, _, _, rfl, Lib.hid (R2St.new (Hid.out hheld) (three _ _ _ _).1 (three _ _ _ _).2.1 (three _ _ _ _).2.2 (by omega) (by omega) wr.heap.size ⟨hps, by omega, by omega, by omega⟩)⟩
              | exact ⟨_, _, _, rfl, Lib.hid (R2St.new (Hid.out hheld) (three _ _ _ _).1 (three _ _ _ _).2.2 (three _ _ _ _).2.1 (by omega) (by omega) wr.heap.size ⟨hps, by omega, by omega, by omega⟩)⟩
              | exact ⟨_, _, _, rfl, Lib.hid (R2St.new (Hid.out hheld) (three _ _ _ _).2.1 (three _ _ _ _).1 (three _ _ _ _).2.2 (by omega) (by omega) wr.heap.size ⟨hps, by omega, by omega, by omega⟩)⟩
              | exact ⟨_, _, _, rfl, Lib.hid (R2St.new (Hid.out hheld) (three _ _ _ _).2.1 (three _ _ _ _).2.2 (three _ _ _ _).1 (by omega) (by omega) wr.heap.size ⟨hps, by omega, by omega, by omega⟩)⟩
              | exact ⟨_, _, _, rfl, Lib.hid (R2St.new (Hid.out hheld) (three _ _ _ _).2.2 (three _ _ _ _).1 (three _ _ _ _).2.1 (by omega) (by omega) wr.heap.size ⟨hps, by omega, by omega, by omega⟩)⟩
              | exact ⟨_, _, _, rfl, Lib.hid (R2St.new (Hid.out hheld) (three _ _ _ _).2.2 (three _ _ _ _).2.1 (three _ _ _ _).1 (by omega) (by omega) wr.heap.size ⟨hps, by omega, by omega, by omega⟩)⟩
      case rest =>
        obtain ⟨b, g1, g2, rfl, HT2⟩ := hcut
        clear HT k2 hmk hmk2 hlz hlw
        go_wp2_with fail
        go_loopw [9] (fun i wr => ∃ (k : Nat) (q : List Int), k ≤ sg.length ∧ i = .int .i64 k ∧ Hid (R2St w wr gp A1 A2 A3 c1 c2 sg mt xs L p b g1 g2 q (List.replicate (4 * sg.length) 0)) ∧ Hid (RfS sg xs k q)) (fun i _ => sg.length - (intOf i).toNat)
        case atStart => exact ⟨0, _, Nat.zero_le _, rfl, HT2, Lib.hid ⟨by simp, fun i h => by omega⟩⟩
        case round =>
          clear HT2
          obtain ⟨c, q, hc, rfl, HT, HQ⟩ := hrel
          by_cases hlt3 : c < sg.length
          · obtain ⟨bs, os, has, -, hcs⟩ := HT.out.st.rs.at_ hlt3
            have k4 := hcs _ hlt3
            have k3 := (HT.out.st.pr.at_ HT.out.st.pl hlt3).1
            rw [HN.out c hlt3] at k3
            have hiv := (iv_spec HP.out hlt3).1
            have HT' := Lib.hid (HT.out.store1 (ivX xs sg.length c) (gi sg c)).drew
            have HQ' := Lib.hid (rfS_step HP.out hlt3 HQ.out)
            obtain ⟨i, hi⟩ : ∃ i, ivX xs sg.length c = i := ⟨_, rfl⟩
            rw [hi] at k3 hiv HT' HQ'
            obtain ⟨k5, k6⟩ := HT.out.at1 hiv
            have k7 := HT.out.k0
            have k8 := HT.out.st.c0
            obtain ⟨v, hv⟩ : ∃ v, gi sg c = v := ⟨_, rfl⟩
            rw [hv] at k4 HT' HQ'
            have z1 : (0 : Int) ≤ (c : Int) ∧ (c : Int) < (sg.length : Int) := by omega
            have z2 : (0 : Int) ≤ (i : Int) ∧ (i : Int) < (sg.length : Int) := by omega
            clear hcs hi hv HT HQ
            subst has
            go_wp2_with fail
            go_still_tail 12, (by kernel_rfl)
            clear k3 k4 k7 k8
            go_wp2_with fail
            clear k5 k6
            go_roundw
            case rel => exact ⟨c + 1, _, by omega, by go_num, HT', HQ'⟩
            case measure => simp [intOf]; omega
          · obtain rfl : c = sg.length := by omega
            have HQE := Lib.hid (rfS_end HP.out HQ.out)
            clear HQ
            go_wp2_with fail
            go_loopw [10] (fun i wr => ∃ (k : Nat) (r : List Int), k ≤ 4 * sg.length ∧ i = .int .i64 k ∧ Hid (R2St w wr gp A1 A2 A3 c1 c2 sg mt xs L p b g1 g2 q r) ∧ Hid (RfM mt xs sg.length k r)) (fun i _ => 4 * sg.length - (intOf i).toNat)
            case atStart => exact ⟨0, _, Nat.zero_le _, rfl, HT, Lib.hid ⟨by simp, fun i h => by omega⟩⟩
            case round =>
              clear HT
              obtain ⟨h, r, hh, rfl, HT, HR⟩ := hrel
              by_cases hlt4 : h < 4 * sg.length
              · have hml : mt.length = 4 * sg.length := HDD.out.2.1
                have hhm : h < mt.length := by omega
                obtain ⟨gn1, gn2, -, -⟩ := HDD.out.2.2.2.2.2.1.gn hhm
                obtain ⟨bm, om, ham, -, hcm⟩ := HT.out.st.rm.at_ hhm
                have k3 := hcm _ hhm
                rw [gn1] at k3
                have HR' := Lib.hid (rfM_step HP.out hlt4 HR.out)
                obtain ⟨m, hm⟩ : ∃ m, gn mt h = m := ⟨_, rfl⟩
                rw [hm] at k3 gn2 HR'
                obtain ⟨mq, hmq⟩ : ∃ mq, m / 4 = mq := ⟨_, rfl⟩
                obtain ⟨mr, hmr⟩ : ∃ mr, m % 4 = mr := ⟨_, rfl⟩
                obtain ⟨hq, hhq⟩ : ∃ hq, h / 4 = hq := ⟨_, rfl⟩
                obtain ⟨hr, hhr⟩ : ∃ hr, h % 4 = hr := ⟨_, rfl⟩
                have hmq1 : mq < sg.length := by omega
                have hmr1 : mr < 4 := by omega
                have hhq1 : hq < sg.length := by omega
                have hhr1 : hr < 4 := by omega
                obtain ⟨j, hj⟩ : ∃ j, ivX xs sg.length mq = j := ⟨_, rfl⟩
                obtain ⟨i, hi⟩ : ∃ i, ivX xs sg.length hq = i := ⟨_, rfl⟩
                have hj1 : j < sg.length := by rw [← hj]; exact (iv_spec HP.out hmq1).1
                have hi1 : i < sg.length := by rw [← hi]; exact (iv_spec HP.out hhq1).1
                have k4 := (HT.out.st.pr.at_ HT.out.st.pl hmq1).1
                rw [HN.out mq hmq1, hj] at k4
                have k9 := (HT.out.st.pr.at_ HT.out.st.pl hhq1).1
                rw [HN.out hq hhq1, hi] at k9
                have hrhi : (rhi xs sg.length m : Int) = 4 * (j : Int) + (mr : Int) := by
                  unfold rhi
                  rw [hmq, hmr, hj]
                  omega
                have hrhh : rhi xs sg.length h = 4 * i + hr := by
                  unfold rhi
                  rw [hhq, hhr, hi]
                rw [hrhi, hrhh] at HR'
                have hn4 : 4 * i + hr < 4 * sg.length := by omega
                have HT' := Lib.hid (HT.out.store2 (4 * i + hr) (4 * (j : Int) + (mr : Int))).drew
                obtain ⟨k5, k6⟩ := HT.out.at2 hn4
                have k7 := HT.out.k1
                have k8 := HT.out.st.c1
                have q1 : ((m : Nat) : Int).tdiv 4 = (mq : Int) := by rw [← hmq]; exact Int.ofNat_tdiv m 4
                have q2 : ((m : Nat) : Int).tmod 4 = (mr : Int) := by rw [← hmr]; exact Int.ofNat_tmod m 4
                have q1e : (m : Int) / 4 = (mq : Int) := by omega
                have q2e : (m : Int) % 4 = (mr : Int) := by omega
                have q3 : ((h : Nat) : Int).tdiv 4 = (hq : Int) := by rw [← hhq]; exact Int.ofNat_tdiv h 4
                have q4 : ((h : Nat) : Int).tmod 4 = (hr : Int) := by rw [← hhr]; exact Int.ofNat_tmod h 4
                have q3e : (h : Int) / 4 = (hq : Int) := by omega
                have q4e : (h : Int) % 4 = (hr : Int) := by omega
                have v3 : IntKind.i64.wrap (4 * (i : Int)) = 4 * (i : Int) := IntWalk.i64_in _ (by omega)
                have v4 : IntKind.i64.wrap (4 * (i : Int) + (hr : Int)) = 4 * (i : Int) + (hr : Int) := IntWalk.i64_in _ (by omega)
                have v5 : IntKind.i64.wrap (4 * (j : Int)) = 4 * (j : Int) := IntWalk.i64_in _ (by omega)
                have v6 : IntKind.i64.wrap (4 * (j : Int) + (mr : Int)) = 4 * (j : Int) + (mr : Int) := IntWalk.i64_in _ (by omega)
                have v7 : IntKind.i64.wrap (mq : Int) = (mq : Int) := IntWalk.i64_in _ (by omega)
                have v8 : IntKind.i64.wrap (mr : Int) = (mr : Int) := IntWalk.i64_in _ (by omega)
                have v9 : IntKind.i64.wrap (hq : Int) = (hq : Int) := IntWalk.i64_in _ (by omega)
                have v10 : IntKind.i64.wrap (hr : Int) = (hr : Int) := IntWalk.i64_in _ (by omega)
                have z3 : (0 : Int) ≤ (h : Int) ∧ (h : Int) < (mt.length : Int) := by omega
                have z4 : (0 : Int) ≤ 4 * (i : Int) + (hr : Int) ∧ 4 * (i : Int) + (hr : Int) < 4 * (sg.length : Int) := by omega
                have z5 : (0 : Int) ≤ (mq : Int) ∧ (mq : Int) < (sg.length : Int) := by omega
                have z6 : (0 : Int) ≤ (hq : Int) ∧ (hq : Int) < (sg.length : Int) := by omega
                have t4 : (4 * (i : Int) + (hr : Int)).toNat = 4 * i + hr := by omega
                clear hcm hm hmq hmr hhq hhr hj hi hrhi hrhh gn1 HT HR hml
                subst ham
                go_wp2_with fail
                go_still_tail 21, (by kernel_rfl)
                clear k3 k4 k7 k8 k9 q1 q2 q1e q2e q3 q4 q3e q4e v3 v4 v5 v6 v7 v8 v9 v10
                go_wp2_with fail
                go_roundw
                case rel => exact ⟨h + 1, _, by omega, by go_num, HT', HR'⟩
                case measure => simp [intOf]; omega
              · obtain rfl : h = 4 * sg.length := by omega
                have HRE := Lib.hid (rfM_end HP.out HR.out)
                have k0 := HT.out.k0
                have k1 := HT.out.k1
                have k2 := HT.out.k2
                have y0 := HT.out.st.zb.z0
                have y1 := HT.out.st.zb.z1
                have y2 := HT.out.st.zb.z2
                have g0' := HT.out.st.zb.f0
                have g1' := HT.out.st.zb.f1
                have g2' := HT.out.st.zb.f2
                have hlb := HT.out.lb
                clear HR
                go_wp2_with fail
                have HF := Lib.hid (HT.out.fin (.slice (some ⟨g1, 0, none⟩) sg.length sg.length) (.slice (some ⟨g2, 0, none⟩) (4 * sg.length) (4 * sg.length)) (.int .i64 L))
                rw [HQE.out, HRE.out] at HF
                refine bodyPost_ret (v := .agg #[.slice (some ⟨g1, 0, none⟩) sg.length sg.length, .slice (some ⟨g2, 0, none⟩) (4 * sg.length) (4 * sg.length), .int .i64 L]) (by simp [results, Try.results38, go_sem, y0, y1, y2]) rfl ?_
                exact ⟨_, _, rfl, HF.out.1, HF.out.2⟩
end
end Go.Proofs.Ytkanpcdjhaepjaa
