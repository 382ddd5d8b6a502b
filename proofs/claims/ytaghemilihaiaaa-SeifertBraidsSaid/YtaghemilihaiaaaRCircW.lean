/-
  The contract of the reference's Circles, walked.
-/
import Derived.Test.YtaghemilihaiaaaRCirc
namespace Go.Proofs.Ytaghemilihaiaaa
open Go.RowKit

section
variable (A1 A2 : Option Addr) (c1 c2 : Nat) (sg mt : List Int) (L : Int) (w : World) (S : Nat → Prop) (hx : RI w S A1 sg) (hy : RI w S A2 mt) (hS : ∀ b, S b → b < w.heap.size)
include hx hy hS
theorem RcSt.start (hm : mt.length ≤ maxLen) :
    RcSt w ((w.alloc (.cells #[.slice A1 sg.length c1, .slice A2 mt.length c2, .int .i64 L] 24)).alloc (.cells (Array.replicate mt.length (Value.bool false)) 4)) A1 A2 c1 c2 sg mt L 0 (List.replicate mt.length false) (.slice none 0 0) := by
  have hD := DBox.start (c1 := c1) (c2 := c2) (L := L) S hx hy hS
  have hb : Below w.heap.size w (w.alloc (.cells #[.slice A1 sg.length c1, .slice A2 mt.length c2, .int .i64 L] 24)) := (Below.refl _ _).alloc (Nat.le_refl _) _
  have hb2 := (Below.refl (w.alloc (.cells #[.slice A1 sg.length c1, .slice A2 mt.length c2, .int .i64 L] 24)).heap.size (w.alloc (.cells #[.slice A1 sg.length c1, .slice A2 mt.length c2, .int .i64 L] 24))).alloc (Nat.le_refl _) (.cells (Array.replicate mt.length (Value.bool false)) 4)
  have hD2 := hD.below hb2
  have hnew := OB.new (w.alloc (.cells #[.slice A1 sg.length c1, .slice A2 mt.length c2, .int .i64 L] 24)) (w.heap.size + 1) mt.length (by simp) hm
  have hb3 := hb.trans (hb2.mono (by simp))
  refine ⟨hD2.c0, hD2.c1, hD2.c2, (hx.imp hS).below hb3, (hy.imp hS).below hb3, ⟨by simpa using hnew, by simp, by simp⟩, hb3, seenL_zero _ _ _, RR.nil _ _ _⟩

set_option maxRecDepth 100000 in
set_option maxHeartbeats 8000000 in
theorem rcircles_any (hd : IsD sg mt L) :
    Calls Try.prog 16 #[.agg #[.slice A1 sg.length c1, .slice A2 mt.length c2, .int .i64 L]] w fun e w' => ∃ v, e = .returned v ∧
      RR 22 w' (w.heap.size + 1) (· = w.heap.size + 1) v (rows (circL sg mt)) ∧ Below w.heap.size w w' := by
  have hn := hd.2.1
  have hl64 := hd.1
  have hml : mt.length ≤ 400000 := by omega
  have hsl : sg.length ≤ 1099511627776 := by omega
  have H0 := Lib.hid (RcSt.start A1 A2 c1 c2 sg mt L w S hx hy hS (by unfold maxLen; omega))
  have hmk := make_bools 59 Try.underlying59 mt.length (by omega)
  have HD := Lib.hid hd
  have HN := Lib.hid hn
  have HP := Lib.hid (nxC_perm hd)
  have HW := Lib.hid (out_nxC hd)
  have hc0 := H0.out.c0
  have hc1 := H0.out.c1
  clear hx hy hS hd hn hl64
  go_enter Try.func16, Try.ntmps16
  go_wp2_with fail
  clear hmk hc0 hc1
  go_loopw [4, 5] (fun v i wr => ∃ (k : Nat) (bs : List Bool), k ≤ mt.length ∧ i = .int .i64 k ∧ Hid (RcSt w wr A1 A2 c1 c2 sg mt L k bs v)) (fun _ i _ => mt.length - (intOf i).toNat)
  case atStart => exact ⟨0, _, Nat.zero_le _, rfl, H0⟩
  case round =>
    clear H0
    obtain ⟨k, bs, hk, rfl, HC⟩ := hrel
    have m0 := HC.out.c0
    have m1 := HC.out.c1
    have m2 := HC.out.c2
    by_cases hlt : k < mt.length
    · obtain ⟨k1, -⟩ := HC.out.br.at_ hlt
      by_cases hb : gb bs k = true
      · have HC' : Hid (RcSt w wr A1 A2 c1 c2 sg mt L (k + 1) bs u4) := HC.out.skip fun ⟨h1, h2⟩ => by
          have := seenL_least HP.out HW.out hlt h1 HC.out.num
          rw [hb, h2] at this
          cases this
        rw [hb] at k1
        clear hb
        go_wp2_with fail
        go_roundw
        case rel => exact ⟨k + 1, bs, by omega, by go_num, HC'⟩
        case measure => simp [intOf]; omega
      · have hb : gb bs k = false := by simpa using hb
        obtain ⟨x, hxo⟩ : ∃ x, outB sg k = x := ⟨_, rfl⟩
        have hlb : outB sg k = true → lstB (nxC sg mt) mt.length k = true := fun h1 => by
          have := seenL_least HP.out HW.out hlt h1 HC.out.num
          rw [hb] at this
          simpa using this.symm
        have HLB1 := Lib.hid hlb
        have HO := Lib.hid hxo
        rw [hb] at k1
        clear hb hxo hlb
        go_wp2_with fail
        refine (rout_is (c := c1) (h := k) (· < w.heap.size) x HC.out.rs hsl rfl (by have := HN.out; omega) HO.out).mono ?_
        rintro e w1 ⟨rfl, rfl⟩
        cases x
        · go_wp2_with fail
          have HC' := Lib.hid (HC.out.skip fun h => by have := HO.out; rw [this] at h; cases h.1)
          go_roundw
          case rel => exact ⟨k + 1, bs, by omega, by go_num, HC'⟩
          case measure => simp [intOf]; omega
        · have HLB := Lib.hid (HLB1.out HO.out)
          have HM := Lib.hid HC.out.begin
          obtain ⟨B, hB⟩ : ∃ B, w1.heap.size = B := ⟨_, rfl⟩
          rw [hB] at HM
          clear HC HLB1 hB
          go_wp2_with fail
          clear k1 m0 m1 m2
          obtain ⟨w3, rfl⟩ : ∃ x : World, x = w1 := ⟨_, rfl⟩
          go_loopg [6, 7] (per (nxC sg mt) mt.length k + 1) (fun F u g wr => ∃ (j : Nat) (bs : List Bool), j ≤ per (nxC sg mt) mt.length k ∧ g = .int .i64 (it (nxC sg mt) j k) ∧ Hid (RcMk w wr A1 A2 c1 c2 sg mt L k j bs u4 u B) ∧ Hid (per (nxC sg mt) mt.length k - j < F))
          case atStart => exact ⟨0, bs, by omega, rfl, HM, by show _ - _ < _; omega⟩
          case round =>
            clear HM
            obtain ⟨j, bs, hj, rfl, HM, HF⟩ := hrel
            have hgl : it (nxC sg mt) j k < mt.length := HP.out.it_lt j hlt
            obtain ⟨k1, k2⟩ := HM.out.br.at_ hgl
            have m0 := HM.out.c0
            have m1 := HM.out.c1
            have m2 := HM.out.c2
            by_cases hjp : j < per (nxC sg mt) mt.length k
            · have hneg := seenJ_open HP.out HW.out hlt HO.out HLB.out HM.out.num hjp
              rw [hneg] at k1
              have hog : outB sg (it (nxC sg mt) j k) = true := by rw [wt_cyc HP.out HW.out hlt ((mem_cyc HP.out hlt).2 ⟨j, rfl⟩)]; exact HO.out
              have HOG := Lib.hid hog
              have hlist := HM.out.list.keep (w' := wr.setCell ⟨w.heap.size + 1, it (nxC sg mt) j k, none⟩ (.bool true)) fun g hg => Below.heap_setCell wr _ _ g (by have := (HM.out.list.lt g hg).1; have := HM.out.gB; simp; omega)
              have HL := Lib.hid hlist
              have hlen : (ints ((cyc (nxC sg mt) mt.length k).take j)).length < 1099511627776 := by
                have h1 := cyc_length_le HP.out hlt
                rw [ints_length, List.length_take]; omega
              have HLE := Lib.hid hlen
              have hsz : B ≤ (wr.setCell ⟨w.heap.size + 1, it (nxC sg mt) j k, none⟩ (.bool true)).heap.size := by simpa using HM.out.bw
              have HSZ := Lib.hid hsz
              clear hneg hog hlist hlen hsz
              go_wp2_with (at_builtin; refine app1 HL.out HLE.out HSZ.out rfl rfl Try.underlying22 rfl (by show Value.slice (some ⟨wr.heap.size, 0, none⟩) 1 1 = _; simp) ?_; intro v' w' ho hg hob; have HM1 := Lib.hid (HM.out.step HD.out hlt HLB.out hjp ho hg); clear ho hg hob HM HL HLE HSZ k1 k2 m0 m1 m2; have m0 := HM1.out.c0; have m1 := HM1.out.c1; have m2 := HM1.out.c2)
              refine (rnext_any (HM1.out.rs.imp fun b hb => by have := HM1.out.br.size; omega) (HM1.out.rm.imp fun b hb => by have := HM1.out.br.size; omega) HD.out hgl HOG.out).mono ?_
              rintro e w4 ⟨rfl, hb⟩
              have HM2 := Lib.hid (HM1.out.call hb)
              clear HM1 hb m0 m1 m2
              go_wp2_with fail
              go_roundg (per (nxC sg mt) mt.length k - j)
              case measure => exact HF.out
              case rel => exact ⟨j + 1, _, by omega, rfl, HM2, by show _ - _ < _; omega⟩
            · have hje : j = per (nxC sg mt) mt.length k := by omega
              have hnn := seenJ_shut HP.out hlt HM.out.num hje
              rw [hnn] at k1
              obtain ⟨vs, hvs⟩ := HM.out.row
              obtain ⟨Au, cu, hu, -, -, -⟩ := HM.out.list.shape
              obtain ⟨lu, hlu⟩ : ∃ lu, (ints ((cyc (nxC sg mt) mt.length k).take j)).length = lu := ⟨_, rfl⟩
              rw [hlu] at hu
              clear hlu
              subst hu
              have HV := Lib.hid hvs
              have hvl : vs.length < 1099511627776 := by
                have h1 := rows_len hvs
                have h2 := cycsL_len (nxC sg mt) mt.length (outB sg) k
                omega
              have HVL := Lib.hid hvl
              have hsz : w.heap.size + 1 ≤ wr.heap.size := by have := HM.out.br.size; omega
              have HSZ := Lib.hid hsz
              have HJE := Lib.hid hje
              clear hvs hvl hsz hje hjp hnn
              go_wp2_with (at_builtin; refine app_row (f := id) (y := Value.slice Au lu cu) row_info rfl (by decide) rfl HV.out.1 HVL.out HSZ.out rfl rfl Try.underlying27 rfl rfl ?_; intro v' w' ho hg hob)
              go_roundw
              case rel => exact ⟨k + 1, bs, by omega, by go_num, HM.out.push HD.out hlt HO.out HLB.out HJE.out HV.out ho hg hob⟩
              case measure => simp [intOf]; omega
    · obtain rfl : mt.length = k := by omega
      have HR : Hid (RR 22 wr (w.heap.size + 1) (· = w.heap.size + 1) u4 (rows (circL sg mt))) := HC.out.row
      have hbel := HC.out.bel
      clear HC hlt hk
      go_wp2_with fail
      go_ret
      exact ⟨_, rfl, HR.out, hbel⟩
end
end Go.Proofs.Ytaghemilihaiaaa

