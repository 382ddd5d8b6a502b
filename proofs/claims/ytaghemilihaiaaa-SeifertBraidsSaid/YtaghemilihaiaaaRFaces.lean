/-
  The contracts of the reference's Face and Faces.
-/
import Derived.Test.YtaghemilihaiaaaRLab
import Derived.Test.YtaghemilihaiaaaLists
namespace Go.Proofs.Ytaghemilihaiaaa
open Go.RowKit

set_option maxHeartbeats 2000000 in
theorem rface_any (A : Option Addr) (c n h : Nat) (mt : List Int) (w : World) (S : Nat → Prop) (hy : RI w S A mt) (hS : ∀ b, S b → b < w.heap.size) (hn : mt.length = 4 * n) (hI : InvM mt) (h64 : n ≤ 100000) (hh : h < mt.length) :
    Calls Try.prog 49 #[.slice A mt.length c, .int .i64 h] w fun e w' => ∃ v, e = .returned v ∧ OI w' w.heap.size v (ints (cyc (nxF mt) mt.length h)) ∧ Below w.heap.size w w' := by
  have hP := nxF_perm hI hn
  obtain ⟨p0, p1, p2, p3⟩ := per_spec hP hh
  have H3 := Lib.hid p3
  have H2 := Lib.hid p2
  have HP := Lib.hid hP
  have HI := Lib.hid hI
  have HY := Lib.hid (hy.imp (T := (· < w.heap.size)) hS)
  have hml : mt.length ≤ 400000 := by omega
  have hb1 : Below w.heap.size w (w.alloc (.cells #[.int .i64 h] 3)) := (Below.refl _ _).alloc (Nat.le_refl _) _
  obtain ⟨hg1, hg2, -, -⟩ := hI.gn hh
  have HG := Lib.hid hg2
  obtain ⟨b, off, rfl, hbb, hc⟩ := (HY.out.below hb1).at_ hh
  have k0 := hc h hh
  rw [hg1] at k0
  clear p2 p3 hP hI hy hS hn hg1 hg2 hc
  go_enter Try.func49, Try.ntmps49
  go_wp2_with fail
  refine (rturn_at (gn mt h) 3 _ rfl (by have := HG.out; omega) (by decide)).mono ?_
  rintro e w1 ⟨rfl, rfl⟩
  have ho : OI (w.alloc (.cells #[.int .i64 h] 3)) w.heap.size (.slice (some ⟨w.heap.size, 0, none⟩) 1 1) (ints ((cyc (nxF mt) mt.length h).take 1)) := by
    have h1 := OR.made (e := 3) (f := Value.int .i64) (xs := [(h : Int)]) w w.heap.size #[.int .i64 h] (Nat.le_refl _) (by simp [maxLen]) (by simp)
    have e : (cyc (nxF mt) mt.length h).take 1 = [h] := by
      have := cyc_take_succ (f := nxF mt) (N := mt.length) (h := h) (k := 0) p0
      simpa [it] using this.symm
    rw [e]
    exact h1
  have HO := Lib.hid ho
  clear ho k0
  go_wp2_with fail
  go_loopg [5, 6] (per (nxF mt) mt.length h) (fun F v g wr => ∃ j : Nat, 1 ≤ j ∧ j ≤ per (nxF mt) mt.length h ∧ g = .int .i64 (it (nxF mt) j h) ∧ Hid (OI wr w.heap.size v (ints ((cyc (nxF mt) mt.length h).take j))) ∧ Hid (Below w.heap.size w wr) ∧ Hid (per (nxF mt) mt.length h - j < F))
  case atStart => exact ⟨1, by omega, by omega, rfl, HO, hb1, by show _ - _ < _; omega⟩
  case round =>
    clear HO hb1
    obtain ⟨j, hj1, hj, rfl, HO, HB, HF⟩ := hrel
    obtain ⟨Ao, co, rfl, -, -, -⟩ := HO.out.shape
    have el : (ints ((cyc (nxF mt) mt.length h).take j)).length = j := by rw [ints_length, List.length_take, cyc_length]; omega
    rw [el] at HO ⊢
    by_cases hjp : j < per (nxF mt) mt.length h
    · have hne : it (nxF mt) j h ≠ h := H3.out j (by omega) hjp
      have hne' : (((it (nxF mt) j h : Nat) : Int) != (h : Int)) = true := by rw [bne_iff_ne]; omega
      obtain ⟨g, hg⟩ : ∃ g, it (nxF mt) j h = g := ⟨_, rfl⟩
      have hgl : g < mt.length := by rw [← hg]; exact HP.out.it_lt j hh
      have HT := Lib.hid (cyc_take_succ (f := nxF mt) (N := mt.length) (h := h) hjp)
      have HGE := Lib.hid hg
      rw [hg] at hne' HT ⊢
      have hlen : (ints ((cyc (nxF mt) mt.length h).take j)).length < 1099511627776 := by omega
      have HL := Lib.hid hlen
      have hle : j ≤ mt.length := by omega
      have hsz := HB.out.size
      have HOw : Hid (OI wr w.heap.size (.slice Ao (ints ((cyc (nxF mt) mt.length h).take j)).length co) (ints ((cyc (nxF mt) mt.length h).take j))) := by rw [el]; exact HO.out
      obtain ⟨hg1, hg2, -, -⟩ := HI.out.gn hgl
      have HG2 := Lib.hid hg2
      obtain ⟨b', off', hA, -, hc⟩ := HY.out.at_ hgl
      injection hA with hA
      injection hA with hA1 hA2
      subst hA1 hA2
      have k9 := hc g hgl
      rw [hg1] at k9
      have K9 := Lib.hid k9
      clear hne hlen hg el hg1 hg2 hc k9
      go_wp2_with (at_builtin; refine app1 HO.out HL.out hsz rfl rfl Try.underlying22 rfl rfl ?_; intro v' w' ho hg hob; have hbn := HO.out.grown_below HB.out hsz _ hg; have k2 := (hbn.cell (p := ⟨b, off + g, none⟩) hbb).trans K9.out)
      have HBN := Lib.hid hbn
      have ho' : OI w' w.heap.size v' (ints ((cyc (nxF mt) mt.length h).take (j + 1))) := by
        rw [← HT.out, ints_append]
        exact ho
      have HON := Lib.hid ho'
      clear ho hg hob hbn ho' k2
      refine (rturn_at (gn mt g) 3 _ rfl (by have := HG2.out; omega) (by decide)).mono ?_
      rintro e w1 ⟨rfl, rfl⟩
      have hnx : Hid ((turnN (gn mt g) 3 : Nat) = it (nxF mt) (j + 1) h) := by show _ = nxF mt (it (nxF mt) j h); rw [HGE.out]; rfl
      rw [hnx.out]
      go_wp2_with fail
      go_roundg (per (nxF mt) mt.length h - j)
      case measure => exact HF.out
      case rel => exact ⟨j + 1, by omega, by omega, rfl, HON, HBN, by show _ - _ < _; omega⟩
    · have hjp : j = per (nxF mt) mt.length h := by omega
      have he : it (nxF mt) j h = h := by rw [hjp]; exact H2.out
      have he' : (((it (nxF mt) j h : Nat) : Int) != (h : Int)) = false := by rw [bne_eq_false_iff_eq]; omega
      have HO2 : Hid (OI wr w.heap.size (.slice Ao j co) (ints (cyc (nxF mt) mt.length h))) := by
        have := HO.out
        rw [List.take_of_length_le (by rw [cyc_length]; omega)] at this
        exact this
      clear he hjp HO el
      go_wp2_with fail
      go_ret
      exact ⟨_, rfl, HO2.out, HB.out⟩

/-- the test for the least element, as far as it has come -/
def allB (h : Nat) (l : List Nat) : Bool := l.all fun g => decide (h ≤ g)
theorem allB_succ {f : Nat → Nat} {N h j : Nat} (hj : j < per f N h) : allB h ((cyc f N h).take (j + 1)) = (allB h ((cyc f N h).take j) && decide (h ≤ it f j h)) := by
  rw [← cyc_take_succ hj]
  simp [allB]
theorem allB_end {f : Nat → Nat} {N h : Nat} : allB h (cyc f N h) = lstB f N h := rfl

theorem cyc_cell {f : Nat → Nat} {N h j : Nat} (hj : j < per f N h) : gi (ints (cyc f N h)) j = (it f j h : Nat) := by
  rw [gi_ints (by rw [cyc_length]; exact hj), gN_lt (by rw [cyc_length]; exact hj)]
  simp [cyc]

set_option maxHeartbeats 2000000 in
theorem rfaces_any (A : Option Addr) (c n : Nat) (mt : List Int) (w : World) (S : Nat → Prop) (hy : RI w S A mt) (hS : ∀ b, S b → b < w.heap.size) (hn : mt.length = 4 * n) (hI : InvM mt) (h64 : n ≤ 100000) :
    Calls Try.prog 36 #[.slice A mt.length c] w fun e w' => ∃ v, e = .returned v ∧ RR 22 w' w.heap.size (fun _ => False) v (rows (facesL mt)) ∧ Below w.heap.size w w' := by
  have HI := Lib.hid hI
  have HN := Lib.hid hn
  have HY := Lib.hid (hy.imp (T := (· < w.heap.size)) hS)
  have hml : mt.length ≤ 400000 := by omega
  clear hI hn hy hS
  go_enter Try.func36, Try.ntmps36
  go_wp2_with fail
  go_loopw [3, 4] (fun v i wr => ∃ h : Nat, h ≤ mt.length ∧ i = .int .i64 h ∧ Hid (RR 22 wr w.heap.size (fun _ => False) v (rows (cycsL (nxF mt) mt.length allT h))) ∧ Hid (Below w.heap.size w wr)) (fun _ i _ => mt.length - (intOf i).toNat)
  case atStart => exact ⟨0, Nat.zero_le _, rfl, RR.nil _ _ _, Below.refl _ _⟩
  case round =>
    obtain ⟨h, hh, rfl, HR, HB⟩ := hrel
    by_cases hlt : h < mt.length
    · have hsz := HB.out.size
      go_wp2_with fail
      refine (rface_any A c n h mt wr (· < w.heap.size) (HY.out.below HB.out) (fun b hb => by omega) HN.out HI.out h64 hlt).mono ?_
      rintro e w1 ⟨u, rfl, hu, hb1⟩
      have HU := Lib.hid hu
      have HB1 := Lib.hid (HB.out.trans (hb1.mono hsz))
      have HR1 := Lib.hid (HR.out.below hb1 (Nat.le_refl _))
      have hsz1 := HB1.out.size
      obtain ⟨Au, cu, rfl, -, -, -⟩ := hu.shape
      obtain ⟨q, hq⟩ : ∃ q, per (nxF mt) mt.length h = q := ⟨_, rfl⟩
      have hil : (ints (cyc (nxF mt) mt.length h)).length = q := by rw [ints_length, cyc_length, hq]
      have hql : q ≤ mt.length := by rw [← hq]; exact (per_spec (nxF_perm HI.out HN.out) hlt).2.1
      have HQ := Lib.hid hq
      have HIL := Lib.hid hil
      rw [hil] at HU ⊢
      clear hu hb1 HB HR hq hil
      go_wp2_with fail
      go_loop [6, 7] (fun l i => ∃ j : Nat, j ≤ q ∧ i = .int .i64 j ∧ l = .bool (allB h ((cyc (nxF mt) mt.length h).take j))) (fun _ i => q - (intOf i).toNat)
      case atStart => exact ⟨0, Nat.zero_le _, rfl, rfl⟩
      case round =>
        obtain ⟨j, hj, rfl, rfl⟩ := hrel
        by_cases hjq : j < q
        · obtain ⟨g, c', hv, -, -, -, -, hcell, -⟩ := HU.out.ints (by rw [HIL.out]; omega)
          injection hv with e1 e2 e3
          subst e1 e3
          have k2 := hcell j (by rw [HIL.out]; exact hjq)
          have hjp : j < per (nxF mt) mt.length h := by rw [HQ.out]; exact hjq
          rw [cyc_cell hjp] at k2
          have hs := allB_succ (f := nxF mt) (N := mt.length) (h := h) hjp
          obtain ⟨g2, hg2⟩ : ∃ g2, it (nxF mt) j h = g2 := ⟨_, rfl⟩
          rw [hg2] at k2 hs
          have HS := Lib.hid hs
          clear hcell e2 hs hg2 hjp
          by_cases hb : allB h ((cyc (nxF mt) mt.length h).take j) = true
          · rw [hb] at HS ⊢
            by_cases hle : h ≤ g2
            · have HS' : Hid (true = allB h ((cyc (nxF mt) mt.length h).take (j + 1))) := Lib.hid (by rw [HS.out]; simp [hle])
              clear hb HS
              go_wp2_with fail
              go_round
              case rel => exact ⟨j + 1, by omega, by go_num, by rw [← HS'.out]⟩
              case measure => simp [intOf]; omega
            · have HS' : Hid (false = allB h ((cyc (nxF mt) mt.length h).take (j + 1))) := Lib.hid (by rw [HS.out]; simp [hle])
              clear hb HS
              go_wp2_with fail
              go_round
              case rel => exact ⟨j + 1, by omega, by go_num, by rw [← HS'.out]⟩
              case measure => simp [intOf]; omega
          · have hb : allB h ((cyc (nxF mt) mt.length h).take j) = false := by simpa using hb
            rw [hb] at HS ⊢
            have HS' : Hid (false = allB h ((cyc (nxF mt) mt.length h).take (j + 1))) := Lib.hid (by rw [HS.out]; simp)
            clear hb HS
            go_wp2_with fail
            go_round
            case rel => exact ⟨j + 1, by omega, by go_num, by rw [← HS'.out]⟩
            case measure => simp [intOf]; omega
        · have hend : allB h ((cyc (nxF mt) mt.length h).take j) = lstB (nxF mt) mt.length h := by rw [List.take_of_length_le (by rw [cyc_length, HQ.out]; omega), allB_end]
          rw [hend]
          have hsucc := cycsL_succ (nxF mt) mt.length allT h
          by_cases hl : lstB (nxF mt) mt.length h = true
          · rw [hl]
            rw [if_pos (by rw [hl]; rfl)] at hsucc
            have HSU := Lib.hid hsucc
            obtain ⟨vs, hvs⟩ := HR1.out
            have HV := Lib.hid hvs
            have hvl : vs.length < 1099511627776 := by
              have h1 := rows_len hvs
              have h2 := cycsL_len (nxF mt) mt.length allT h
              omega
            have HVL := Lib.hid hvl
            clear hvs hvl hend hl hsucc
            go_wp2_with (at_builtin; refine app_row (f := id) (y := Value.slice Au q cu) row_info rfl (by decide) rfl HV.out.1 HVL.out hsz1 rfl rfl Try.underlying27 rfl rfl ?_; intro v' w' ho hg hob)
            have hR := RRv.push (by decide) HV.out (HU.out.mono hsz) (fun _ _ h => h) (fun b hF => hF.elim) ho hg hob
            have hbn := HV.out.1.grown_below HB1.out hsz1 _ hg
            have HR2 : Hid (RR 22 w' w.heap.size (fun _ => False) v' (rows (cycsL (nxF mt) mt.length allT (h + 1)))) := by
              rw [HSU.out]
              unfold rows
              rw [List.map_append]
              exact ⟨_, hR⟩
            have HBN := Lib.hid hbn
            clear ho hg hob hR hbn
            go_wp2_with fail
            go_roundw
            case rel => exact ⟨h + 1, by omega, by go_num, HR2, HBN⟩
            case measure => simp [intOf]; omega
          · have hl : lstB (nxF mt) mt.length h = false := by simpa using hl
            rw [hl]
            rw [if_neg (by rw [hl]; simp), List.append_nil] at hsucc
            have HR2 : Hid (RR 22 w1 w.heap.size (fun _ => False) u3 (rows (cycsL (nxF mt) mt.length allT (h + 1)))) := by rw [hsucc]; exact HR1.out
            clear hend hl hsucc HR1
            go_wp2_with fail
            go_roundw
            case rel => exact ⟨h + 1, by omega, by go_num, HR2, HB1⟩
            case measure => simp [intOf]; omega
    · obtain rfl : mt.length = h := by omega
      have HR2 : Hid (RR 22 wr w.heap.size (fun _ => False) u3 (rows (facesL mt))) := HR.out
      clear HR hlt
      go_wp2_with fail
      go_ret
      exact ⟨_, rfl, HR2.out, HB.out⟩
end Go.Proofs.Ytaghemilihaiaaa

