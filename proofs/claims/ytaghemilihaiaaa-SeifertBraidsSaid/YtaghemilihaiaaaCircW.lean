/-
  The contract of circlesOf, walked.
-/
import Derived.Test.YtaghemilihaiaaaCirc
namespace Go.Proofs.Ytaghemilihaiaaa
open Go.RowKit

/-- while the row of the numbers is filled -/
structure CcFl (w wr : World) (A1 A2 : Option Addr) (c1 c2 : Nat) (sg mt : List Int) (L : Int) (p : List Int) : Prop where
  c0 : wr.cell? ⟨w.heap.size, 0, none⟩ = some (.slice A1 sg.length c1)
  c1 : wr.cell? ⟨w.heap.size, 1, none⟩ = some (.slice A2 mt.length c2)
  c2 : wr.cell? ⟨w.heap.size, 2, none⟩ = some (.int .i64 L)
  rs : RI wr (· < w.heap.size) A1 sg
  rm : RI wr (· < w.heap.size) A2 mt
  pr : PRow w wr w.heap.size (w.heap.size + 1) mt.length p
section
variable {w wr : World} {A1 A2 : Option Addr} {c1 c2 : Nat} {sg mt : List Int} {L : Int} {p : List Int}
theorem CcFl.start (S : Nat → Prop) (hx : RI w S A1 sg) (hy : RI w S A2 mt) (hS : ∀ b, S b → b < w.heap.size) (hm : mt.length ≤ maxLen) :
    CcFl w ((w.alloc (.cells #[.slice A1 sg.length c1, .slice A2 mt.length c2, .int .i64 L] 24)).alloc (.cells (Array.replicate mt.length (Value.int .i64 0)) 3)) A1 A2 c1 c2 sg mt L (List.replicate mt.length 0) := by
  have hD := DBox.start (c1 := c1) (c2 := c2) (L := L) S hx hy hS
  have hb : Below w.heap.size w (w.alloc (.cells #[.slice A1 sg.length c1, .slice A2 mt.length c2, .int .i64 L] 24)) := (Below.refl _ _).alloc (Nat.le_refl _) _
  have hb2 := (Below.refl (w.alloc (.cells #[.slice A1 sg.length c1, .slice A2 mt.length c2, .int .i64 L] 24)).heap.size (w.alloc (.cells #[.slice A1 sg.length c1, .slice A2 mt.length c2, .int .i64 L] 24))).alloc (Nat.le_refl _) (.cells (Array.replicate mt.length (Value.int .i64 0)) 3)
  have hD2 := hD.below hb2
  have hnew := OI.new (w.alloc (.cells #[.slice A1 sg.length c1, .slice A2 mt.length c2, .int .i64 L] 24)) w.heap.size mt.length (by simp) hm
  have hb3 := hb.trans (hb2.mono (by simp))
  refine ⟨hD2.c0, hD2.c1, hD2.c2, ?_, ?_, ⟨by simpa using hnew, hb3, by simp⟩⟩
  · exact ((hx.imp hS).below hb3)
  · exact ((hy.imp hS).below hb3)
theorem CcFl.store {k : Nat} (h : CcFl w wr A1 A2 c1 c2 sg mt L p) (hl : p.length = mt.length) (y : Int) : CcFl w (wr.setCell ⟨w.heap.size + 1, k, none⟩ (.int .i64 y)) A1 A2 c1 c2 sg mt L (p.set k y) := by
  have hcl : ∀ i, (wr.setCell ⟨w.heap.size + 1, k, none⟩ (.int .i64 y)).cell? ⟨w.heap.size, i, none⟩ = wr.cell? ⟨w.heap.size, i, none⟩ := fun i => World.cell?_of_block (a := ⟨w.heap.size, i, none⟩) (Below.heap_setCell wr _ _ w.heap.size (by simp))
  exact ⟨(hcl 0).trans h.c0, (hcl 1).trans h.c1, (hcl 2).trans h.c2, h.rs.keep fun b hb => Below.heap_setCell wr _ _ b (by simp; omega), h.rm.keep fun b hb => Below.heap_setCell wr _ _ b (by simp; omega), h.pr.store hl (by omega) y⟩
theorem CcFl.done (h : CcFl w wr A1 A2 c1 c2 sg mt L p) (hl : p.length = mt.length) (hv : ∀ x, x < mt.length → gi p x = -1) : CcSt w wr A1 A2 c1 c2 sg mt L 0 p (.slice none 0 0) :=
  ⟨h.c0, h.c1, h.c2, h.rs, h.rm, h.pr, numL_zero hl hv, RR.nil _ _ _⟩
end
theorem rows_ix (f : Nat → Nat) (N : Nat) (wt : Nat → Bool) (k : Nat) : (rows (cycsL f N wt k)).length = ixB f N wt k := by
  rw [rows_cycs_length, cycsL_ix]
theorem ixB_le (f : Nat → Nat) (N : Nat) (wt : Nat → Bool) (k : Nat) : ixB f N wt k ≤ k := cnt_le _ _

section
variable (A1 A2 : Option Addr) (c1 c2 : Nat) (sg mt : List Int) (L : Int) (w : World) (S : Nat → Prop) (hx : RI w S A1 sg) (hy : RI w S A2 mt) (hS : ∀ b, S b → b < w.heap.size)
include hx hy hS
set_option maxRecDepth 100000 in
set_option maxHeartbeats 8000000 in
theorem circles_any (hd : IsD sg mt L) :
    Calls Try.prog 33 #[.agg #[.slice A1 sg.length c1, .slice A2 mt.length c2, .int .i64 L]] w fun e w' => ∃ v, e = .returned (.tuple #[v, .slice (some ⟨w.heap.size + 1, 0, none⟩) mt.length mt.length]) ∧
      RR 22 w' (w.heap.size + 1) (· = w.heap.size + 1) v (rows (circL sg mt)) ∧ OI w' w.heap.size (.slice (some ⟨w.heap.size + 1, 0, none⟩) mt.length mt.length) (numsL sg mt) ∧ Below w.heap.size w w' := by
  have hn := hd.2.1
  have hl64 := hd.1
  have hml : mt.length ≤ 400000 := by omega
  have hsl : sg.length ≤ 100000 := by omega
  have H0 := Lib.hid (CcFl.start (c1 := c1) (c2 := c2) (L := L) S hx hy hS (by unfold maxLen; omega))
  have hmk := make_ints 22 Try.underlying22 mt.length (by omega)
  have HD := Lib.hid hd
  have HN := Lib.hid hn
  have HS := Lib.hid hd.2.2.2.2.1
  have HP := Lib.hid (nxC_perm hd)
  have HW := Lib.hid (out_nxC hd)
  clear hx hy hS hd hn hl64
  go_enter Try.func33, Try.ntmps33
  go_wp2_with fail
  clear hmk
  go_loopw [19] (fun i wr => ∃ (k : Nat) (p : List Int), k ≤ mt.length ∧ i = .int .i64 k ∧ Hid (CcFl w wr A1 A2 c1 c2 sg mt L p) ∧ Hid (p.length = mt.length ∧ ∀ j, j < k → gi p j = -1)) (fun i _ => mt.length - (intOf i).toNat)
  case atStart => exact ⟨0, _, Nat.zero_le _, rfl, H0, by simp, by intro j hj; omega⟩
  case round =>
    clear H0
    obtain ⟨k, p, hk, rfl, HF, HV⟩ := hrel
    by_cases hlt : k < mt.length
    · obtain ⟨-, hBg, hgs, hlc, hcell, hfz⟩ := HF.out.pr.own.ints_at (by rw [HV.out.1]; omega)
      have k1 := hcell k (by rw [HV.out.1]; exact hlt)
      have k2 := hfz k
      have HF' := Lib.hid (HF.out.store (k := k) HV.out.1 (-1))
      have HV' : Hid ((p.set k (-1)).length = mt.length ∧ ∀ j, j < k + 1 → gi (p.set k (-1)) j = -1) := by
        refine ⟨by rw [List.length_set]; exact HV.out.1, fun j hj => ?_⟩
        rw [gi_set (by rw [HV.out.1]; exact hlt)]
        split
        · rfl
        · exact HV.out.2 j (by omega)
      clear hcell hfz hlc
      go_wp2_with fail
      go_roundw
      case rel => exact ⟨k + 1, _, by omega, by go_num, HF', HV'⟩
      case measure => simp [intOf]; omega
    · have HC := Lib.hid (HF.out.done HV.out.1 fun x hx => HV.out.2 x (by omega))
      clear HV HF
      go_wp2_with fail
      clear hk hlt
      obtain ⟨w2, rfl⟩ : ∃ x : World, x = wr := ⟨_, rfl⟩
      go_loopw [7, 28] (fun v i wr => ∃ (k : Nat) (p : List Int), k ≤ mt.length ∧ i = .int .i64 k ∧ Hid (CcSt w wr A1 A2 c1 c2 sg mt L k p v)) (fun _ i _ => mt.length - (intOf i).toNat)
      case atStart => exact ⟨0, p, Nat.zero_le _, rfl, HC⟩
      case round =>
        clear HC
        obtain ⟨k, p, hk, rfl, HC⟩ := hrel
        by_cases hlt : k < mt.length
        · have hkb : k ≤ 1000000 := by omega
          have hk4 : (k : Int).tdiv 4 = ((k / 4 : Nat) : Int) := Int.ofNat_tdiv k 4
          obtain ⟨kq, hkq⟩ : ∃ kq, k / 4 = kq := ⟨_, rfl⟩
          rw [hkq] at hk4
          have hkq1 : kq < sg.length := by have := HN.out; omega
          have hkqb : kq ≤ 100000 := by omega
          have hk4e : (k : Int) / 4 = (kq : Int) := by omega
          by_cases hm : k % 4 = 2
          · have q2 : ((k : Int) % 4 == 2) = true := by rw [beq_iff_eq]; omega
            have hox : outB sg k = true := by unfold outB; rw [if_neg (by omega), if_pos hm]
            have HO := Lib.hid hox
            obtain ⟨w1, rfl⟩ : ∃ x : World, x = wr := ⟨_, rfl⟩
            have HC1 := HC
            clear HC hm hkq hox
            have hz : Hid (0 ≤ gi p k ↔ lstB (nxC sg mt) mt.length k = false) := numL_test HP.out HW.out hlt HO.out HC1.out.num
            obtain ⟨-, hBg, hgs, hlc, hcell, hfz⟩ := HC1.out.pr.own.ints_at (by rw [HC1.out.num.1]; omega)
            have k1 := hcell k (by rw [HC1.out.num.1]; exact hlt)
            clear hcell hfz hlc hBg
            by_cases h0 : 0 ≤ gi p k
            · have HC' := Lib.hid (HC1.out.skip fun h => by rw [hz.out.1 h0] at h; cases h.2)
              go_wp2_with fail
              go_roundw
              case rel => exact ⟨k + 1, p, by omega, by go_num, HC'⟩
              case measure => simp [intOf]; omega
            · have hlb : lstB (nxC sg mt) mt.length k = true := by
                cases h : lstB (nxC sg mt) mt.length k
                · exact absurd (hz.out.2 h) h0
                · rfl
              have HLB := Lib.hid hlb
              have HM := Lib.hid HC1.out.begin
              obtain ⟨A, cv, hv, -, -, -⟩ := HC1.out.row.shape
              subst hv
              obtain ⟨q, hq⟩ : ∃ q, ixB (nxC sg mt) mt.length (outB sg) k = q := ⟨_, rfl⟩
              have hqb : q ≤ 1000000 := by have := ixB_le (nxC sg mt) mt.length (outB sg) k; omega
              rw [rows_ix, hq] at HM ⊢
              have HQ := Lib.hid hq
              obtain ⟨B, hB⟩ : ∃ B, w1.heap.size = B := ⟨_, rfl⟩
              rw [hB] at HM
              clear HC1 hlb hq hz hB
              go_wp2_with fail
              clear k1 h0
              obtain ⟨w3, rfl⟩ : ∃ x : World, x = w1 := ⟨_, rfl⟩
              go_loopg [10, 11] (per (nxC sg mt) mt.length k + 1) (fun F u g wr => ∃ (j : Nat) (p : List Int), j ≤ per (nxC sg mt) mt.length k ∧ g = .int .i64 (it (nxC sg mt) j k) ∧ Hid (CcMk w wr A1 A2 c1 c2 sg mt L k j p (.slice A q cv) u B) ∧ Hid (per (nxC sg mt) mt.length k - j < F))
              case atStart => exact ⟨0, p, by omega, rfl, HM, by show _ - _ < _; omega⟩
              case round =>
                clear HM
                obtain ⟨j, p, hj, rfl, HM, HF⟩ := hrel
                have hgl : it (nxC sg mt) j k < mt.length := HP.out.it_lt j hlt
                obtain ⟨-, -, hgs, -, hcell, hfz⟩ := HM.out.pr.own.ints_at (by rw [HM.out.num.1]; omega)
                have k1 := hcell (it (nxC sg mt) j k) (by rw [HM.out.num.1]; exact hgl)
                have k2 := hfz (it (nxC sg mt) j k)
                clear hcell hfz
                by_cases hjp : j < per (nxC sg mt) mt.length k
                · have hneg : gi p (it (nxC sg mt) j k) = -1 := numJ_open HP.out HW.out hlt HO.out HLB.out HM.out.num hjp
                  rw [hneg] at k1
                  have hog : outB sg (it (nxC sg mt) j k) = true := by rw [wt_cyc HP.out HW.out hlt ((mem_cyc HP.out hlt).2 ⟨j, rfl⟩)]; exact HO.out
                  have HOG := Lib.hid hog
                  have hlist := HM.out.list.keep (w' := wr.setCell ⟨w.heap.size + 1, it (nxC sg mt) j k, none⟩ (.int .i64 q)) fun g hg => Below.heap_setCell wr _ _ g (by have := (HM.out.list.lt g hg).1; have := HM.out.gB; simp; omega)
                  have HL := Lib.hid hlist
                  have hlen : (ints ((cyc (nxC sg mt) mt.length k).take j)).length < 1099511627776 := by
                    have h1 := cyc_length_le HP.out hlt
                    rw [ints_length, List.length_take]; omega
                  have HLE := Lib.hid hlen
                  have hsz : B ≤ (wr.setCell ⟨w.heap.size + 1, it (nxC sg mt) j k, none⟩ (.int .i64 q)).heap.size := by simpa using HM.out.bw
                  have HSZ := Lib.hid hsz
                  clear hneg hog hlist hlen hsz
                  go_wp2_with (at_builtin; refine app1 HL.out HLE.out HSZ.out rfl rfl Try.underlying22 rfl (by show Value.slice (some ⟨wr.heap.size, 0, none⟩) 1 1 = _; simp) ?_; intro v' w' ho hg hob)
                  have hg2 := hg
                  rw [← HQ.out] at hg2
                  have HM1 := Lib.hid (HM.out.step HD.out hlt HLB.out hjp ho hg2)
                  clear ho hg hob hg2 HM HL HLE HSZ k1 k2
                  refine (nextC HM1.out.db HD.out hgl HOG.out).mono ?_
                  rintro e w4 ⟨rfl, hb⟩
                  have HM2 := Lib.hid (HM1.out.call hb)
                  clear HM1 hb
                  go_wp2_with fail
                  go_roundg (per (nxC sg mt) mt.length k - j)
                  case measure => exact HF.out
                  case rel => exact ⟨j + 1, _, by omega, rfl, HM2, by show _ - _ < _; omega⟩
                · have hje : j = per (nxC sg mt) mt.length k := by omega
                  obtain ⟨Au, cu, hu, -, -, -⟩ := HM.out.list.shape
                  obtain ⟨lu, hlu⟩ : ∃ lu, (ints ((cyc (nxC sg mt) mt.length k).take j)).length = lu := ⟨_, rfl⟩
                  rw [hlu] at hu
                  clear hlu
                  subst hu
                  have hnn : 0 ≤ gi p (it (nxC sg mt) j k) := numJ_shut HP.out hlt HM.out.num hje
                  obtain ⟨vs, hvs⟩ := HM.out.row
                  have HV := Lib.hid hvs
                  have hvl : vs.length < 1099511627776 := by
                    have h1 := rows_len hvs
                    have h2 := cycsL_len (nxC sg mt) mt.length (outB sg) k
                    omega
                  have HVL := Lib.hid hvl
                  have hsz : w.heap.size + 1 ≤ wr.heap.size := by have := HM.out.pr.size; omega
                  have HSZ := Lib.hid hsz
                  have HJE := Lib.hid hje
                  have k3 : ¬ gi p (it (nxC sg mt) j k) < 0 := by omega
                  clear hvs hvl hsz hje hjp
                  go_wp2_with (at_builtin; refine app_row (f := id) (y := Value.slice Au lu cu) row_info rfl (by decide) rfl HV.out.1 HVL.out HSZ.out rfl rfl Try.underlying27 rfl rfl ?_; intro v' w' ho hg hob)
                  go_roundw
                  case rel => exact ⟨k + 1, p, by omega, by go_num, HM.out.push HD.out hlt HO.out HLB.out HJE.out HV.out ho hg hob⟩
                  case measure => simp [intOf]; omega
          · have q2 : ((k : Int) % 4 == 2) = false := by rw [beq_eq_false_iff_ne]; omega
            obtain ⟨o, ho⟩ : ∃ o, overN sg kq = o := ⟨_, rfl⟩
            obtain ⟨x, hxo⟩ : ∃ x, outB sg k = x := ⟨_, rfl⟩
            have q3 : ((k : Int) == (o : Int)) = x := by rw [← ho, ← hxo, ← hkq]; exact out_over hm HS.out (by omega)
            have HO := Lib.hid hxo
            have HOV := Lib.hid ho
            have k0 := HC.out.c0
            have k1 := HC.out.c1
            have k2 := HC.out.c2
            clear hm hkq hxo ho
            go_wp2_with fail
            refine (over_any A1 A2 c1 c2 mt.length sg L _ kq _ (· < w.heap.size) HC.out.rs (fun b hb => by have := HC.out.pr.size; omega) HS.out hkq1 hsl (by omega)).mono ?_
            rintro e w1 ⟨rfl, hb⟩
            have HC1 := Lib.hid (HC.out.call hb)
            clear HC hb k0 k1 k2
            rw [HOV.out]
            cases x
            · go_wp2_with fail
              have HC' := Lib.hid (HC1.out.skip fun h => by have := HO.out; rw [this] at h; cases h.1)
              go_roundw
              case rel => exact ⟨k + 1, p, by omega, by go_num, HC'⟩
              case measure => simp [intOf]; omega
            · have hz : Hid (0 ≤ gi p k ↔ lstB (nxC sg mt) mt.length k = false) := numL_test HP.out HW.out hlt HO.out HC1.out.num
              obtain ⟨-, hBg, hgs, hlc, hcell, hfz⟩ := HC1.out.pr.own.ints_at (by rw [HC1.out.num.1]; omega)
              have k1 := hcell k (by rw [HC1.out.num.1]; exact hlt)
              clear hcell hfz hlc hBg
              by_cases h0 : 0 ≤ gi p k
              · have HC' := Lib.hid (HC1.out.skip fun h => by rw [hz.out.1 h0] at h; cases h.2)
                go_wp2_with fail
                go_roundw
                case rel => exact ⟨k + 1, p, by omega, by go_num, HC'⟩
                case measure => simp [intOf]; omega
              · have hlb : lstB (nxC sg mt) mt.length k = true := by
                  cases h : lstB (nxC sg mt) mt.length k
                  · exact absurd (hz.out.2 h) h0
                  · rfl
                have HLB := Lib.hid hlb
                have HM := Lib.hid HC1.out.begin
                obtain ⟨A, cv, hv, -, -, -⟩ := HC1.out.row.shape
                subst hv
                obtain ⟨q, hq⟩ : ∃ q, ixB (nxC sg mt) mt.length (outB sg) k = q := ⟨_, rfl⟩
                have hqb : q ≤ 1000000 := by have := ixB_le (nxC sg mt) mt.length (outB sg) k; omega
                rw [rows_ix, hq] at HM ⊢
                have HQ := Lib.hid hq
                obtain ⟨B, hB⟩ : ∃ B, w1.heap.size = B := ⟨_, rfl⟩
                rw [hB] at HM
                clear HC1 hlb hq hz hB
                go_wp2_with fail
                clear k1 h0
                obtain ⟨w3, rfl⟩ : ∃ x : World, x = w1 := ⟨_, rfl⟩
                go_loopg [10, 11] (per (nxC sg mt) mt.length k + 1) (fun F u g wr => ∃ (j : Nat) (p : List Int), j ≤ per (nxC sg mt) mt.length k ∧ g = .int .i64 (it (nxC sg mt) j k) ∧ Hid (CcMk w wr A1 A2 c1 c2 sg mt L k j p (.slice A q cv) u B) ∧ Hid (per (nxC sg mt) mt.length k - j < F))
                case atStart => exact ⟨0, p, by omega, rfl, HM, by show _ - _ < _; omega⟩
                case round =>
                  clear HM
                  obtain ⟨j, p, hj, rfl, HM, HF⟩ := hrel
                  have hgl : it (nxC sg mt) j k < mt.length := HP.out.it_lt j hlt
                  obtain ⟨-, -, hgs, -, hcell, hfz⟩ := HM.out.pr.own.ints_at (by rw [HM.out.num.1]; omega)
                  have k1 := hcell (it (nxC sg mt) j k) (by rw [HM.out.num.1]; exact hgl)
                  have k2 := hfz (it (nxC sg mt) j k)
                  clear hcell hfz
                  by_cases hjp : j < per (nxC sg mt) mt.length k
                  · have hneg : gi p (it (nxC sg mt) j k) = -1 := numJ_open HP.out HW.out hlt HO.out HLB.out HM.out.num hjp
                    rw [hneg] at k1
                    have hog : outB sg (it (nxC sg mt) j k) = true := by rw [wt_cyc HP.out HW.out hlt ((mem_cyc HP.out hlt).2 ⟨j, rfl⟩)]; exact HO.out
                    have HOG := Lib.hid hog
                    have hlist := HM.out.list.keep (w' := wr.setCell ⟨w.heap.size + 1, it (nxC sg mt) j k, none⟩ (.int .i64 q)) fun g hg => Below.heap_setCell wr _ _ g (by have := (HM.out.list.lt g hg).1; have := HM.out.gB; simp; omega)
                    have HL := Lib.hid hlist
                    have hlen : (ints ((cyc (nxC sg mt) mt.length k).take j)).length < 1099511627776 := by
                      have h1 := cyc_length_le HP.out hlt
                      rw [ints_length, List.length_take]; omega
                    have HLE := Lib.hid hlen
                    have hsz : B ≤ (wr.setCell ⟨w.heap.size + 1, it (nxC sg mt) j k, none⟩ (.int .i64 q)).heap.size := by simpa using HM.out.bw
                    have HSZ := Lib.hid hsz
                    clear hneg hog hlist hlen hsz
                    go_wp2_with (at_builtin; refine app1 HL.out HLE.out HSZ.out rfl rfl Try.underlying22 rfl (by show Value.slice (some ⟨wr.heap.size, 0, none⟩) 1 1 = _; simp) ?_; intro v' w' ho hg hob)
                    have hg2 := hg
                    rw [← HQ.out] at hg2
                    have HM1 := Lib.hid (HM.out.step HD.out hlt HLB.out hjp ho hg2)
                    clear ho hg hob hg2 HM HL HLE HSZ k1 k2
                    refine (nextC HM1.out.db HD.out hgl HOG.out).mono ?_
                    rintro e w4 ⟨rfl, hb⟩
                    have HM2 := Lib.hid (HM1.out.call hb)
                    clear HM1 hb
                    go_wp2_with fail
                    go_roundg (per (nxC sg mt) mt.length k - j)
                    case measure => exact HF.out
                    case rel => exact ⟨j + 1, _, by omega, rfl, HM2, by show _ - _ < _; omega⟩
                  · have hje : j = per (nxC sg mt) mt.length k := by omega
                    obtain ⟨Au, cu, hu, -, -, -⟩ := HM.out.list.shape
                    obtain ⟨lu, hlu⟩ : ∃ lu, (ints ((cyc (nxC sg mt) mt.length k).take j)).length = lu := ⟨_, rfl⟩
                    rw [hlu] at hu
                    clear hlu
                    subst hu
                    have hnn : 0 ≤ gi p (it (nxC sg mt) j k) := numJ_shut HP.out hlt HM.out.num hje
                    obtain ⟨vs, hvs⟩ := HM.out.row
                    have HV := Lib.hid hvs
                    have hvl : vs.length < 1099511627776 := by
                      have h1 := rows_len hvs
                      have h2 := cycsL_len (nxC sg mt) mt.length (outB sg) k
                      omega
                    have HVL := Lib.hid hvl
                    have hsz : w.heap.size + 1 ≤ wr.heap.size := by have := HM.out.pr.size; omega
                    have HSZ := Lib.hid hsz
                    have HJE := Lib.hid hje
                    have k3 : ¬ gi p (it (nxC sg mt) j k) < 0 := by omega
                    clear hvs hvl hsz hje hjp
                    go_wp2_with (at_builtin; refine app_row (f := id) (y := Value.slice Au lu cu) row_info rfl (by decide) rfl HV.out.1 HVL.out HSZ.out rfl rfl Try.underlying27 rfl rfl ?_; intro v' w' ho hg hob)
                    go_roundw
                    case rel => exact ⟨k + 1, p, by omega, by go_num, HM.out.push HD.out hlt HO.out HLB.out HJE.out HV.out ho hg hob⟩
                    case measure => simp [intOf]; omega
        · obtain rfl : mt.length = k := by omega
          have HR : Hid (RR 22 wr (w.heap.size + 1) (· = w.heap.size + 1) u7 (rows (circL sg mt))) := HC.out.row
          have hp : p = numsL sg mt := ext_gi (by rw [numsL_length]; exact HC.out.num.1) fun x hx => by
            rw [HC.out.num.1] at hx
            rw [gi_numsL hx]
            exact numL_end HP.out HW.out HC.out.num hx
          have HO : Hid (OI wr w.heap.size (.slice (some ⟨w.heap.size + 1, 0, none⟩) mt.length mt.length) (numsL sg mt)) := by
            rw [← hp]; exact HC.out.pr.own
          have hbel := HC.out.pr.below
          clear HC hlt hk hp
          go_wp2_with fail
          go_ret2
          exact ⟨_, rfl, HR.out, HO.out, hbel⟩
end
end Go.Proofs.Ytaghemilihaiaaa

