/-
  The law SignatureBlocks, walked: the call returns true and writes nothing that was there.
-/
import Derived.Test.YteanhbldhaiekaaBlk
namespace Go.Proofs.Yteanhbldhaiekaa
open Go.RowKit

section
variable (A B : Option Addr) (ca cb : Nat) (xa xb : List (List Int)) (w : World) (ha : AM w A xa.length xa) (hb : AM w B xb.length xb)
include ha hb
set_option maxHeartbeats 8000000 in
theorem sbl_a (h : ¬ ((boL xa).length + (boL xb).length ≤ 6 ∧ (boL xa).length = xa.length ∧ (boL xb).length = xb.length)) : Calls Try.prog 4 #[.slice A xa.length ca, .slice B xb.length cb] w fun e w' => e = .returned (.bool true) ∧ Below w.heap.size w w' := by
  have HM_0 := Lib.hid ha
  have HN_0 := Lib.hid hb
  have HH := Lib.hid h
  obtain ⟨nm, hnm⟩ : ∃ n, xa.length = n := ⟨_, rfl⟩
  obtain ⟨km, hkm⟩ : ∃ n, xb.length = n := ⟨_, rfl⟩
  rw [hnm] at HM_0 HH ⊢
  rw [hkm] at HN_0 HH ⊢
  have hm64 := HM_0.out.nl
  have hk64 := HN_0.out.nl
  unfold maxLen at hm64 hk64
  clear ha hb h hnm hkm
  go_enter Try.func4, Try.ntmps4
  go_wp2_with fail
  refine (awake39 w).mono ?_
  rintro e w1 ⟨rfl, hb⟩
  have HM_1 := Lib.hid (HM_0.out.call hb)
  have HN_1 := Lib.hid (HN_0.out.call hb)
  have HB_1 := Lib.hid hb
  clear hb HM_0 HN_0
  go_wp2_with fail
  refine (both_any (cap := ca) HM_1.out).mono ?_
  rintro e w2 ⟨A1, n1, c1, rfl, hx, hb⟩
  have HN_2 := Lib.hid (HN_1.out.call hb)
  have HB_2 := Lib.hid (below_cons HB_1.out hb)
  have hnx := hx.ln
  have h6x := (bo_all xa).1
  clear hb hx HM_1 HB_1 HN_1
  go_wp2_with fail
  refine (both_any (cap := cb) HN_2.out).mono ?_
  rintro e w3 ⟨A2, n2, c2, rfl, hy, hb⟩
  have HB_3 := Lib.hid (below_cons HB_2.out hb)
  have hny := hy.ln
  have h6y := (bo_all xb).1
  clear hb hy HB_2 HN_2
  rw [hnx] at h6x
  rw [hny] at h6y
  have hh := HH.out
  rw [hnx, hny] at hh
  clear hnx hny HH
  by_cases h6 : 6 < n1 + n2
  · go_wp2_with fail
    go_ret
    exact ⟨rfl, HB_3.out⟩
  · by_cases e1 : n1 = nm
    · have z0 : ((n1 : Int) != (nm : Int)) = false := by rw [bne_eq_false_iff_eq]; omega
      have z1 : ((n2 : Int) != (km : Int)) = true := by rw [bne_iff_ne]; intro e; exact hh ⟨by omega, e1, by omega⟩
      clear hh
      go_wp2_with fail
      go_ret
      exact ⟨rfl, HB_3.out⟩
    · have z1 : ((n1 : Int) != (nm : Int)) = true := by rw [bne_iff_ne]; intro e; exact e1 (by omega)
      clear hh
      go_wp2_with fail
      go_ret
      exact ⟨rfl, HB_3.out⟩
set_option maxRecDepth 100000 in
set_option maxHeartbeats 8000000 in
theorem sbl_b (h : (boL xa).length + (boL xb).length ≤ 6 ∧ (boL xa).length = xa.length ∧ (boL xb).length = xb.length) : Calls Try.prog 4 #[.slice A xa.length ca, .slice B xb.length cb] w fun e w' => e = .returned (.bool true) ∧ Below w.heap.size w w' := by
  have HM_0 := Lib.hid ha
  have HN_0 := Lib.hid hb
  obtain ⟨h6, HHx, HHy⟩ := h
  have HX := Lib.hid HHx
  have HY := Lib.hid HHy
  rw [HHx, HHy] at h6
  clear HHx HHy
  obtain ⟨nm, hnm⟩ : ∃ n, xa.length = n := ⟨_, rfl⟩
  obtain ⟨km, hkm⟩ : ∃ n, xb.length = n := ⟨_, rfl⟩
  rw [hnm] at HM_0 HX h6 ⊢
  rw [hkm] at HN_0 HY h6 ⊢
  clear ha hb hnm hkm
  go_enter Try.func4, Try.ntmps4
  go_wp2_with fail
  refine (awake39 w).mono ?_
  rintro e w1 ⟨rfl, hb⟩
  have HM_1 := Lib.hid (HM_0.out.call hb)
  have HN_1 := Lib.hid (HN_0.out.call hb)
  have HB_1 := Lib.hid hb
  clear hb HM_0 HN_0
  go_wp2_with fail
  refine (both_any (cap := ca) HM_1.out).mono ?_
  rintro e w2 ⟨A1, n1, c1, rfl, hx, hb⟩
  have HX_2 := Lib.hid hx
  have HN_2 := Lib.hid (HN_1.out.call hb)
  have HB_2 := Lib.hid (below_cons HB_1.out hb)
  have hnx := hx.ln
  clear hb hx HM_1 HB_1 HN_1
  obtain rfl : n1 = nm := by rw [← hnx]; exact HX.out
  clear hnx
  go_wp2_with fail
  refine (both_any (cap := cb) HN_2.out).mono ?_
  rintro e w3 ⟨A2, n2, c2, rfl, hy, hb⟩
  have HX_3 := Lib.hid (HX_2.out.call hb)
  have HY_3 := Lib.hid hy
  have HB_3 := Lib.hid (below_cons HB_2.out hb)
  have hny := hy.ln
  clear hb hy HB_2 HN_2 HX_2
  obtain rfl : n2 = km := by rw [← hny]; exact HY.out
  clear hny
  obtain ⟨-, hMx, hSx, hRx⟩ := bo_all xa
  obtain ⟨-, hMy, hSy, hRy⟩ := bo_all xb
  obtain ⟨x, hx⟩ : ∃ x, boL xa = x := ⟨_, rfl⟩
  rw [hx] at HX_3 HX hMx hSx hRx
  obtain ⟨y, hy⟩ : ∃ y, boL xb = y := ⟨_, rfl⟩
  rw [hy] at HY_3 HY hMy hSy hRy
  have HPx := Lib.hid (And.intro hMx (And.intro hSx hRx))
  have HPy := Lib.hid (And.intro hMy (And.intro hSy hRy))
  have HALx : Hid (∀ i, i < n1 → rowL x i = n1) := Lib.hid fun i hi => by have := hSx.1 i (by rw [HX.out]; exact hi); rw [HX.out] at this; exact this
  have HALy : Hid (∀ i, i < n2 → rowL y i = n2) := Lib.hid fun i hi => by have := hSy.1 i (by rw [HY.out]; exact hi); rw [HY.out] at this; exact this
  clear hMx hMy hSx hSy hRx hRy hx hy
  have z1 : ((n1 : Int) != (n1 : Int)) = false := by rw [bne_eq_false_iff_eq]
  have z2 : ((n2 : Int) != (n2 : Int)) = false := by rw [bne_eq_false_iff_eq]
  go_wp2_with fail
  clear z1 z2
  go_loopw [8, 55] (fun v i' wr => ∃ i : Nat, i ≤ n1 + n2 ∧ i' = .int .i64 i ∧ Hid (RR 33 wr w3.heap.size (fun _ => False) v (blM x y n1 n2 i)) ∧ Hid (Below w3.heap.size w3 wr)) (fun _ i _ => n1 + n2 - (intOf i).toNat)
  case atStart => exact ⟨0, Nat.zero_le _, rfl, RR.nil _ _ _, Below.refl _ _⟩
  case round =>
    obtain ⟨i, hi, rfl, HR, HC⟩ := hrel
    by_cases hlt : i < n1 + n2
    · have hmk := make_ints 33 Try.underlying33 (n1 + n2) (by omega)
      rw [Int.natCast_add] at hmk
      have hszr := HC.out.size
      have HXr := Lib.hid (HX_3.out.call HC.out)
      have HYr := Lib.hid (HY_3.out.call HC.out)
      by_cases h1 : i < n1
      · obtain ⟨b1, o1, Ai, ci, rfl, d1, hri⟩ := HXr.out.head h1
        rw [HALx.out i h1] at d1
        have hb1 : b1 < wr.heap.size := World.block_lt_of_cell? _ _ d1
        have HRI := Lib.hid hri
        clear hri
        obtain ⟨cs, hcs⟩ : ∃ cs : List Value, (x.getD i []).map (Value.int .i64) = cs := ⟨_, rfl⟩
        have hcl : cs.length = n1 := by rw [← hcs, List.length_map]; exact HALx.out i h1
        have HCL : Hid (cs.length = Nat.min n1 (n1 + n2)) := Lib.hid (by rw [hcl]; exact (Nat.min_eq_left (Nat.le_add_right _ _)).symm)
        have HCS := Lib.hid hcs
        have HONE : Hid (∀ v ∈ cs, v.oneCell' = true) := Lib.hid fun v hv => by
          rw [← hcs] at hv
          obtain ⟨z, -, rfl⟩ := List.mem_map.1 hv
          rfl
        have HSRC : Hid (∃ ad, Ai = some ad ∧ ∀ j v, cs[j]? = some v → (wr.alloc (.cells (Array.replicate (n1 + n2) (Value.int .i64 0)) 3)).cell? (ad.add j) = some v) := Lib.hid (by
          have hne : 0 < (x.getD i []).length := by have := HALx.out i h1; unfold rowL at this; omega
          obtain ⟨b3, o3, e3, hb3, hc3⟩ := HRI.out.at_ (k := 0) hne
          refine ⟨_, e3, fun j v hv => ?_⟩
          rw [← hcs] at hv
          have hj : j < (x.getD i []).length := by have := (List.getElem?_eq_some_iff.1 hv).1; simpa using this
          rw [List.getElem?_map, List.getElem?_eq_getElem hj] at hv
          injection hv with hv
          rw [Addr.add_lit, World.cell?_alloc_lt wr _ ⟨b3, o3 + j, none⟩ hb3, hc3 j hj, ← hv]
          unfold gi
          rw [List.getD_eq_getElem?_getD, List.getElem?_eq_getElem hj]
          rfl)
        have HAL : Hid ((wr.alloc (.cells (Array.replicate (n1 + n2) (Value.int .i64 0)) 3)).heap[wr.heap.size]? = some (.cells (List.replicate (n1 + n2) (Value.int .i64 0)).toArray 3 (0, 0))) := Lib.hid (by rw [heap_alloc_new]; simp)
        have HBA : Hid (Below wr.heap.size wr (wr.alloc (.cells (Array.replicate (n1 + n2) (Value.int .i64 0)) 3))) := Lib.hid ((Below.refl _ _).alloc (Nat.le_refl _) _)
        clear hcs
        go_wp2_with (with_reducible refine wpList_copy_splice rfl (.tmp 64) (.tmp 68) 33 33 rfl 3 rfl rfl _ _ _ _ _ _ rfl rfl wr.heap.size 0 (List.replicate (n1 + n2) (Value.int .i64 0)) 3 HAL.out cs HCL.out (fun _ => ⟨rfl, HSRC.out⟩) (by rw [hcl]; simp) HONE.out wr.heap.size wr HBA.out (Nat.le_refl _) ?_)
        intro w7 HG7 hb7
        have HEQ : Hid (splice (List.replicate (n1 + n2) (Value.int .i64 0)) 0 cs = (blR x y n1 n2 i).map (Value.int .i64)) := Lib.hid (by
          unfold splice blR
          rw [if_pos h1, List.take_zero, List.nil_append, Nat.zero_add, hcl, List.drop_replicate, Nat.add_sub_cancel_left, List.map_append, HCS.out, List.map_replicate])
        rw [HEQ.out] at HG7
        clear HCL HONE HSRC HAL HBA hcl HEQ HCS d1 hb1 HRI hmk HXr HYr
        have HO7 : Hid (OI w7 wr.heap.size (.slice (some ⟨wr.heap.size, 0, none⟩) (n1 + n2) (n1 + n2)) (blR x y n1 n2 i)) := Lib.hid (by
          have h := OI.of_heap (B := wr.heap.size) (c := n1 + n2) (Nat.le_refl _) HG7.out (blR_len HALx.out HALy.out hlt) (by unfold maxLen; omega)
          rwa [blR_len HALx.out HALy.out hlt] at h)
        obtain ⟨vs, hvs⟩ := HR.out.below hb7 (Nat.le_refl _)
        have HV := Lib.hid hvs
        have HVL : Hid (vs.length < 1099511627776) := Lib.hid (by have := hvs.2.2.1; rw [blM_len] at this; omega)
        have HBW := Lib.hid (HC.out.trans (hb7.mono hszr))
        have hszw := HBW.out.size
        clear hvs hb7 HG7
        go_wp2_with (at_builtin; refine app_row (f := id) (y := Value.slice (some ⟨wr.heap.size, 0, none⟩) (n1 + n2) (n1 + n2)) row_info rfl (by decide) rfl HV.out.1 HVL.out hszw rfl rfl Try.underlying22 rfl rfl ?_; intro v' w' ho hg hob)
        have hR := RRv.push (by decide) HV.out (HO7.out.mono hszr) (fun _ _ h => h) (fun b hF => hF.elim) ho hg hob
        have HBN := Lib.hid (HV.out.1.grown_below HBW.out hszw _ hg)
        have HR2 : Hid (RR 33 w' w3.heap.size (fun _ => False) v' (blM x y n1 n2 (i + 1))) := by
          rw [blM_succ]; exact ⟨_, hR⟩
        clear ho hg hob hR
        go_roundw
        case rel => exact ⟨i + 1, by omega, by go_num, HR2, HBN⟩
        case measure => simp [intOf]; omega
      · obtain ⟨j, rfl⟩ : ∃ j, i = n1 + j := ⟨i - n1, by omega⟩
        have hj : j < n2 := by omega
        obtain ⟨b1, o1, Ai, ci, rfl, d1, hri⟩ := HYr.out.head hj
        rw [HALy.out j hj] at d1
        have hb1 : b1 < wr.heap.size := World.block_lt_of_cell? _ _ d1
        have HRI := Lib.hid hri
        clear hri
        obtain ⟨cs, hcs⟩ : ∃ cs : List Value, (y.getD j []).map (Value.int .i64) = cs := ⟨_, rfl⟩
        have hcl : cs.length = n2 := by rw [← hcs, List.length_map]; exact HALy.out j hj
        have HCL : Hid (cs.length = Nat.min n2 n2) := Lib.hid (by rw [hcl]; exact (Nat.min_self _).symm)
        have HCS := Lib.hid hcs
        have HONE : Hid (∀ v ∈ cs, v.oneCell' = true) := Lib.hid fun v hv => by
          rw [← hcs] at hv
          obtain ⟨z, -, rfl⟩ := List.mem_map.1 hv
          rfl
        have HSRC : Hid (∃ ad, Ai = some ad ∧ ∀ k v, cs[k]? = some v → ((wr.alloc (.cells (Array.replicate (n1 + n2) (Value.int .i64 0)) 3)).drew).cell? (ad.add k) = some v) := Lib.hid (by
          have hne : 0 < (y.getD j []).length := by have := HALy.out j hj; unfold rowL at this; omega
          obtain ⟨b3, o3, e3, hb3, hc3⟩ := HRI.out.at_ (k := 0) hne
          refine ⟨_, e3, fun k v hv => ?_⟩
          rw [← hcs] at hv
          have hk : k < (y.getD j []).length := by have := (List.getElem?_eq_some_iff.1 hv).1; simpa using this
          rw [List.getElem?_map, List.getElem?_eq_getElem hk] at hv
          injection hv with hv
          have h9 : (wr.alloc (.cells (Array.replicate (n1 + n2) (Value.int .i64 0)) 3)).cell? ⟨b3, o3 + k, none⟩ = some v := by
            rw [World.cell?_alloc_lt wr _ ⟨b3, o3 + k, none⟩ hb3, hc3 k hk, ← hv]
            unfold gi
            rw [List.getD_eq_getElem?_getD, List.getElem?_eq_getElem hk]
            rfl
          rw [Addr.add_lit]
          exact h9)
        have HAL : Hid (((wr.alloc (.cells (Array.replicate (n1 + n2) (Value.int .i64 0)) 3)).drew).heap[wr.heap.size]? = some (.cells (List.replicate (n1 + n2) (Value.int .i64 0)).toArray 3 (0, 0))) := Lib.hid (by show (wr.alloc (.cells (Array.replicate (n1 + n2) (Value.int .i64 0)) 3)).heap[wr.heap.size]? = _; rw [heap_alloc_new]; simp)
        have HBA : Hid (Below wr.heap.size wr ((wr.alloc (.cells (Array.replicate (n1 + n2) (Value.int .i64 0)) 3)).drew)) := Lib.hid ((Below.refl _ _).alloc (Nat.le_refl _) _).drew
        have hsl : ∀ W : World, (Instr.sliceAt 33 (.slice (some ⟨wr.heap.size, 0, none⟩) (n1 + n2) (n1 + n2)) (some (.int .i64 (n1 : Int))) none none).run Try.prog W = .ok (.slice (some ⟨wr.heap.size, n1, none⟩) n2 n2) W := fun W => by
          have ht : Try.prog.underlying 33 = some (.slice (Try.prog.elem 33)) := by kernel_rfl
          obtain ⟨i0, hi0, -, hz1, -⟩ := info_parts int_info
          have hsz : (sizeOf (Try.prog.elem 33)).run Try.prog W = .ok 1 W := by
            show (sizeOf 3).run Try.prog W = _
            simp [sizeOf, typeInfo, hi0, hz1]
          rw [run_sliceAt_slice (h := ht), run_slice_l (ht := ht) (h0 := by omega) (h1 := by omega), hsz]
          simp [sliced, Result.andThen, Addr.add]
          rw [if_neg (by omega)]
          by_cases h0 : n1 = 0
          · rw [if_pos h0, h0]
          · rw [if_neg h0]
        have hwr : IntKind.i64.wrap ((n1 : Int) + (j : Int) - (n1 : Int)) = (j : Int) := by rw [IntKind.wrap_i64]; omega
        clear hcs
        go_upto_region 14 with fail
        go_region_law ((refine step_copy_splice rfl (.tmp 73) (.tmp 80) 33 33 rfl 3 rfl rfl _ _ _ _ _ _ rfl rfl wr.heap.size n1 (List.replicate (n1 + n2) (Value.int .i64 0)) 3 HAL.out cs HCL.out (fun _ => ⟨rfl, HSRC.out⟩) (by rw [hcl]; simp) HONE.out wr.heap.size wr HBA.out (Nat.le_refl _) ?_; intro w7 HG7 hb7))
        have HEQ : Hid (splice (List.replicate (n1 + n2) (Value.int .i64 0)) n1 cs = (blR x y n1 n2 (n1 + j)).map (Value.int .i64)) := Lib.hid (by
          unfold splice blR
          rw [if_neg h1, List.take_replicate, Nat.min_eq_left (Nat.le_add_right _ _), hcl, List.drop_replicate, Nat.sub_self, List.replicate_zero, List.append_nil, List.map_append, Nat.add_sub_cancel_left, HCS.out, List.map_replicate])
        rw [HEQ.out] at HG7
        clear HCL HONE HSRC HAL HBA hcl HEQ HCS d1 hb1 HRI hmk HXr HYr hsl hwr
        have HO7 : Hid (OI w7 wr.heap.size (.slice (some ⟨wr.heap.size, 0, none⟩) (n1 + n2) (n1 + n2)) (blR x y n1 n2 (n1 + j))) := Lib.hid (by
          have h := OI.of_heap (B := wr.heap.size) (c := n1 + n2) (Nat.le_refl _) HG7.out (blR_len HALx.out HALy.out hlt) (by unfold maxLen; omega)
          rwa [blR_len HALx.out HALy.out hlt] at h)
        obtain ⟨vs, hvs⟩ := HR.out.below hb7 (Nat.le_refl _)
        have HV := Lib.hid hvs
        have HVL : Hid (vs.length < 1099511627776) := Lib.hid (by have := hvs.2.2.1; rw [blM_len] at this; omega)
        have HBW := Lib.hid (HC.out.trans (hb7.mono hszr))
        have hszw := HBW.out.size
        clear hvs hb7 HG7
        go_wp2_with (at_builtin; refine app_row (f := id) (y := Value.slice (some ⟨wr.heap.size, 0, none⟩) (n1 + n2) (n1 + n2)) row_info rfl (by decide) rfl HV.out.1 HVL.out hszw rfl rfl Try.underlying22 rfl rfl ?_; intro v' w' ho hg hob)
        have hR := RRv.push (by decide) HV.out (HO7.out.mono hszr) (fun _ _ h => h) (fun b hF => hF.elim) ho hg hob
        have HBN := Lib.hid (HV.out.1.grown_below HBW.out hszw _ hg)
        have HR2 : Hid (RR 33 w' w3.heap.size (fun _ => False) v' (blM x y n1 n2 (n1 + j + 1))) := by
          rw [blM_succ]; exact ⟨_, hR⟩
        clear ho hg hob hR
        go_roundw
        case rel => exact ⟨n1 + j + 1, by omega, by go_num, HR2, HBN⟩
        case measure => simp [intOf]; omega
    · obtain rfl : i = n1 + n2 := by omega
      obtain ⟨k1, k2⟩ := blk_all HX.out HY.out HPx.out.2.1 HPy.out.2.1 h6
      obtain ⟨A4, c4, e4, am4⟩ := HR.out.am (fun a b ha hb => by
        have hx := HALx.out
        have hy := HALy.out
        rw [blM_len] at ha
        rw [blM_rowL hx hy ha] at hb
        have bx := HPx.out.2.2
        have by_ := HPy.out.2.2
        rw [HX.out] at bx
        rw [HY.out] at by_
        by_cases g1 : a < n1
        · by_cases g2 : b < n1
          · rw [blM_11 hx g1 g2]; have := bx a b g1 g2; omega
          · obtain ⟨t, rfl⟩ : ∃ t, b = n1 + t := ⟨b - n1, by omega⟩
            rw [(blM_12 hx g1 (by omega : t < n2)).1]; omega
        · obtain ⟨u, rfl⟩ : ∃ u, a = n1 + u := ⟨a - n1, by omega⟩
          by_cases g2 : b < n1
          · rw [(blM_12 hx g2 (by omega : u < n2)).2]; omega
          · obtain ⟨t, rfl⟩ : ∃ t, b = n1 + t := ⟨b - n1, by omega⟩
            rw [blM_22 (by omega) (by omega)]; have := by_ u t (by omega) (by omega); omega)
      rw [blM_len] at e4 am4
      subst e4
      have HZ_4 := Lib.hid am4
      have HX_4 := Lib.hid (HX_3.out.call HC.out)
      have HY_4 := Lib.hid (HY_3.out.call HC.out)
      have HB_4 := Lib.hid (below_cons HB_3.out HC.out)
      have HE := Lib.hid (in_09 k1 k2)
      obtain ⟨m, hm⟩ : ∃ m, blM x y n1 n2 (n1 + n2) = m := ⟨_, rfl⟩
      rw [hm] at HZ_4 HE
      have HM := Lib.hid hm
      clear am4 hm k1 k2 HR HC HX_3 HY_3 HB_3
      go_wp2_with fail
      refine (inertia_any (cap := c1) HX_4.out).mono ?_
      rintro e w5 ⟨p, q, z, rfl, hA, hb⟩
      have HA1 := Lib.hid hA
      have HY_5 := Lib.hid (HY_4.out.call hb)
      have HZ_5 := Lib.hid (HZ_4.out.call hb)
      have HB_5 := Lib.hid (below_cons HB_4.out hb)
      clear hA hb HX_4 HY_4 HZ_4 HB_4
      go_wp2_with fail
      refine (inertia_any (cap := c2) HY_5.out).mono ?_
      rintro e w6 ⟨r, s, t, rfl, hA, hb⟩
      have HA2 := Lib.hid hA
      have HZ_6 := Lib.hid (HZ_5.out.call hb)
      have HB_6 := Lib.hid (below_cons HB_5.out hb)
      clear hA hb HY_5 HZ_5 HB_5
      go_wp2_with fail
      refine (inertia_any (cap := c4) HZ_6.out).mono ?_
      rintro e w7 ⟨u, v, k, rfl, hA, hb⟩
      have HA3 := Lib.hid hA
      have HB_7 := Lib.hid (below_cons HB_6.out hb)
      clear hA hb HZ_6 HB_6
      rcases HE.out with he | he
      · rw [he]
        have hall : inE x = 0 ∧ inE y = 0 ∧ u = p + r ∧ v = q + s ∧ k = z + t ∧ p + q ≤ n1 ∧ r + s ≤ n2 ∧ z = (n1 : Int) - p - q ∧ t = (n2 : Int) - r - s := by
          have h3 := HA3.out
          rw [← HM.out] at h3 he
          exact blk_in HX.out HY.out HPx.out.2.1 HPy.out.2.1 HPx.out.1 HPy.out.1 h6 he HA1.out HA2.out h3
        obtain ⟨e1, e2, rfl, rfl, rfl, b1, b2, b3, b4⟩ := hall
        rw [e1, e2]
        have y1 : IntKind.i64.wrap ((p : Int) + (r : Int)) = (p : Int) + r := by rw [IntKind.wrap_i64]; omega
        have y2 : IntKind.i64.wrap ((q : Int) + (s : Int)) = (q : Int) + s := by rw [IntKind.wrap_i64]; omega
        have y3 : IntKind.i64.wrap (z + t) = z + t := by rw [IntKind.wrap_i64]; omega
        clear he e1 e2 b3 b4 HA1 HA2 HA3
        go_wp2_with fail
        go_ret
        exact ⟨rfl, HB_7.out⟩
      · rw [he]
        clear he HA1 HA2 HA3
        go_wp2_with fail
        go_ret
        exact ⟨rfl, HB_7.out⟩
end
theorem signatureBlocks_walk (A : Option Addr) (ca : Nat) (xa : List (List Int)) (B : Option Addr) (cb : Nat) (xb : List (List Int)) (w : World) (ha : AM w A xa.length xa) (hb : AM w B xb.length xb) : Calls Try.prog 4 #[.slice A xa.length ca, .slice B xb.length cb] w fun e w' => e = .returned (.bool true) ∧ Below w.heap.size w w' := by
  by_cases h : (boL xa).length + (boL xb).length ≤ 6 ∧ (boL xa).length = xa.length ∧ (boL xb).length = xb.length
  · exact sbl_b A B ca cb xa xb w ha hb h
  · exact sbl_a A B ca cb xa xb w ha hb h
end Go.Proofs.Yteanhbldhaiekaa

