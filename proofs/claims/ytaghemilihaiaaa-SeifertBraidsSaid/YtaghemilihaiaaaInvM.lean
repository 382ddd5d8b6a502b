/-
  Renumbered diagrams: valid ones stay valid, and cycles, components and their sizes are the same. No program here.
-/
import Derived.Test.YtaghemilihaiaaaRenM
import Derived.Test.YtaghemilihaiaaaAlike
import Derived.Test.YtaghemilihaiaaaSphM
namespace Go.Proofs.Ytaghemilihaiaaa

/-! ### the renumbered diagram -/
section
variable {sg mt xs : List Int} {n : Nat} (hI : InvM mt) (hn : mt.length = 4 * n) (hP : PermI xs n)
include hI hn hP
theorem ren_inv : InvM (renM mt xs n) := by
  intro h hh
  rw [renM_length] at hh ⊢
  have hr := rho_lt hP hh
  obtain ⟨-, g2, g3, g4⟩ := hI.gn (show rho xs h < mt.length by omega)
  have hi := rhi_lt hP (show gn mt (rho xs h) < 4 * n by omega)
  have e : gn (renM mt xs n) h = rhi xs n (gn mt (rho xs h)) := gn_renM hh
  refine ⟨by rw [gi_renM hh]; omega, by rw [gi_renM hh]; omega, ?_, ?_⟩
  · rw [gi_renM hh]
    intro e'
    have e2 : rhi xs n (gn mt (rho xs h)) = h := by omega
    have := rho_rhi hP (show gn mt (rho xs h) < 4 * n by omega)
    rw [e2] at this
    exact g3 this.symm
  · rw [e, gi_renM hi, rho_rhi hP (by omega), g4, rhi_rho hP hh]
omit hI hn hP in
theorem rho_turn {h k : Nat} : rho xs (turnN h k) = turnN (rho xs h) k := by
  unfold rho
  rw [turnN_div, turnN_mod]
  unfold turnN
  omega
theorem gn_rho {h : Nat} (hh : h < 4 * n) : rho xs (gn (renM mt xs n) h) = gn mt (rho xs h) := by
  rw [gn_renM hh, rho_rhi hP]
  have hr := rho_lt hP hh
  have := (hI.gn (show rho xs h < mt.length by omega)).2.1
  omega
theorem alikeF : Alike (nxF mt) (nxF (renM mt xs n)) (rho xs) (rhi xs n) (4 * n) :=
  ⟨fun _ h => rho_lt hP h, fun _ h => rhi_lt hP h, fun _ h => rho_rhi hP h, fun _ h => rhi_rho hP h, fun x hx => by
    unfold nxF
    rw [rho_turn, gn_rho hI hn hP hx]⟩
theorem alikeS : Alike (nxS mt) (nxS (renM mt xs n)) (rho xs) (rhi xs n) (4 * n) :=
  ⟨fun _ h => rho_lt hP h, fun _ h => rhi_lt hP h, fun _ h => rho_rhi hP h, fun _ h => rhi_rho hP h, fun x hx => by
    unfold nxS
    rw [rho_turn, gn_rho hI hn hP hx]⟩
theorem ren_cn {c d : Nat} (h : Cn (renM mt xs n) c d) : Cn mt (gn xs c) (gn xs d) := by
  induction h with
  | refl => exact .refl
  | @step d h hcd hl he ih =>
    rw [renM_length] at hl
    have hr := rho_lt hP hl
    have := Cn.step (mt := mt) ih (show rho xs h < mt.length by omega) (by unfold rho; rw [← he]; omega)
    have e := gn_rho hI hn hP hl
    rw [← e] at this
    have e2 : rho xs (gn (renM mt xs n) h) / 4 = gn xs (gn (renM mt xs n) h / 4) := by unfold rho; omega
    rwa [e2] at this
omit hI in
theorem ren_cn' {c d : Nat} (h : Cn mt c d) : Cn (renM mt xs n) (ivX xs n c) (ivX xs n d) := by
  induction h with
  | refl => exact .refl
  | @step d h hcd hl he ih =>
    have hi := rhi_lt hP (show h < 4 * n by omega)
    have e := gn_renM (mt := mt) (xs := xs) hi
    rw [rho_rhi hP (by omega)] at e
    have := Cn.step (mt := renM mt xs n) ih (show rhi xs n h < (renM mt xs n).length by rw [renM_length]; exact hi) (by unfold rhi; rw [← he]; omega)
    rw [e] at this
    have e2 : rhi xs n (gn mt h) / 4 = ivX xs n (gn mt h / 4) := by unfold rhi; omega
    rwa [e2] at this
/-- crossings of one component stay together -/
theorem ren_lab {c d : Nat} (hc : c < n) (hd : d < n) : labAt mt n (gn xs c) = labAt mt n (gn xs d) ↔ labAt (renM mt xs n) n c = labAt (renM mt xs n) n d := by
  have hI' := ren_inv hI hn hP
  have hn' := renM_length mt xs n
  have hgc := perm_lt hP hc
  have hgd := perm_lt hP hd
  constructor
  · intro h
    have h1 := ren_cn' hn hP (cn_of_lab_eq hI hn hgc hgd h)
    rw [iv_gn hP hc, iv_gn hP hd] at h1
    exact lab_eq_of_cn hI' hn' hc h1
  · intro h
    exact lab_eq_of_cn hI hn hgc (ren_cn hI hn hP (cn_of_lab_eq hI' hn' hc hd h))
end

theorem ren_out {sg xs : List Int} {h : Nat} (hh : h < 4 * sg.length) : outB (renS sg xs) h = outB sg (rho xs h) := by
  have e1 : rho xs h % 4 = h % 4 := by unfold rho; omega
  have e2 : rho xs h / 4 = gn xs (h / 4) := by unfold rho; omega
  unfold outB
  rw [e1, e2, gi_renS (by omega)]

section
variable {sg mt xs : List Int} {L : Int} (hd : IsD sg mt L) (hP : PermI xs sg.length)
include hd hP
theorem ren_isD : IsD (renS sg xs) (renM mt xs sg.length) L := by
  obtain ⟨d1, d2, d3, d4, d5, d6, d7, d8⟩ := hd
  have hI' := ren_inv d6 d2 hP
  have hn' := renM_length mt xs sg.length
  have hF := nxF_perm d6 d2
  have hF' := nxF_perm hI' hn'
  rw [d2] at hF
  rw [hn'] at hF'
  refine ⟨by rw [renS_length]; exact d1, by rw [renM_length, renS_length], d3, d4, fun c hc => ?_, hI', fun h hh => ?_, ?_⟩
  · rw [renS_length] at hc
    rw [gi_renS hc]
    exact d5 _ (perm_lt hP hc)
  · rw [renM_length] at hh
    have hg := (hI'.gn (show h < (renM mt xs sg.length).length by rw [renM_length]; exact hh)).2.1
    rw [renM_length] at hg
    rw [ren_out hh, ren_out hg, gn_rho d6 d2 hP hh]
    have := rho_lt hP hh
    exact d7 _ (by omega)
  · rw [renS_length, sph_iff hI' hn']
    intro r hr hlr
    have hgr := perm_lt hP hr
    have hs := (sph_iff d6 d2).1 d8 (labAt mt sg.length (gn xs r)) (lab_least d6 d2 hgr).2.2 (lab_lab d6 d2 hgr)
    have hlab : ∀ c, c < sg.length → (labAt mt sg.length (gn xs c) = labAt mt sg.length (gn xs r) ↔ labAt (renM mt xs sg.length) sg.length c = r) := by
      intro c hc
      have := ren_lab d6 d2 hP hc hr
      rw [hlr] at this
      exact this
    have h1 := alike_cnt (alikeF d6 d2 hP) hF hF' (P := fun h => decide (labAt mt sg.length (h / 4) = labAt mt sg.length (gn xs r))) (P' := fun h => decide (labAt (renM mt xs sg.length) sg.length (h / 4) = r)) (fun x hx => by
      have : labAt mt sg.length (nxF mt x / 4) = labAt mt sg.length (x / 4) := by
        unfold nxF
        rw [turnN_div]
        exact (lab_mate d6 d2 (by omega)).symm
      rw [this]) (fun x hx => by
      have e2 : rho xs x / 4 = gn xs (x / 4) := by unfold rho; omega
      rw [e2, Bool.eq_iff_iff, decide_eq_true_eq, decide_eq_true_eq]
      exact hlab _ (by omega))
    have h2 : cnt (fun c => decide (labAt (renM mt xs sg.length) sg.length c = r)) sg.length = cnt (fun c => decide (labAt mt sg.length c = labAt mt sg.length (gn xs r))) sg.length := by
      refine Nat.le_antisymm (cnt_inj (gn xs) (fun x hx hA => ⟨perm_lt hP hx, ?_⟩) (fun x y hx hy _ _ e => hP.2.inj hx hy e)) (cnt_inj (ivX xs sg.length) (fun x hx hA => ⟨(iv_spec hP hx).1, ?_⟩) (fun x y hx hy _ _ e => ?_))
      · rw [decide_eq_true_eq] at hA ⊢
        exact (hlab x hx).2 hA
      · rw [decide_eq_true_eq] at hA ⊢
        refine (hlab _ (iv_spec hP hx).1).1 ?_
        rw [(iv_spec hP hx).2]
        exact hA
      · rw [← (iv_spec hP hx).2, e, (iv_spec hP hy).2]
    rw [d2] at hs
    rw [hn', h1, h2]
    exact hs
end

/-! ### lengths -/
/-- how many rows have the length l -/
def lenN (ls : List (List Nat)) (l : Nat) : Nat := ls.countP fun r => decide (r.length = l)
theorem cnt_countP (P : Nat → Bool) (m : Nat) : cnt P m = (List.range m).countP P := by
  unfold cnt
  rw [List.countP_eq_length_filter]
theorem lenN_cycs (f : Nat → Nat) (N : Nat) (wt : Nat → Bool) (l : Nat) : lenN (cycsL f N wt N) l = cnt (fun h => lstB f N h && (wt h && decide (per f N h = l))) N := by
  unfold lenN cycsL
  rw [List.countP_map, List.countP_filter, cnt_countP]
  refine List.countP_congr fun x _ => ?_
  simp only [Function.comp, cyc_length]
  cases wt x <;> cases lstB f N x <;> simp
theorem lenN_graph (mt : List Int) (n l : Nat) : lenN (graphL mt n) l = cnt (fun r => decide (labAt mt n r = r) && decide (cnt (fun b => decide (labAt mt n b = r)) n = l)) n := by
  unfold lenN graphL graphU
  rw [List.countP_map, List.countP_filter, cnt_countP]
  refine List.countP_congr fun x _ => ?_
  simp only [Function.comp, Bool.and_eq_true]
  exact and_comm

section
variable {sg mt xs : List Int} {L : Int} (hd : IsD sg mt L) (hP : PermI xs sg.length)
include hd hP
theorem lens_faces (l : Nat) : lenN (facesL (renM mt xs sg.length)) l = lenN (facesL mt) l := by
  have hd' := ren_isD hd hP
  have hI := hd.2.2.2.2.2.1
  have hn := hd.2.1
  have hF := nxF_perm hI hn
  have hF' := nxF_perm hd'.2.2.2.2.2.1 hd'.2.1
  have hn' := renM_length mt xs sg.length
  unfold facesL
  rw [lenN_cycs, lenN_cycs]
  rw [hn'] at hF' ⊢
  rw [hn] at hF ⊢
  refine alike_cnt (alikeF hI hn hP) hF hF' (P := fun h => allT h && decide (per (nxF mt) (4 * sg.length) h = l)) (P' := fun h => allT h && decide (per (nxF (renM mt xs sg.length)) (4 * sg.length) h = l)) (fun x hx => ?_) (fun x hx => ?_)
  · rw [per_rc hF hx (rc_next hF hx)]; rfl
  · rw [alike_per (alikeF hI hn hP) hF hF' hx]; rfl
theorem lens_strands (l : Nat) : lenN (strandsL (renS sg xs) (renM mt xs sg.length)) l = lenN (strandsL sg mt) l := by
  have hd' := ren_isD hd hP
  have hI := hd.2.2.2.2.2.1
  have hn := hd.2.1
  have hF := nxS_perm hI hn
  have hF' := nxS_perm hd'.2.2.2.2.2.1 hd'.2.1
  have hn' := renM_length mt xs sg.length
  have ho := out_nxS hd
  unfold strandsL
  rw [lenN_cycs, lenN_cycs]
  rw [hn'] at hF' ⊢
  rw [hn] at hF ho ⊢
  refine alike_cnt (alikeS hI hn hP) hF hF' (P := fun h => outB sg h && decide (per (nxS mt) (4 * sg.length) h = l)) (P' := fun h => outB (renS sg xs) h && decide (per (nxS (renM mt xs sg.length)) (4 * sg.length) h = l)) (fun x hx => ?_) (fun x hx => ?_)
  · rw [per_rc hF hx (rc_next hF hx), ho x hx]
  · rw [alike_per (alikeS hI hn hP) hF hF' hx, ren_out hx]
theorem strands_len : (strandsL (renS sg xs) (renM mt xs sg.length)).length = (strandsL sg mt).length := by
  have hd' := ren_isD hd hP
  have hI := hd.2.2.2.2.2.1
  have hn := hd.2.1
  have hF := nxS_perm hI hn
  have hF' := nxS_perm hd'.2.2.2.2.2.1 hd'.2.1
  have hn' := renM_length mt xs sg.length
  have ho := out_nxS hd
  rw [hn'] at hF'
  rw [hn] at hF ho
  have h := alike_cnt (alikeS hI hn hP) hF hF' (P := outB sg) (P' := outB (renS sg xs)) ho (fun x hx => (ren_out hx).symm)
  have e : ∀ (f : Nat → Nat) (N : Nat) (wt : Nat → Bool), (cycsL f N wt N).length = cnt (fun x => lstB f N x && wt x) N := by
    intro f N wt
    unfold cycsL cnt
    rw [List.length_map]
    congr 1
    exact List.filter_congr fun x _ => Bool.and_comm ..
  unfold strandsL
  rw [e, e, hn', hn]
  exact h
theorem lens_graph (l : Nat) : lenN (graphL (renM mt xs sg.length) sg.length) l = lenN (graphL mt sg.length) l := by
  have hd' := ren_isD hd hP
  have hI := hd.2.2.2.2.2.1
  have hn := hd.2.1
  have hI' := hd'.2.2.2.2.2.1
  have hn' := renM_length mt xs sg.length
  have eqv : ∀ m : List Int, EqvB (fun c d => decide (labAt m sg.length c = labAt m sg.length d)) sg.length := fun m =>
    ⟨fun _ _ => decide_eq_true rfl, fun _ _ _ _ h => decide_eq_true (of_decide_eq_true h).symm, fun _ _ _ _ _ _ h1 h2 => decide_eq_true ((of_decide_eq_true h1).trans (of_decide_eq_true h2))⟩
  have head : ∀ m : List Int, InvM m → m.length = 4 * sg.length → ∀ c, c < sg.length → headB (fun c d => decide (labAt m sg.length c = labAt m sg.length d)) c = decide (labAt m sg.length c = c) := by
    intro m hIm hnm c hc
    rw [Bool.eq_iff_iff, headB_iff, decide_eq_true_eq]
    constructor
    · intro h
      have h1 := lab_le hIm hnm hc
      rcases Nat.lt_or_eq_of_le h1 with h2 | h2
      · have h3 := h _ h2
        rw [decide_eq_false_iff_not] at h3
        exact absurd (lab_lab hIm hnm hc) h3
      · exact h2
    · intro h y hy
      rw [decide_eq_false_iff_not]
      intro e
      have := lab_le hIm hnm (show y < sg.length by omega)
      have e2 : gN (labN m sg.length) y = c := e.trans h
      omega
  have h := heads_eq (eqv mt) (eqv (renM mt xs sg.length)) (P := fun c => decide (cnt (fun b => decide (labAt mt sg.length b = labAt mt sg.length c)) sg.length = l)) (P' := fun c => decide (cnt (fun b => decide (labAt (renM mt xs sg.length) sg.length b = labAt (renM mt xs sg.length) sg.length c)) sg.length = l))
    (fun x y _ _ h => by rw [of_decide_eq_true h]) (gn xs) (ivX xs sg.length) (fun x hx => perm_lt hP hx) (fun x hx => (iv_spec hP hx).1) (fun x hx => (iv_spec hP hx).2)
    (fun x y hx hy => by rw [Bool.eq_iff_iff, decide_eq_true_eq, decide_eq_true_eq]; exact ren_lab hI hn hP hx hy) (fun x hx => by
      congr 2
      refine Nat.le_antisymm (cnt_inj (ivX xs sg.length) (fun y hy hA => ⟨(iv_spec hP hy).1, ?_⟩) (fun a b ha hb _ _ e => ?_)) (cnt_inj (gn xs) (fun y hy hA => ⟨perm_lt hP hy, ?_⟩) (fun a b ha hb _ _ e => hP.2.inj ha hb e))
      · rw [decide_eq_true_eq] at hA ⊢
        refine (ren_lab hI hn hP (iv_spec hP hy).1 hx).1 ?_
        rw [(iv_spec hP hy).2]
        exact hA
      · rw [← (iv_spec hP ha).2, e, (iv_spec hP hb).2]
      · rw [decide_eq_true_eq] at hA ⊢
        exact (ren_lab hI hn hP hy hx).2 hA)
  rw [lenN_graph, lenN_graph]
  have c1 : ∀ m : List Int, InvM m → m.length = 4 * sg.length → cnt (fun x => headB (fun c d => decide (labAt m sg.length c = labAt m sg.length d)) x && decide (cnt (fun b => decide (labAt m sg.length b = labAt m sg.length x)) sg.length = l)) sg.length = cnt (fun r => decide (labAt m sg.length r = r) && decide (cnt (fun b => decide (labAt m sg.length b = r)) sg.length = l)) sg.length := by
    intro m hIm hnm
    refine cnt_congr fun x hx => ?_
    rw [head m hIm hnm x hx]
    by_cases e : labAt m sg.length x = x
    · rw [e]
    · simp [e]
  rw [c1 _ hI' hn', c1 _ hI hn] at h
  exact h
end

/-! ### back again -/
def backX (xs : List Int) (n : Nat) : List Int := (List.range n).map fun c => (ivX xs n c : Int)
section
variable {xs : List Int} {n : Nat} (hP : PermI xs n)
include hP
omit hP in
theorem gn_back {c : Nat} (hc : c < n) : gn (backX xs n) c = ivX xs n c := by
  unfold gn backX
  rw [gi_lt (by simpa using hc)]
  simp
omit hP in
theorem gi_back {c : Nat} (hc : c < n) : gi (backX xs n) c = (ivX xs n c : Int) := by
  unfold backX
  rw [gi_lt (by simpa using hc)]
  simp
theorem back_perm : PermI (backX xs n) n := by
  refine ⟨by simp [backX], fun i hi => ?_, fun i j hij hj e => ?_⟩
  · rw [gi_back hi]
    have := (iv_spec hP hi).1
    omega
  · rw [gi_back (by omega), gi_back hj] at e
    have e' : ivX xs n i = ivX xs n j := by omega
    have h1 := (iv_spec hP (show i < n by omega)).2
    rw [e', (iv_spec hP hj).2] at h1
    omega
theorem iv_back {i : Nat} (hi : i < n) : ivX (backX xs n) n i = gn xs i := by
  have h1 := iv_spec (back_perm hP) hi
  have h2 := iv_gn (back_perm hP) (perm_lt hP hi)
  rw [gn_back (perm_lt hP hi), iv_gn hP hi] at h2
  exact h2
end
theorem back_S {sg xs : List Int} (hP : PermI xs sg.length) : renS (renS sg xs) (backX xs sg.length) = sg :=
  ext_gi (by rw [renS_length, renS_length]) fun k hk => by
    rw [renS_length, renS_length] at hk
    have := iv_spec hP hk
    rw [gi_renS (by rw [renS_length]; exact hk), gn_back hk, gi_renS this.1, this.2]
theorem back_M {mt xs : List Int} {n : Nat} (hI : InvM mt) (hn : mt.length = 4 * n) (hP : PermI xs n) : renM (renM mt xs n) (backX xs n) n = mt :=
  ext_gi (by rw [renM_length, hn]) fun k hk => by
    rw [renM_length] at hk
    have e1 : rho (backX xs n) k = rhi xs n k := by unfold rho rhi; rw [gn_back (by omega)]
    have hg := hI.gn (show k < mt.length by omega)
    have e2 : ∀ h, h < 4 * n → rhi (backX xs n) n h = rho xs h := by
      intro h hh
      unfold rho rhi
      rw [iv_back hP (by omega)]
    rw [gi_renM hk, e1, gn_renM (rhi_lt hP hk), rho_rhi hP hk, e2 _ (rhi_lt hP (by omega)), rho_rhi hP (by omega), hg.1]
end Go.Proofs.Ytaghemilihaiaaa

