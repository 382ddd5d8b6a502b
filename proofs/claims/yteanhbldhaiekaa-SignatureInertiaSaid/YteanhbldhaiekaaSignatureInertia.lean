/-
  The law SignatureInertia, walked: the call returns true and writes nothing that was there.
-/
import Derived.Test.YteanhbldhaiekaaRSum
import Derived.Test.YteanhbldhaiekaaAw39
namespace Go.Proofs.Yteanhbldhaiekaa
open Go.RowKit

theorem inA_no {x : List (List Int)} {p q : Nat} {z : Int} (h : InA x p q z) (he : inE x ≠ 0) : p = 0 ∧ q = 0 ∧ z = 0 := by
  unfold InA at h
  rw [if_neg he] at h
  exact h
theorem inA_yes {x : List (List Int)} {p q : Nat} {z : Int} (h : InA x p q z) (he : inE x = 0) : p + q ≤ x.length ∧ z = (x.length : Int) - p - q ∧ Inr x.length (eI x) p q ∧ RkP x.length x.length (eI x) (p + q) := by
  unfold InA at h
  rw [if_pos he] at h
  exact ⟨h.1, h.2.1, h.2.2.1, h.2.2.2.1⟩
theorem grB_no {x : List (List Int)} (h : grB x = false) : x.length ≤ 6 ∧ ∀ i, i < x.length → rowL x i ≤ 6 := by
  have hn : ¬ Grt x := fun hg => by rw [grB_iff.2 hg] at h; cases h
  unfold Grt at hn
  exact ⟨by omega, fun i hi => Classical.byContradiction fun h => hn (.inr ⟨i, hi, by omega⟩)⟩
section
variable (A : Option Addr) (ca : Nat) (xa : List (List Int)) (w : World) (ha : AM w A xa.length xa)
include ha
set_option maxRecDepth 100000 in
set_option maxHeartbeats 4000000 in
theorem sine_a (h : grB xa = true) : Calls Try.prog 3 #[.slice A xa.length ca] w fun e w' => e = .returned (.bool true) ∧ Below w.heap.size w w' := by
  have HM_0 := Lib.hid ha
  have HG := Lib.hid h
  obtain ⟨n, hn⟩ : ∃ n, xa.length = n := ⟨_, rfl⟩
  rw [hn] at HM_0 ⊢
  clear ha h hn
  go_enter Try.func3, Try.ntmps3
  go_wp2_with fail
  refine (awake39 w).mono ?_
  rintro e w1 ⟨rfl, hb⟩
  have HM_1 := Lib.hid (HM_0.out.call hb)
  have HB_1 := Lib.hid hb
  clear hb HM_0
  go_wp2_with fail
  refine (great_any (cap := ca) HM_1.out).mono ?_
  rintro e w2 ⟨rfl, rfl⟩
  rw [HG.out]
  go_wp2_with fail
  go_ret
  exact ⟨rfl, HB_1.out⟩
set_option maxRecDepth 100000 in
set_option maxHeartbeats 8000000 in
theorem sine_b (h : grB xa = false) (he : inE xa ≠ 0) : Calls Try.prog 3 #[.slice A xa.length ca] w fun e w' => e = .returned (.bool true) ∧ Below w.heap.size w w' := by
  have HM_0 := Lib.hid ha
  have HG := Lib.hid h
  have HE := Lib.hid he
  obtain ⟨h6, h6r⟩ := grB_no h
  obtain ⟨n, hn⟩ : ∃ n, xa.length = n := ⟨_, rfl⟩
  have HN := Lib.hid hn
  have hn6 : n ≤ 6 := by omega
  rw [hn] at HM_0 ⊢
  clear ha h hn he h6 h6r
  go_enter Try.func3, Try.ntmps3
  go_wp2_with fail
  refine (awake39 w).mono ?_
  rintro e w1 ⟨rfl, hb⟩
  have HM_1 := Lib.hid (HM_0.out.call hb)
  have HB_1 := Lib.hid hb
  clear hb HM_0
  go_wp2_with fail
  refine (great_any (cap := ca) HM_1.out).mono ?_
  rintro e w2 ⟨rfl, rfl⟩
  rw [HG.out]
  go_wp2_with fail
  refine (inertia_any (cap := ca) HM_1.out).mono ?_
  rintro e w3 ⟨p, q, z, rfl, hA, hb⟩
  obtain ⟨rfl, rfl, rfl⟩ := inA_no hA HE.out
  have HM_3 := Lib.hid (HM_1.out.call hb)
  have HB_3 := Lib.hid (below_cons HB_1.out hb)
  obtain ⟨ev, hev⟩ : ∃ ev, inE xa = ev := ⟨_, rfl⟩
  have HEV := Lib.hid hev
  rw [hev]
  clear hb hA HM_1 HB_1 hev
  go_wp2_with fail
  refine (signature_any (cap := ca) HM_3.out).mono ?_
  rintro e w4 ⟨p, q, z, rfl, hA, hb⟩
  obtain ⟨rfl, rfl, rfl⟩ := inA_no hA HE.out
  have HM_4 := Lib.hid (HM_3.out.call hb)
  have HB_4 := Lib.hid (below_cons HB_3.out hb)
  rw [HEV.out]
  clear hb hA HM_3 HB_3
  go_wp2_with fail
  refine (lsquare_any (cap := ca) HM_4.out).mono ?_
  rintro e w5 ⟨rfl, rfl⟩
  by_cases hq : SqA xa
  · rw [decide_eq_true hq]
    go_wp2_with fail
    refine (rsym_any (cap := ca) HM_4.out hq (by omega)).mono ?_
    rintro e w6 ⟨rfl, k, rfl⟩
    have HM_6 : Hid (AM (w4.drewN k) A n xa) := Lib.hid (HM_4.out.call (below_drewN (Below.refl _ _) k))
    have HB_6 : Hid (Below w.heap.size w (w4.drewN k)) := Lib.hid (below_drewN HB_4.out k)
    have hsq : ∀ i, i < n → rowL xa i = n := fun i hi => by have := hq i (by rw [HN.out]; exact hi); rw [HN.out] at this; exact this
    have hM : IsM xa := ⟨fun i hi => by rw [hq i hi, hq 0 (by omega)], by rw [HN.out]; omega, by
      rcases Nat.eq_zero_or_pos xa.length with h | h
      · rw [rowL_nil h]; omega
      · rw [hq 0 h, HN.out]; omega⟩
    have HIM := Lib.hid hM
    by_cases hs : SqS xa
    · rw [decide_eq_true hs]
      have hns : ¬ Sml xa := fun h => HE.out (by unfold inE; rw [if_pos ⟨hM, hs⟩, if_pos h])
      have he9 : ev = 9 := by rw [← HEV.out]; unfold inE; rw [if_pos ⟨hM, hs⟩, if_neg hns]
      subst he9
      clear hsq hM hq hs HM_4 HB_4
      go_wp2_with fail
      refine (rsmall_any (cap := ca) HM_6.out HIM.out false (decide_eq_false hns)).mono ?_
      rintro e w7 ⟨rfl, rfl⟩
      clear hns
      go_wp2_with fail
      go_ret
      exact ⟨rfl, HB_6.out⟩
    · rw [decide_eq_false hs]
      have he1 : ev = 1 := by rw [← HEV.out]; unfold inE; rw [if_neg fun h => hs h.2]
      subst he1
      clear hsq hM hq hs HM_4 HB_4
      go_wp2_with fail
      go_ret
      exact ⟨rfl, HB_6.out⟩
  · rw [decide_eq_false hq]
    have he1 : ev = 1 := by rw [← HEV.out]; unfold inE; rw [if_neg fun h => hq h.2.1]
    subst he1
    clear hq
    go_wp2_with fail
    go_ret
    exact ⟨rfl, HB_4.out⟩
set_option maxRecDepth 100000 in
set_option maxHeartbeats 8000000 in
theorem sine_c (h : grB xa = false) (he : inE xa = 0) : Calls Try.prog 3 #[.slice A xa.length ca] w fun e w' => e = .returned (.bool true) ∧ Below w.heap.size w w' := by
  have HM_0 := Lib.hid ha
  have HG := Lib.hid h
  have HE := Lib.hid he
  obtain ⟨h6, h6r⟩ := grB_no h
  have h3 : IsM xa ∧ SqS xa ∧ Sml xa := by
    unfold inE at he
    split at he
    · rename_i h1
      split at he
      · rename_i h2; exact ⟨h1.1, h1.2, h2⟩
      · cases he
    · cases he
  obtain ⟨n, hn⟩ : ∃ n, xa.length = n := ⟨_, rfl⟩
  have HN := Lib.hid hn
  have hn6 : n ≤ 6 := by omega
  have HIM := Lib.hid h3.1
  have HQ : Hid (SqA xa) := Lib.hid h3.2.1.1
  have HS := Lib.hid h3.2.1
  have HSM := Lib.hid h3.2.2
  have HSQ : Hid (∀ i, i < n → rowL xa i = n) := Lib.hid fun i hi => by have := HQ.out i (by rw [hn]; exact hi); rw [hn] at this; exact this
  have HBD : Hid (bndM n n (eI xa) ≤ 1125899906842624) := Lib.hid (by
    have := h3.2.2
    unfold Sml at this
    rw [bnd_sq hn h3.2.1] at this
    exact this)
  have HSY : Hid (Sym n (eI xa)) := Lib.hid fun i j hi hj => (sqs_iff HQ.out).1 HS.out i (by omega) j (by omega)
  rw [hn] at HM_0 ⊢
  clear ha h hn he h6 h6r h3
  go_enter Try.func3, Try.ntmps3
  go_wp2_with fail
  refine (awake39 w).mono ?_
  rintro e w1 ⟨rfl, hb⟩
  have HM_1 := Lib.hid (HM_0.out.call hb)
  have HB_1 := Lib.hid hb
  clear hb HM_0
  go_wp2_with fail
  refine (great_any (cap := ca) HM_1.out).mono ?_
  rintro e w2 ⟨rfl, rfl⟩
  rw [HG.out]
  go_wp2_with fail
  refine (inertia_any (cap := ca) HM_1.out).mono ?_
  rintro e w3 ⟨p, q, z, rfl, hA, hb⟩
  rw [HE.out]
  have hA2 := inA_yes hA HE.out
  rw [HN.out] at hA2
  obtain ⟨hpq, hz, hI, hR⟩ := hA2
  have HI := Lib.hid hI
  have HR := Lib.hid hR
  have HM_3 := Lib.hid (HM_1.out.call hb)
  have HB_3 := Lib.hid (below_cons HB_1.out hb)
  subst hz
  clear hb hA hI hR HM_1 HB_1
  go_wp2_with fail
  refine (signature_any (cap := ca) HM_3.out).mono ?_
  rintro e w4 ⟨p', q', z', rfl, hA, hb⟩
  rw [HE.out]
  have hA2 := inA_yes hA HE.out
  rw [HN.out] at hA2
  obtain ⟨-, -, hI', -⟩ := hA2
  obtain ⟨rfl, rfl⟩ := HI.out.uniq hI'
  have HM_4 := Lib.hid (HM_3.out.call hb)
  have HB_4 := Lib.hid (below_cons HB_3.out hb)
  clear hb hA hI' HM_3 HB_3
  go_wp2_with fail
  refine (lsquare_any (cap := ca) HM_4.out).mono ?_
  rintro e w5 ⟨rfl, rfl⟩
  rw [decide_eq_true HQ.out]
  go_wp2_with fail
  refine (rsym_any (cap := ca) HM_4.out HQ.out (by omega)).mono ?_
  rintro e w6 ⟨rfl, k, rfl⟩
  rw [decide_eq_true HS.out]
  obtain ⟨w6, hw6⟩ : ∃ w6, w4.drewN k = w6 := ⟨_, rfl⟩
  have HM_6 : Hid (AM w6 A n xa) := Lib.hid (hw6 ▸ HM_4.out.call (below_drewN (Below.refl _ _) k))
  have HB_6 : Hid (Below w.heap.size w w6) := Lib.hid (hw6 ▸ below_drewN HB_4.out k)
  rw [hw6]
  clear hw6 HM_4 HB_4
  go_wp2_with fail
  refine (rsmall_any (cap := ca) HM_6.out HIM.out true (decide_eq_true HSM.out)).mono ?_
  rintro e w7 ⟨rfl, rfl⟩
  go_wp2_with fail
  obtain ⟨hq, hp⟩ := su_des HSY.out HI.out HR.out
  have HRI := Lib.hid (rinertia_any (cap := ca) HM_6.out HSQ.out hn6 HBD.out hq hp)
  clear hq hp
  refine HRI.out.mono ?_
  rintro e w8 ⟨rfl, hb⟩
  have HB_8 := Lib.hid (below_cons HB_6.out hb)
  clear hb HRI
  have y1 : IntKind.i64.wrap ((p : Int) - (q : Int)) = (p : Int) - q := IntWalk.i64_in _ (by omega)
  go_wp2_with fail
  go_ret
  exact ⟨rfl, HB_8.out⟩
theorem signatureInertia_walk1 : Calls Try.prog 3 #[.slice A xa.length ca] w fun e w' => e = .returned (.bool true) ∧ Below w.heap.size w w' := by
  by_cases hg : grB xa = true
  · exact sine_a A ca xa w ha hg
  · by_cases he : inE xa = 0
    · exact sine_c A ca xa w ha (by simpa using hg) he
    · exact sine_b A ca xa w ha (by simpa using hg) he
end
theorem signatureInertia_walk (A : Option Addr) (ca : Nat) (xa : List (List Int)) (w : World) (ha : AM w A xa.length xa) : Calls Try.prog 3 #[.slice A xa.length ca] w fun e w' => e = .returned (.bool true) ∧ Below w.heap.size w w' :=
  signatureInertia_walk1 A ca xa w ha
end Go.Proofs.Yteanhbldhaiekaa

