/-
  The component of each arc; the presentation of a diagram is a valid group; sums of exponents. No program here.
-/
import Derived.Test.YtcjgfncbecbhjaaArcS
import Derived.Test.YtcjgfncbecbhjaaWVal
namespace Go.Proofs.Ytcjgfncbecbhjaa

/-- the least half-edges of the strands -/
def hdL (sg mt : List Int) : List Nat := (List.range mt.length).filter fun h => outB sg h && lstB (nxS mt) mt.length h
theorem strands_hd (sg mt : List Int) : strandsL sg mt = (hdL sg mt).map (cyc (nxS mt) mt.length) := rfl
theorem hd_len (sg mt : List Int) : (hdL sg mt).length = (strandsL sg mt).length := by rw [strands_hd, List.length_map]
theorem hd_mem {sg mt : List Int} {i : Nat} (hi : i < (hdL sg mt).length) : (hdL sg mt)[i] < mt.length ∧ outB sg (hdL sg mt)[i] = true ∧ lstB (nxS mt) mt.length (hdL sg mt)[i] = true := by
  have h := List.getElem_mem hi
  have h2 : (hdL sg mt)[i] ∈ (List.range mt.length).filter fun h => outB sg h && lstB (nxS mt) mt.length h := h
  rw [List.mem_filter, Bool.and_eq_true, List.mem_range] at h2
  exact h2
theorem stN_hd {sg mt : List Int} {i : Nat} (hi : i < (hdL sg mt).length) : stN sg mt i = cyc (nxS mt) mt.length (hdL sg mt)[i] := by
  rw [← stN_eq (by rw [← hd_len]; exact hi)]
  simp [strands_hd]
theorem hd_inj {sg mt : List Int} {i j : Nat} (hi : i < (hdL sg mt).length) (hj : j < (hdL sg mt).length) (h : (hdL sg mt)[i] = (hdL sg mt)[j]) : i = j := by
  have hp : (hdL sg mt).Pairwise (· < ·) := (List.pairwise_lt_range (n := mt.length)).filter _
  rw [List.pairwise_iff_getElem] at hp
  rcases Nat.lt_trichotomy i j with h1 | h1 | h1
  · have := hp i j hi hj h1; omega
  · exact h1
  · have := hp j i hj hi h1; omega

theorem gi_set_ne {q : List Int} {x z : Nat} {y : Int} (h : z ≠ x) : gi (q.set x y) z = gi q z := by
  unfold gi
  rw [List.getD_eq_getElem?_getD, List.getD_eq_getElem?_getD, List.getElem?_set_ne (fun e => h e.symm)]
theorem gi_set_eq {q : List Int} {x : Nat} {y : Int} (h : x < q.length) : gi (q.set x y) x = y := by simp [gi, h]
theorem gi_app_l {p q : List Int} {k : Nat} (h : k < p.length) : gi (p ++ q) k = gi p k := by
  unfold gi
  rw [List.getD_eq_getElem?_getD, List.getD_eq_getElem?_getD, List.getElem?_append_left h]
theorem gi_app_r {p q : List Int} {k : Nat} : gi (p ++ q) (p.length + k) = gi q k := by
  unfold gi
  rw [List.getD_eq_getElem?_getD, List.getD_eq_getElem?_getD, List.getElem?_append_right (by omega), Nat.add_sub_cancel_left]

section
variable {sg mt : List Int} {L : Int} (hd : IsD sg mt L)
include hd
/-- each half-edge's edge is in one strand -/
theorem on_strand {x : Nat} (hx : x < mt.length) : ∃ i, i < (strandsL sg mt).length ∧ oh sg mt x ∈ stN sg mt i := by
  have hP := nxS_perm hd.2.2.2.2.2.1 hd.2.1
  have hh := oh_lt hd hx
  obtain ⟨m, h1, h2, h3, h4, -⟩ := least_mem hP hh
  have ho : outB sg m = true := by rw [wt_cyc hP (out_nxS hd) hh h1]; exact oh_out hd hx
  have hm : m ∈ hdL sg mt := by
    unfold hdL
    rw [List.mem_filter, Bool.and_eq_true, List.mem_range]
    exact ⟨h2, ho, h4⟩
  obtain ⟨i, hi, e⟩ := List.mem_iff_getElem.1 hm
  refine ⟨i, by rw [← hd_len]; exact hi, ?_⟩
  rw [stN_hd hi, e]; exact h3
theorem strand_uniq {x i j : Nat} (hi : i < (strandsL sg mt).length) (hj : j < (strandsL sg mt).length) (h1 : x ∈ stN sg mt i) (h2 : x ∈ stN sg mt j) : i = j := by
  have hP := nxS_perm hd.2.2.2.2.2.1 hd.2.1
  rw [← hd_len] at hi hj
  obtain ⟨a1, a2, a3⟩ := hd_mem hi
  obtain ⟨b1, b2, b3⟩ := hd_mem hj
  rw [stN_hd hi] at h1
  rw [stN_hd hj] at h2
  apply hd_inj hi hj
  have hx := cyc_lt hP a1 h1
  have hr := mem_trans hP a1 h1 (mem_symm hP b1 h2)
  have := lo_congr (rc_eqv hP) a1 b1 (decide_eq_true hr)
  rw [(lst_lo hP a1).1 a3, (lst_lo hP b1).1 b3] at this
  exact this
theorem stN_rc {x y i : Nat} (hi : i < (strandsL sg mt).length) (h1 : x ∈ stN sg mt i) (h : rc (nxS mt) mt.length x y = true) : y ∈ stN sg mt i := by
  have hP := nxS_perm hd.2.2.2.2.2.1 hd.2.1
  rw [← hd_len] at hi
  obtain ⟨a1, a2, a3⟩ := hd_mem hi
  rw [stN_hd hi] at h1 ⊢
  exact mem_trans hP a1 h1 (of_decide_eq_true h)
theorem stN_out {x i : Nat} (hi : i < (strandsL sg mt).length) (h1 : x ∈ stN sg mt i) : x < mt.length ∧ outB sg x = true := by
  have hP := nxS_perm hd.2.2.2.2.2.1 hd.2.1
  have h2 := stN_lt hd.2.2.2.2.2.1 hd.2.1 hi _ h1
  rw [← hd_len] at hi
  obtain ⟨a1, a2, a3⟩ := hd_mem hi
  rw [stN_hd hi] at h1
  exact ⟨h2, by rw [wt_cyc hP (out_nxS hd) a1 h1]; exact a2⟩
/-- numbers of arcs are alike exactly on one arc -/
theorem arN_iff {x y : Nat} (hx : x < mt.length) (hy : y < mt.length) : arN sg mt x = arN sg mt y ↔ arR sg mt x y = true := by
  have hE := arR_eqv (sg := sg) hd.2.2.2.2.2.1 hd.2.1
  obtain ⟨l1, l2, l3⟩ := lo_spec hE hx
  obtain ⟨m1, m2, m3⟩ := lo_spec hE hy
  constructor
  · intro e
    have e : cnt (headB (arR sg mt)) (lo (arR sg mt) x) = cnt (headB (arR sg mt)) (lo (arR sg mt) y) := e
    have : lo (arR sg mt) x = lo (arR sg mt) y := by
      rcases Nat.lt_trichotomy (lo (arR sg mt) x) (lo (arR sg mt) y) with h | h | h
      · have := cnt_lt l3 h; omega
      · exact h
      · have := cnt_lt m3 h; omega
    exact hE.tr _ _ _ hx (show lo (arR sg mt) x < mt.length by omega) hy (hE.sym _ _ (by omega) hx l2) (by rw [this]; exact m2)
  · intro h
    show cnt _ _ = cnt _ _
    rw [lo_congr hE hx hy h]
omit hd in
theorem cnt_surj {P : Nat → Bool} {a : Nat} : ∀ {m : Nat}, a < cnt P m → ∃ x, x < m ∧ P x = true ∧ cnt P x = a
  | 0, h => by rw [cnt_zero] at h; omega
  | m + 1, h => by
    rw [cnt_succ] at h
    rcases Nat.lt_or_ge a (cnt P m) with h1 | h1
    · obtain ⟨x, a1, a2⟩ := cnt_surj h1; exact ⟨x, by omega, a2⟩
    · split at h
      · exact ⟨m, by omega, by assumption, by omega⟩
      · omega
theorem arN_surj {a : Nat} (ha : a < arC sg mt) : ∃ x, x < mt.length ∧ arN sg mt x = a := by
  have hE := arR_eqv (sg := sg) hd.2.2.2.2.2.1 hd.2.1
  obtain ⟨x, h1, h2, h3⟩ := cnt_surj ha
  refine ⟨x, h1, ?_⟩
  show cnt _ (lo _ x) = a
  rw [(lo_head hE h1).1 h2]; exact h3

omit hd in
theorem cpJ_miss {i a : Nat} (q : List Int) : ∀ j, j ≤ (stN sg mt i).length → (∀ t, t < j → arN sg mt (gN (stN sg mt i) t) ≠ a) → gi (cpJ sg mt i j q) a = gi q a := by
  intro j
  induction j with
  | zero => intro _ _; rfl
  | succ j ih =>
    intro hj h
    rw [cpJ_succ _ (by omega), gi_set_ne (fun e => h j (by omega) e.symm)]
    exact ih (by omega) (fun t ht => h t (by omega))
omit hd in
theorem cpJ_hit {i a : Nat} (q : List Int) (ha : a < q.length) : ∀ j, j ≤ (stN sg mt i).length → (∃ t, t < j ∧ arN sg mt (gN (stN sg mt i) t) = a) → gi (cpJ sg mt i j q) a = (i : Int) := by
  intro j
  induction j with
  | zero => rintro _ ⟨t, ht, -⟩; omega
  | succ j ih =>
    rintro hj ⟨t, ht, e⟩
    rw [cpJ_succ _ (by omega)]
    by_cases e2 : arN sg mt (gN (stN sg mt i) j) = a
    · rw [e2, gi_set_eq (by rw [cpJ_len]; exact ha)]
    · rw [gi_set_ne (fun e => e2 e.symm)]
      refine ih (by omega) ⟨t, ?_, e⟩
      rcases Nat.lt_or_ge t j with h | h
      · exact h
      · obtain rfl : t = j := by omega
        exact absurd e e2
theorem arc_stN {x y i j : Nat} (hx : x < mt.length) (hi : i < (strandsL sg mt).length) (hxi : oh sg mt x ∈ stN sg mt i) (hj : j < (strandsL sg mt).length) (hy : y ∈ stN sg mt j) (h : arN sg mt y = arN sg mt x) : j = i := by
  obtain ⟨y1, y2⟩ := stN_out hd hj hy
  have h1 := arc_strand hd hx y1 ((arN_iff hd hx y1).1 h.symm)
  rw [oh_of_out y2] at h1
  exact strand_uniq hd hj hi hy (stN_rc hd hi hxi h1)
theorem cpK_at {x i : Nat} (hx : x < mt.length) (hi : i < (strandsL sg mt).length) (hxi : oh sg mt x ∈ stN sg mt i) (q : List Int) (hq : arN sg mt x < q.length) :
    ∀ k, k ≤ (strandsL sg mt).length → gi (cpK sg mt k q) (arN sg mt x) = if i < k then (i : Int) else gi q (arN sg mt x) := by
  intro k
  induction k with
  | zero => intro _; rw [cpK_zero, if_neg (by omega)]
  | succ k ih =>
    intro hk
    rw [cpK_succ]
    by_cases e : k = i
    · subst e
      rw [if_pos (by omega)]
      obtain ⟨t, ht, e2⟩ := List.mem_iff_getElem.1 hxi
      refine cpJ_hit _ (by rw [cpK_len]; exact hq) _ (Nat.le_refl _) ⟨t, ht, ?_⟩
      rw [gN_lt ht, e2]
      exact ((arN_iff hd hx (oh_lt hd hx)).2 (arc_oh hd hx)).symm
    · rw [cpJ_miss _ _ (Nat.le_refl _), ih (by omega)]
      · by_cases e2 : i < k
        · rw [if_pos e2, if_pos (by omega)]
        · rw [if_neg e2, if_neg (by omega)]
      · intro t ht e3
        refine e (arc_stN hd hx hi hxi (by omega) ?_ e3)
        rw [gN_lt ht]; exact List.getElem_mem ht
/-- the component of an arc -/
theorem cmp_at {x i : Nat} (l : Nat) (hx : x < mt.length) (hi : i < (strandsL sg mt).length) (hxi : oh sg mt x ∈ stN sg mt i) : gi (cmpL sg mt l) (arN sg mt x) = (i : Int) := by
  have ha := arN_lt (sg := sg) hd.2.2.2.2.2.1 hd.2.1 hx
  rw [cmp_eq hd.2.2.2.2.2.1 hd.2.1]
  unfold rcL
  rw [gi_app_l (by rw [cpK_len]; simpa using ha), cpK_at hd hx hi hxi _ (by simpa using ha) _ (Nat.le_refl _), if_pos hi]
theorem cmp_loop {k l : Nat} (hk : k < l) : gi (cmpL sg mt l) (arC sg mt + k) = ((strandsL sg mt).length : Int) + (k : Int) := by
  rw [cmp_eq hd.2.2.2.2.2.1 hd.2.1]
  unfold rcL
  have e : (cpK sg mt (strandsL sg mt).length (List.replicate (arC sg mt) 0)).length = arC sg mt := by rw [cpK_len]; simp
  conv => lhs; arg 2; rw [← e]
  rw [gi_app_r]
  simp [lpL, gi, hk]
theorem cmp_all {l a : Nat} (ha : a < arC sg mt + l) : ∃ i, i < (strandsL sg mt).length + l ∧ gi (cmpL sg mt l) a = (i : Int) := by
  rcases Nat.lt_or_ge a (arC sg mt) with h | h
  · obtain ⟨x, hx, rfl⟩ := arN_surj hd h
    obtain ⟨i, hi, hxi⟩ := on_strand hd hx
    exact ⟨i, by omega, cmp_at hd l hx hi hxi⟩
  · obtain ⟨k, rfl⟩ := Nat.exists_eq_add_of_le h
    exact ⟨(strandsL sg mt).length + k, by omega, by rw [cmp_loop hd (by omega)]; simp⟩

/-! ### words -/
omit hd in
theorem red_sub {P : Int → Prop} : ∀ {ys st : List Int}, (∀ x ∈ st, P x) → (∀ x ∈ ys, P x) → ∀ x ∈ redF st ys, P x := by
  intro ys
  induction ys with
  | nil => intro st h _; exact h
  | cons y ys ih =>
    intro st h1 h2
    show ∀ x ∈ redF (pushL st y) ys, P x
    refine ih (fun x hx => ?_) (fun x hx => h2 x (List.mem_cons_of_mem _ hx))
    unfold pushL at hx
    split at hx
    · exact h1 x (List.dropLast_subset _ hx)
    · rcases List.mem_append.1 hx with h | h
      · exact h1 x h
      · rw [List.mem_singleton.1 h]; exact h2 y List.mem_cons_self
omit hd in
theorem wv_of {r : Int} {xs : List Int} (h : ∀ x ∈ xs, LV r x) : WV r xs := fun k hk => by
  have : gi xs k = xs[k] := by simp [gi, hk]
  rw [this]; exact h _ (List.getElem_mem hk)
theorem rel_lv {l c : Nat} (hc : c < sg.length) : ∀ x ∈ relL sg mt c, LV ((arC sg mt : Int) + (l : Int)) x := by
  have hN := hd.2.1
  have hI := hd.2.2.2.2.2.1
  have h0 := arN_lt (sg := sg) hI hN (show 4 * c < mt.length by omega)
  have h1 := arN_lt (sg := sg) hI hN (show 4 * c + 1 < mt.length by omega)
  have h2 := arN_lt (sg := sg) hI hN (show 4 * c + 2 < mt.length by omega)
  intro x hx
  unfold relL at hx
  dsimp only at hx
  unfold LV
  split at hx <;> simp only [List.mem_cons, List.not_mem_nil, or_false] at hx <;> rcases hx with rfl | rfl | rfl | rfl <;> omega
theorem group_valid {l : Nat} (hl : l ≤ 64) : GV ((arC sg mt : Int) + (l : Int)) (cmpL sg mt l) (wrdL sg mt sg.length) := by
  have hN := hd.2.1
  have hc : arC sg mt ≤ 256 := by
    have h1 := cnt_le (headB (arR sg mt)) mt.length
    have h2 := hd.1
    unfold arC; omega
  refine ⟨by omega, by omega, by rw [cmp_len]; simp, fun a ha => ?_, fun i hi => ?_⟩
  · rw [cmp_len] at ha
    obtain ⟨i, h1, e⟩ := cmp_all hd ha
    have := strands_le hd
    rw [e]; omega
  · rw [wrdL_len] at hi
    have e : (wrdL sg mt sg.length).getD i [] = redL (relL sg mt i) := by simp [wrdL, hi]
    rw [e]
    exact wv_of (red_sub (fun x hx => by cases hx) (rel_lv hd hi))
theorem counts : arC sg mt = sg.length + ((strandsL sg mt).filter noEv).length := arC_eq hd
end
end Go.Proofs.Ytcjgfncbecbhjaa

