/-
  A diagram is a drawing on spheres: potentials on its faces; the two sides of an edge. No program here.
-/
import Derived.Test.YtaghemilihaiaaaPot
import Derived.Test.YtaghemilihaiaaaStrandM
namespace Go.Proofs.Ytaghemilihaiaaa

/-! ### the edges of a diagram -/
def pairOf (mt : List Int) (h : Nat) : Nat × Nat := (h, gn mt h)
def edgesOf (mt : List Int) : List (Nat × Nat) := ((List.range mt.length).filter fun h => decide (h < gn mt h)).map (pairOf mt)

theorem mem_ends {es : List (Nat × Nat)} {z : Nat} : z ∈ ends es ↔ ∃ e, e ∈ es ∧ (z = e.1 ∨ z = e.2) := by
  induction es with
  | nil => simp [ends]
  | cons e es ih =>
    unfold ends
    rw [List.mem_cons, List.mem_cons, ih]
    constructor
    · rintro (h | h | ⟨e', h1, h2⟩)
      · exact ⟨e, List.mem_cons_self .., .inl h⟩
      · exact ⟨e, List.mem_cons_self .., .inr h⟩
      · exact ⟨e', List.mem_cons_of_mem _ h1, h2⟩
    · rintro ⟨e', h1, h2⟩
      rcases List.mem_cons.1 h1 with rfl | h1
      · exact h2.elim .inl fun h => .inr (.inl h)
      · exact .inr (.inr ⟨e', h1, h2⟩)
theorem ends_length : ∀ es : List (Nat × Nat), (ends es).length = 2 * es.length
  | [] => rfl
  | e :: es => by unfold ends; simp only [List.length_cons, ends_length es]; omega
theorem eE_in : ∀ {es : List (Nat × Nat)}, (ends es).Nodup → ∀ {e : Nat × Nat}, e ∈ es → eE es e.1 = e.2 ∧ eE es e.2 = e.1
  | [], _, _, h => by simp at h
  | f :: es, hd, e, h => by
    rcases List.mem_cons.1 h with rfl | h
    · exact ⟨eE_l hd, eE_r hd⟩
    · obtain ⟨d1, d2, -, d4⟩ := ends_parts hd
      have m1 : e.1 ∈ ends es := mem_ends.2 ⟨e, h, .inl rfl⟩
      have m2 : e.2 ∈ ends es := mem_ends.2 ⟨e, h, .inr rfl⟩
      have ih := eE_in d4 h
      rw [eE_o (fun e' => d1 (e' ▸ m1)) (fun e' => d2 (e' ▸ m1)), eE_o (fun e' => d1 (e' ▸ m2)) (fun e' => d2 (e' ▸ m2))]
      exact ih

section
variable {mt : List Int} (hI : InvM mt)
include hI
theorem edges_in : InE mt.length (edgesOf mt) := by
  intro e he
  unfold edgesOf at he
  rw [List.mem_map] at he
  obtain ⟨h, hh, rfl⟩ := he
  rw [List.mem_filter, List.mem_range] at hh
  have := hI.gn hh.1
  exact ⟨hh.1, this.2.1, fun e => this.2.2.1 e.symm⟩
theorem edges_nodup : (ends (edgesOf mt)).Nodup := by
  have key : ∀ l : List Nat, l.Nodup → (∀ h, h ∈ l → h < mt.length ∧ h < gn mt h) → (ends (l.map (pairOf mt))).Nodup := by
    intro l
    induction l with
    | nil => intro _ _; simp [ends]
    | cons h l ih =>
      intro hd hl
      rw [List.nodup_cons] at hd
      have h1 := hl h (List.mem_cons_self ..)
      have h1g := hI.gn h1.1
      have hno : ∀ z, (z = h ∨ z = gn mt h) → z ∉ ends (l.map (pairOf mt)) := by
        intro z hz hm
        obtain ⟨e, he, h3⟩ := mem_ends.1 hm
        rw [List.mem_map] at he
        obtain ⟨g, hg, rfl⟩ := he
        have h2 := hl g (List.mem_cons_of_mem _ hg)
        have h2g := hI.gn h2.1
        have hne : g ≠ h := by rintro rfl; exact hd.1 hg
        unfold pairOf at h3
        simp only at h3
        rcases hz with rfl | rfl <;> rcases h3 with h3 | h3
        · exact hne h3.symm
        · have := h2g.2.2.2; rw [← h3] at this; omega
        · have := h1g.2.2.2; rw [h3] at this; omega
        · exact hne (gn_inj hI h2.1 h1.1 h3.symm)
      rw [List.map_cons]
      unfold ends
      rw [List.nodup_cons, List.nodup_cons, List.mem_cons, not_or]
      exact ⟨⟨fun e => h1g.2.2.1 e.symm, hno _ (.inl rfl)⟩, hno _ (.inr rfl), ih hd.2 fun g hg => hl g (List.mem_cons_of_mem _ hg)⟩
  unfold edgesOf
  refine key _ (List.nodup_range.filter _) fun h hh => ?_
  rw [List.mem_filter, List.mem_range, decide_eq_true_eq] at hh
  exact hh
theorem eE_gn {h : Nat} (hh : h < mt.length) : eE (edgesOf mt) h = gn mt h := by
  have hg := hI.gn hh
  by_cases hlt : h < gn mt h
  · have := eE_in (edges_nodup hI) (e := pairOf mt h) (List.mem_map_of_mem (List.mem_filter.2 ⟨List.mem_range.2 hh, by simpa using hlt⟩))
    exact this.1
  · have := eE_in (edges_nodup hI) (e := pairOf mt (gn mt h)) (List.mem_map_of_mem (List.mem_filter.2 ⟨List.mem_range.2 hg.2.1, by rw [hg.2.2.2]; simp; omega⟩))
    have h2 := this.2
    unfold pairOf at h2
    simp only at h2
    rw [hg.2.2.2] at h2
    exact h2
theorem fE_nxF {h : Nat} (hh : h < mt.length) : fE rot (edgesOf mt) h = nxF mt h := by
  rw [fE_eq, eE_gn hI hh]; rfl
theorem edges_count {n : Nat} (hn : mt.length = 4 * n) : (edgesOf mt).length = 2 * n := by
  have h1 := cnt_mem (m := mt.length) (ends (edgesOf mt)) (edges_nodup hI) (fun x hx => by
    obtain ⟨e, he, h⟩ := mem_ends.1 hx
    have := edges_in hI e he
    rcases h with rfl | rfl
    · exact this.1
    · exact this.2.1)
  have h2 : cnt (fun x => decide (x ∈ ends (edgesOf mt))) mt.length = cnt (fun _ => true) mt.length := by
    refine cnt_congr fun x hx => decide_eq_true ?_
    have hg := hI.gn hx
    by_cases hlt : x < gn mt x
    · exact mem_ends.2 ⟨pairOf mt x, List.mem_map_of_mem (List.mem_filter.2 ⟨List.mem_range.2 hx, by simpa using hlt⟩), .inl rfl⟩
    · exact mem_ends.2 ⟨pairOf mt (gn mt x), List.mem_map_of_mem (List.mem_filter.2 ⟨List.mem_range.2 hg.2.1, by rw [hg.2.2.2]; simp; omega⟩), .inr hg.2.2.2.symm⟩
  have h3 : ∀ m, cnt (fun _ => true) m = m := by
    intro m
    induction m with
    | zero => rfl
    | succ m ih => rw [cnt_succ, ih]; simp
  rw [h2, h3, ends_length] at h1
  omega
end

/-! ### sums over the components -/
def tS (g : Nat → Nat) : Nat → Nat
  | 0 => 0
  | n + 1 => tS g n + g n
theorem tS_congr {g g' : Nat → Nat} : ∀ {n : Nat}, (∀ r, r < n → g r = g' r) → tS g n = tS g' n
  | 0, _ => rfl
  | n + 1, h => by show tS g n + g n = tS g' n + g' n; rw [tS_congr fun r hr => h r (by omega), h n (by omega)]
theorem tS_add (g g' : Nat → Nat) : ∀ n, tS (fun r => g r + g' r) n = tS g n + tS g' n
  | 0 => rfl
  | n + 1 => by show tS _ n + (g n + g' n) = (tS g n + g n) + (tS g' n + g' n); rw [tS_add g g' n]; omega
theorem tS_zero : ∀ n, tS (fun _ => 0) n = 0
  | 0 => rfl
  | n + 1 => by show tS _ n + 0 = 0; rw [tS_zero n]
theorem tS_one (k : Nat) : ∀ n, tS (fun r => if k = r then 1 else 0) n = if k < n then 1 else 0
  | 0 => rfl
  | n + 1 => by
    show tS _ n + (if k = n then 1 else 0) = _
    rw [tS_one k n]
    by_cases h1 : k < n
    · rw [if_pos h1, if_neg (by omega), if_pos (by omega)]
    · by_cases h2 : k = n
      · rw [if_neg h1, if_pos h2, if_pos (by omega)]
      · rw [if_neg h1, if_neg h2, if_neg (by omega)]
/-- counted by keys -/
theorem tS_cnt {P : Nat → Bool} {key : Nat → Nat} {n : Nat} : ∀ {m : Nat}, (∀ h, h < m → P h = true → key h < n) → tS (fun r => cnt (fun h => P h && decide (key h = r)) m) n = cnt P m
  | 0, _ => tS_zero n
  | m + 1, h => by
    have e : tS (fun r => cnt (fun h => P h && decide (key h = r)) (m + 1)) n = tS (fun r => cnt (fun h => P h && decide (key h = r)) m + if P m = true then (if key m = r then 1 else 0) else 0) n := by
      refine tS_congr fun r _ => ?_
      rw [cnt_succ]
      congr 1
      cases hp : P m
      · simp
      · by_cases hk : key m = r <;> simp [hk]
    rw [e, tS_add, tS_cnt (fun x hx hp => h x (by omega) hp), cnt_succ]
    congr 1
    cases hp : P m
    · simp only [Bool.false_eq_true, if_false]; exact tS_zero n
    · simp only [if_true]
      rw [tS_one, if_pos (h m (by omega) hp)]

theorem idxN_cnt (ls : List Nat) (n : Nat) : idxN ls n = cnt (fun x => decide (gN ls x = x)) n := by
  unfold idxN cnt
  congr 1
theorem tS_lbl {q : Nat → Bool} : ∀ n, tS (fun r => if q r = true then 2 else 0) n = 2 * cnt q n
  | 0 => rfl
  | n + 1 => by
    show tS _ n + (if q n = true then 2 else 0) = _
    rw [tS_lbl n, cnt_succ]
    split <;> omega

section
variable {sg mt : List Int} {L : Int} (hd : IsD sg mt L)
include hd
/-- Euler's formula for all components together -/
theorem euler_all : cnt (lstB (nxF mt) mt.length) mt.length = sg.length + 2 * idxAt mt sg.length sg.length := by
  obtain ⟨_, hn, _, _, _, hI, _, hS⟩ := hd
  have hs := (sph_iff hI hn).1 hS
  have hlab : ∀ c, c < sg.length → labAt mt sg.length c < sg.length ∧ labAt mt sg.length (labAt mt sg.length c) = labAt mt sg.length c := fun c hc => ⟨(lab_least hI hn hc).2.2, lab_lab hI hn hc⟩
  have h1 := tS_cnt (P := lstB (nxF mt) mt.length) (key := fun h => labAt mt sg.length (h / 4)) (n := sg.length) (m := mt.length) (fun h hh _ => (hlab _ (by omega)).1)
  have h2 := tS_cnt (P := fun _ => true) (key := fun c => labAt mt sg.length c) (n := sg.length) (m := sg.length) (fun c hc _ => (hlab _ hc).1)
  have h3 : ∀ m, cnt (fun _ => true) m = m := by
    intro m
    induction m with
    | zero => rfl
    | succ m ih => rw [cnt_succ, ih]; simp
  rw [h3] at h2
  have h4 : tS (fun r => cnt (fun h => lstB (nxF mt) mt.length h && decide (labAt mt sg.length (h / 4) = r)) mt.length) sg.length =
      tS (fun r => cnt (fun c => true && decide (labAt mt sg.length c = r)) sg.length + (if decide (gN (labN mt sg.length) r = r) = true then 2 else 0)) sg.length := by
    refine tS_congr fun r hr => ?_
    by_cases hl : labAt mt sg.length r = r
    · rw [if_pos (decide_eq_true (p := gN (labN mt sg.length) r = r) hl)]
      simp only [Bool.true_and]
      exact hs r hr hl
    · rw [if_neg (by rw [decide_eq_true_eq]; exact hl)]
      have z1 : cnt (fun h => lstB (nxF mt) mt.length h && decide (labAt mt sg.length (h / 4) = r)) mt.length = cnt (fun _ => false) mt.length := by
        refine cnt_congr fun h hh => ?_
        rw [Bool.and_eq_false_iff]
        exact .inr (decide_eq_false fun e => hl (by rw [← e]; exact (hlab _ (by omega)).2))
      have z2 : cnt (fun c => true && decide (labAt mt sg.length c = r)) sg.length = cnt (fun _ => false) sg.length := by
        refine cnt_congr fun c hc => ?_
        rw [Bool.and_eq_false_iff]
        exact .inr (decide_eq_false fun e => hl (by rw [← e]; exact (hlab _ hc).2))
      rw [z1, z2, cnt_none, cnt_none]
  rw [tS_add, tS_lbl, h1, h2] at h4
  rw [h4]
  unfold idxAt
  rw [idxN_cnt]
end

theorem cnt_slots {P : Nat → Bool} {q : Nat → Bool} : ∀ {n : Nat}, (∀ c, c < n → P (4 * c) = q c ∧ P (4 * c + 1) = false ∧ P (4 * c + 2) = false ∧ P (4 * c + 3) = false) → cnt P (4 * n) = cnt q n
  | 0, _ => rfl
  | n + 1, h => by
    obtain ⟨h0, h1, h2, h3⟩ := h n (by omega)
    rw [show 4 * (n + 1) = 4 * n + 1 + 1 + 1 + 1 by omega, cnt_succ, cnt_succ, cnt_succ, cnt_succ, cnt_slots fun c hc => h c (by omega), cnt_succ, h0, h1, show P (4 * n + 1 + 1) = false from h2, show P (4 * n + 1 + 1 + 1) = false from h3]
    simp

theorem headB_slots {r : Nat → Nat → Bool} {n : Nat} (hr : ∀ c s, c < n → s < 4 → r (4 * c) (4 * c + s) = true) {c s : Nat} (hc : c < n) (hs : s < 4) (h0 : 0 < s) : headB r (4 * c + s) = false := by
  rw [Bool.eq_false_iff]
  intro h
  have := headB_iff.1 h (4 * c) (by omega)
  rw [hr c s hc hs] at this
  cases this

theorem ncls_rot (n : Nat) : ncls (rc rot (4 * n)) (4 * n) = n := by
  have hP := rot_perm n
  have hin : InE (4 * n) [] := fun e he => by simp at he
  have hr : ∀ c s, c < n → s < 4 → rc rot (4 * n) (4 * c) (4 * c + s) = true := fun c s hc hs => kE_slot (es := []) hin hc hs
  have hq : ∀ z k, it rot k z / 4 = z / 4 := by
    intro z k
    induction k with
    | zero => rfl
    | succ k ih => show turnN (it rot k z) 3 / 4 = _; rw [turnN_div, ih]
  have h3 : ∀ m, cnt (fun _ => true) m = m := by
    intro m
    induction m with
    | zero => rfl
    | succ m ih => rw [cnt_succ, ih]; simp
  unfold ncls
  rw [cnt_slots (q := fun _ => true), h3]
  intro c hc
  refine ⟨headB_iff.2 fun y hy => ?_, headB_slots hr hc (by omega) (by omega), headB_slots hr hc (by omega) (by omega), headB_slots hr hc (by omega) (by omega)⟩
  rw [Bool.eq_false_iff]
  intro h
  obtain ⟨k, hk⟩ := (rc_iff hP (by omega)).1 h
  have := hq y k
  rw [hk] at this
  omega

theorem kE_sub {a : Nat → Nat} {N : Nat} (hP : PermB a N) {r : Nat → Nat → Bool} (hE : EqvB r N) (hr : ∀ x, x < N → r x (a x) = true) : ∀ {es : List (Nat × Nat)}, InE N es → (∀ e, e ∈ es → r e.1 e.2 = true) → ∀ {z w : Nat}, z < N → w < N → kE a N es z w = true → r z w = true
  | [], _, _, _, _, hz, _, h => rc_sub hP hE hr hz h
  | e :: es, hin, hes, z, w, hz, hw, h => by
    obtain ⟨i1, i2, -⟩ := hin.head
    have h0 := hes e (List.mem_cons_self ..)
    have ih := fun {z w : Nat} => kE_sub hP hE hr (es := es) hin.tail (fun e he => hes e (List.mem_cons_of_mem _ he)) (z := z) (w := w)
    rcases joinB_iff.1 h with h1 | ⟨h1, h2⟩ | ⟨h1, h2⟩
    · exact ih hz hw h1
    · exact hE.tr _ _ _ hz i1 hw (ih hz i1 h1) (hE.tr _ _ _ i1 i2 hw h0 (ih i2 hw h2))
    · exact hE.tr _ _ _ hz i2 hw (ih hz i2 h1) (hE.tr _ _ _ i2 i1 hw (hE.sym _ _ i1 i2 h0) (ih i1 hw h2))

section
variable {mt : List Int} (hI : InvM mt) {n : Nat} (hn : mt.length = 4 * n)
include hI hn
omit hI hn in
theorem lab_eqv : EqvB (fun x y => decide (labAt mt n (x / 4) = labAt mt n (y / 4))) mt.length :=
  ⟨fun _ _ => decide_eq_true rfl, fun _ _ _ _ h => decide_eq_true (of_decide_eq_true h).symm, fun _ _ _ _ _ _ h1 h2 => decide_eq_true ((of_decide_eq_true h1).trans (of_decide_eq_true h2))⟩
/-- joined by edges: of one component -/
theorem kE_lab {x y : Nat} (hx : x < mt.length) (hy : y < mt.length) : kE rot mt.length (edgesOf mt) x y = true ↔ labAt mt n (x / 4) = labAt mt n (y / 4) := by
  have hP : PermB rot mt.length := by rw [hn]; exact rot_perm n
  have hin := edges_in hI
  have hE := kE_eqv hP _ hin
  constructor
  · intro h
    have := kE_sub hP lab_eqv (fun x _ => decide_eq_true (by unfold rot; rw [turnN_div])) hin (fun e he => decide_eq_true (by
      unfold edgesOf at he
      rw [List.mem_map] at he
      obtain ⟨g, hg, rfl⟩ := he
      rw [List.mem_filter, List.mem_range] at hg
      exact lab_mate hI hn hg.1)) hx hy h
    exact of_decide_eq_true this
  · intro h
    have key : ∀ {c d}, Cn mt c d → c < n → kE rot mt.length (edgesOf mt) (4 * c) (4 * d) = true := by
      intro c d hcd
      induction hcd with
      | refl => intro hc; exact hE.rfl_ _ (by omega)
      | @step d h hcd hl he ih =>
        intro hc
        have i1 := ih hc
        have hg := hI.gn hl
        have i2 := kE_edge hP _ hin h hl
        rw [eE_gn hI hl] at i2
        have i3 : kE rot mt.length (edgesOf mt) (4 * d) h = true := by
          rw [show h = 4 * d + h % 4 by omega, hn]
          exact kE_slot (by rw [← hn]; exact hin) (by omega) (by omega)
        have i4 : kE rot mt.length (edgesOf mt) (4 * (gn mt h / 4)) (gn mt h) = true := by
          conv => lhs; rw [show gn mt h = 4 * (gn mt h / 4) + gn mt h % 4 by omega]
          rw [hn]
          have := kE_slot (n := n) (es := edgesOf mt) (by rw [← hn]; exact hin) (c := gn mt h / 4) (by omega) (s := gn mt h % 4) (by omega)
          rwa [show 4 * ((4 * (gn mt h / 4) + gn mt h % 4) / 4) = 4 * (gn mt h / 4) by omega]
        exact hE.tr _ _ _ (by omega) hl (by omega) (hE.tr _ _ _ (by omega) (by omega) hl i1 i3) (hE.tr _ _ _ hl hg.2.1 (by omega) i2 (hE.sym _ _ (by omega) hg.2.1 i4))
    have hc := key (cn_of_lab_eq hI hn (c := x / 4) (d := y / 4) (by omega) (by omega) h) (by omega)
    have i3 : ∀ z, z < mt.length → kE rot mt.length (edgesOf mt) (4 * (z / 4)) z = true := by
      intro z hz
      have := kE_slot (n := n) (es := edgesOf mt) (by rw [← hn]; exact hin) (c := z / 4) (by omega) (s := z % 4) (by omega)
      rw [hn]
      rwa [show 4 * (z / 4) + z % 4 = z by omega] at this
    exact hE.tr _ _ _ hx (by omega) hy (hE.sym _ _ (by omega) hx (i3 x hx)) (hE.tr _ _ _ (by omega) (by omega) hy hc (i3 y hy))
theorem ncls_kE : ncls (kE rot mt.length (edgesOf mt)) mt.length = idxAt mt n n := by
  unfold idxAt
  rw [idxN_cnt]
  unfold ncls
  rw [hn]
  have hr : ∀ c s, c < n → s < 4 → kE rot (4 * n) (edgesOf mt) (4 * c) (4 * c + s) = true := fun c s hc hs => kE_slot (by rw [← hn]; exact edges_in hI) hc hs
  have hl := fun {x y : Nat} => kE_lab hI hn (x := x) (y := y)
  rw [hn] at hl
  refine cnt_slots fun c hc => ⟨?_, headB_slots hr hc (by omega) (by omega), headB_slots hr hc (by omega) (by omega), headB_slots hr hc (by omega) (by omega)⟩
  rw [Bool.eq_iff_iff, headB_iff, decide_eq_true_eq]
  constructor
  · intro h
    have h1 := lab_le hI hn hc
    rcases Nat.lt_or_eq_of_le h1 with h2 | h2
    · have h3 := h (4 * gN (labN mt n) c) (by omega)
      rw [Bool.eq_false_iff] at h3
      refine absurd (hl (by omega) (by omega) |>.2 ?_) h3
      rw [show 4 * gN (labN mt n) c / 4 = gN (labN mt n) c by omega, show 4 * c / 4 = c by omega]
      exact lab_lab hI hn hc
    · exact h2
  · intro h y hy
    rw [Bool.eq_false_iff]
    intro h1
    have h2 := (hl (by omega) (by omega)).1 h1
    rw [show 4 * c / 4 = c by omega] at h2
    have h3 := lab_le hI hn (c := y / 4) (by omega)
    have h4 : gN (labN mt n) (y / 4) = c := h2.trans h
    omega
end

section
variable {sg mt : List Int} {L : Int} (hd : IsD sg mt L)
include hd
theorem diagram_plane : Plane rot mt.length (edgesOf mt) := by
  have he := euler_all hd
  obtain ⟨_, hn, _, _, _, hI, _, _⟩ := hd
  have hP : PermB rot mt.length := by rw [hn]; exact rot_perm _
  have hF := nxF_perm hI hn
  unfold Plane
  have h1 : ncls (rc (fE rot (edgesOf mt)) mt.length) mt.length = ncls (rc (nxF mt) mt.length) mt.length := by
    refine ncls_congr fun x y hx hy => ?_
    have hk : ∀ k, it (fE rot (edgesOf mt)) k x = it (nxF mt) k x := by
      intro k
      induction k with
      | zero => rfl
      | succ k ih => show fE rot (edgesOf mt) _ = nxF mt _; rw [ih, fE_nxF hI (hF.it_lt k hx)]
    rw [Bool.eq_iff_iff, rc_iff (fE_perm hP _ (edges_in hI)) hx, rc_iff hF hx]
    exact ⟨fun ⟨k, h⟩ => ⟨k, by rw [← hk]; exact h⟩, fun ⟨k, h⟩ => ⟨k, by rw [hk]; exact h⟩⟩
  have h2 := ncls_rot sg.length
  rw [← hn] at h2
  rw [h1, ncls_rc hF, he, h2, edges_count hI hn, ncls_kE hI hn]
  omega
/-- THE POTENTIAL: what is laid along the edges and adds up to nothing at each crossing comes from the faces -/
theorem potential {G : Type} (Γ : Gp G) (w : Nat → G) (ha : ∀ h, h < mt.length → w (gn mt h) = Γ.i (w h)) (hv : ∀ c, c < sg.length → VtxOk Γ w c) :
    ∃ p : Nat → G, (∀ h, h < mt.length → p (nxF mt h) = p h) ∧ ∀ h, h < mt.length → w h = Γ.m (p h) (Γ.i (p (gn mt h))) := by
  have hpl := diagram_plane hd
  obtain ⟨_, hn, _, _, _, hI, _, _⟩ := hd
  rw [hn] at hpl
  have hin := edges_in hI
  rw [hn] at hin
  obtain ⟨p, hp⟩ := pot_all (Γ := Γ) hin (edges_nodup hI) hpl w (fun _ => False) (fun _ _ _ _ h => h.elim) ⟨fun h hh => by
    rw [eE_gn hI (by omega)]; exact ha h (by omega), fun h hh he => by
    rw [eE_gn hI (by omega)] at he
    exact absurd he (hI.gn (by omega)).2.2.1⟩ (fun c hc _ => hv c hc)
  refine ⟨p, fun h hh => ?_, fun h hh => ?_⟩
  · rw [← fE_nxF hI hh]; exact hp.face h (by omega)
  · rw [hp.edge h (by omega), eE_gn hI hh]
end

/-- the whole numbers -/
def zGp : Gp Int := ⟨fun a b => a + b, 0, fun a => -a, Int.add_assoc, Int.zero_add, Int.add_zero, Int.add_left_neg, Int.add_right_neg⟩

/-- THE NUMBERING OF THE FACES: left of an outgoing half-edge the number is greater by one -/
theorem numbering {sg mt : List Int} {L : Int} (hd : IsD sg mt L) : ∃ p : Nat → Int, (∀ h, h < mt.length → p (nxF mt h) = p h) ∧ ∀ h, h < mt.length → p h - p (gn mt h) = if outB sg h = true then 1 else -1 := by
  obtain ⟨p, h1, h2⟩ := potential hd zGp (fun h => if outB sg h = true then 1 else -1) (fun h hh => by
    have := hd.2.2.2.2.2.2.1 h hh
    revert this
    cases outB sg h <;> cases outB sg (gn mt h) <;> simp [zGp]) (fun c hc => by
    unfold VtxOk
    have h0 : outB sg (4 * c) = false := by unfold outB; rw [if_neg (by omega), if_neg (by omega), if_neg (by omega)]
    have h1 : outB sg (4 * c + 1) = (gi sg c == 1) := by unfold outB; rw [if_pos (by omega), show (4 * c + 1) / 4 = c by omega]
    have h2 : outB sg (4 * c + 2) = true := by unfold outB; rw [if_neg (by omega), if_pos (by omega)]
    have h3 : outB sg (4 * c + 3) = (gi sg c == -1) := by unfold outB; rw [if_neg (by omega), if_neg (by omega), if_pos (by omega), show (4 * c + 3) / 4 = c by omega]
    simp only [h0, h1, h2, h3]
    rcases hd.2.2.2.2.1 c hc with e | e <;> rw [e] <;> decide)
  refine ⟨p, h1, fun h hh => ?_⟩
  rw [h2 h hh]
  show p h - p (gn mt h) = p h + -p (gn mt h)
  omega

/-- THE TWO SIDES OF AN EDGE are different faces -/
theorem two_sides {sg mt : List Int} {L : Int} (hd : IsD sg mt L) {h : Nat} (hh : h < mt.length) : gn mt h ∉ cyc (nxF mt) mt.length h := by
  obtain ⟨p, h1, h2⟩ := numbering hd
  intro hm
  have hF := nxF_perm hd.2.2.2.2.2.1 hd.2.1
  have e : p (gn mt h) = p h := rc_const hF h1 hh (decide_eq_true hm)
  have := h2 h hh
  rw [e] at this
  split at this <;> omega
end Go.Proofs.Ytaghemilihaiaaa

