/-
  An arc lies on one strand; how many arcs there are; the component of each arc; the presentation of a diagram is a valid group. No program here.
-/
import Derived.Test.YtcjgfncbecbhjaaRCmpM
import Derived.Test.YtcjgfncbecbhjaaSphM
import Derived.Test.YtcjgfncbecbhjaaWVal
namespace Go.Proofs.Ytcjgfncbecbhjaa

/-- the half-edge of h's edge that leaves -/
def oh (sg mt : List Int) (h : Nat) : Nat := if outB sg h = true then h else gn mt h
/-- none of these passes under -/
def noEv (l : List Nat) : Bool := l.all fun h => decide (h % 2 = 1)
theorem noEv_iff {l : List Nat} : noEv l = true ↔ ∀ h ∈ l, h % 2 = 1 := by unfold noEv; rw [List.all_eq_true]; simp

section
variable {sg mt : List Int} {L : Int} (hd : IsD sg mt L)
include hd
theorem oh_lt {h : Nat} (hh : h < mt.length) : oh sg mt h < mt.length := by
  unfold oh; split
  · exact hh
  · exact (hd.2.2.2.2.2.1.gn hh).2.1
theorem oh_out {h : Nat} (hh : h < mt.length) : outB sg (oh sg mt h) = true := by
  unfold oh; split
  · assumption
  · rename_i e
    have := hd.2.2.2.2.2.2.1 h hh
    cases e1 : outB sg h
    · rw [e1] at this
      cases e2 : outB sg (gn mt h)
      · rw [e2] at this; exact absurd rfl this
      · rfl
    · exact absurd e1 e
omit hd in
theorem oh_of_out {h : Nat} (ho : outB sg h = true) : oh sg mt h = h := by unfold oh; rw [if_pos ho]
theorem oh_gn {h : Nat} (hh : h < mt.length) : oh sg mt (gn mt h) = oh sg mt h := by
  have h1 := hd.2.2.2.2.2.2.1 h hh
  have h2 := (hd.2.2.2.2.2.1.gn hh).2.2.2
  unfold oh
  cases e1 : outB sg h <;> cases e2 : outB sg (gn mt h)
  · rw [e1, e2] at h1; exact absurd rfl h1
  · simp
  · simp [h2]
  · rw [e1, e2] at h1; exact absurd rfl h1
omit hd in
theorem oh_in {h : Nat} (ho : outB sg h = false) : oh sg mt h = gn mt h := by unfold oh; rw [if_neg (by rw [ho]; simp)]
/-- the way over a crossing -/
theorem oh_over {c : Nat} (hc : c < sg.length) : ∃ v, v < mt.length ∧ outB sg v = true ∧ nxS mt v % 2 = 1 ∧ ((oh sg mt (4 * c + 1) = nxS mt v ∧ oh sg mt (4 * c + 3) = v) ∨ (oh sg mt (4 * c + 1) = v ∧ oh sg mt (4 * c + 3) = nxS mt v)) := by
  have hN := hd.2.1
  have hI := hd.2.2.2.2.2.1
  have g1 := hI.gn (show 4 * c + 1 < mt.length by omega)
  have g3 := hI.gn (show 4 * c + 3 < mt.length by omega)
  have o1 : outB sg (4 * c + 1) = (gi sg c == 1) := by
    unfold outB; rw [if_pos (by omega), show (4 * c + 1) / 4 = c by omega]
  have o3 : outB sg (4 * c + 3) = (gi sg c == -1) := by
    unfold outB; rw [if_neg (by omega), if_neg (by omega), if_pos (by omega), show (4 * c + 3) / 4 = c by omega]
  rcases hd.2.2.2.2.1 c hc with e | e
  · rw [e] at o1 o3
    have o1 : outB sg (4 * c + 1) = true := by rw [o1]; rfl
    have o3 : outB sg (4 * c + 3) = false := by rw [o3]; rfl
    have hn : nxS mt (gn mt (4 * c + 3)) = 4 * c + 1 := by unfold nxS; rw [g3.2.2.2]; unfold turnN; omega
    refine ⟨gn mt (4 * c + 3), g3.2.1, ?_, by rw [hn]; omega, .inl ⟨?_, ?_⟩⟩
    · rw [← oh_in o3]; exact oh_out hd (by omega)
    · rw [hn]; exact oh_of_out o1
    · exact oh_in o3
  · rw [e] at o1 o3
    have o1 : outB sg (4 * c + 1) = false := by rw [o1]; rfl
    have o3 : outB sg (4 * c + 3) = true := by rw [o3]; rfl
    have hn : nxS mt (gn mt (4 * c + 1)) = 4 * c + 3 := by unfold nxS; rw [g1.2.2.2]; unfold turnN; omega
    refine ⟨gn mt (4 * c + 1), g1.2.1, ?_, by rw [hn]; omega, .inr ⟨?_, ?_⟩⟩
    · rw [← oh_in o1]; exact oh_out hd (by omega)
    · exact oh_in o1
    · rw [hn]; exact oh_of_out o3
theorem arc_ind {Q : Nat → Nat → Prop} (hr : ∀ x, x < mt.length → Q x x) (hs : ∀ x y, x < mt.length → y < mt.length → Q x y → Q y x) (ht : ∀ x y z, x < mt.length → y < mt.length → z < mt.length → Q x y → Q y z → Q x z)
    (hov : ∀ v, v < mt.length → outB sg v = true → nxS mt v % 2 = 1 → Q v (nxS mt v)) {x y : Nat} (hx : x < mt.length) (hy : y < mt.length) (h : arR sg mt x y = true) : Q (oh sg mt x) (oh sg mt y) := by
  have hN := hd.2.1
  have hI := hd.2.2.2.2.2.1
  have hP := nxS_perm hI hN
  refine jl_ind (N := mt.length) (Q := fun x y => Q (oh sg mt x) (oh sg mt y)) (fun x hx => hr _ (oh_lt hd hx)) (fun x y hx hy h => hs _ _ (oh_lt hd hx) (oh_lt hd hy) h)
    (fun x y z hx hy hz h1 h2 => ht _ _ _ (oh_lt hd hx) (oh_lt hd hy) (oh_lt hd hz) h1 h2) (eAB_in hI hN) ?_ x y hx hy h
  intro e he
  rcases List.mem_append.1 he with h | h
  · unfold eA at h
    obtain ⟨x, hx, rfl⟩ := List.mem_map.1 h
    have hx := List.mem_range.1 hx
    show Q (oh sg mt x) (oh sg mt (gn mt x))
    rw [oh_gn hd hx]
    exact hr _ (oh_lt hd hx)
  · unfold eB at h
    obtain ⟨c, hc, rfl⟩ := List.mem_map.1 h
    have hc := List.mem_range.1 hc
    show Q (oh sg mt (4 * c + 1)) (oh sg mt (4 * c + 3))
    obtain ⟨v, h1, h2, h3, h4⟩ := oh_over hd hc
    have hq := hov v h1 h2 h3
    rcases h4 with ⟨e1, e2⟩ | ⟨e1, e2⟩
    · rw [e1, e2]; exact hs _ _ h1 (hP.lt _ h1) hq
    · rw [e1, e2]; exact hq
/-- an arc lies on one strand -/
theorem arc_strand {x y : Nat} (hx : x < mt.length) (hy : y < mt.length) (h : arR sg mt x y = true) : rc (nxS mt) mt.length (oh sg mt x) (oh sg mt y) = true := by
  have hP := nxS_perm hd.2.2.2.2.2.1 hd.2.1
  have hE := rc_eqv hP
  exact arc_ind hd (Q := fun x y => rc (nxS mt) mt.length x y = true) (fun x hx => hE.rfl_ x hx) (fun x y hx hy => hE.sym x y hx hy) (fun x y z hx hy hz => hE.tr x y z hx hy hz) (fun v hv _ _ => rc_next hP hv) hx hy h

/-- where the arc of h ends -/
def Sp (mt : List Int) (h g : Nat) : Prop :=
  (∃ k, g = it (nxS mt) k h ∧ it (nxS mt) (k + 1) h % 2 = 0 ∧ ∀ j, j < k → it (nxS mt) (j + 1) h % 2 = 1) ∨ ((∀ k, it (nxS mt) (k + 1) h % 2 = 1) ∧ g = lo (rc (nxS mt) mt.length) h)
omit hd in
theorem Sp.uniq {h g g' : Nat} (h1 : Sp mt h g) (h2 : Sp mt h g') : g = g' := by
  rcases h1 with ⟨k, e, hk, hj⟩ | ⟨h1, e⟩ <;> rcases h2 with ⟨k', e', hk', hj'⟩ | ⟨h2, e'⟩
  · rcases Nat.lt_trichotomy k k' with h | h | h
    · have := hj' k h; omega
    · rw [e, e', h]
    · have := hj k' h; omega
  · have := h2 k; omega
  · have := h1 k'; omega
  · rw [e, e']
theorem sp_next {v g : Nat} (hv : v < mt.length) (ho : nxS mt v % 2 = 1) : Sp mt v g ↔ Sp mt (nxS mt v) g := by
  have hP := nxS_perm hd.2.2.2.2.2.1 hd.2.1
  have hE := rc_eqv hP
  have hlo : lo (rc (nxS mt) mt.length) v = lo (rc (nxS mt) mt.length) (nxS mt v) := lo_congr hE hv (hP.lt _ hv) (rc_next hP hv)
  unfold Sp
  rw [hlo]
  constructor
  · rintro (⟨k, e, hk, hj⟩ | ⟨h1, e⟩)
    · cases k with
      | zero => exact absurd hk (by show ¬ nxS mt v % 2 = 0; omega)
      | succ k =>
        refine .inl ⟨k, by rw [e, it_succ'], by rw [← it_succ']; exact hk, fun j hj' => ?_⟩
        have := hj (j + 1) (by omega)
        rwa [it_succ'] at this
    · exact .inr ⟨fun k => by rw [← it_succ']; exact h1 (k + 1), e⟩
  · rintro (⟨k, e, hk, hj⟩ | ⟨h1, e⟩)
    · refine .inl ⟨k + 1, by rw [e, it_succ'], by rw [it_succ']; exact hk, fun j hj' => ?_⟩
      cases j with
      | zero => exact ho
      | succ j => rw [it_succ']; exact hj j (by omega)
    · refine .inr ⟨fun k => ?_, e⟩
      cases k with
      | zero => exact ho
      | succ k => rw [it_succ']; exact h1 k
theorem arc_sp {x y g : Nat} (hx : x < mt.length) (hy : y < mt.length) (h : arR sg mt x y = true) : Sp mt (oh sg mt x) g ↔ Sp mt (oh sg mt y) g :=
  arc_ind hd (Q := fun x y => Sp mt x g ↔ Sp mt y g) (fun _ _ => Iff.rfl) (fun _ _ _ _ h => h.symm) (fun _ _ _ _ _ _ h1 h2 => h1.trans h2) (fun _ hv _ ho => sp_next hd hv ho) hx hy h
theorem arc_oh {x : Nat} (hx : x < mt.length) : arR sg mt x (oh sg mt x) = true := by
  have hI := hd.2.2.2.2.2.1
  unfold oh; split
  · exact (arR_eqv hI hd.2.1).rfl_ x hx
  · exact jl_edge (N := mt.length) (eAB_in hI hd.2.1) (x, gn mt x) (List.mem_append_left _ (by unfold eA; exact List.mem_map.2 ⟨x, List.mem_range.2 hx, rfl⟩))
theorem arc_mate {x : Nat} (hx : x < mt.length) : arR sg mt x (gn mt x) = true :=
  jl_edge (N := mt.length) (eAB_in hd.2.2.2.2.2.1 hd.2.1) (x, gn mt x) (List.mem_append_left _ (by unfold eA; exact List.mem_map.2 ⟨x, List.mem_range.2 hx, rfl⟩))
theorem arc_cross {c : Nat} (hc : c < sg.length) : arR sg mt (4 * c + 1) (4 * c + 3) = true :=
  jl_edge (N := mt.length) (eAB_in hd.2.2.2.2.2.1 hd.2.1) (4 * c + 1, 4 * c + 3) (List.mem_append_right _ (by unfold eB; exact List.mem_map.2 ⟨c, List.mem_range.2 hc, rfl⟩))
theorem arc_next {v : Nat} (hv : v < mt.length) (ho : nxS mt v % 2 = 1) : arR sg mt v (nxS mt v) = true := by
  have hI := hd.2.2.2.2.2.1
  have hN := hd.2.1
  have hE := arR_eqv hI hN
  have g := hI.gn hv
  have hc : gn mt v / 4 < sg.length := by omega
  have h1 := arc_mate hd hv
  have h2 := arc_cross hd hc
  have e : nxS mt v = turnN (gn mt v) 2 := rfl
  rw [e] at ho ⊢
  have hl : turnN (gn mt v) 2 < mt.length := by rw [hN]; exact turnN_lt (by omega)
  refine hE.tr _ _ _ hv g.2.1 hl h1 ?_
  unfold turnN at ho hl ⊢
  rcases (show gn mt v % 4 = 1 ∨ gn mt v % 4 = 3 by omega) with h | h
  · rw [show gn mt v - gn mt v % 4 + (gn mt v % 4 + 2) % 4 = 4 * (gn mt v / 4) + 3 by omega]
    conv => lhs; arg 3; rw [show gn mt v = 4 * (gn mt v / 4) + 1 by omega]
    exact h2
  · rw [show gn mt v - gn mt v % 4 + (gn mt v % 4 + 2) % 4 = 4 * (gn mt v / 4) + 1 by omega]
    conv => lhs; arg 3; rw [show gn mt v = 4 * (gn mt v / 4) + 3 by omega]
    exact hE.sym _ _ (by omega) (by omega) h2

/-- the last edges of the arcs -/
def enA (sg mt : List Int) (x : Nat) : Bool := outB sg x && decide (nxS mt x % 2 = 0)
def enB (sg mt : List Int) (x : Nat) : Bool := (outB sg x && lstB (nxS mt) mt.length x) && noEv (cyc (nxS mt) mt.length x)
omit hd in
theorem enA_iff {x : Nat} : enA sg mt x = true ↔ outB sg x = true ∧ nxS mt x % 2 = 0 := by unfold enA; simp
omit hd in
theorem enB_iff {x : Nat} : enB sg mt x = true ↔ (outB sg x = true ∧ lstB (nxS mt) mt.length x = true) ∧ ∀ y ∈ cyc (nxS mt) mt.length x, y % 2 = 1 := by unfold enB; simp [noEv_iff]
omit hd in
theorem lst_lo (hP : PermB (nxS mt) mt.length) {x : Nat} (hx : x < mt.length) : lstB (nxS mt) mt.length x = true ↔ lo (rc (nxS mt) mt.length) x = x := by
  rw [← lo_head (rc_eqv hP) hx, headB_iff, lstB_iff]
  constructor
  · intro h y hy
    cases e : rc (nxS mt) mt.length y x
    · rfl
    · have := h y (mem_symm hP (by omega) (by simpa [rc] using e))
      omega
  · intro h g hg
    have hgN := cyc_lt hP hx hg
    rcases Nat.lt_or_ge g x with h1 | h1
    · have h2 := h g h1
      rw [show rc (nxS mt) mt.length g x = true from decide_eq_true (mem_symm hP hx hg)] at h2
      cases h2
    · exact h1
theorem end_sp {x : Nat} (hx : x < mt.length) (h : (enA sg mt x || enB sg mt x) = true) : outB sg x = true ∧ Sp mt x x := by
  have hP := nxS_perm hd.2.2.2.2.2.1 hd.2.1
  rw [Bool.or_eq_true] at h
  rcases h with h | h
  · rw [enA_iff] at h
    exact ⟨h.1, .inl ⟨0, rfl, h.2, fun j hj => by omega⟩⟩
  · rw [enB_iff] at h
    refine ⟨h.1.1, .inr ⟨fun k => h.2 _ ((mem_cyc hP hx).2 ⟨k + 1, rfl⟩), ((lst_lo hP hx).1 h.1.2).symm⟩⟩
theorem end_uniq {x y : Nat} (hx : x < mt.length) (hy : y < mt.length) (h1 : (enA sg mt x || enB sg mt x) = true) (h2 : (enA sg mt y || enB sg mt y) = true) (h : arR sg mt x y = true) : x = y := by
  obtain ⟨o1, s1⟩ := end_sp hd hx h1
  obtain ⟨o2, s2⟩ := end_sp hd hy h2
  have := (arc_sp hd (g := y) hx hy h).2 (by rw [oh_of_out o2]; exact s2)
  rw [oh_of_out o1] at this
  exact s1.uniq this
theorem end_ex {x : Nat} (hx : x < mt.length) : ∃ y, y < mt.length ∧ arR sg mt x y = true ∧ (enA sg mt y || enB sg mt y) = true := by
  have hI := hd.2.2.2.2.2.1
  have hP := nxS_perm hI hd.2.1
  have hE := arR_eqv (sg := sg) hI hd.2.1
  have hh := oh_lt hd hx
  have ho := oh_out hd hx
  have h0 := arc_oh hd hx
  have hw : ∀ k, outB sg (it (nxS mt) k (oh sg mt x)) = true := fun k => by
    induction k with
    | zero => exact ho
    | succ k ih => show outB sg (nxS mt _) = true; rw [out_nxS hd _ (hP.it_lt k hh)]; exact ih
  by_cases e : ∃ k, it (nxS mt) (k + 1) (oh sg mt x) % 2 = 0
  · obtain ⟨k0, hk0⟩ := e
    obtain ⟨k, hk, hm⟩ := least_of (P := fun k => it (nxS mt) (k + 1) (oh sg mt x) % 2 = 0) hk0
    have hodd : ∀ j, j < k → it (nxS mt) (j + 1) (oh sg mt x) % 2 = 1 := fun j hj => by
      rcases (show it (nxS mt) (j + 1) (oh sg mt x) % 2 = 0 ∨ it (nxS mt) (j + 1) (oh sg mt x) % 2 = 1 by omega) with h | h
      · have := hm j h; omega
      · exact h
    have hch : ∀ j, j ≤ k → arR sg mt (oh sg mt x) (it (nxS mt) j (oh sg mt x)) = true := by
      intro j
      induction j with
      | zero => intro _; exact hE.rfl_ _ hh
      | succ j ih => intro hj; exact hE.tr _ _ _ hh (hP.it_lt j hh) (hP.it_lt (j + 1) hh) (ih (by omega)) (arc_next hd (hP.it_lt j hh) (hodd j (by omega)))
    refine ⟨it (nxS mt) k (oh sg mt x), hP.it_lt k hh, hE.tr _ _ _ hx hh (hP.it_lt k hh) h0 (hch k (Nat.le_refl _)), ?_⟩
    rw [Bool.or_eq_true]
    exact .inl (enA_iff.2 ⟨hw k, hk⟩)
  · have hodd : ∀ k, it (nxS mt) (k + 1) (oh sg mt x) % 2 = 1 := fun k => by
      rcases (show it (nxS mt) (k + 1) (oh sg mt x) % 2 = 0 ∨ it (nxS mt) (k + 1) (oh sg mt x) % 2 = 1 by omega) with h | h
      · exact absurd ⟨k, h⟩ e
      · exact h
    have hch : ∀ j, arR sg mt (oh sg mt x) (it (nxS mt) j (oh sg mt x)) = true := by
      intro j
      induction j with
      | zero => exact hE.rfl_ _ hh
      | succ j ih => exact hE.tr _ _ _ hh (hP.it_lt j hh) (hP.it_lt (j + 1) hh) ih (arc_next hd (hP.it_lt j hh) (hodd j))
    obtain ⟨l1, l2, l3⟩ := lo_spec (rc_eqv hP) hh
    have hll : lo (rc (nxS mt) mt.length) (oh sg mt x) < mt.length := by omega
    have hm := mem_symm hP hll (by simpa [rc] using l2)
    obtain ⟨k, hk⟩ := (mem_cyc hP hh).1 hm
    refine ⟨it (nxS mt) k (oh sg mt x), hP.it_lt k hh, hE.tr _ _ _ hx hh (hP.it_lt k hh) h0 (hch k), ?_⟩
    rw [Bool.or_eq_true]
    refine .inr (enB_iff.2 ⟨⟨hw k, ?_⟩, ?_⟩)
    · rw [lst_lo hP (hP.it_lt k hh), hk]
      exact (lo_head (rc_eqv hP) hll).1 l3
    · intro y hy
      obtain ⟨j, rfl⟩ := (mem_cyc hP (hP.it_lt k hh)).1 hy
      rw [← it_add]
      obtain ⟨p, p1, -, p3⟩ := hP.returns hh
      have h5 : it (nxS mt) (j + k) (oh sg mt x) = it (nxS mt) (j + k + p) (oh sg mt x) := by rw [it_add _ (j + k) p, p3]
      rw [h5, show j + k + p = (j + k + p - 1) + 1 by omega]
      exact hodd _

omit hd in
theorem cnt_reps {r : Nat → Nat → Bool} {N : Nat} {P : Nat → Bool} (hE : EqvB r N) (h1 : ∀ x, x < N → ∃ y, y < N ∧ r x y = true ∧ P y = true) (h2 : ∀ x y, x < N → y < N → P x = true → P y = true → r x y = true → x = y) : cnt (headB r) N = cnt P N := by
  apply Nat.le_antisymm
  · have h3 : ∀ x, ∃ y, x < N → y < N ∧ r x y = true ∧ P y = true := fun x => by
      by_cases h : x < N
      · obtain ⟨y, hy⟩ := h1 x h; exact ⟨y, fun _ => hy⟩
      · exact ⟨0, fun e => absurd e h⟩
    refine cnt_inj (fun x => Classical.choose (h3 x)) (fun x hx _ => ?_) (fun x y hx hy hhx hhy e => ?_)
    · have := Classical.choose_spec (h3 x) hx; exact ⟨this.1, this.2.2⟩
    · have a := Classical.choose_spec (h3 x) hx
      have b := Classical.choose_spec (h3 y) hy
      have e : Classical.choose (h3 x) = Classical.choose (h3 y) := e
      rw [← e] at b
      have hxy := hE.tr _ _ _ hx a.1 hy a.2.1 (hE.sym _ _ hy a.1 b.2.1)
      have := head_le hhx (hE.sym _ _ hx hy hxy)
      have := head_le hhy hxy
      omega
  · refine cnt_inj (lo r) (fun x hx _ => ?_) (fun x y hx hy hpx hpy e => ?_)
    · obtain ⟨l1, l2, l3⟩ := lo_spec hE hx; exact ⟨by omega, l3⟩
    · obtain ⟨l1, l2, l3⟩ := lo_spec hE hx
      obtain ⟨m1, m2, m3⟩ := lo_spec hE hy
      refine h2 x y hx hy hpx hpy (hE.tr _ _ _ hx (show lo r x < N by omega) hy (hE.sym _ _ (by omega) hx l2) (by rw [e]; exact m2))
omit hd in
theorem evens {sg : List Int} : ∀ n, n ≤ sg.length → cnt (fun x => outB sg x && decide (x % 2 = 0)) (4 * n) = n
  | 0, _ => rfl
  | n + 1, h => by
    rw [show 4 * (n + 1) = 4 * n + 1 + 1 + 1 + 1 by omega, cnt_succ, cnt_succ, cnt_succ, cnt_succ, evens n (by omega)]
    have e0 : outB sg (4 * n) = false := by
      unfold outB
      rw [if_neg (by omega), if_neg (by omega), if_neg (by omega)]
    have e2 : outB sg (4 * n + 1 + 1) = true := by
      unfold outB
      rw [if_neg (by omega), if_pos (by omega)]
    have f1 : decide ((4 * n + 1) % 2 = 0) = false := decide_eq_false (by omega)
    have f2 : decide ((4 * n + 1 + 1) % 2 = 0) = true := decide_eq_true (by omega)
    have f3 : decide ((4 * n + 1 + 1 + 1) % 2 = 0) = false := decide_eq_false (by omega)
    rw [e0, e2, f1, f2, f3]
    simp
theorem enA_cnt : cnt (enA sg mt) mt.length = sg.length := by
  have hN := hd.2.1
  have hI := hd.2.2.2.2.2.1
  have hP := nxS_perm hI hN
  have he := evens (sg := sg) sg.length (Nat.le_refl _)
  rw [← hN] at he
  refine Eq.trans (Nat.le_antisymm ?_ ?_) he
  · refine cnt_inj (nxS mt) (fun x hx h => ?_) (fun x y hx hy _ _ e => hP.inj x y hx hy e)
    rw [enA_iff] at h
    refine ⟨hP.lt x hx, ?_⟩
    rw [Bool.and_eq_true, out_nxS hd x hx]
    exact ⟨h.1, decide_eq_true h.2⟩
  · have hb : ∀ y, y < mt.length → gn mt (turnN y 2) < mt.length ∧ nxS mt (gn mt (turnN y 2)) = y := fun y hy => by
      have ht : turnN y 2 < mt.length := by rw [hN]; exact turnN_lt (by omega)
      have g := hI.gn ht
      refine ⟨g.2.1, ?_⟩
      unfold nxS
      rw [g.2.2.2, turnN_add, turnN_four]
    refine cnt_inj (fun y => gn mt (turnN y 2)) (fun y hy h => ?_) (fun x y hx hy _ _ e => ?_)
    · rw [Bool.and_eq_true] at h
      obtain ⟨h1, h2⟩ := hb y hy
      refine ⟨h1, enA_iff.2 ⟨?_, by rw [h2]; exact of_decide_eq_true h.2⟩⟩
      rw [← out_nxS hd _ h1, h2]; exact h.1
    · have e : gn mt (turnN x 2) = gn mt (turnN y 2) := e
      rw [← (hb x hx).2, e, (hb y hy).2]
omit hd in
/-- the strands that never pass under -/
theorem enB_cnt : cnt (enB sg mt) mt.length = ((strandsL sg mt).filter noEv).length := by
  unfold strandsL cycsL cnt
  rw [List.filter_map, List.length_map, List.filter_filter]
  congr 1
  refine List.filter_congr fun x _ => ?_
  unfold enB
  show _ = (noEv _ && _)
  rw [Bool.and_comm]
theorem arC_eq : arC sg mt = sg.length + ((strandsL sg mt).filter noEv).length := by
  rw [← enB_cnt]
  conv => rhs; arg 1; rw [← enA_cnt hd]
  rw [← cnt_or]
  · exact cnt_reps (arR_eqv hd.2.2.2.2.2.1 hd.2.1) (fun x hx => end_ex hd hx) (fun x y hx hy h1 h2 h => end_uniq hd hx hy h1 h2 h)
  · intro x hx h1 h2
    rw [enA_iff] at h1
    rw [enB_iff] at h2
    have := h2.2 _ ((mem_cyc (nxS_perm hd.2.2.2.2.2.1 hd.2.1) hx).2 ⟨1, rfl⟩)
    have e : it (nxS mt) 1 x = nxS mt x := rfl
    rw [e] at this
    omega
omit hd in
theorem strands_cnt (sg mt : List Int) : (strandsL sg mt).length = cnt (fun x => outB sg x && lstB (nxS mt) mt.length x) mt.length := by
  unfold strandsL cycsL cnt
  rw [List.length_map]
theorem strands_le : (strandsL sg mt).length ≤ arC sg mt := by
  have hI := hd.2.2.2.2.2.1
  have hP := nxS_perm hI hd.2.1
  have hE := arR_eqv (sg := sg) hI hd.2.1
  rw [strands_cnt]
  refine cnt_inj (lo (arR sg mt)) (fun x hx _ => ?_) (fun x y hx hy h1 h2 e => ?_)
  · obtain ⟨l1, l2, l3⟩ := lo_spec hE hx; exact ⟨by omega, l3⟩
  · rw [Bool.and_eq_true] at h1 h2
    obtain ⟨l1, l2, l3⟩ := lo_spec hE hx
    obtain ⟨m1, m2, m3⟩ := lo_spec hE hy
    have hr := arc_strand hd hx hy (hE.tr _ _ _ hx (show lo (arR sg mt) x < mt.length by omega) hy (hE.sym _ _ (by omega) hx l2) (by rw [e]; exact m2))
    rw [oh_of_out h1.1, oh_of_out h2.1] at hr
    have := lo_congr (rc_eqv hP) hx hy hr
    rw [(lst_lo hP hx).1 h1.2, (lst_lo hP hy).1 h2.2] at this
    exact this
end
end Go.Proofs.Ytcjgfncbecbhjaa
namespace Go.Proofs.Ytcjgfncbecbhjaa

/-- the least half-edges of the strands -/
def hdL (sg mt : List Int) : List Nat := (List.range mt.length).filter fun h => outB sg h && lstB (nxS mt) mt.length h
theorem strands_hd (sg mt : List Int) : strandsL sg mt = (hdL sg mt).map (cyc (nxS mt) mt.length) := rfl
theorem hd_len (sg mt : List Int) : (hdL sg mt).length = (strandsL sg mt).length := by rw [strands_hd, List.length_map]
theorem hd_mem {sg mt : List Int} {i : Nat} (hi : i < (hdL sg mt).length) : (hdL sg mt)[i] < mt.length ∧ outB sg (hdL sg mt)[i] = true ∧ lstB (nxS mt) mt.length (hdL sg mt)[i] = true := by
  have h := List.getElem_mem hi
  have h2 : (hdL sg mt)[i] ∈ (List.range mt.length).filter fun h => outB sg h && lstB (nxS mt) mt.length h := h
  rw [List.mem_filter, Bool.and_eq_true, List.mem_range] at h2
  exact h2
theorem stN_hd {sg mt : List Int} {i : Nat} (hi : i < (hdL sg mt).length) : stN sg mt i = cyc (nxS mt) mt.length (hdL sg mt)[i] := by
  rw [← stN_eq (by rw [← hd_len]; exact hi)]
  simp [strands_hd]
theorem hd_inj {sg mt : List Int} {i j : Nat} (hi : i < (hdL sg mt).length) (hj : j < (hdL sg mt).length) (h : (hdL sg mt)[i] = (hdL sg mt)[j]) : i = j := by
  have hp : (hdL sg mt).Pairwise (· < ·) := (List.pairwise_lt_range (n := mt.length)).filter _
  rw [List.pairwise_iff_getElem] at hp
  rcases Nat.lt_trichotomy i j with h1 | h1 | h1
  · have := hp i j hi hj h1; omega
  · exact h1
  · have := hp j i hj hi h1; omega

theorem gi_set_ne {q : List Int} {x z : Nat} {y : Int} (h : z ≠ x) : gi (q.set x y) z = gi q z := by
  unfold gi
  rw [List.getD_eq_getElem?_getD, List.getD_eq_getElem?_getD, List.getElem?_set_ne (fun e => h e.symm)]
theorem gi_set_eq {q : List Int} {x : Nat} {y : Int} (h : x < q.length) : gi (q.set x y) x = y := by simp [gi, h]
theorem gi_app_l {p q : List Int} {k : Nat} (h : k < p.length) : gi (p ++ q) k = gi p k := by
  unfold gi
  rw [List.getD_eq_getElem?_getD, List.getD_eq_getElem?_getD, List.getElem?_append_left h]
theorem gi_app_r {p q : List Int} {k : Nat} : gi (p ++ q) (p.length + k) = gi q k := by
  unfold gi
  rw [List.getD_eq_getElem?_getD, List.getD_eq_getElem?_getD, List.getElem?_append_right (by omega), Nat.add_sub_cancel_left]

section
variable {sg mt : List Int} {L : Int} (hd : IsD sg mt L)
include hd
/-- each half-edge's edge is in one strand -/
theorem on_strand {x : Nat} (hx : x < mt.length) : ∃ i, i < (strandsL sg mt).length ∧ oh sg mt x ∈ stN sg mt i := by
  have hP := nxS_perm hd.2.2.2.2.2.1 hd.2.1
  have hh := oh_lt hd hx
  obtain ⟨m, h1, h2, h3, h4, -⟩ := least_mem hP hh
  have ho : outB sg m = true := by rw [wt_cyc hP (out_nxS hd) hh h1]; exact oh_out hd hx
  have hm : m ∈ hdL sg mt := by
    unfold hdL
    rw [List.mem_filter, Bool.and_eq_true, List.mem_range]
    exact ⟨h2, ho, h4⟩
  obtain ⟨i, hi, e⟩ := List.mem_iff_getElem.1 hm
  refine ⟨i, by rw [← hd_len]; exact hi, ?_⟩
  rw [stN_hd hi, e]; exact h3
theorem strand_uniq {x i j : Nat} (hi : i < (strandsL sg mt).length) (hj : j < (strandsL sg mt).length) (h1 : x ∈ stN sg mt i) (h2 : x ∈ stN sg mt j) : i = j := by
  have hP := nxS_perm hd.2.2.2.2.2.1 hd.2.1
  rw [← hd_len] at hi hj
  obtain ⟨a1, a2, a3⟩ := hd_mem hi
  obtain ⟨b1, b2, b3⟩ := hd_mem hj
  rw [stN_hd hi] at h1
  rw [stN_hd hj] at h2
  apply hd_inj hi hj
  have hx := cyc_lt hP a1 h1
  have hr := mem_trans hP a1 h1 (mem_symm hP b1 h2)
  have := lo_congr (rc_eqv hP) a1 b1 (decide_eq_true hr)
  rw [(lst_lo hP a1).1 a3, (lst_lo hP b1).1 b3] at this
  exact this
theorem stN_rc {x y i : Nat} (hi : i < (strandsL sg mt).length) (h1 : x ∈ stN sg mt i) (h : rc (nxS mt) mt.length x y = true) : y ∈ stN sg mt i := by
  have hP := nxS_perm hd.2.2.2.2.2.1 hd.2.1
  rw [← hd_len] at hi
  obtain ⟨a1, a2, a3⟩ := hd_mem hi
  rw [stN_hd hi] at h1 ⊢
  exact mem_trans hP a1 h1 (of_decide_eq_true h)
theorem stN_out {x i : Nat} (hi : i < (strandsL sg mt).length) (h1 : x ∈ stN sg mt i) : x < mt.length ∧ outB sg x = true := by
  have hP := nxS_perm hd.2.2.2.2.2.1 hd.2.1
  have h2 := stN_lt hd.2.2.2.2.2.1 hd.2.1 hi _ h1
  rw [← hd_len] at hi
  obtain ⟨a1, a2, a3⟩ := hd_mem hi
  rw [stN_hd hi] at h1
  exact ⟨h2, by rw [wt_cyc hP (out_nxS hd) a1 h1]; exact a2⟩
/-- numbers of arcs are alike exactly on one arc -/
theorem arN_iff {x y : Nat} (hx : x < mt.length) (hy : y < mt.length) : arN sg mt x = arN sg mt y ↔ arR sg mt x y = true := by
  have hE := arR_eqv (sg := sg) hd.2.2.2.2.2.1 hd.2.1
  obtain ⟨l1, l2, l3⟩ := lo_spec hE hx
  obtain ⟨m1, m2, m3⟩ := lo_spec hE hy
  constructor
  · intro e
    have e : cnt (headB (arR sg mt)) (lo (arR sg mt) x) = cnt (headB (arR sg mt)) (lo (arR sg mt) y) := e
    have : lo (arR sg mt) x = lo (arR sg mt) y := by
      rcases Nat.lt_trichotomy (lo (arR sg mt) x) (lo (arR sg mt) y) with h | h | h
      · have := cnt_lt l3 h; omega
      · exact h
      · have := cnt_lt m3 h; omega
    exact hE.tr _ _ _ hx (show lo (arR sg mt) x < mt.length by omega) hy (hE.sym _ _ (by omega) hx l2) (by rw [this]; exact m2)
  · intro h
    show cnt _ _ = cnt _ _
    rw [lo_congr hE hx hy h]
omit hd in
theorem cnt_surj {P : Nat → Bool} {a : Nat} : ∀ {m : Nat}, a < cnt P m → ∃ x, x < m ∧ P x = true ∧ cnt P x = a
  | 0, h => by rw [cnt_zero] at h; omega
  | m + 1, h => by
    rw [cnt_succ] at h
    rcases Nat.lt_or_ge a (cnt P m) with h1 | h1
    · obtain ⟨x, a1, a2⟩ := cnt_surj h1; exact ⟨x, by omega, a2⟩
    · split at h
      · exact ⟨m, by omega, by assumption, by omega⟩
      · omega
theorem arN_surj {a : Nat} (ha : a < arC sg mt) : ∃ x, x < mt.length ∧ arN sg mt x = a := by
  have hE := arR_eqv (sg := sg) hd.2.2.2.2.2.1 hd.2.1
  obtain ⟨x, h1, h2, h3⟩ := cnt_surj ha
  refine ⟨x, h1, ?_⟩
  show cnt _ (lo _ x) = a
  rw [(lo_head hE h1).1 h2]; exact h3

omit hd in
theorem cpJ_miss {i a : Nat} (q : List Int) : ∀ j, j ≤ (stN sg mt i).length → (∀ t, t < j → arN sg mt (gN (stN sg mt i) t) ≠ a) → gi (cpJ sg mt i j q) a = gi q a := by
  intro j
  induction j with
  | zero => intro _ _; rfl
  | succ j ih =>
    intro hj h
    rw [cpJ_succ _ (by omega), gi_set_ne (fun e => h j (by omega) e.symm)]
    exact ih (by omega) (fun t ht => h t (by omega))
omit hd in
theorem cpJ_hit {i a : Nat} (q : List Int) (ha : a < q.length) : ∀ j, j ≤ (stN sg mt i).length → (∃ t, t < j ∧ arN sg mt (gN (stN sg mt i) t) = a) → gi (cpJ sg mt i j q) a = (i : Int) := by
  intro j
  induction j with
  | zero => rintro _ ⟨t, ht, -⟩; omega
  | succ j ih =>
    rintro hj ⟨t, ht, e⟩
    rw [cpJ_succ _ (by omega)]
    by_cases e2 : arN sg mt (gN (stN sg mt i) j) = a
    · rw [e2, gi_set_eq (by rw [cpJ_len]; exact ha)]
    · rw [gi_set_ne (fun e => e2 e.symm)]
      refine ih (by omega) ⟨t, ?_, e⟩
      rcases Nat.lt_or_ge t j with h | h
      · exact h
      · obtain rfl : t = j := by omega
        exact absurd e e2
theorem arc_stN {x y i j : Nat} (hx : x < mt.length) (hi : i < (strandsL sg mt).length) (hxi : oh sg mt x ∈ stN sg mt i) (hj : j < (strandsL sg mt).length) (hy : y ∈ stN sg mt j) (h : arN sg mt y = arN sg mt x) : j = i := by
  obtain ⟨y1, y2⟩ := stN_out hd hj hy
  have h1 := arc_strand hd hx y1 ((arN_iff hd hx y1).1 h.symm)
  rw [oh_of_out y2] at h1
  exact strand_uniq hd hj hi hy (stN_rc hd hi hxi h1)
theorem cpK_at {x i : Nat} (hx : x < mt.length) (hi : i < (strandsL sg mt).length) (hxi : oh sg mt x ∈ stN sg mt i) (q : List Int) (hq : arN sg mt x < q.length) :
    ∀ k, k ≤ (strandsL sg mt).length → gi (cpK sg mt k q) (arN sg mt x) = if i < k then (i : Int) else gi q (arN sg mt x) := by
  intro k
  induction k with
  | zero => intro _; rw [cpK_zero, if_neg (by omega)]
  | succ k ih =>
    intro hk
    rw [cpK_succ]
    by_cases e : k = i
    · subst e
      rw [if_pos (by omega)]
      obtain ⟨t, ht, e2⟩ := List.mem_iff_getElem.1 hxi
      refine cpJ_hit _ (by rw [cpK_len]; exact hq) _ (Nat.le_refl _) ⟨t, ht, ?_⟩
      rw [gN_lt ht, e2]
      exact ((arN_iff hd hx (oh_lt hd hx)).2 (arc_oh hd hx)).symm
    · rw [cpJ_miss _ _ (Nat.le_refl _), ih (by omega)]
      · by_cases e2 : i < k
        · rw [if_pos e2, if_pos (by omega)]
        · rw [if_neg e2, if_neg (by omega)]
      · intro t ht e3
        refine e (arc_stN hd hx hi hxi (by omega) ?_ e3)
        rw [gN_lt ht]; exact List.getElem_mem ht
/-- the component of an arc -/
theorem cmp_at {x i : Nat} (l : Nat) (hx : x < mt.length) (hi : i < (strandsL sg mt).length) (hxi : oh sg mt x ∈ stN sg mt i) : gi (cmpL sg mt l) (arN sg mt x) = (i : Int) := by
  have ha := arN_lt (sg := sg) hd.2.2.2.2.2.1 hd.2.1 hx
  rw [cmp_eq hd.2.2.2.2.2.1 hd.2.1]
  unfold rcL
  rw [gi_app_l (by rw [cpK_len]; simpa using ha), cpK_at hd hx hi hxi _ (by simpa using ha) _ (Nat.le_refl _), if_pos hi]
theorem cmp_loop {k l : Nat} (hk : k < l) : gi (cmpL sg mt l) (arC sg mt + k) = ((strandsL sg mt).length : Int) + (k : Int) := by
  rw [cmp_eq hd.2.2.2.2.2.1 hd.2.1]
  unfold rcL
  have e : (cpK sg mt (strandsL sg mt).length (List.replicate (arC sg mt) 0)).length = arC sg mt := by rw [cpK_len]; simp
  conv => lhs; arg 2; rw [← e]
  rw [gi_app_r]
  simp [lpL, gi, hk]
theorem cmp_all {l a : Nat} (ha : a < arC sg mt + l) : ∃ i, i < (strandsL sg mt).length + l ∧ gi (cmpL sg mt l) a = (i : Int) := by
  rcases Nat.lt_or_ge a (arC sg mt) with h | h
  · obtain ⟨x, hx, rfl⟩ := arN_surj hd h
    obtain ⟨i, hi, hxi⟩ := on_strand hd hx
    exact ⟨i, by omega, cmp_at hd l hx hi hxi⟩
  · obtain ⟨k, rfl⟩ := Nat.exists_eq_add_of_le h
    exact ⟨(strandsL sg mt).length + k, by omega, by rw [cmp_loop hd (by omega)]; simp⟩

/-! ### words -/
omit hd in
theorem red_sub {P : Int → Prop} : ∀ {ys st : List Int}, (∀ x ∈ st, P x) → (∀ x ∈ ys, P x) → ∀ x ∈ redF st ys, P x := by
  intro ys
  induction ys with
  | nil => intro st h _; exact h
  | cons y ys ih =>
    intro st h1 h2
    show ∀ x ∈ redF (pushL st y) ys, P x
    refine ih (fun x hx => ?_) (fun x hx => h2 x (List.mem_cons_of_mem _ hx))
    unfold pushL at hx
    split at hx
    · exact h1 x (List.dropLast_subset _ hx)
    · rcases List.mem_append.1 hx with h | h
      · exact h1 x h
      · rw [List.mem_singleton.1 h]; exact h2 y List.mem_cons_self
omit hd in
theorem wv_of {r : Int} {xs : List Int} (h : ∀ x ∈ xs, LV r x) : WV r xs := fun k hk => by
  have : gi xs k = xs[k] := by simp [gi, hk]
  rw [this]; exact h _ (List.getElem_mem hk)
theorem rel_lv {l c : Nat} (hc : c < sg.length) : ∀ x ∈ relL sg mt c, LV ((arC sg mt : Int) + (l : Int)) x := by
  have hN := hd.2.1
  have hI := hd.2.2.2.2.2.1
  have h0 := arN_lt (sg := sg) hI hN (show 4 * c < mt.length by omega)
  have h1 := arN_lt (sg := sg) hI hN (show 4 * c + 1 < mt.length by omega)
  have h2 := arN_lt (sg := sg) hI hN (show 4 * c + 2 < mt.length by omega)
  intro x hx
  unfold relL at hx
  dsimp only at hx
  unfold LV
  split at hx <;> simp only [List.mem_cons, List.not_mem_nil, or_false] at hx <;> rcases hx with rfl | rfl | rfl | rfl <;> omega
theorem group_valid {l : Nat} (hl : l ≤ 64) : GV ((arC sg mt : Int) + (l : Int)) (cmpL sg mt l) (wrdL sg mt sg.length) := by
  have hN := hd.2.1
  have hc : arC sg mt ≤ 256 := by
    have h1 := cnt_le (headB (arR sg mt)) mt.length
    have h2 := hd.1
    unfold arC; omega
  refine ⟨by omega, by omega, by rw [cmp_len]; simp, fun a ha => ?_, fun i hi => ?_⟩
  · rw [cmp_len] at ha
    obtain ⟨i, h1, e⟩ := cmp_all hd ha
    have := strands_le hd
    rw [e]; omega
  · rw [wrdL_len] at hi
    have e : (wrdL sg mt sg.length).getD i [] = redL (relL sg mt i) := by simp [wrdL, hi]
    rw [e]
    exact wv_of (red_sub (fun x hx => by cases hx) (rel_lv hd hi))
theorem counts : arC sg mt = sg.length + ((strandsL sg mt).filter noEv).length := arC_eq hd
end
section
open Go.RowKit
/-- what the law reads -/
structure OSt (w : World) (bd gb : Nat) (A1 A2 Ac Aw : Option Addr) (c1 c2 cc cw : Nat) (sg mt : List Int) (l m : Nat) : Prop where
  db : DBox w bd A1 A2 c1 c2 sg mt (l : Int)
  gx : GBox w gb ((m : Int) + (l : Int)) (.slice Ac (m + l) cc) (.slice Aw sg.length cw)
  cm : RI w (· < w.heap.size) Ac (cmpL sg mt l)
  wd : RL w (· < w.heap.size) Aw (wrdL sg mt sg.length)
section
variable {w w' : World} {bd gb : Nat} {A1 A2 Ac Aw : Option Addr} {c1 c2 cc cw : Nat} {sg mt : List Int} {l m : Nat}
theorem OSt.below (h : OSt w bd gb A1 A2 Ac Aw c1 c2 cc cw sg mt l m) (hb : Below w.heap.size w w') : OSt w' bd gb A1 A2 Ac Aw c1 c2 cc cw sg mt l m := by
  have hs := hb.size
  exact ⟨h.db.below hb, h.gx.keep (hb.block gb h.gx.lt), (h.cm.below hb).imp fun b hb => by omega, (h.wd.below hb).imp fun b hb => by omega⟩
theorem OSt.pack (h : OSt w bd gb A1 A2 Ac Aw c1 c2 cc cw sg mt l m) : Hid (OSt w bd gb A1 A2 Ac Aw c1 c2 cc cw sg mt l m) ∧ w.cell? ⟨bd, 0, none⟩ = some (.slice A1 sg.length c1) ∧ w.cell? ⟨bd, 1, none⟩ = some (.slice A2 mt.length c2) ∧ w.cell? ⟨bd, 2, none⟩ = some (.int .i64 (l : Int)) ∧
    w.cell? ⟨gb, 0, none⟩ = some (.int .i64 ((m : Int) + (l : Int))) ∧ w.cell? ⟨gb, 1, none⟩ = some (.slice Ac (m + l) cc) ∧ w.cell? ⟨gb, 2, none⟩ = some (.slice Aw sg.length cw) :=
  ⟨h, h.db.c0, h.db.c1, h.db.c2, h.gx.cells.1, h.gx.cells.2.1, h.gx.cells.2.2⟩
end
end
end Go.Proofs.Ytcjgfncbecbhjaa

