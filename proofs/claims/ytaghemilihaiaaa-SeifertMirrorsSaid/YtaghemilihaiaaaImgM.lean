/-
  Mirror images, reflections and reverses of diagrams are diagrams; their faces. No program here.
-/
import Derived.Test.YtaghemilihaiaaaAlike
import Derived.Test.YtaghemilihaiaaaMirror
namespace Go.Proofs.Ytaghemilihaiaaa

/-- the inverse of a permutation -/
def pinv (f : Nat → Nat) (N x : Nat) : Nat := it f (per f N x - 1) x
section
variable {f : Nat → Nat} {N : Nat} (hP : PermB f N)
include hP
theorem pinv_lt {x : Nat} (hx : x < N) : pinv f N x < N := hP.it_lt _ hx
theorem f_pinv {x : Nat} (hx : x < N) : f (pinv f N x) = x := by
  obtain ⟨h0, -, h1, -⟩ := per_spec hP hx
  unfold pinv
  show it f (per f N x - 1 + 1) x = x
  rw [Nat.sub_add_cancel h0, h1]
theorem pinv_f {x : Nat} (hx : x < N) : pinv f N (f x) = x := hP.inj _ _ (pinv_lt hP (hP.lt _ hx)) hx (f_pinv hP (hP.lt _ hx))
theorem it_perm (k : Nat) : PermB (it f k) N := ⟨fun _ hh => hP.it_lt k hh, fun _ _ ha hb e => hP.it_inj k ha hb e⟩
end
/-- a permutation that runs backward -/
theorem anti_rc {f g v : Nat → Nat} {N : Nat} (hf : PermB f N) (hg : PermB g N) (hv : PermB v N) (h : ∀ y, y < N → f (v (g y)) = v y) {x y : Nat} (hx : x < N) (hy : y < N) : rc f N (v x) (v y) = rc g N x y := by
  have key : ∀ k z, z < N → it f k (v (it g k z)) = v z := by
    intro k
    induction k with
    | zero => intro z _; rfl
    | succ k ih =>
      intro z hz
      rw [it_succ' f, show it g (k + 1) z = g (it g k z) from rfl, h _ (hg.it_lt k hz)]
      exact ih z hz
  have hEf := rc_eqv hf
  have hEg := rc_eqv hg
  rw [Bool.eq_iff_iff]
  constructor
  · intro hr
    obtain ⟨k, e⟩ := (rc_iff hf (hv.lt _ hx)).1 hr
    have hk := it_perm hg k
    have e1 := f_pinv hk hx
    have e2 := key k (pinv (it g k) N x) (pinv_lt hk hx)
    rw [e1, e] at e2
    have e3 := hv.inj _ _ hy (pinv_lt hk hx) e2
    rw [← e3] at e1
    exact hEg.sym _ _ hy hx ((rc_iff hg hy).2 ⟨k, e1⟩)
  · intro hr
    obtain ⟨k, rfl⟩ := (rc_iff hg hx).1 hr
    exact hEf.sym _ _ (hv.lt _ hy) (hv.lt _ hx) ((rc_iff hf (hv.lt _ hy)).2 ⟨k, key k x hx⟩)

/-- a diagram moved by u within its crossings -/
structure Moved (sg mt q r : List Int) (u : Nat → Nat) : Prop where
  ui : ∀ a b, u a = u b → a = b
  ud : ∀ a, u a / 4 = a / 4
  ql : q.length = sg.length
  rl : r.length = mt.length
  re : ∀ h, h < mt.length → gi r (u h) = (u (gn mt h) : Int)
  qs : SgM q
  qo : (∀ h, h < mt.length → outB q (u h) = outB sg h) ∨ (∀ h, h < mt.length → outB q (u h) = !outB sg h)
  tu : (∀ h, u (turnN h 3) = turnN (u h) 3) ∨ (∀ h, u (turnN h 1) = turnN (u h) 3)

section
variable {sg mt q r : List Int} {L : Int} {u : Nat → Nat} (hd : IsD sg mt L) (hM : Moved sg mt q r u)
include hd hM
omit hd in
theorem mv_lt {h n : Nat} (hh : h < 4 * n) : u h < 4 * n := by have := hM.ud h; omega
theorem mv_perm : PermB u mt.length := ⟨fun h hh => by have := hd.2.1; rw [this] at hh ⊢; exact mv_lt hM hh, fun a b _ _ e => hM.ui a b e⟩
omit hd in
theorem mv_gn {h : Nat} (hh : h < mt.length) : gn r (u h) = u (gn mt h) := by unfold gn; rw [hM.re h hh]; rfl
theorem mv_inv : InvM r := by
  have hP := mv_perm hd hM
  have hI := hd.2.2.2.2.2.1
  intro h hh
  rw [hM.rl] at hh
  obtain ⟨x, hx, rfl⟩ : ∃ x, x < mt.length ∧ u x = h := ⟨_, pinv_lt hP hh, f_pinv hP hh⟩
  obtain ⟨-, g2, g3, g4⟩ := hI.gn hx
  rw [hM.rl, mv_gn hM hx, hM.re x hx, hM.re _ g2, g4]
  refine ⟨by omega, by have := hP.lt _ g2; omega, fun e => g3 (hM.ui _ _ (by omega)), rfl⟩
theorem mv_out {h : Nat} (hh : h < mt.length) : outB q (u h) ≠ outB q (gn r (u h)) := by
  have hg := (hd.2.2.2.2.2.1.gn hh).2.1
  have h0 := hd.2.2.2.2.2.2.1 h hh
  rw [mv_gn hM hh]
  rcases hM.qo with h1 | h1
  · rw [h1 h hh, h1 _ hg]; exact h0
  · rw [h1 h hh, h1 _ hg]
    intro e
    exact h0 (by simpa using e)
theorem mv_cn {c d : Nat} (h : Cn r c d) : Cn mt c d := by
  have hP := mv_perm hd hM
  induction h with
  | refl => exact .refl
  | @step d h _ hl he ih =>
    rw [hM.rl] at hl
    obtain ⟨x, hx, rfl⟩ : ∃ x, x < mt.length ∧ u x = h := ⟨_, pinv_lt hP hl, f_pinv hP hl⟩
    rw [mv_gn hM hx, hM.ud]
    exact .step ih hx (by rw [← he, hM.ud])
omit hd in
theorem mv_cn' {n : Nat} (hn : mt.length = 4 * n) {c d : Nat} (h : Cn mt c d) : Cn r c d := by
  induction h with
  | refl => exact .refl
  | @step d h _ hl he ih =>
    have := Cn.step (mt := r) ih (h := u h) (by rw [hM.rl, hn]; exact mv_lt hM (by omega)) (by rw [hM.ud]; exact he)
    rwa [mv_gn hM hl, hM.ud] at this
theorem mv_lab {c : Nat} (hc : c < sg.length) : labAt r sg.length c = labAt mt sg.length c := by
  have hI := hd.2.2.2.2.2.1
  have hn := hd.2.1
  have hI' := mv_inv hd hM
  have hn' : r.length = 4 * sg.length := by rw [hM.rl, hn]
  obtain ⟨a1, a2, a3⟩ := lab_least hI hn hc
  obtain ⟨b1, b2, b3⟩ := lab_least hI' hn' hc
  have h1 := b2 _ (mv_cn' hM hn (a1.symm hI))
  have h2 := a2 _ (mv_cn hd hM (b1.symm hI'))
  unfold labAt
  omega
/-- the map of the faces -/
theorem mv_faces_u (h : ∀ h, u (turnN h 3) = turnN (u h) 3) {x y : Nat} (hx : x < mt.length) (hy : y < mt.length) : rc (nxF r) mt.length (u x) (u y) = rc (nxF mt) mt.length x y := by
  have hP := mv_perm hd hM
  have hF := nxF_perm hd.2.2.2.2.2.1 hd.2.1
  have hF' := nxF_perm (mv_inv hd hM) (n := sg.length) (by rw [hM.rl, hd.2.1])
  rw [hM.rl] at hF'
  refine alike_rc ⟨fun x hx => hP.lt x hx, fun x hx => pinv_lt hP hx, fun x hx => f_pinv hP hx, fun x hx => pinv_f hP hx, fun x hx => ?_⟩ hF' hF hx hy
  unfold nxF
  rw [mv_gn hM hx, h]
theorem mv_perm2 : PermB (fun x => u (gn mt x)) mt.length :=
  ⟨fun _ hx => (mv_perm hd hM).lt _ (hd.2.2.2.2.2.1.gn hx).2.1, fun _ _ ha hb e => gn_inj hd.2.2.2.2.2.1 ha hb (hM.ui _ _ e)⟩
theorem mv_faces_v (h : ∀ h, u (turnN h 1) = turnN (u h) 3) {x y : Nat} (hx : x < mt.length) (hy : y < mt.length) : rc (nxF r) mt.length (u (gn mt x)) (u (gn mt y)) = rc (nxF mt) mt.length x y := by
  have hI := hd.2.2.2.2.2.1
  have hn := hd.2.1
  have hF := nxF_perm hI hn
  have hF' := nxF_perm (mv_inv hd hM) (n := sg.length) (by rw [hM.rl, hn])
  rw [hM.rl] at hF'
  refine anti_rc hF' hF (mv_perm2 hd hM) (fun y hy => ?_) hx hy
  have hg := (hI.gn hy).2.1
  have ht : turnN (gn mt y) 3 < mt.length := by rw [hn] at hg ⊢; exact turnN_lt hg
  show turnN (gn r (u (gn mt (turnN (gn mt y) 3)))) 3 = u (gn mt y)
  rw [mv_gn hM (hI.gn ht).2.1, (hI.gn ht).2.2.2, ← h, turnN_add, show 3 + 1 = 4 from rfl, turnN_four]
theorem mv_faces : ∃ v : Nat → Nat, PermB v mt.length ∧ (v = u ∨ v = fun x => u (gn mt x)) ∧ (∀ x y, x < mt.length → y < mt.length → rc (nxF r) mt.length (v x) (v y) = rc (nxF mt) mt.length x y) := by
  rcases hM.tu with h | h
  · exact ⟨u, mv_perm hd hM, .inl rfl, fun x y hx hy => mv_faces_u hd hM h hx hy⟩
  · exact ⟨_, mv_perm2 hd hM, .inr rfl, fun x y hx hy => mv_faces_v hd hM h hx hy⟩
omit hM in
theorem gn_lab {x : Nat} (hx : x < mt.length) : labAt mt sg.length (gn mt x / 4) = labAt mt sg.length (x / 4) := (lab_mate hd.2.2.2.2.2.1 hd.2.1 hx).symm
/-- THE IMAGE IS A DIAGRAM -/
theorem mv_isD : IsD q r L := by
  have hP := mv_perm hd hM
  have hI' := mv_inv hd hM
  obtain ⟨v, hv, hv', hrc⟩ := mv_faces hd hM
  have hd0 := hd
  obtain ⟨d1, d2, d3, d4, d5, d6, d7, d8⟩ := hd
  have hn' : r.length = 4 * sg.length := by rw [hM.rl, d2]
  have hF := nxF_perm d6 d2
  have hF' := nxF_perm hI' hn'
  rw [hM.rl] at hF'
  refine ⟨by rw [hM.ql]; exact d1, by rw [hM.rl, hM.ql]; exact d2, d3, d4, hM.qs, hI', fun h hh => ?_, ?_⟩
  · rw [hM.rl] at hh
    obtain ⟨x, hx, rfl⟩ : ∃ x, x < mt.length ∧ u x = h := ⟨_, pinv_lt hP hh, f_pinv hP hh⟩
    exact mv_out hd0 hM hx
  · rw [hM.ql, sph_iff hI' hn']
    intro c hc hlc
    have hs := (sph_iff d6 d2).1 d8 c hc (by rw [← mv_lab hd0 hM hc]; exact hlc)
    have hl : ∀ x, x < mt.length → labAt r sg.length (x / 4) = labAt mt sg.length (x / 4) := fun x hx => mv_lab hd0 hM (by omega)
    have h1 := heads_eq (r := rc (nxF r) mt.length) (r' := rc (nxF mt) mt.length) (rc_eqv hF') (rc_eqv hF) (P := fun h => decide (labAt r sg.length (h / 4) = c)) (P' := fun h => decide (labAt mt sg.length (h / 4) = c)) (fun x y hx hy h => by
      have := rc_const hF' (p := fun h => labAt r sg.length (h / 4)) (fun h hh => by
        have hh' : h < r.length := by rw [hM.rl]; exact hh
        show labAt r sg.length (turnN (gn r h) 3 / 4) = _
        rw [turnN_div]
        exact (lab_mate hI' hn' hh').symm) hx h
      rw [this]) v (pinv v mt.length) (fun x hx => hv.lt x hx) (fun x hx => pinv_lt hv hx) (fun x hx => f_pinv hv hx) hrc (fun x hx => by
      rw [hl _ (hv.lt x hx)]
      rcases hv' with rfl | rfl
      · rw [hM.ud]
      · rw [hM.ud, gn_lab hd0 hx])
    have h2 : cnt (fun c' => decide (labAt r sg.length c' = c)) sg.length = cnt (fun c' => decide (labAt mt sg.length c' = c)) sg.length := cnt_congr fun c' hc' => by rw [mv_lab hd0 hM hc']
    have h3 : cnt (fun h => lstB (nxF r) mt.length h && decide (labAt r sg.length (h / 4) = c)) mt.length = cnt (fun h => headB (rc (nxF r) mt.length) h && decide (labAt r sg.length (h / 4) = c)) mt.length := cnt_congr fun x hx => by rw [headB_rc hF' hx]
    have h4 : cnt (fun h => lstB (nxF mt) mt.length h && decide (labAt mt sg.length (h / 4) = c)) mt.length = cnt (fun h => headB (rc (nxF mt) mt.length) h && decide (labAt mt sg.length (h / 4) = c)) mt.length := cnt_congr fun x hx => by rw [headB_rc hF hx]
    rw [hM.rl, h2, h3, ← h1, ← h4]
    exact hs
end

/-! ### the three kinds -/
section
variable {sg mt q r : List Int} {L : Int} (hd : IsD sg mt L)
include hd
omit hd in
theorem outB_at {sg : List Int} (h : Nat) : outB sg h = if h % 4 = 1 then gi sg (h / 4) == 1 else if h % 4 = 2 then true else if h % 4 = 3 then gi sg (h / 4) == -1 else false := rfl
theorem moved_M (h : IsMv sg mt (byM sg) sgN q r) : Moved sg mt q r (mvT (byM sg)) := by
  have hq : ∀ c, c < sg.length → gi q c = -gi sg c := fun c hc => by rw [h.qe c hc]; unfold sgN; omega
  refine ⟨inj_M, fun a => mvT_div, h.ql, h.rl, h.re, fun c hc => ?_, .inl fun x hx => ?_, .inl fun x => ?_⟩
  · rw [h.ql] at hc
    rw [hq c hc]
    have := hd.2.2.2.2.1 c hc
    omega
  · have hc : x / 4 < sg.length := by have := hd.2.1; omega
    rw [outB_at, outB_at, mvT_div, hq _ hc, mvT_M, turnN_mod]
    have h4 : x % 4 = 0 ∨ x % 4 = 1 ∨ x % 4 = 2 ∨ x % 4 = 3 := by omega
    rcases hd.2.2.2.2.1 _ hc with e | e <;> rw [e] <;> rcases h4 with e4 | e4 | e4 | e4 <;> rw [e4] <;> decide
  · rw [mvT_M, mvT_M, turnN_div, turnN_add, turnN_add, Nat.add_comm]
theorem moved_F (h : IsMv sg mt byF sgN q r) : Moved sg mt q r (mvT byF) := by
  have hq : ∀ c, c < sg.length → gi q c = -gi sg c := fun c hc => by rw [h.qe c hc]; unfold sgN; omega
  refine ⟨inj_F, fun a => mvT_div, h.ql, h.rl, h.re, fun c hc => ?_, .inl fun x hx => ?_, .inr fun x => ?_⟩
  · rw [h.ql] at hc
    rw [hq c hc]
    have := hd.2.2.2.2.1 c hc
    omega
  · have hc : x / 4 < sg.length := by have := hd.2.1; omega
    rw [outB_at, outB_at, mvT_div, hq _ hc, mvT_F, turnN_mod]
    have h4 : x % 4 = 0 ∨ x % 4 = 1 ∨ x % 4 = 2 ∨ x % 4 = 3 := by omega
    have h2 : x % 2 = x % 4 % 2 := by omega
    rcases hd.2.2.2.2.1 _ hc with e | e <;> rw [e] <;> rcases h4 with e4 | e4 | e4 | e4 <;> rw [h2, e4] <;> decide
  · rw [mvT_F, mvT_F]
    unfold turnN
    split <;> split <;> omega
theorem moved_R (h : IsMv sg mt byR sgP q r) : Moved sg mt q r (mvT byR) := by
  have hq : ∀ c, c < sg.length → gi q c = gi sg c := fun c hc => by rw [h.qe c hc]; unfold sgP; omega
  refine ⟨inj_R, fun a => mvT_div, h.ql, h.rl, h.re, fun c hc => ?_, .inr fun x hx => ?_, .inl fun x => ?_⟩
  · rw [h.ql] at hc
    rw [hq c hc]
    exact hd.2.2.2.2.1 c hc
  · have hc : x / 4 < sg.length := by have := hd.2.1; omega
    rw [outB_at, outB_at, mvT_div, hq _ hc, mvT_R, turnN_mod]
    have h4 : x % 4 = 0 ∨ x % 4 = 1 ∨ x % 4 = 2 ∨ x % 4 = 3 := by omega
    rcases hd.2.2.2.2.1 _ hc with e | e <;> rw [e] <;> rcases h4 with e4 | e4 | e4 | e4 <;> rw [e4] <;> decide
  · rw [mvT_R, mvT_R, turnN_add, turnN_add]
end
end Go.Proofs.Ytaghemilihaiaaa

