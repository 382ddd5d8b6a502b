/-
  Mirror images, reflections and reverses: as many Seifert circles, as many incoherent pairs. No program here.
-/
import Derived.Test.YtaghemilihaiaaaInc
import Derived.Test.YtaghemilihaiaaaImgM
namespace Go.Proofs.Ytaghemilihaiaaa

/-! ### pairs, counted by codes -/
theorem cnt_add (P : Nat → Bool) (a : Nat) : ∀ b, cnt P (a + b) = cnt P a + cnt (fun x => P (a + x)) b
  | 0 => rfl
  | b + 1 => by rw [← Nat.add_assoc, cnt_succ, cnt_add P a b, cnt_succ, Nat.add_assoc]
theorem incR_cnt (sg mt : List Int) (h : Nat) : ∀ k, (incR sg mt h k).length = cnt (fun x => decide (h < x) && incB sg mt h x) k
  | 0 => rfl
  | k + 1 => by
    unfold incR
    rw [List.length_append, incR_cnt sg mt h k, cnt_succ]
    congr 1
    by_cases e : h < k ∧ incB sg mt h k = true
    · rw [if_pos e, if_pos (by simp [e.1, e.2])]; rfl
    · rw [if_neg e, if_neg (by simpa using e)]; rfl
def pairB (sg mt : List Int) (z : Nat) : Bool := decide (z / mt.length < z % mt.length) && incB sg mt (z / mt.length) (z % mt.length)
theorem incL_cnt (sg mt : List Int) : ∀ h, h ≤ mt.length → (incL sg mt h).length = cnt (pairB sg mt) (mt.length * h)
  | 0, _ => rfl
  | h + 1, hh => by
    unfold incL
    rw [List.length_append, incL_cnt sg mt h (by omega), incR_cnt, Nat.mul_succ, cnt_add]
    congr 1
    refine cnt_congr fun x hx => ?_
    unfold pairB
    rw [Nat.mul_add_div (by omega), Nat.div_eq_of_lt hx, Nat.add_zero, Nat.mul_add_mod, Nat.mod_eq_of_lt hx]
theorem cnt_lt2 {P : Nat → Bool} {a m : Nat} (h : P a = true) (ha : a < m) : cnt P a < cnt P m := by
  induction m with
  | zero => omega
  | succ m ih =>
    rw [cnt_succ]
    rcases Nat.lt_or_ge a m with h1 | h1
    · have := ih h1; omega
    · obtain rfl : a = m := by omega
      rw [if_pos h]; omega
/-- the numbers of two circles are alike exactly if the circles are -/
theorem numN_iff {f : Nat → Nat} {N : Nat} {wt : Nat → Bool} (hP : PermB f N) (hw : ∀ h, h < N → wt (f h) = wt h) {x y : Nat} (hx : x < N) (hy : y < N) (wx : wt x = true) (wy : wt y = true) : numN f N wt x = numN f N wt y ↔ rc f N x y = true := by
  obtain ⟨a1, -⟩ := lstN_spec hP hx
  obtain ⟨b1, -⟩ := lstN_spec hP hy
  constructor
  · intro e
    have key : ∀ {x : Nat}, x < N → wt x = true → (wt (lstN f N x) && lstB f N (lstN f N x)) = true := by
      intro x hx wx
      rw [wt_cyc hP hw hx (lstN_spec hP hx).1, wx, lstN_lstB hP hx]; rfl
    have hE : lstN f N x = lstN f N y := by
      unfold numN ixB at e
      rcases Nat.lt_trichotomy (lstN f N x) (lstN f N y) with h | h | h
      · have := cnt_lt2 (P := fun x => wt x && lstB f N x) (key hx wx) h; omega
      · exact h
      · have := cnt_lt2 (P := fun x => wt x && lstB f N x) (key hy wy) h; omega
    exact decide_eq_true (mem_trans hP hx a1 (by rw [hE]; exact mem_symm hP hy b1))
  · intro h
    unfold numN
    rw [lstN_same hP hx (of_decide_eq_true h)]
theorem ceN_iff {sg mt : List Int} {L : Int} (hd : IsD sg mt L) {h k : Nat} (hh : h < mt.length) (hk : k < mt.length) : ceN sg mt h = ceN sg mt k ↔ rc (nxC sg mt) mt.length (outEnd sg mt h) (outEnd sg mt k) = true := by
  obtain ⟨a, b⟩ := outEnd_ok hd hh
  obtain ⟨c, d⟩ := outEnd_ok hd hk
  exact numN_iff (nxC_perm hd) (out_nxC hd) a c b d
/-- incoherent, said by relations -/
theorem incB_eq {sg mt : List Int} {L : Int} (hd : IsD sg mt L) {h k : Nat} (hh : h < mt.length) (hk : k < mt.length) : incB sg mt h k = (rc (nxF mt) mt.length h k && (outB sg h == outB sg k) && !rc (nxC sg mt) mt.length (outEnd sg mt h) (outEnd sg mt k)) := by
  unfold incB
  congr 1
  rw [Bool.eq_iff_iff, decide_eq_true_eq, Ne, ceN_iff hd hh hk]
  cases rc (nxC sg mt) mt.length (outEnd sg mt h) (outEnd sg mt k) <;> simp
theorem incB_symm {sg mt : List Int} {L : Int} (hd : IsD sg mt L) {h k : Nat} (hh : h < mt.length) (hk : k < mt.length) : incB sg mt h k = incB sg mt k h := by
  have hF := rc_eqv (nxF_perm hd.2.2.2.2.2.1 hd.2.1)
  have hC := rc_eqv (nxC_perm hd)
  obtain ⟨a, -⟩ := outEnd_ok hd hh
  obtain ⟨c, -⟩ := outEnd_ok hd hk
  have sym : ∀ {r : Nat → Nat → Bool} {N x y : Nat}, EqvB r N → x < N → y < N → r x y = r y x := by
    intro r N x y hE hx hy
    rw [Bool.eq_iff_iff]
    exact ⟨hE.sym _ _ hx hy, hE.sym _ _ hy hx⟩
  rw [incB_eq hd hh hk, incB_eq hd hk hh, sym hF hh hk, sym hC a c]
  congr 2
  cases outB sg h <;> cases outB sg k <;> rfl
theorem code_inj {N a b c d : Nat} (hb : b < N) (hd : d < N) (e : N * a + b = N * c + d) : a = c ∧ b = d := by
  have h1 : (N * a + b) / N = a := by rw [Nat.mul_add_div (by omega), Nat.div_eq_of_lt hb, Nat.add_zero]
  have h2 : (N * c + d) / N = c := by rw [Nat.mul_add_div (by omega), Nat.div_eq_of_lt hd, Nat.add_zero]
  have : a = c := by rw [← h1, e, h2]
  subst this
  exact ⟨rfl, by omega⟩
/-- as many pairs, through a bijection -/
theorem pairs_le {sg mt q r : List Int} {L : Int} (hd' : IsD q r L) (hl : r.length = mt.length) (p : Nat → Nat) (hp : PermB p mt.length) (h : ∀ x y, x < mt.length → y < mt.length → incB q r (p x) (p y) = incB sg mt x y) : (incL sg mt mt.length).length ≤ (incL q r r.length).length := by
  rw [incL_cnt sg mt _ (Nat.le_refl _), incL_cnt q r _ (Nat.le_refl _), hl]
  have hN : ∀ z, z < mt.length * mt.length → 0 < mt.length ∧ z / mt.length < mt.length ∧ z % mt.length < mt.length := fun z hz => by
    have h0 : 0 < mt.length := by
      rcases Nat.eq_zero_or_pos mt.length with e | e
      · rw [e] at hz; omega
      · exact e
    exact ⟨h0, Nat.div_lt_of_lt_mul hz, Nat.mod_lt _ h0⟩
  refine cnt_inj (fun z => mt.length * min (p (z / mt.length)) (p (z % mt.length)) + max (p (z / mt.length)) (p (z % mt.length))) (fun z hz hA => ?_) (fun z z' hz hz' hA hB e => ?_)
  · obtain ⟨h0, h1, h2⟩ := hN z hz
    unfold pairB at hA
    rw [Bool.and_eq_true, decide_eq_true_eq] at hA
    have a1 := hp.lt _ h1
    have a2 := hp.lt _ h2
    have hne : p (z / mt.length) ≠ p (z % mt.length) := fun e => by have := hp.inj _ _ h1 h2 e; omega
    have hmn : min (p (z / mt.length)) (p (z % mt.length)) < mt.length := by omega
    have hmx : max (p (z / mt.length)) (p (z % mt.length)) < mt.length := by omega
    refine ⟨?_, ?_⟩
    · have : mt.length * (min (p (z / mt.length)) (p (z % mt.length)) + 1) ≤ mt.length * mt.length := Nat.mul_le_mul_left _ hmn
      rw [Nat.mul_succ] at this
      omega
    · unfold pairB
      rw [hl, Nat.mul_add_div h0, Nat.div_eq_of_lt hmx, Nat.add_zero, Nat.mul_add_mod, Nat.mod_eq_of_lt hmx, Bool.and_eq_true, decide_eq_true_eq]
      refine ⟨by omega, ?_⟩
      rcases Nat.le_total (p (z / mt.length)) (p (z % mt.length)) with hle | hle
      · rw [Nat.min_eq_left hle, Nat.max_eq_right hle, h _ _ h1 h2]; exact hA.2
      · rw [Nat.min_eq_right hle, Nat.max_eq_left hle, incB_symm hd' (by rw [hl]; exact a2) (by rw [hl]; exact a1), h _ _ h1 h2]; exact hA.2
  · obtain ⟨h0, h1, h2⟩ := hN z hz
    obtain ⟨-, k1, k2⟩ := hN z' hz'
    unfold pairB at hA hB
    rw [Bool.and_eq_true, decide_eq_true_eq] at hA hB
    have a1 := hp.lt _ h1
    have a2 := hp.lt _ h2
    have b1 := hp.lt _ k1
    have b2 := hp.lt _ k2
    obtain ⟨ed, em⟩ := code_inj (N := mt.length) (show max (p (z / mt.length)) (p (z % mt.length)) < mt.length by omega) (show max (p (z' / mt.length)) (p (z' % mt.length)) < mt.length by omega) e
    have hcase : (p (z / mt.length) = p (z' / mt.length) ∧ p (z % mt.length) = p (z' % mt.length)) ∨ (p (z / mt.length) = p (z' % mt.length) ∧ p (z % mt.length) = p (z' / mt.length)) := by omega
    rcases hcase with ⟨e1, e2⟩ | ⟨e1, e2⟩
    · have f1 := hp.inj _ _ h1 k1 e1
      have f2 := hp.inj _ _ h2 k2 e2
      rw [← Nat.div_add_mod z mt.length, ← Nat.div_add_mod z' mt.length, f1, f2]
    · have f1 := hp.inj _ _ h1 k2 e1
      have f2 := hp.inj _ _ h2 k1 e2
      omega

/-! ### the images -/
section
variable {sg mt q r : List Int} {L : Int} {u : Nat → Nat} (hd : IsD sg mt L) (hM : Moved sg mt q r u)
include hd hM
/-- how the circles are carried over: by u itself, or backward -/
def CircOk (sg mt q r : List Int) (u : Nat → Nat) : Prop :=
  ((∀ h, h < mt.length → outB q (u h) = outB sg h) ∧ ∀ h, h < mt.length → nxC q r (u h) = u (nxC sg mt h)) ∨
  ((∀ h, h < mt.length → outB q (u h) = !outB sg h) ∧ ∀ h, h < mt.length → nxC q r (u (gn mt (nxC sg mt h))) = u (gn mt h))
theorem mv_circ (hC : CircOk sg mt q r u) : ∃ v : Nat → Nat, PermB v mt.length ∧ (∀ x, x < mt.length → outB q (v x) = outB sg x) ∧ (∀ x y, x < mt.length → y < mt.length → rc (nxC q r) mt.length (v x) (v y) = rc (nxC sg mt) mt.length x y) ∧
    (∀ x, x < mt.length → outEnd q r (u x) = v (outEnd sg mt x)) ∧ ∀ x, x < mt.length → outEnd q r (u (gn mt x)) = v (outEnd sg mt x) := by
  have hP := mv_perm hd hM
  have hd' := mv_isD hd hM
  have hI := hd.2.2.2.2.2.1
  have hF := nxC_perm hd
  have hF' := nxC_perm hd'
  rw [hM.rl] at hF'
  have hflip : ∀ x, x < mt.length → outB sg (gn mt x) = !outB sg x := fun x hx => by
    have := hd.2.2.2.2.2.2.1 x hx
    revert this
    cases outB sg x <;> cases outB sg (gn mt x) <;> simp
  have hsame : ∀ x, x < mt.length → outEnd sg mt (gn mt x) = outEnd sg mt x := fun x hx => by
    unfold outEnd
    rw [hflip x hx, (hI.gn hx).2.2.2]
    cases outB sg x <;> simp
  rcases hC with ⟨ho, hc⟩ | ⟨ho, hc⟩
  · have he : ∀ x, x < mt.length → outEnd q r (u x) = u (outEnd sg mt x) := fun x hx => by
      unfold outEnd
      rw [ho x hx, mv_gn hM hx]
      split <;> rfl
    refine ⟨u, hP, ho, fun x y hx hy => alike_rc ⟨fun x hx => hP.lt x hx, fun x hx => pinv_lt hP hx, fun x hx => f_pinv hP hx, fun x hx => pinv_f hP hx, fun x hx => (hc x hx).symm⟩ hF' hF hx hy, he, fun x hx => ?_⟩
    rw [he _ (hI.gn hx).2.1, hsame x hx]
  · have he : ∀ x, x < mt.length → outEnd q r (u x) = u (gn mt (outEnd sg mt x)) := fun x hx => by
      unfold outEnd
      rw [ho x hx, mv_gn hM hx]
      cases outB sg x
      · simp [(hI.gn hx).2.2.2]
      · simp
    refine ⟨fun x => u (gn mt x), mv_perm2 hd hM, fun x hx => ?_, fun x y hx hy => anti_rc hF' hF (mv_perm2 hd hM) hc hx hy, he, fun x hx => ?_⟩
    · rw [ho _ (hI.gn hx).2.1, hflip x hx]; simp
    · rw [he _ (hI.gn hx).2.1, hsame x hx]
theorem mv_circs (hC : CircOk sg mt q r u) : (circL q r).length = (circL sg mt).length := by
  obtain ⟨v, hv, ho, hr, -⟩ := mv_circ hd hM hC
  have hd' := mv_isD hd hM
  have hF := nxC_perm hd
  have hF' := nxC_perm hd'
  have ho' := out_nxC hd'
  rw [hM.rl] at hF' ho'
  have h := heads_eq (r := rc (nxC q r) mt.length) (r' := rc (nxC sg mt) mt.length) (rc_eqv hF') (rc_eqv hF) (P := outB q) (P' := outB sg) (fun x y hx _ h => (rc_const hF' ho' hx h).symm) v (pinv v mt.length) (fun x hx => hv.lt x hx) (fun x hx => pinv_lt hv hx) (fun x hx => f_pinv hv hx) hr ho
  have e : ∀ {sg mt : List Int} {N : Nat}, mt.length = N → PermB (nxC sg mt) N → (circL sg mt).length = cnt (fun x => headB (rc (nxC sg mt) N) x && outB sg x) N := by
    intro sg mt N hN hF
    subst hN
    unfold circL
    rw [cycsL_ix]
    unfold ixB
    exact cnt_congr fun x hx => by rw [headB_rc hF hx, Bool.and_comm]
  rw [e hM.rl hF', e rfl hF]
  exact h.symm
theorem mv_incs (hC : CircOk sg mt q r u) : ∃ p : Nat → Nat, PermB p mt.length ∧ ∀ x y, x < mt.length → y < mt.length → incB q r (p x) (p y) = incB sg mt x y := by
  obtain ⟨v, hv, ho, hr, he1, he2⟩ := mv_circ hd hM hC
  have hd' := mv_isD hd hM
  have hI := hd.2.2.2.2.2.1
  have hP := mv_perm hd hM
  have hflip : ∀ x, x < mt.length → outB sg (gn mt x) = !outB sg x := fun x hx => by
    have := hd.2.2.2.2.2.2.1 x hx
    revert this
    cases outB sg x <;> cases outB sg (gn mt x) <;> simp
  have hout : ∀ x y, x < mt.length → y < mt.length → (outB q (u x) == outB q (u y)) = (outB sg x == outB sg y) := fun x y hx hy => by
    rcases hM.qo with h | h <;> rw [h x hx, h y hy]
    cases outB sg x <;> cases outB sg y <;> rfl
  rcases hM.tu with ht | ht
  · refine ⟨u, hP, fun x y hx hy => ?_⟩
    have l1 := hP.lt x hx
    have l2 := hP.lt y hy
    rw [incB_eq hd' (by rw [hM.rl]; exact l1) (by rw [hM.rl]; exact l2), incB_eq hd hx hy, hM.rl, mv_faces_u hd hM ht hx hy, hout x y hx hy, he1 x hx, he1 y hy, hr _ _ (outEnd_ok hd hx).1 (outEnd_ok hd hy).1]
  · refine ⟨fun x => u (gn mt x), mv_perm2 hd hM, fun x y hx hy => ?_⟩
    have g1 := (hI.gn hx).2.1
    have g2 := (hI.gn hy).2.1
    have l1 := hP.lt _ g1
    have l2 := hP.lt _ g2
    rw [incB_eq hd' (by rw [hM.rl]; exact l1) (by rw [hM.rl]; exact l2), incB_eq hd hx hy, hM.rl, mv_faces_v hd hM ht hx hy, hout _ _ g1 g2, he2 x hx, he2 y hy, hr _ _ (outEnd_ok hd hx).1 (outEnd_ok hd hy).1, hflip x hx, hflip y hy]
    congr 2
    cases outB sg x <;> cases outB sg y <;> rfl
theorem mv_incl (hC : CircOk sg mt q r u) : (incL q r r.length).length = (incL sg mt mt.length).length := by
  obtain ⟨p, hp, h⟩ := mv_incs hd hM hC
  have hd' := mv_isD hd hM
  refine Nat.le_antisymm ?_ (pairs_le hd' hM.rl p hp h)
  refine pairs_le (sg := q) (mt := r) hd hM.rl.symm (pinv p mt.length) (by rw [hM.rl]; exact ⟨fun x hx => pinv_lt hp hx, fun a b ha hb e => by rw [← f_pinv hp ha, e, f_pinv hp hb]⟩) fun x y hx hy => ?_
  rw [hM.rl] at hx hy
  rw [← h _ _ (pinv_lt hp hx) (pinv_lt hp hy), f_pinv hp hx, f_pinv hp hy]
end

/-! ### the circles of the three kinds -/
section
variable {sg mt q r : List Int} {L : Int} (hd : IsD sg mt L)
include hd
theorem circ_fwd {u : Nat → Nat} (hM : Moved sg mt q r u) (ho : ∀ h, h < mt.length → outB q (u h) = outB sg h)
    (hk : ∀ c, c < sg.length → ∀ m, m / 4 = c → outB sg m = false → (if u m % 4 = 0 then overN q c else c * 4 + 2) = u (if m % 4 = 0 then overN sg c else c * 4 + 2)) : CircOk sg mt q r u := by
  refine .inl ⟨ho, fun h hh => ?_⟩
  unfold nxC
  rw [ho h hh]
  by_cases e : outB sg h = true
  · rw [if_pos e, if_pos e]
    have hg := (hd.2.2.2.2.2.1.gn hh).2.1
    unfold nxR
    rw [mv_gn hM hh, hM.ud]
    exact hk (gn mt h / 4) (by have := hd.2.1; omega) _ rfl (mate_in hd hh e)
  · rw [if_neg e, if_neg e]
theorem circ_M (h : IsMv sg mt (byM sg) sgN q r) : CircOk sg mt q r (mvT (byM sg)) := by
  have hM := moved_M hd h
  have hq : ∀ c, c < sg.length → gi q c = -gi sg c := fun c hc => by rw [h.qe c hc]; unfold sgN; omega
  have ho : ∀ h, h < mt.length → outB q (mvT (byM sg) h) = outB sg h := fun x hx => by
    have hc : x / 4 < sg.length := by have := hd.2.1; omega
    rw [outB_at, outB_at, mvT_div, hq _ hc, mvT_M, turnN_mod]
    have h4 : x % 4 = 0 ∨ x % 4 = 1 ∨ x % 4 = 2 ∨ x % 4 = 3 := by omega
    rcases hd.2.2.2.2.1 _ hc with e | e <;> rw [e] <;> rcases h4 with e4 | e4 | e4 | e4 <;> rw [e4] <;> decide
  refine circ_fwd hd hM ho fun c hc m hm hi => ?_
  have hn := hd.2.1
  have hov : ∀ {sg : List Int}, (gi sg c = 1 → overN sg c = 4 * c + 1) ∧ (gi sg c = -1 → overN sg c = 4 * c + 3) := fun {sg} => ⟨fun e => by unfold overN; rw [if_pos e], fun e => by unfold overN; rw [if_neg (by omega)]⟩
  have hu : ∀ x, x / 4 = c → (gi sg c = 1 → mvT (byM sg) x = turnN x 1) ∧ (gi sg c = -1 → mvT (byM sg) x = turnN x 3) := fun x hx => ⟨fun e => by rw [mvT_M, hx, if_pos e], fun e => by rw [mvT_M, hx, if_neg (by omega)]⟩
  rcases in_slot hd (m := m) (by omega) hi with e | ⟨e, e'⟩ | ⟨e, e'⟩
  · rcases hd.2.2.2.2.1 c hc with s | s
    · rw [(hu m hm).1 s, if_pos e, hov.1 s, (hu (4 * c + 1) (by omega)).1 s, turnN_mod, e, if_neg (by decide)]; unfold turnN; omega
    · rw [(hu m hm).2 s, if_pos e, hov.2 s, (hu (4 * c + 3) (by omega)).2 s, turnN_mod, e, if_neg (by decide)]; unfold turnN; omega
  · rw [hm] at e'
    have eq' : gi q c = -1 := by rw [hq c hc, e']
    rw [(hu m hm).1 e', turnN_mod, e, if_pos (by decide), hov.2 eq', if_neg (by decide), (hu (c * 4 + 2) (by omega)).1 e']; unfold turnN; omega
  · rw [hm] at e'
    have eq' : gi q c = 1 := by rw [hq c hc, e']; rfl
    rw [(hu m hm).2 e', turnN_mod, e, if_pos (by decide), hov.1 eq', if_neg (by decide), (hu (c * 4 + 2) (by omega)).2 e']; unfold turnN; omega
theorem circ_F (h : IsMv sg mt byF sgN q r) : CircOk sg mt q r (mvT byF) := by
  have hM := moved_F hd h
  have hq : ∀ c, c < sg.length → gi q c = -gi sg c := fun c hc => by rw [h.qe c hc]; unfold sgN; omega
  have ho : ∀ h, h < mt.length → outB q (mvT byF h) = outB sg h := fun x hx => by
    have hc : x / 4 < sg.length := by have := hd.2.1; omega
    rw [outB_at, outB_at, mvT_div, hq _ hc, mvT_F, turnN_mod]
    have h4 : x % 4 = 0 ∨ x % 4 = 1 ∨ x % 4 = 2 ∨ x % 4 = 3 := by omega
    have h2 : x % 2 = x % 4 % 2 := by omega
    rcases hd.2.2.2.2.1 _ hc with e | e <;> rw [e] <;> rcases h4 with e4 | e4 | e4 | e4 <;> rw [h2, e4] <;> decide
  refine circ_fwd hd hM ho fun c hc m hm hi => ?_
  have hn := hd.2.1
  have hov : ∀ {sg : List Int}, (gi sg c = 1 → overN sg c = 4 * c + 1) ∧ (gi sg c = -1 → overN sg c = 4 * c + 3) := fun {sg} => ⟨fun e => by unfold overN; rw [if_pos e], fun e => by unfold overN; rw [if_neg (by omega)]⟩
  have hu : ∀ x, (x % 2 = 1 → mvT byF x = turnN x 2) ∧ (x % 2 = 0 → mvT byF x = turnN x 0) := fun x => ⟨fun e => by rw [mvT_F, if_pos e], fun e => by rw [mvT_F, if_neg (by omega)]⟩
  rcases in_slot hd (m := m) (by omega) hi with e | ⟨e, e'⟩ | ⟨e, e'⟩
  · rcases hd.2.2.2.2.1 c hc with s | s
    · have eq' : gi q c = -1 := by rw [hq c hc, s]
      rw [(hu m).2 (by omega), if_pos e, hov.1 s, hov.2 eq', (hu (4 * c + 1)).1 (by omega), turnN_mod, e, if_pos (by decide)]; unfold turnN; omega
    · have eq' : gi q c = 1 := by rw [hq c hc, s]; rfl
      rw [(hu m).2 (by omega), if_pos e, hov.2 s, hov.1 eq', (hu (4 * c + 3)).1 (by omega), turnN_mod, e, if_pos (by decide)]; unfold turnN; omega
  · rw [(hu m).1 (by omega), turnN_mod, e, if_neg (by decide), if_neg (by decide), (hu (c * 4 + 2)).2 (by omega)]; unfold turnN; omega
  · rw [(hu m).1 (by omega), turnN_mod, e, if_neg (by decide), if_neg (by decide), (hu (c * 4 + 2)).2 (by omega)]; unfold turnN; omega
theorem circ_R (h : IsMv sg mt byR sgP q r) : CircOk sg mt q r (mvT byR) := by
  have hM := moved_R hd h
  have hd' := mv_isD hd hM
  have hI := hd.2.2.2.2.2.1
  have hn := hd.2.1
  have hq : ∀ c, c < sg.length → gi q c = gi sg c := fun c hc => by rw [h.qe c hc]; unfold sgP; omega
  have ho : ∀ h, h < mt.length → outB q (mvT byR h) = !outB sg h := fun x hx => by
    have hc : x / 4 < sg.length := by omega
    rw [outB_at, outB_at, mvT_div, hq _ hc, mvT_R, turnN_mod]
    have h4 : x % 4 = 0 ∨ x % 4 = 1 ∨ x % 4 = 2 ∨ x % 4 = 3 := by omega
    rcases hd.2.2.2.2.1 _ hc with e | e <;> rw [e] <;> rcases h4 with e4 | e4 | e4 | e4 <;> rw [e4] <;> decide
  refine .inr ⟨ho, fun y hy => ?_⟩
  have hgy := hI.gn hy
  by_cases e : outB sg y = true
  · -- the circle's next half-edge z, at the crossing of the mate
    have hin := mate_in hd hy e
    have hcy : gn mt y / 4 < sg.length := by omega
    have e1 : nxC sg mt y = nxR sg mt y := by unfold nxC; rw [if_pos e]
    obtain ⟨z1, z2, z3⟩ := nxR_lt hd hy
    rw [e1]
    have hz := hI.gn z1
    have hzi := mate_in hd z1 z2
    have hob : outB q (mvT byR (gn mt (nxR sg mt y))) = true := by rw [ho _ hz.2.1, hzi]; rfl
    unfold nxC
    rw [if_pos hob]
    have e2 : gn r (mvT byR (gn mt (nxR sg mt y))) = mvT byR (nxR sg mt y) := by rw [mv_gn hM hz.2.1, hz.2.2.2]
    unfold nxR at e2 ⊢
    rw [e2]
    generalize gn mt y = m at hin hcy hgy
    clear e2 hob hzi hz z1 z2 z3 e1
    have hs := hd.2.2.2.2.1 _ hcy
    have hov : ∀ {sg : List Int}, (gi sg (m / 4) = 1 → overN sg (m / 4) = 4 * (m / 4) + 1) ∧ (gi sg (m / 4) = -1 → overN sg (m / 4) = 4 * (m / 4) + 3) := fun {sg} => ⟨fun e => by unfold overN; rw [if_pos e], fun e => by unfold overN; rw [if_neg (by omega)]⟩
    have hqm := hq _ hcy
    rcases in_slot hd hgy.2.1 hin with e | ⟨e, e'⟩ | ⟨e, e'⟩
    · rcases hs with s | s
      · rw [if_pos e, hov.1 s, mvT_R, mvT_R]
        have h1 : turnN (4 * (m / 4) + 1) 2 % 4 = 3 := by rw [turnN_mod]; omega
        rw [if_neg (by omega), turnN_div]; unfold turnN; omega
      · rw [if_pos e, hov.2 s, mvT_R, mvT_R]
        have h1 : turnN (4 * (m / 4) + 3) 2 % 4 = 1 := by rw [turnN_mod]; omega
        rw [if_neg (by omega), turnN_div]; unfold turnN; omega
    · rw [if_neg (show ¬ m % 4 = 0 by omega), mvT_R, mvT_R]
      have h1 : turnN (m / 4 * 4 + 2) 2 % 4 = 0 := by rw [turnN_mod]; omega
      rw [if_pos h1, turnN_div, show (m / 4 * 4 + 2) / 4 = m / 4 by omega, hov.1 (by rw [hqm]; exact e')]; unfold turnN; omega
    · rw [if_neg (show ¬ m % 4 = 0 by omega), mvT_R, mvT_R]
      have h1 : turnN (m / 4 * 4 + 2) 2 % 4 = 0 := by rw [turnN_mod]; omega
      rw [if_pos h1, turnN_div, show (m / 4 * 4 + 2) / 4 = m / 4 by omega, hov.2 (by rw [hqm]; exact e')]; unfold turnN; omega
  · have e1 : nxC sg mt y = y := by unfold nxC; rw [if_neg e]
    rw [e1]
    unfold nxC
    have hflip : outB sg (gn mt y) = true := by
      have := hd.2.2.2.2.2.2.1 y hy
      revert this e
      cases outB sg y <;> cases outB sg (gn mt y) <;> simp
    rw [if_neg (by rw [ho _ hgy.2.1, hflip]; simp)]
end
end Go.Proofs.Ytaghemilihaiaaa

