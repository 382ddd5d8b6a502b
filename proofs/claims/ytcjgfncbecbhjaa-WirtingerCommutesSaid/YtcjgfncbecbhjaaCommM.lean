/-
  A longitude commutes with the meridian at which it begins. No program here.
-/
import Derived.Test.YtcjgfncbecbhjaaPerm
namespace Go.Proofs.Ytcjgfncbecbhjaa

theorem LV_WL {n : Nat} {w : List Int} (h : WV (n : Int) w) : WL n w := fun x hx => by
  obtain ⟨k, hk, rfl⟩ := List.mem_iff_getElem.1 hx
  have := h k hk
  rw [gi_lt hk] at this
  exact ⟨this.2.1, wv_ga h _ hx⟩
theorem rel_pos : ∀ a, a < 6 → ∀ b, b < 6 → ∀ o, o < 6 → mulD (mulD (mulD (invD b) (invD o)) a) o = 0 → b = mulD (mulD (invD o) a) o := by decide +kernel
theorem rel_neg : ∀ a, a < 6 → ∀ b, b < 6 → ∀ o, o < 6 → mulD (mulD (mulD (invD b) o) a) (invD o) = 0 → b = mulD (mulD (invD (invD o)) a) (invD o) := by decide +kernel
theorem along_step : ∀ x, x < 6 → ∀ w, w < 6 → ∀ X, X < 6 → ∀ y, y < 6 → mulD x w = mulD w X → mulD x (mulD w y) = mulD (mulD w y) (mulD (mulD (invD y) X) y) := by decide +kernel
theorem comm_step : ∀ x, x < 6 → ∀ w, w < 6 → mulD x w = mulD w x → mulD x (mulD w x) = mulD (mulD w x) x ∧ mulD x (mulD w (invD x)) = mulD (mulD w (invD x)) x := by decide +kernel
theorem const_rel : ∀ c, c < 6 → mulD (mulD (mulD (invD c) (invD c)) c) c = 0 ∧ mulD (mulD (mulD (invD c) c) c) (invD c) = 0 := by decide +kernel
theorem letter_lt {l : List Nat} {a : Nat} : ltD l ((a : Int) + 1) = gN l a ∧ ltD l (-((a : Int) + 1)) = invD (gN l a) := by
  unfold ltD
  rw [if_neg (by omega), if_pos (by omega), ga_neg]
  have : ga ((a : Int) + 1) = a := by unfold ga; omega
  rw [this]
  exact ⟨rfl, rfl⟩
theorem imgD_four {l : List Nat} (hl : DgL l) {p q r s : Int} (hp : ga p < l.length) : imgD l [p, q, r, s] = mulD (mulD (mulD (ltD l p) (ltD l q)) (ltD l r)) (ltD l s) := by
  unfold imgD imgF
  simp only [List.foldl_cons, List.foldl_nil, one_mul' _ (lt_lt hl hp)]
section
variable {sg mt : List Int} {L : Int} (hd : IsD sg mt L) {l : List Nat} {lp : Nat} (hl : DgL l) (hll : l.length = arC sg mt + lp)
include hd hl hll
omit hl in
theorem rel_wl {c : Nat} (hc : c < sg.length) : WL l.length (relL sg mt c) := by
  rw [hll]
  have h := rel_lv hd (l := lp) hc
  refine LV_WL (wv_of fun x hx => ?_)
  rw [Int.natCast_add]
  exact h x hx
omit hl in
theorem ga_arc {x : Nat} (hx : x < mt.length) : ga ((arN sg mt x : Int) + 1) < l.length ∧ ga (-((arN sg mt x : Int) + 1)) < l.length ∧ arN sg mt x < l.length := by
  have := arN_lt (sg := sg) hd.2.2.2.2.2.1 hd.2.1 hx
  rw [ga_neg]
  unfold ga
  omega
theorem arc_dg {x : Nat} (hx : x < mt.length) : gN l (arN sg mt x) < 6 := hl _ (ga_arc hd hll hx).2.2
theorem rel_hom {c : Nat} (hc : c < sg.length) (h : imgD l (redL (relL sg mt c)) = 0) :
    gN l (arN sg mt (4 * c + 2)) = mulD (mulD (invD (ltD l (gi sg c * ((arN sg mt (4 * c + 1) : Int) + 1)))) (gN l (arN sg mt (4 * c)))) (ltD l (gi sg c * ((arN sg mt (4 * c + 1) : Int) + 1))) := by
  have hN := hd.2.1
  rw [(red_img hl (rel_wl hd hll hc)).1] at h
  have h0 := arc_dg hd hl hll (show 4 * c < mt.length by omega)
  have h1 := arc_dg hd hl hll (show 4 * c + 1 < mt.length by omega)
  have h2 := arc_dg hd hl hll (show 4 * c + 2 < mt.length by omega)
  have hg := (ga_arc hd hll (show 4 * c + 2 < mt.length by omega)).2.1
  unfold relL at h
  dsimp only at h
  rcases hd.2.2.2.2.1 c hc with e | e
  · rw [e, if_pos (by decide), imgD_four hl hg, letter_lt.1, letter_lt.1, letter_lt.2, letter_lt.2] at h
    rw [e, Int.one_mul, letter_lt.1]
    exact rel_pos _ h0 _ h2 _ h1 h
  · rw [e, if_neg (by decide), imgD_four hl hg, letter_lt.1, letter_lt.1, letter_lt.2, letter_lt.2] at h
    rw [e, show (-1 : Int) * ((arN sg mt (4 * c + 1) : Int) + 1) = -((arN sg mt (4 * c + 1) : Int) + 1) by omega, letter_lt.2]
    exact rel_neg _ h0 _ h2 _ h1 h
variable (hom : ∀ c, c < sg.length → imgD l (redL (relL sg mt c)) = 0) {i : Nat} (hi : i < (strandsL sg mt).length)
include hom hi
omit hl hom in
theorem lnL_wl : ∀ k, k ≤ (stN sg mt i).length → WL l.length (lnL sg mt i k) := fun k hk x hx => by
  obtain ⟨a, ha, h⟩ := ln_mem hd hi k hk x hx
  unfold ga
  omega
theorem along_comm : ∀ k, k ≤ (stN sg mt i).length → mulD (gN l (arN sg mt (gN (stN sg mt i) 0))) (imgD l (lnL sg mt i k)) = mulD (imgD l (lnL sg mt i k)) (gN l (arN sg mt (gN (stN sg mt i) (k % (stN sg mt i).length)))) := by
  have hN := hd.2.1
  have hI := hd.2.2.2.2.2.1
  have hp := st_pos hd hi
  have hx0 := arc_dg hd hl hll (st_lt hd hi hp).1
  intro k
  induction k with
  | zero =>
    intro _
    rw [Nat.zero_mod]
    show mulD _ 0 = mulD 0 _
    rw [mul_one' _ hx0, one_mul' _ hx0]
  | succ k ih =>
    intro hk
    have hk' : k < (stN sg mt i).length := by omega
    have IH := ih (by omega)
    rw [Nat.mod_eq_of_lt hk'] at IH
    have hst := st_lt hd hi hk'
    have hm := m_lt hd hi hk'
    have hX := arc_dg hd hl hll hst.1
    have hW := imgD_lt hl (lnL_wl hd hll hi k (by omega))
    have hnx := st_next hd hi hk'
    have hmate : arN sg mt (gN (stN sg mt i) k) = arN sg mt (mN sg mt i k) := (arN_iff hd hst.1 hm).2 (arc_mate hd hst.1)
    rw [hnx, lnL_succ]
    have hnt : nxS mt (gN (stN sg mt i) k) = turnN (mN sg mt i k) 2 := rfl
    have hin : outB sg (mN sg mt i k) = false := by
      have := hd.2.2.2.2.2.2.1 _ hst.1
      rw [hst.2] at this
      cases e : outB sg (gn mt (gN (stN sg mt i) k))
      · exact e
      · rw [e] at this; exact absurd rfl this
    by_cases e : mN sg mt i k % 4 = 0
    · have hc : mN sg mt i k / 4 < sg.length := by omega
      have e4 : mN sg mt i k = 4 * (mN sg mt i k / 4) := by omega
      have h2 : turnN (mN sg mt i k) 2 = 4 * (mN sg mt i k / 4) + 2 := by unfold turnN; omega
      have e5 : mN sg mt i k + 1 = 4 * (mN sg mt i k / 4) + 1 := by omega
      rw [if_pos e, hnt, h2, e5]
      have hrel := rel_hom hd hl hll hc (hom _ hc)
      have ha4 : arN sg mt (4 * (mN sg mt i k / 4)) = arN sg mt (gN (stN sg mt i) k) := by rw [hmate]; congr 1; omega
      rw [ha4] at hrel
      have hgl : WL l.length [gi sg (mN sg mt i k / 4) * ((arN sg mt (4 * (mN sg mt i k / 4) + 1) : Int) + 1)] := fun x hx => by
        rw [List.mem_singleton.1 hx]
        have hg := ga_arc hd hll (show 4 * (mN sg mt i k / 4) + 1 < mt.length by omega)
        rcases hd.2.2.2.2.1 _ hc with e | e
        · rw [e, Int.one_mul]; exact ⟨by omega, hg.1⟩
        · rw [e, show (-1 : Int) * ((arN sg mt (4 * (mN sg mt i k / 4) + 1) : Int) + 1) = -((arN sg mt (4 * (mN sg mt i k / 4) + 1) : Int) + 1) by omega]; exact ⟨by omega, hg.2.1⟩
      have hy := hgl _ (List.mem_singleton.2 rfl)
      rw [hrel, imgD_app hl (lnL_wl hd hll hi k (by omega)) hgl, imgD_one hl hy.2]
      exact along_step _ hx0 _ hW _ hX _ (lt_lt hl hy.2) IH
    · rw [if_neg e, hnt]
      have hodd : turnN (mN sg mt i k) 2 % 2 = 1 := by
        have : mN sg mt i k % 4 ≠ 2 := fun h2 => by
          have : outB sg (mN sg mt i k) = true := by unfold outB; rw [if_neg (by omega), if_pos h2]
          rw [hin] at this; cases this
        unfold turnN; omega
      have han := arc_next hd hst.1 (by rw [hnt]; exact hodd)
      have hl2 : nxS mt (gN (stN sg mt i) k) < mt.length := (nxS_perm hI hN).lt _ hst.1
      have := (arN_iff hd hst.1 hl2).2 han
      rw [hnt] at this
      rw [← this]; exact IH
theorem lonW_comm : ∀ k, mulD (gN l (arN sg mt (gN (stN sg mt i) 0))) (imgD l (lonW sg mt i k)) = mulD (imgD l (lonW sg mt i k)) (gN l (arN sg mt (gN (stN sg mt i) 0))) ∧ WL l.length (lonW sg mt i k) := by
  have hp := st_pos hd hi
  have h0 := (st_lt hd hi hp).1
  have hx0 := arc_dg hd hl hll h0
  have hg := ga_arc hd hll h0
  intro k
  induction k with
  | zero =>
    rw [lonW_zero]
    have := along_comm hd hl hll hom hi _ (Nat.le_refl _)
    rw [Nat.mod_self] at this
    exact ⟨this, lnL_wl hd hll hi _ (Nat.le_refl _)⟩
  | succ k ih =>
    obtain ⟨IH, hw⟩ := ih
    have hT : WL l.length [lnT sg mt i] ∧ (ltD l (lnT sg mt i) = gN l (arN sg mt (gN (stN sg mt i) 0)) ∨ ltD l (lnT sg mt i) = invD (gN l (arN sg mt (gN (stN sg mt i) 0)))) := by
      unfold lnT lnF
      split
      · exact ⟨fun x hx => by rw [List.mem_singleton.1 hx]; exact ⟨by omega, hg.2.1⟩, .inr letter_lt.2⟩
      · exact ⟨fun x hx => by rw [List.mem_singleton.1 hx]; exact ⟨by omega, hg.1⟩, .inl letter_lt.1⟩
    obtain ⟨h1, h2⟩ := hT
    have hW := imgD_lt hl hw
    rw [lonW_succ, imgD_app hl hw h1, imgD_one hl (h1 _ (List.mem_singleton.2 rfl)).2]
    refine ⟨?_, hw.app h1⟩
    rcases h2 with h2 | h2 <;> rw [h2]
    · exact (comm_step _ hx0 _ hW IH).1
    · exact (comm_step _ hx0 _ hW IH).2
/-- THE LONGITUDE COMMUTES WITH ITS MERIDIAN, in the words that the law makes -/
theorem words_comm : imgD l (redF (redF [] [lnF sg mt i]) (lonL sg mt i)) = imgD l (redF (redF [] (lonL sg mt i)) [lnF sg mt i]) ∧ WL l.length (redF (redF [] [lnF sg mt i]) (lonL sg mt i)) ∧ WL l.length (redF (redF [] (lonL sg mt i)) [lnF sg mt i]) := by
  have hp := st_pos hd hi
  have h0 := (st_lt hd hi hp).1
  have hg := ga_arc hd hll h0
  have hx0 := arc_dg hd hl hll h0
  obtain ⟨hc, hw⟩ := lonW_comm hd hl hll hom hi (lnS sg mt i (stN sg mt i).length).natAbs
  have hf : WL l.length [lnF sg mt i] := fun x hx => by rw [List.mem_singleton.1 hx]; exact ⟨by unfold lnF; omega, hg.1⟩
  have hnil : WL l.length [] := fun _ h => by cases h
  obtain ⟨e1, w1⟩ := red_img hl hw
  obtain ⟨a1, a2⟩ := redF_img hl [lnF sg mt i] [] hnil hf
  obtain ⟨b1, b2⟩ := redF_img hl (lonL sg mt i) _ a2 w1
  obtain ⟨c1, c2⟩ := redF_img hl (lonL sg mt i) [] hnil w1
  obtain ⟨d1, d2⟩ := redF_img hl [lnF sg mt i] _ c2 hf
  refine ⟨?_, b2, d2⟩
  have hf1 : imgD l [lnF sg mt i] = gN l (arN sg mt (gN (stN sg mt i) 0)) := by
    rw [imgD_one hl (hf _ (List.mem_singleton.2 rfl)).2]; exact letter_lt.1
  have hl6 : imgD l (lonL sg mt i) < 6 := imgD_lt hl w1
  have e0 : imgD l [] = 0 := rfl
  rw [b1, d1, a1, c1, e0, hf1, one_mul' _ hx0, one_mul' _ hl6]
  have : imgD l (lonL sg mt i) = imgD l (lonW sg mt i (lnS sg mt i (stN sg mt i).length).natAbs) := e1
  rw [this]; exact hc
end
/-- constant maps are homomorphisms -/
theorem const_hom {sg mt : List Int} {L : Int} (hd : IsD sg mt L) {c lp : Nat} (hc : c < 6) : homB (wrdL sg mt sg.length) (List.replicate (arC sg mt + lp) c) = true := by
  have hl : DgL (List.replicate (arC sg mt + lp) c) := fun k hk => by
    rw [List.length_replicate] at hk
    rw [show gN (List.replicate (arC sg mt + lp) c) k = c by simp [gN, hk]]; exact hc
  have hll : (List.replicate (arC sg mt + lp) c).length = arC sg mt + lp := by simp
  unfold homB
  rw [List.all_eq_true]
  intro w hw
  obtain ⟨k, hk, rfl⟩ := List.mem_map.1 hw
  have hk := List.mem_range.1 hk
  have hN := hd.2.1
  rw [decide_eq_true_eq, (red_img hl (rel_wl hd hll hk)).1]
  have hv : ∀ x, x < mt.length → gN (List.replicate (arC sg mt + lp) c) (arN sg mt x) = c := fun x hx => by
    have := (ga_arc hd hll hx).2.2
    rw [hll] at this
    simp [gN, this]
  have hg := (ga_arc hd hll (show 4 * k + 2 < mt.length by omega)).2.1
  unfold relL
  dsimp only
  split
  · rw [imgD_four hl hg, letter_lt.1, letter_lt.1, letter_lt.2, letter_lt.2, hv _ (by omega), hv _ (by omega), hv _ (by omega)]
    exact (const_rel c hc).1
  · rw [imgD_four hl hg, letter_lt.1, letter_lt.1, letter_lt.2, letter_lt.2, hv _ (by omega), hv _ (by omega), hv _ (by omega)]
    exact (const_rel c hc).2
theorem six_homs {sg mt : List Int} {L : Int} (hd : IsD sg mt L) {lp : Nat} (hg : 0 < arC sg mt + lp) : 6 ≤ homN (wrdL sg mt sg.length) (arC sg mt + lp) (6 ^ (arC sg mt + lp)) := by
  have h6 : cnt (fun _ => true) 6 = 6 := by decide
  rw [← h6]
  unfold homN
  refine cnt_inj (fun c => rep c (arC sg mt + lp)) (fun c hc _ => ?_) (fun c d hc hd' _ _ e => ?_)
  · obtain ⟨h1, h2⟩ := dg_rep hc (arC sg mt + lp)
    refine ⟨h2, ?_⟩
    rw [h1]
    exact const_hom hd hc
  · obtain ⟨g, hg'⟩ : ∃ g, arC sg mt + lp = g + 1 := ⟨arC sg mt + lp - 1, by omega⟩
    have e : rep c (arC sg mt + lp) = rep d (arC sg mt + lp) := e
    rw [hg'] at e
    have e : c + 6 * rep c g = d + 6 * rep d g := e
    omega
end Go.Proofs.Ytcjgfncbecbhjaa

