/-
  The exponents in a longitude add up to the linking numbers. No program here.
-/
import Derived.Test.YtcjgfncbecbhjaaLongM
import Derived.Test.YtcjgfncbecbhjaaPlane
namespace Go.Proofs.Ytcjgfncbecbhjaa

theorem sumN_add (f g : Nat → Int) : ∀ n, sumN (fun k => f k + g k) n = sumN f n + sumN g n
  | 0 => rfl
  | n + 1 => by show sumN _ n + (f n + g n) = (sumN f n + f n) + (sumN g n + g n); rw [sumN_add f g n]; omega
theorem sumN_sub (f g : Nat → Int) : ∀ n, sumN (fun k => f k - g k) n = sumN f n - sumN g n
  | 0 => rfl
  | n + 1 => by show sumN _ n + (f n - g n) = (sumN f n + f n) - (sumN g n + g n); rw [sumN_sub f g n]; omega
theorem sum4 (f : Nat → Int) : ∀ n, sumN f (4 * n) = sumN (fun c => f (4 * c) + f (4 * c + 1) + f (4 * c + 2) + f (4 * c + 3)) n
  | 0 => rfl
  | n + 1 => by
    rw [show 4 * (n + 1) = 4 * n + 1 + 1 + 1 + 1 by omega]
    show sumN f (4 * n) + f (4 * n) + f (4 * n + 1) + f (4 * n + 1 + 1) + f (4 * n + 1 + 1 + 1) = sumN _ n + (f (4 * n) + f (4 * n + 1) + f (4 * n + 2) + f (4 * n + 3))
    rw [sum4 f n]
    show _ + f (4 * n) + f (4 * n + 1) + f (4 * n + 2) + f (4 * n + 3) = _
    omega
theorem sumN_one {a : Nat} {y : Int} : ∀ n, sumN (fun x => if x = a then y else 0) n = if a < n then y else 0
  | 0 => by simp [sumN]
  | n + 1 => by
    show sumN _ n + (if n = a then y else 0) = _
    rw [sumN_one n]
    rcases Nat.lt_trichotomy a n with h | h | h
    · rw [if_pos h, if_neg (by omega), if_pos (by omega)]; omega
    · subst h; rw [if_neg (by omega), if_pos rfl, if_pos (by omega)]; omega
    · rw [if_neg (by omega), if_neg (by omega), if_neg (by omega)]; rfl
/-- a sum over a list of different numbers -/
theorem sum_mem {G : Nat → Int} {N : Nat} : ∀ {l : List Nat}, l.Nodup → (∀ x ∈ l, x < N) → (l.map G).sum = sumN (fun x => if x ∈ l then G x else 0) N
  | [], _, _ => by rw [sumN_zero _ (fun k _ => by simp)]; rfl
  | a :: l, hd, hl => by
    rw [List.nodup_cons] at hd
    rw [List.map_cons, List.sum_cons, sum_mem hd.2 (fun x hx => hl x (List.mem_cons_of_mem _ hx))]
    have h1 := sumN_one (a := a) (y := G a) N
    rw [if_pos (hl a List.mem_cons_self)] at h1
    rw [← h1, ← sumN_add]
    refine sumN_congr _ fun x _ => ?_
    by_cases e : x = a
    · subst e; simp [hd.1]
    · simp [e]
theorem sum_idx {G : Nat → Int} (l : List Nat) : ∀ k, k ≤ l.length → sumN (fun j => G (gN l j)) k = ((l.take k).map G).sum := by
  intro k
  induction k with
  | zero => intro _; rfl
  | succ k ih =>
    intro hk
    rw [List.take_succ_eq_append_getElem (by omega), List.map_append, List.sum_append, ← ih (by omega)]
    show _ + G (gN l k) = _
    rw [gN_lt (by omega)]; simp
theorem sum_perm {f : Nat → Nat} {N : Nat} (hP : PermB f N) (A : Nat → Int) : sumN (fun x => A (f x)) N = sumN A N := by
  have h1 : sumN (fun x => A (f x)) N = (((List.range N).map f).map A).sum := by
    rw [List.map_map]
    have := sum_idx (G := fun x => A (f x)) (List.range N) N (by simp)
    rw [List.take_of_length_le (by simp)] at this
    rw [show (A ∘ f) = fun x => A (f x) from rfl, ← this]
    exact sumN_congr _ fun k hk => by rw [gN_range hk]
  have hnd : ((List.range N).map f).Nodup := by
    rw [List.Nodup, List.pairwise_map]
    refine (List.pairwise_lt_range (n := N)).imp_of_mem ?_
    intro a b ha hb hab e
    have := hP.inj a b (List.mem_range.1 ha) (List.mem_range.1 hb) e
    omega
  rw [h1, sum_mem hnd (N := N) (fun x hx => by obtain ⟨a, ha, rfl⟩ := List.mem_map.1 hx; exact hP.lt a (List.mem_range.1 ha))]
  refine sumN_congr _ fun x hx => ?_
  have hsub : ∀ y, y < N → y ∈ (List.range N).map f := by
    intro y hy
    obtain ⟨p, p1, -, p3⟩ := hP.returns hy
    refine List.mem_map.2 ⟨it f (p - 1) y, List.mem_range.2 (hP.it_lt _ hy), ?_⟩
    have : it f (p - 1 + 1) y = f (it f (p - 1) y) := rfl
    rw [← this, show p - 1 + 1 = p by omega, p3]
  rw [if_pos (hsub x hx)]

/-- the strand of x's edge -/
def sI (sg mt : List Int) (x : Nat) : Nat := ((List.range (strandsL sg mt).length).find? fun i => decide (oh sg mt x ∈ stN sg mt i)).getD 0
section
variable {sg mt : List Int} {L : Int} (hd : IsD sg mt L)
include hd
theorem sI_eq {x i : Nat} (hi : i < (strandsL sg mt).length) (hxi : oh sg mt x ∈ stN sg mt i) : sI sg mt x = i := by
  unfold sI
  have : (List.range (strandsL sg mt).length).find? (fun i => decide (oh sg mt x ∈ stN sg mt i)) = some i := by
    rw [List.find?_range_eq_some]
    refine ⟨decide_eq_true hxi, List.mem_range.2 hi, fun j hj => ?_⟩
    rw [Bool.not_eq_true', decide_eq_false_iff_not]
    intro h
    have := strand_uniq hd (by omega) hi h hxi
    omega
  rw [this]; rfl
theorem sI_spec {x : Nat} (hx : x < mt.length) : sI sg mt x < (strandsL sg mt).length ∧ oh sg mt x ∈ stN sg mt (sI sg mt x) := by
  obtain ⟨i, h1, h2⟩ := on_strand hd hx
  rw [sI_eq hd h1 h2]; exact ⟨h1, h2⟩
theorem sI_iff {x i : Nat} (hx : x < mt.length) (hi : i < (strandsL sg mt).length) : sI sg mt x = i ↔ oh sg mt x ∈ stN sg mt i :=
  ⟨fun e => by rw [← e]; exact (sI_spec hd hx).2, fun h => sI_eq hd hi h⟩
theorem mem_st {x i : Nat} (hi : i < (strandsL sg mt).length) : x ∈ stN sg mt i ↔ x < mt.length ∧ outB sg x = true ∧ sI sg mt x = i := by
  constructor
  · intro h
    obtain ⟨h1, h2⟩ := stN_out hd hi h
    exact ⟨h1, h2, sI_eq hd hi (by rw [oh_of_out h2]; exact h)⟩
  · rintro ⟨h1, h2, h3⟩
    have := (sI_iff hd h1 hi).1 h3
    rwa [oh_of_out h2] at this
theorem sI_gn {x : Nat} (hx : x < mt.length) : sI sg mt (gn mt x) = sI sg mt x := by unfold sI; rw [oh_gn hd hx]
theorem sI_nxS {x : Nat} (hx : x < mt.length) (ho : outB sg x = true) : sI sg mt (nxS mt x) = sI sg mt x := by
  have hP := nxS_perm hd.2.2.2.2.2.1 hd.2.1
  obtain ⟨h1, h2⟩ := sI_spec hd hx
  refine sI_eq hd h1 ?_
  rw [oh_of_out ho] at h2
  rw [oh_of_out (by rw [out_nxS hd x hx]; exact ho)]
  exact stN_rc hd h1 h2 (rc_next hP hx)
theorem sI_under {c : Nat} (hc : c < sg.length) : sI sg mt (4 * c + 2) = sI sg mt (4 * c) := by
  have hN := hd.2.1
  obtain ⟨e0, e2, e3⟩ := under_rc hd hc
  have h0 : 4 * c < mt.length := by omega
  obtain ⟨h1, h2⟩ := sI_spec hd h0
  refine sI_eq hd h1 ?_
  rw [e0] at h2
  rw [e2, ← e3]
  exact stN_rc hd h1 h2 (rc_next (nxS_perm hd.2.2.2.2.2.1 hN) (hd.2.2.2.2.2.1.gn h0).2.1)
theorem sI_over {c : Nat} (hc : c < sg.length) : sI sg mt (4 * c + 3) = sI sg mt (4 * c + 1) := by
  have hN := hd.2.1
  have h1 : 4 * c + 1 < mt.length := by omega
  have h3 : 4 * c + 3 < mt.length := by omega
  obtain ⟨a1, a2⟩ := sI_spec hd h1
  exact sI_eq hd a1 (stN_rc hd a1 a2 (arc_strand hd h1 h3 (arc_cross hd hc)))
theorem cmp_sI {x : Nat} (l : Nat) (hx : x < mt.length) : gi (cmpL sg mt l) (arN sg mt x) = (sI sg mt x : Int) := by
  obtain ⟨h1, h2⟩ := sI_spec hd hx
  exact cmp_at hd l hx h1 h2
theorem outs {c : Nat} (hc : c < sg.length) : outB sg (4 * c) = false ∧ outB sg (4 * c + 2) = true ∧ ((gi sg c = 1 ∧ outB sg (4 * c + 1) = true ∧ outB sg (4 * c + 3) = false) ∨ (gi sg c = -1 ∧ outB sg (4 * c + 1) = false ∧ outB sg (4 * c + 3) = true)) := by
  have h0 : outB sg (4 * c) = false := by unfold outB; rw [if_neg (by omega), if_neg (by omega), if_neg (by omega)]
  have h1 : outB sg (4 * c + 1) = (gi sg c == 1) := by unfold outB; rw [if_pos (by omega), show (4 * c + 1) / 4 = c by omega]
  have h2 : outB sg (4 * c + 2) = true := by unfold outB; rw [if_neg (by omega), if_pos (by omega)]
  have h3 : outB sg (4 * c + 3) = (gi sg c == -1) := by unfold outB; rw [if_neg (by omega), if_neg (by omega), if_pos (by omega), show (4 * c + 3) / 4 = c by omega]
  refine ⟨h0, h2, ?_⟩
  rcases hd.2.2.2.2.1 c hc with e | e
  · rw [e] at h1 h3; exact .inl ⟨e, h1, h3⟩
  · rw [e] at h1 h3; exact .inr ⟨e, h1, h3⟩
/-- what arrives on strand i, by crossings -/
theorem sum_in (i : Nat) (F : Nat → Int) : sumN (fun x => if outB sg x = true ∧ sI sg mt x = i then F (gn mt x) else 0) mt.length =
    sumN (fun c => (if sI sg mt (4 * c) = i then F (4 * c) else 0) + (if sI sg mt (4 * c + 1) = i then (if gi sg c = 1 then F (4 * c + 3) else F (4 * c + 1)) else 0)) sg.length := by
  have hN := hd.2.1
  have hI := hd.2.2.2.2.2.1
  have hg : PermB (gn mt) mt.length := ⟨fun h hh => (hI.gn hh).2.1, fun a b ha hb e => gn_inj hI ha hb e⟩
  have h1 : sumN (fun x => if outB sg x = true ∧ sI sg mt x = i then F (gn mt x) else 0) mt.length = sumN (fun x => (fun m => if outB sg m = false ∧ sI sg mt m = i then F m else 0) (gn mt x)) mt.length := by
    refine sumN_congr _ fun x hx => ?_
    have h2 := hd.2.2.2.2.2.2.1 x hx
    have h3 : outB sg x = true ↔ outB sg (gn mt x) = false := by revert h2; cases outB sg x <;> cases outB sg (gn mt x) <;> simp
    simp only [h3, sI_gn hd hx]
  rw [h1, sum_perm hg (fun m => if outB sg m = false ∧ sI sg mt m = i then F m else 0), hN, sum4]
  refine sumN_congr _ fun c hc => ?_
  obtain ⟨o0, o2, h⟩ := outs hd hc
  rw [o0, o2, sI_over hd hc]
  rcases h with ⟨e, o1, o3⟩ | ⟨e, o1, o3⟩ <;> rw [o1, o3, e] <;> simp
/-- the linking number of i under j is that of j under i -/
theorem link_sym {i j : Nat} :
    sumN (fun c => if sI sg mt (4 * c) = i ∧ sI sg mt (4 * c + 1) = j then gi sg c else 0) sg.length = sumN (fun c => if sI sg mt (4 * c) = j ∧ sI sg mt (4 * c + 1) = i then gi sg c else 0) sg.length := by
  have hN := hd.2.1
  have hI := hd.2.2.2.2.2.1
  have hP := nxS_perm hI hN
  obtain ⟨p, p1, p2⟩ := potential hd zGp (fun h => if sI sg mt h = j then (if outB sg h = true then 1 else -1) else 0) (fun h hh => by
    have := hd.2.2.2.2.2.2.1 h hh
    show (if sI sg mt (gn mt h) = j then _ else _) = _
    rw [sI_gn hd hh]
    revert this
    cases outB sg h <;> cases outB sg (gn mt h) <;> by_cases e : sI sg mt h = j <;> simp [zGp, e]) (fun c hc => by
    unfold VtxOk
    obtain ⟨o0, o2, h⟩ := outs hd hc
    simp only [o0, o2, sI_over hd hc, sI_under hd hc]
    rcases h with ⟨-, o1, o3⟩ | ⟨-, o1, o3⟩ <;> simp only [o1, o3] <;> by_cases e1 : sI sg mt (4 * c) = j <;> by_cases e2 : sI sg mt (4 * c + 1) = j <;> simp [zGp, e1, e2])
  have hstep : ∀ x, x < mt.length → p (nxS mt x) - p x = - (if sI sg mt (turnN (gn mt x) 3) = j then (if outB sg (turnN (gn mt x) 3) = true then 1 else -1) else 0) := by
    intro x hx
    have g := hI.gn hx
    have ht : turnN (gn mt x) 3 < mt.length := by rw [hN]; exact turnN_lt (by omega)
    have q1 := p1 x hx
    have q2 := p2 _ ht
    have g2 := hI.gn ht
    have q3 := p1 _ g2.2.1
    have e1 : nxF mt x = turnN (gn mt x) 3 := rfl
    have e2 : nxF mt (gn mt (turnN (gn mt x) 3)) = nxS mt x := by
      unfold nxF nxS
      rw [g2.2.2.2, turnN_add]
      unfold turnN; omega
    rw [e1] at q1
    rw [e2] at q3
    have q2 : _ = p (turnN (gn mt x) 3) + - p (gn mt (turnN (gn mt x) 3)) := q2
    rw [q2]
    omega
  have hz : sumN (fun x => if outB sg x = true ∧ sI sg mt x = i then (fun m => if sI sg mt (turnN m 3) = j then (if outB sg (turnN m 3) = true then (1 : Int) else -1) else 0) (gn mt x) else 0) mt.length = 0 := by
    have h1 : sumN (fun x => if outB sg x = true ∧ sI sg mt x = i then (fun m => if sI sg mt (turnN m 3) = j then (if outB sg (turnN m 3) = true then (1 : Int) else -1) else 0) (gn mt x) else 0) mt.length =
        sumN (fun x => (if outB sg x = true ∧ sI sg mt x = i then p x else 0) - (fun y => if outB sg y = true ∧ sI sg mt y = i then p y else 0) (nxS mt x)) mt.length := by
      refine sumN_congr _ fun x hx => ?_
      have h2 := hstep x hx
      show _ = _ - (if outB sg (nxS mt x) = true ∧ sI sg mt (nxS mt x) = i then p (nxS mt x) else 0)
      rw [out_nxS hd x hx]
      by_cases ho : outB sg x = true
      · rw [sI_nxS hd hx ho]
        by_cases e : sI sg mt x = i
        · simp only [ho, e, and_self, if_true]; omega
        · simp [e]
      · simp [ho]
    rw [h1, sumN_sub, sum_perm hP (fun y => if outB sg y = true ∧ sI sg mt y = i then p y else 0)]
    omega
  have hz := (sum_in hd i (fun m => if sI sg mt (turnN m 3) = j then (if outB sg (turnN m 3) = true then (1 : Int) else -1) else 0)).symm.trans hz
  have h4 : sumN (fun c => (if sI sg mt (4 * c) = j ∧ sI sg mt (4 * c + 1) = i then gi sg c else 0) - (if sI sg mt (4 * c) = i ∧ sI sg mt (4 * c + 1) = j then gi sg c else 0)) sg.length = 0 := by
    rw [← hz]
    refine sumN_congr _ fun c hc => ?_
    obtain ⟨o0, o2, h⟩ := outs hd hc
    have t0 : turnN (4 * c) 3 = 4 * c + 3 := by unfold turnN; omega
    have t1 : turnN (4 * c + 1) 3 = 4 * c := by unfold turnN; omega
    have t3 : turnN (4 * c + 3) 3 = 4 * c + 2 := by unfold turnN; omega
    rw [t0, t1, t3, o0, o2, sI_over hd hc, sI_under hd hc]
    rcases h with ⟨e, o1, o3⟩ | ⟨e, o1, o3⟩ <;> rw [o3, e] <;> by_cases e1 : sI sg mt (4 * c) = j <;> by_cases e2 : sI sg mt (4 * c + 1) = i <;> by_cases e3 : sI sg mt (4 * c) = i <;> by_cases e4 : sI sg mt (4 * c + 1) = j <;> simp [e1, e2, e3, e4] <;> omega
  rw [sumN_sub] at h4
  omega
end
end Go.Proofs.Ytcjgfncbecbhjaa
namespace Go.Proofs.Ytcjgfncbecbhjaa

/-- the signs of the crossings where i passes under j -/
def lkU (sg mt : List Int) (i j : Nat) : Int := sumN (fun c => if sI sg mt (4 * c) = i ∧ sI sg mt (4 * c + 1) = j then gi sg c else 0) sg.length
theorem letter_bal {s : Int} {a : Nat} (hs : s = 1 ∨ s = -1) : ga (s * ((a : Int) + 1)) = a ∧ sgnI (s * ((a : Int) + 1)) = s := by
  rcases hs with rfl | rfl
  · rw [Int.one_mul]
    exact ⟨by unfold ga; omega, by unfold sgnI; rw [if_pos (by omega)]⟩
  · rw [show (-1 : Int) * ((a : Int) + 1) = -((a : Int) + 1) by omega, ga_neg, sgn_neg]
    exact ⟨by unfold ga; omega, by unfold sgnI; rw [if_pos (by omega)]⟩
section
variable {sg mt : List Int} {L : Int} (hd : IsD sg mt L) {i : Nat} (hi : i < (strandsL sg mt).length)
include hd hi
theorem bal_lnL (l j : Nat) : ∀ k, k ≤ (stN sg mt i).length → bal (cmpL sg mt l) (lnL sg mt i k) j = sumN (fun t => if mN sg mt i t % 4 = 0 ∧ sI sg mt (mN sg mt i t + 1) = j then gi sg (mN sg mt i t / 4) else 0) k := by
  intro k
  induction k with
  | zero => intro _; rfl
  | succ k ih =>
    intro hk
    have hm := m_lt hd hi (show k < _ by omega)
    show _ = sumN _ k + (if mN sg mt i k % 4 = 0 ∧ sI sg mt (mN sg mt i k + 1) = j then gi sg (mN sg mt i k / 4) else 0)
    rw [lnL_succ, ← ih (by omega)]
    by_cases e : mN sg mt i k % 4 = 0
    · have hx : mN sg mt i k + 1 < mt.length := by have := hd.2.1; omega
      obtain ⟨g1, g2⟩ := letter_bal (a := arN sg mt (mN sg mt i k + 1)) (hd.2.2.2.2.1 (mN sg mt i k / 4) (by have := hd.2.1; omega))
      have hc : gn (cmpL sg mt l) (arN sg mt (mN sg mt i k + 1)) = sI sg mt (mN sg mt i k + 1) := by unfold gn; rw [cmp_sI hd l hx]; rfl
      rw [if_pos e, bal_app, bal_cons, bal_nil, g1, g2, hc]
      simp [e]
    · rw [if_neg e]; simp [e]
theorem lnS_sum : ∀ k, k ≤ (stN sg mt i).length → lnS sg mt i k = sumN (fun t => if mN sg mt i t % 4 = 0 ∧ sI sg mt (mN sg mt i t + 1) = i then gi sg (mN sg mt i t / 4) else 0) k := by
  intro k
  induction k with
  | zero => intro _; rfl
  | succ k ih =>
    intro hk
    have hm := m_lt hd hi (show k < _ by omega)
    show _ = sumN _ k + (if mN sg mt i k % 4 = 0 ∧ sI sg mt (mN sg mt i k + 1) = i then gi sg (mN sg mt i k / 4) else 0)
    rw [lnS_succ, ← ih (by omega)]
    by_cases e : mN sg mt i k % 4 = 0
    · have hx : mN sg mt i k + 1 < mt.length := by have := hd.2.1; omega
      have ho := own_cmp hd hi 0 hx
      rw [cmp_sI hd 0 hx] at ho
      have ho : ownB sg mt i (stN sg mt i).length (arN sg mt (mN sg mt i k + 1)) = true ↔ sI sg mt (mN sg mt i k + 1) = i := ho.trans ⟨fun h => by omega, fun h => by omega⟩
      rw [if_pos e]
      by_cases e2 : sI sg mt (mN sg mt i k + 1) = i
      · rw [if_pos (ho.2 e2), if_pos ⟨e, e2⟩]
      · rw [if_neg (fun h => e2 (ho.1 h)), if_neg (fun h => e2 h.2)]; omega
    · rw [if_neg e, if_neg (fun h => e h.1)]; omega
theorem along_sum (j : Nat) : sumN (fun t => if mN sg mt i t % 4 = 0 ∧ sI sg mt (mN sg mt i t + 1) = j then gi sg (mN sg mt i t / 4) else 0) (stN sg mt i).length = lkU sg mt i j := by
  have hP := nxS_perm hd.2.2.2.2.2.1 hd.2.1
  have hnd : (stN sg mt i).Nodup := by
    have hi' := hi
    rw [← hd_len] at hi'
    rw [stN_hd hi']
    exact cyc_nodup hP (hd_mem hi').1
  have h1 := sum_idx (G := fun x => if gn mt x % 4 = 0 ∧ sI sg mt (gn mt x + 1) = j then gi sg (gn mt x / 4) else 0) (stN sg mt i) _ (Nat.le_refl _)
  rw [List.take_length, sum_mem hnd (fun x hx => ((mem_st hd hi).1 hx).1)] at h1
  refine h1.trans ?_
  have h2 := sum_in hd i (fun m => if m % 4 = 0 ∧ sI sg mt (m + 1) = j then gi sg (m / 4) else 0)
  refine Eq.trans ?_ (h2.trans ?_)
  · refine sumN_congr _ fun x hx => ?_
    by_cases e : outB sg x = true ∧ sI sg mt x = i
    · rw [if_pos e, if_pos ((mem_st hd hi).2 ⟨hx, e.1, e.2⟩)]
    · rw [if_neg e, if_neg (fun h => e ((mem_st hd hi).1 h).2)]
  · unfold lkU
    refine sumN_congr _ fun c hc => ?_
    have m1 : ¬ (4 * c + 1) % 4 = 0 := by omega
    have m3 : ¬ (4 * c + 3) % 4 = 0 := by omega
    have m0 : (4 * c) % 4 = 0 := by omega
    have d0 : 4 * c / 4 = c := by omega
    simp only [m1, m3, m0, d0, false_and, true_and, if_false, ite_self, Int.add_zero]
    by_cases e1 : sI sg mt (4 * c) = i <;> by_cases e2 : sI sg mt (4 * c + 1) = j <;> simp [e1, e2]
theorem lnT_bal (l : Nat) : ga (lnT sg mt i) = arN sg mt (gN (stN sg mt i) 0) ∧ sgnI (lnT sg mt i) = (if 0 < lnS sg mt i (stN sg mt i).length then -1 else 1) ∧ gn (cmpL sg mt l) (arN sg mt (gN (stN sg mt i) 0)) = i := by
  have h0 := st_lt hd hi (st_pos hd hi)
  have hm : gN (stN sg mt i) 0 ∈ stN sg mt i := by rw [gN_lt (st_pos hd hi)]; exact List.getElem_mem _
  refine ⟨?_, ?_, ?_⟩
  · unfold lnT lnF
    split
    · rw [ga_neg]; unfold ga; omega
    · unfold ga; omega
  · unfold lnT lnF
    split
    · rw [sgn_neg]; unfold sgnI; rw [if_pos (by omega)]
    · unfold sgnI; rw [if_pos (by omega)]
  · unfold gn
    rw [cmp_sI hd l h0.1, ((mem_st hd hi).1 hm).2.2]
    rfl
omit hd hi in
theorem bal_rep (cs : List Int) (t : Int) (j : Nat) : ∀ k : Nat, bal cs (List.replicate k t) j = if gn cs (ga t) = j then (k : Int) * sgnI t else 0
  | 0 => by simp [bal]
  | k + 1 => by
    rw [List.replicate_succ, bal_cons, bal_rep cs t j k]
    by_cases e : gn cs (ga t) = j
    · rw [if_pos e, if_pos e, if_pos e, Int.natCast_add, Int.add_mul]; omega
    · rw [if_neg e, if_neg e, if_neg e]; rfl
/-- THE EXPONENTS IN A LONGITUDE -/
theorem lon_bal (l j : Nat) : bal (cmpL sg mt l) (lonL sg mt i) j = if i = j then 0 else lkU sg mt i j := by
  obtain ⟨g1, g2, g3⟩ := lnT_bal hd hi l
  have hS := lnS_sum hd hi _ (Nat.le_refl _)
  rw [along_sum hd hi i] at hS
  unfold lonL lonW
  rw [red_bal, bal_app, bal_lnL hd hi l j _ (Nat.le_refl _), along_sum hd hi j, bal_rep, g1, g2, g3]
  by_cases e : i = j
  · subst e
    rw [if_pos rfl, if_pos rfl, ← hS]
    split <;> omega
  · rw [if_neg e, if_neg e]; omega
theorem lon_wv {l : Nat} : WV (((arC sg mt + l : Nat) : Int)) (lonL sg mt i) := by
  refine wv_of (red_sub (fun x hx => by cases hx) fun x hx => ?_)
  obtain ⟨a, ha, h⟩ := lonW_mem hd hi x hx
  unfold LV
  omega
theorem lon_len : (lonL sg mt i).length ≤ 1000 := by
  have h1 := redF_len [] (lonW sg mt i (lnS sg mt i (stN sg mt i).length).natAbs)
  have h2 := lonW_len (sg := sg) (mt := mt) (i := i) (k := (lnS sg mt i (stN sg mt i).length).natAbs)
  have h3 := lnS_bd hd hi _ (Nat.le_refl (stN sg mt i).length)
  have h4 := stN_len hd.2.2.2.2.2.1 hd.2.1 hi
  have h5 := hd.1
  have h6 := hd.2.1
  unfold lonL redL
  simp only [List.length_nil] at h1
  omega
end
theorem lkU_loop {sg mt : List Int} {L : Int} (hd : IsD sg mt L) {i j : Nat} (hi : (strandsL sg mt).length ≤ i) : lkU sg mt i j = 0 := by
  unfold lkU
  refine sumN_zero _ fun c hc => ?_
  have h := (sI_spec hd (show 4 * c < mt.length by have := hd.2.1; omega)).1
  rw [if_neg (by omega)]
/-- both ways -/
theorem twice_lk {sg mt : List Int} {L : Int} (hd : IsD sg mt L) {i j : Nat} (hne : i ≠ j) :
    sumN (fun c => if (sI sg mt (4 * c) = i ∧ sI sg mt (4 * c + 1) = j) ∨ (sI sg mt (4 * c) = j ∧ sI sg mt (4 * c + 1) = i) then gi sg c else 0) sg.length = 2 * lkU sg mt i j := by
  have h1 := link_sym hd (i := i) (j := j)
  have h2 : lkU sg mt i j = lkU sg mt j i := h1
  have h3 : sumN (fun c => if (sI sg mt (4 * c) = i ∧ sI sg mt (4 * c + 1) = j) ∨ (sI sg mt (4 * c) = j ∧ sI sg mt (4 * c + 1) = i) then gi sg c else 0) sg.length = lkU sg mt i j + lkU sg mt j i := by
    unfold lkU
    rw [← sumN_add]
    refine sumN_congr _ fun c _ => ?_
    by_cases e1 : sI sg mt (4 * c) = i
    · have e2 : ¬ sI sg mt (4 * c) = j := fun e => hne (e1.symm.trans e)
      by_cases e3 : sI sg mt (4 * c + 1) = j <;> simp [e1, e3, hne]
    · by_cases e2 : sI sg mt (4 * c) = j
      · by_cases e3 : sI sg mt (4 * c + 1) = i <;> simp [e2, e3, hne]
      · simp [e1, e2]
  rw [h3, ← h2]; omega
end Go.Proofs.Ytcjgfncbecbhjaa

