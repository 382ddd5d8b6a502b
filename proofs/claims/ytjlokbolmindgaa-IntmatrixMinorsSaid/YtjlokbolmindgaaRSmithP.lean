/-
  The greatest common divisor of the minors that are told by bits. No program here.
-/
import Derived.Test.YtjlokbolmindgaaRPick
import Derived.Test.YtjlokbolmindgaaMinS
import Derived.Test.YtjlokbolmindgaaL26
namespace Go.Proofs.Ytjlokbolmindgaa
open Go.RowKit

theorem psN_inj4 : ∀ q, q ≤ 4 → ∀ r, r < 16 → ∀ a, a < (blL r q).length → ∀ b, b < (blL r q).length → psN r q a = psN r q b → a = b := by decide +kernel
def cndB (q k x0 x1 x2 x3 : Nat) : Bool := (decide (k ≤ q) && (decide (k ≤ 0) || decide (x0 < q))) && ((decide (k ≤ 1) || (decide (x1 < q) && decide (x0 < x1))) && ((decide (k ≤ 2) || (decide (x2 < q) && decide (x1 < x2))) && (decide (k ≤ 3) || (decide (x3 < q) && decide (x2 < x3)))))
def chkB (q k x0 x1 x2 x3 : Nat) : Bool := !cndB q k x0 x1 x2 x3 || (List.range (2 ^ q)).any fun r => blL r q == [x0, x1, x2, x3].take k
theorem mask4 : ∀ q, q < 5 → ∀ k, k < 5 → ∀ x0, x0 < 4 → ∀ x1, x1 < 4 → ∀ x2, x2 < 4 → ∀ x3, x3 < 4 → chkB q k x0 x1 x2 x3 = true := by decide +kernel
/-- each increasing choice is told by bits -/
theorem mask_of {q k : Nat} {is : Nat → Nat} (hq : q ≤ 4) (h : Inc q k is) : ∃ r, r < 2 ^ q ∧ (blL r q).length = k ∧ ∀ a, a < k → psN r q a = is a := by
  have hk : k ≤ q := by
    rcases Nat.lt_or_ge q k with h0 | h0
    · exfalso
      have key : ∀ a, a < k → a ≤ is a := fun a => by
        induction a with
        | zero => exact fun _ => Nat.zero_le _
        | succ a ih => exact fun ha => by have h1 := ih (by omega); have h2 := h.up a (a + 1) (by omega) ha; omega
      have h1 := key (k - 1) (by omega)
      have h2 := h.lt (k - 1) (by omega)
      omega
    · exact h0
  let f := fun a => if a < k then is a else 0
  have hf : ∀ a, a < 4 → f a < 4 := fun a _ => by
    show (if a < k then is a else 0) < 4
    split
    · rename_i h0; have := h.lt a h0; omega
    · omega
  have hchk := mask4 q (by omega) k (by omega) (f 0) (hf 0 (by omega)) (f 1) (hf 1 (by omega)) (f 2) (hf 2 (by omega)) (f 3) (hf 3 (by omega))
  have hcnd : cndB q k (f 0) (f 1) (f 2) (f 3) = true := by
    have g0 : ∀ a, a < k → f a = is a := fun a ha => if_pos ha
    unfold cndB
    simp only [Bool.and_eq_true, Bool.or_eq_true, decide_eq_true_eq]
    refine ⟨⟨hk, ?_⟩, ?_, ?_, ?_⟩
    · by_cases h0 : 0 < k
      · right; rw [g0 0 h0]; exact h.lt 0 h0
      · left; omega
    · by_cases h0 : 1 < k
      · right; rw [g0 1 h0, g0 0 (by omega)]; exact ⟨h.lt 1 h0, h.up 0 1 (by omega) h0⟩
      · left; omega
    · by_cases h0 : 2 < k
      · right; rw [g0 2 h0, g0 1 (by omega)]; exact ⟨h.lt 2 h0, h.up 1 2 (by omega) h0⟩
      · left; omega
    · by_cases h0 : 3 < k
      · right; rw [g0 3 h0, g0 2 (by omega)]; exact ⟨h.lt 3 h0, h.up 2 3 (by omega) h0⟩
      · left; omega
  unfold chkB at hchk
  rw [hcnd] at hchk
  have hany : ((List.range (2 ^ q)).any fun r => blL r q == [f 0, f 1, f 2, f 3].take k) = true := by simpa using hchk
  obtain ⟨r, hr, hl⟩ := List.any_eq_true.1 hany
  replace hr := List.mem_range.1 hr
  replace hl := eq_of_beq hl
  refine ⟨r, hr, by rw [hl]; simp; omega, fun a ha => ?_⟩
  unfold psN
  rw [hl]
  have ha4 : a = 0 ∨ a = 1 ∨ a = 2 ∨ a = 3 := by omega
  have e : ([f 0, f 1, f 2, f 3].take k).getD a 0 = f a := by
    rw [List.getD_eq_getElem?_getD, List.getElem?_take, if_pos ha]
    rcases ha4 with rfl | rfl | rfl | rfl <;> rfl
  rw [e]
  show (if a < k then is a else 0) = is a
  rw [if_pos ha]
/-- the minor that two masks tell -/
def mnD (xss : List (List Int)) (n c k r s : Nat) : Int := det k fun a b => eI xss (psN r n a) (psN s c b)
/-- what has been looked at -/
def Lk (r s r' s' : Nat) : Prop := r' < r ∨ (r' = r ∧ s' < s)
/-- g is the greatest common divisor of what has been looked at -/
structure GD (xss : List (List Int)) (n c k r s g : Nat) : Prop where
  dv : ∀ r' s', Lk r s r' s' → r' < 2 ^ n → s' < 2 ^ c → (blL r' n).length = k → (blL s' c).length = k → g ∣ (mnD xss n c k r' s').natAbs
  gr : ∀ h : Nat, (∀ r' s', r' < 2 ^ n → s' < 2 ^ c → (blL r' n).length = k → (blL s' c).length = k → h ∣ (mnD xss n c k r' s').natAbs) → h ∣ g
section
variable {xss : List (List Int)} {n c k r s g : Nat}
theorem GD.start : GD xss n c k 0 0 0 := ⟨fun r' s' h => by rcases h with h | h <;> omega, fun h _ => Nat.dvd_zero h⟩
theorem GD.yes (h : GD xss n c k r s g) (hr : r < 2 ^ n) (hs : s < 2 ^ c) (h1 : (blL r n).length = k) (h2 : (blL s c).length = k) : GD xss n c k r (s + 1) (Nat.gcd g (mnD xss n c k r s).natAbs) :=
  ⟨fun r' s' hl h3 h4 h5 h6 => by
    by_cases e : r' = r ∧ s' = s
    · rw [e.1, e.2]; exact Nat.gcd_dvd_right ..
    · exact Nat.dvd_trans (Nat.gcd_dvd_left ..) (h.dv r' s' (by rcases hl with hl | ⟨rfl, hl⟩
                                                                · exact .inl hl
                                                                · exact .inr ⟨rfl, by omega⟩) h3 h4 h5 h6), fun d hd => Nat.dvd_gcd (h.gr d hd) (hd r s hr hs h1 h2)⟩
theorem GD.no (h : GD xss n c k r s g) (h2 : (blL s c).length ≠ k) : GD xss n c k r (s + 1) g :=
  ⟨fun r' s' hl h3 h4 h5 h6 => h.dv r' s' (by rcases hl with hl | ⟨rfl, hl⟩
                                              · exact .inl hl
                                              · refine .inr ⟨rfl, ?_⟩
                                                rcases Nat.lt_or_eq_of_le (Nat.le_of_lt_succ hl) with h7 | rfl
                                                · exact h7
                                                · exact absurd h6 h2) h3 h4 h5 h6, h.gr⟩
theorem GD.row (h : GD xss n c k r (2 ^ c) g) : GD xss n c k (r + 1) 0 g :=
  ⟨fun r' s' hl h3 h4 h5 h6 => h.dv r' s' (by rcases hl with hl | ⟨-, hl⟩
                                              · rcases Nat.lt_or_eq_of_le (Nat.le_of_lt_succ hl) with h7 | rfl
                                                · exact .inl h7
                                                · exact .inr ⟨rfl, h4⟩
                                              · omega) h3 h4 h5 h6, h.gr⟩
theorem GD.skip (h : GD xss n c k r 0 g) (h1 : (blL r n).length ≠ k) : GD xss n c k (r + 1) 0 g :=
  ⟨fun r' s' hl h3 h4 h5 h6 => h.dv r' s' (by rcases hl with hl | ⟨-, hl⟩
                                              · rcases Nat.lt_or_eq_of_le (Nat.le_of_lt_succ hl) with h7 | rfl
                                                · exact .inl h7
                                                · exact absurd h5 h1
                                              · omega) h3 h4 h5 h6, h.gr⟩
/-- in the end it is the product of the first invariant factors -/
theorem GD.end_ {d : Nat → Nat} (h : GD xss n c k (2 ^ n) 0 g) (hn : n ≤ 4) (hc : c ≤ 4) (he : Eqv n c (eI xss) (dgM d)) (hd : Chain d (min n c)) (hk : k ≤ min n c) : g = pN k d := by
  refine Nat.dvd_antisymm ?_ ?_
  · have h1 : Dv n c k (eI xss) (g : Int) := dv_inc fun is js hi hj => by
      obtain ⟨r, hr, hl, hp⟩ := mask_of hn hi
      obtain ⟨s, hs, hl2, hp2⟩ := mask_of hc hj
      have := h.dv r s (.inl hr) hr hs hl hl2
      have e : mnD xss n c k r s = det k fun a b => eI xss (is a) (js b) := det_congr fun a b ha hb => by rw [hp a ha, hp2 b hb]
      rw [e] at this
      exact Int.dvd_natAbs.1 (Int.natCast_dvd_natCast.2 this)
    have h2 := dv_lead hk (h1.eqv he)
    rw [← pN_pI] at h2
    exact Int.natCast_dvd_natCast.1 h2
  · refine h.gr _ fun r' s' h3 h4 h5 h6 => ?_
    have h1 := (dv_diag (n := n) (c := c) (k := k) (d := d) hd).eqv he.symm
    have h2 := h1 (psN r' n) (psN s' c) (fun a ha => psN_lt (by omega)) (fun b hb => psN_lt (by omega))
    rw [← pN_pI] at h2
    exact Int.natCast_dvd_natCast.1 (Int.dvd_natAbs.2 h2)
/-- the bound of a minor -/
theorem mn_bnd (hn : n ≤ 4) (hc : c ≤ 4) (hr : r < 2 ^ n) (hs : s < 2 ^ c) (h1 : (blL r n).length = k) (h2 : (blL s c).length = k) : bndM k k (fun a b => eI xss (psN r n a) (psN s c b)) ≤ bndM n c (eI xss) := by
  have hr16 : r < 16 := Nat.lt_of_lt_of_le hr (Nat.le_trans (Nat.pow_le_pow_right (by decide) hn) (by decide))
  have hs16 : s < 16 := Nat.lt_of_lt_of_le hs (Nat.le_trans (Nat.pow_le_pow_right (by decide) hc) (by decide))
  refine Nat.le_trans (pN_le (g := fun a => max (sN c fun j => (eI xss (psN r n a) j).natAbs) 1) fun a _ => ?_) (pN_inj (fun i => max (sN c fun j => (eI xss i j).natAbs) 1) (fun _ _ => Nat.le_max_right ..) (fun a b ha hb e => psN_inj4 n hn r hr16 a (by omega) b (by omega) e) (fun a ha => psN_lt (by omega)))
  show max (sN k fun b => (eI xss (psN r n a) (psN s c b)).natAbs) 1 ≤ max (sN c fun j => (eI xss (psN r n a) j).natAbs) 1
  have := sN_inj (fun j => (eI xss (psN r n a) j).natAbs) (fun a b ha hb e => psN_inj4 c hc s hs16 a (by omega) b (by omega) e) (fun b hb => psN_lt (r := s) (q := c) (a := b) (by omega)) (k := k)
  omega
end
theorem pN_zero_ex {d : Nat → Nat} : ∀ {k : Nat}, pN k d = 0 → ∃ j, j < k ∧ d j = 0
  | 0, h => absurd h (by show ¬ 1 = 0; decide)
  | k + 1, h => by
    rcases Nat.mul_eq_zero.1 (show pN k d * d k = 0 from h) with e | e
    · obtain ⟨j, hj, h0⟩ := pN_zero_ex e
      exact ⟨j, by omega, h0⟩
    · exact ⟨k, by omega, e⟩
end Go.Proofs.Ytjlokbolmindgaa

