/-
  The closure of a braid is a diagram: faces told apart by the columns' letters, at most as many by the genus inequality. No program here.
  The circles of a braid's closure are its positions; no incoherent half-edges. No program here.
  What the law builds from a braid's letters, row by row; at its end the rows are the closure. No program here.
  The rows that the law SeifertBraids writes, in memory; the contract of its closure 'enter'.
  A row of small integers that came in; the two rows at the beginning of the law SeifertBraids.
-/
import Derived.Test.YtaghemilihaiaaaSeifG
import Derived.Test.YtaghemilihaiaaaNumM
import Derived.Test.YtaghemilihaiaaaInc
import Derived.Test.YtaghemilihaiaaaDArg
import Derived.BigRegion
namespace Go.Proofs.Ytaghemilihaiaaa

/-! ### enough faces make a sphere -/
theorem tS_squeeze {f g : Nat → Nat} : ∀ {n : Nat}, (∀ r, r < n → g r ≤ f r) → tS f n ≤ tS g n → ∀ r, r < n → f r = g r
  | 0, _, _, r, hr => absurd hr (Nat.not_lt_zero r)
  | n + 1, h, ht, r, hr => by
    have le : ∀ k, k ≤ n → tS g k ≤ tS f k := fun k => by
      induction k with
      | zero => intro _; exact Nat.le_refl _
      | succ k ih =>
        intro hk
        have h1 := ih (by omega)
        have h2 := h k (by omega)
        show tS g k + g k ≤ tS f k + f k
        omega
    have h1 := le n (Nat.le_refl _)
    have h2 := h n (by omega)
    have h3 : tS f n + f n ≤ tS g n + g n := ht
    rcases Nat.lt_or_eq_of_le (Nat.le_of_lt_succ hr) with e | e
    · exact tS_squeeze (fun r hr => h r (by omega)) (by omega) r e
    · subst e; omega
theorem cnt_true : ∀ m, cnt (fun _ => true) m = m
  | 0 => rfl
  | m + 1 => by rw [cnt_succ, cnt_true m, if_pos rfl]
section
variable {mt : List Int} (hI : InvM mt) {n : Nat} (hn : mt.length = 4 * n)
include hI hn
theorem faces_le : ∃ d, cnt (lstB (nxF mt) mt.length) mt.length + 2 * d = n + 2 * idxAt mt n n := by
  have hP : PermB rot mt.length := by rw [hn]; exact rot_perm _
  have hF := nxF_perm hI hn
  have h1 : ncls (rc (fE rot (edgesOf mt)) mt.length) mt.length = ncls (rc (nxF mt) mt.length) mt.length := by
    refine ncls_congr fun x y hx hy => ?_
    have hk : ∀ k, it (fE rot (edgesOf mt)) k x = it (nxF mt) k x := by
      intro k
      induction k with
      | zero => rfl
      | succ k ih => show fE rot (edgesOf mt) _ = nxF mt _; rw [ih, fE_nxF hI (hF.it_lt k hx)]
    rw [Bool.eq_iff_iff, rc_iff (fE_perm hP _ (edges_in hI)) hx, rc_iff hF hx]
    exact ⟨fun ⟨k, h⟩ => ⟨k, by rw [← hk]; exact h⟩, fun ⟨k, h⟩ => ⟨k, by rw [hk]; exact h⟩⟩
  have h2 := ncls_rot n
  rw [← hn] at h2
  obtain ⟨d, hd⟩ := genus_le hP _ (edges_in hI)
  rw [h1, ncls_rc hF, h2, edges_count hI hn, ncls_kE hI hn] at hd
  exact ⟨d, by omega⟩
theorem sph_of_lower (hl : ∀ r, r < n → labAt mt n r = r → cnt (fun c => decide (labAt mt n c = r)) n + 2 ≤ cnt (fun h => lstB (nxF mt) mt.length h && decide (labAt mt n (h / 4) = r)) mt.length) : Sph mt n := by
  refine (sph_iff hI hn).2 fun r hr hrl => ?_
  obtain ⟨d, hd⟩ := faces_le hI hn
  have hlab : ∀ c, c < n → labAt mt n c < n ∧ labAt mt n (labAt mt n c) = labAt mt n c := fun c hc => ⟨(lab_least hI hn hc).2.2, lab_lab hI hn hc⟩
  have h1 := tS_cnt (P := lstB (nxF mt) mt.length) (key := fun h => labAt mt n (h / 4)) (n := n) (m := mt.length) (fun h hh _ => (hlab _ (by omega)).1)
  have h2 := tS_cnt (P := fun _ => true) (key := fun c => labAt mt n c) (n := n) (m := n) (fun c hc _ => (hlab _ hc).1)
  rw [cnt_true] at h2
  have h3 : tS (fun r => cnt (fun c => true && decide (labAt mt n c = r)) n + (if decide (gN (labN mt n) r = r) = true then 2 else 0)) n = n + 2 * idxAt mt n n := by
    rw [tS_add, tS_lbl, h2]
    unfold idxAt
    rw [idxN_cnt]
  have h4 := tS_squeeze (f := fun r => cnt (fun h => lstB (nxF mt) mt.length h && decide (labAt mt n (h / 4) = r)) mt.length) (g := fun r => cnt (fun c => true && decide (labAt mt n c = r)) n + (if decide (gN (labN mt n) r = r) = true then 2 else 0)) (n := n) (fun q hq => ?_) (by rw [h1, h3]; omega) r hr
  · have h5 : gN (labN mt n) r = r := hrl
    simp only [Bool.true_and, h5, decide_true, if_true] at h4
    exact h4
  · by_cases hq2 : labAt mt n q = q
    · have h5 : gN (labN mt n) q = q := hq2
      simp only [Bool.true_and, h5, decide_true, if_true]
      exact hl q hq hq2
    · have h5 : ¬ gN (labN mt n) q = q := hq2
      have z : cnt (fun c => decide (labAt mt n c = q)) n = 0 := by
        rw [cnt_congr (Q := fun _ => false) fun c hc => decide_eq_false fun e => hq2 (by rw [← e]; exact (hlab _ hc).2)]
        exact cnt_none _
      simp only [Bool.true_and, h5, decide_false, z]
      exact Nat.zero_le _
end

/-! ### letters, columns and positions -/
def Tch (n : Nat) (col : Nat → Nat) (p c : Nat) : Prop := c < n ∧ (col c = p ∨ col c = p + 1)
instance (n : Nat) (col : Nat → Nat) (p c : Nat) : Decidable (Tch n col p c) := by unfold Tch; infer_instance
/-- d is the next letter at the position p behind c, around the closure -/
def Rn (n : Nat) (col : Nat → Nat) (p c d : Nat) : Prop := Tch n col p c ∧ Tch n col p d ∧ ((c < d ∧ ∀ e, c < e → e < d → ¬ Tch n col p e) ∨ (d ≤ c ∧ (∀ e, c < e → ¬ Tch n col p e) ∧ ∀ e, e < d → ¬ Tch n col p e))
def eps (sg : List Int) (c : Nat) : Nat := if gi sg c = 1 then 0 else 1
/-- the half-edge of the letter c in the role r: 0 below right, 1 above right, 2 above left, 3 below left -/
def he (sg : List Int) (c r : Nat) : Nat := 4 * c + (r + eps sg c) % 4
def upH (sg : List Int) (col : Nat → Nat) (p c : Nat) : Nat := he sg c (if col c = p then 1 else 2)
def lowH (sg : List Int) (col : Nat → Nat) (p c : Nat) : Nat := he sg c (if col c = p then 0 else 3)
def role (sg : List Int) (h : Nat) : Nat := (h % 4 + 3 * eps sg (h / 4)) % 4
theorem greatest {P : Nat → Prop} [DecidablePred P] : ∀ k, (∃ e, e < k ∧ P e) → ∃ e, e < k ∧ P e ∧ ∀ f, e < f → f < k → ¬ P f
  | 0, h => by obtain ⟨e, he, -⟩ := h; exact absurd he (Nat.not_lt_zero e)
  | k + 1, h => by
    by_cases hk : P k
    · exact ⟨k, by omega, hk, fun f h1 h2 => by omega⟩
    · obtain ⟨e, he, hp⟩ := h
      have : e ≠ k := fun h => hk (h ▸ hp)
      obtain ⟨f, h1, h2, h3⟩ := greatest k ⟨e, by omega, hp⟩
      refine ⟨f, by omega, h2, fun g g1 g2 => ?_⟩
      by_cases e : g = k
      · subst e; exact hk
      · exact h3 g g1 (by omega)
theorem rn_succ {n : Nat} {col : Nat → Nat} {p c : Nat} (h : Tch n col p c) : ∃ d, Rn n col p c d := by
  by_cases hx : ∃ e, c < e ∧ Tch n col p e
  · obtain ⟨e, he⟩ := hx
    obtain ⟨d, ⟨hd1, hd2⟩, hd3⟩ := least_of (P := fun e => c < e ∧ Tch n col p e) he
    exact ⟨d, h, hd2, .inl ⟨hd1, fun e h1 h2 h3 => by have := hd3 e ⟨h1, h3⟩; omega⟩⟩
  · obtain ⟨d, hd1, hd2⟩ := least_of (P := fun e => Tch n col p e) h
    have hdc := hd2 c h
    exact ⟨d, h, hd1, .inr ⟨hdc, fun e h1 h2 => hx ⟨e, h1, h2⟩, fun e h1 h2 => by have := hd2 e h2; omega⟩⟩
theorem rn_pred {n : Nat} {col : Nat → Nat} {p d : Nat} (h : Tch n col p d) : ∃ c, Rn n col p c d := by
  by_cases hx : ∃ e, e < d ∧ Tch n col p e
  · obtain ⟨c, h1, h2, h3⟩ := greatest d hx
    exact ⟨c, h2, h, .inl ⟨h1, h3⟩⟩
  · obtain ⟨c, h1, h2, h3⟩ := greatest n ⟨d, h.1, h⟩
    have hdc : d ≤ c := by
      rcases Nat.lt_or_ge c d with e | e
      · exact absurd h (h3 d e h.1)
      · exact e
    exact ⟨c, h2, h, .inr ⟨hdc, fun e h4 h5 => h3 e h4 h5.1 h5, fun e h4 h5 => hx ⟨e, h4, h5⟩⟩⟩

section
variable {sg : List Int}
theorem eps_lt (c : Nat) : eps sg c < 2 := by unfold eps; split <;> omega
theorem he_div (c r : Nat) : he sg c r / 4 = c := by unfold he; omega
theorem he_lt {n c : Nat} (hc : c < n) (r : Nat) : he sg c r < 4 * n := by unfold he; omega
theorem he_inj {c d r s : Nat} (hr : r < 4) (hs : s < 4) (h : he sg c r = he sg d s) : c = d ∧ r = s := by
  have h1 : c = d := by rw [← he_div (sg := sg) c r, h, he_div]
  subst h1
  have := eps_lt (sg := sg) c
  unfold he at h
  omega
theorem role_he {c r : Nat} (hr : r < 4) : role sg (he sg c r) = r := by
  have := eps_lt (sg := sg) c
  unfold role
  rw [he_div]
  unfold he
  omega
theorem role_lt (h : Nat) : role sg h < 4 := by unfold role; omega
theorem he_role (h : Nat) : he sg (h / 4) (role sg h) = h := by
  have := eps_lt (sg := sg) (h / 4)
  unfold he role
  omega
theorem he_turn {c r : Nat} : turnN (he sg c r) 3 = he sg c ((r + 3) % 4) := by
  unfold he turnN
  omega
theorem he_out {n : Nat} (hs : sg.length = n) (hS : SgM sg) {c r : Nat} (hc : c < n) (hr : r < 4) : outB sg (he sg c r) = (decide (r = 1) || decide (r = 2)) := by
  obtain ⟨o0, o2, o1, o3⟩ := outB_slots hS (c := c) (by omega)
  have hcase : r = 0 ∨ r = 1 ∨ r = 2 ∨ r = 3 := by omega
  rcases hS c (by omega) with e | e
  · have he0 : eps sg c = 0 := by unfold eps; rw [if_pos e]
    unfold he
    rw [he0]
    rcases hcase with rfl | rfl | rfl | rfl
    · exact o0
    · exact (o1 e).1
    · exact o2
    · exact (o1 e).2
  · have he0 : eps sg c = 1 := by unfold eps; rw [if_neg (by omega)]
    unfold he
    rw [he0]
    rcases hcase with rfl | rfl | rfl | rfl
    · exact (o3 e).1
    · exact o2
    · exact (o3 e).2
    · exact o0
end

/-! ### the first letter of a column, from a time on -/
def ffA (col : Nat → Nat) (j : Nat) : Nat → Nat → Nat
  | t, 0 => t
  | t, u + 1 => if col t = j then t else ffA col j (t + 1) u
def ff (n : Nat) (col : Nat → Nat) (j t : Nat) : Nat := ffA col j t (n - t)
/-- .. around the closure -/
def nx (n : Nat) (col : Nat → Nat) (j t : Nat) : Nat := if ff n col j t < n then ff n col j t else ff n col j 0
section
variable {n : Nat} {col : Nat → Nat} {j : Nat}
theorem ff_end : ff n col j n = n := by unfold ff; rw [Nat.sub_self]; rfl
theorem ff_step {t : Nat} (ht : t < n) : ff n col j t = if col t = j then t else ff n col j (t + 1) := by
  unfold ff
  rw [show n - t = (n - (t + 1)) + 1 by omega]
  rfl
theorem ff_hit {t : Nat} (ht : t < n) (h : col t = j) : ff n col j t = t := by rw [ff_step ht, if_pos h]
theorem ff_skip {t : Nat} : ∀ k, t + k ≤ n → (∀ e, t ≤ e → e < t + k → col e ≠ j) → ff n col j t = ff n col j (t + k)
  | 0, _, _ => rfl
  | k + 1, h, hno => by
    rw [ff_skip k (by omega) (fun e h1 h2 => hno e h1 (by omega)), ff_step (by omega), if_neg (hno (t + k) (by omega) (by omega))]
    rfl
theorem ff_to {t u : Nat} (h : t ≤ u) (hu : u ≤ n) (hno : ∀ e, t ≤ e → e < u → col e ≠ j) : ff n col j t = ff n col j u := by
  have := ff_skip (n := n) (col := col) (j := j) (t := t) (u - t) (by omega) (fun e h1 h2 => hno e h1 (by omega))
  rwa [show t + (u - t) = u by omega] at this
theorem ff_none {t : Nat} (h : t ≤ n) (hno : ∀ e, t ≤ e → e < n → col e ≠ j) : ff n col j t = n := (ff_to h (Nat.le_refl _) hno).trans ff_end
theorem ff_le {e : Nat} (he : e < n) (hc : col e = j) {t : Nat} (ht : t ≤ e) : ff n col j t ≤ e := by
  obtain ⟨k, rfl⟩ : ∃ k, e = t + k := ⟨e - t, by omega⟩
  clear ht
  induction k generalizing t with
  | zero => rw [ff_hit (t := t) he hc]; exact Nat.le_refl _
  | succ k ih =>
    rw [ff_step (by omega)]
    split
    · omega
    · have := ih (t := t + 1) (by omega) (by rw [show t + 1 + k = t + (k + 1) by omega]; exact hc)
      omega
theorem nx_skip {c : Nat} (hc : c < n) (h : col c ≠ j) : nx n col j c = nx n col j (c + 1) := by
  unfold nx
  rw [ff_step hc, if_neg h]
theorem nx_hit {c : Nat} (hc : c < n) (h : col c = j) : nx n col j c = c := by
  unfold nx
  rw [ff_hit hc h, if_pos hc]
theorem nx_lt {e : Nat} (he : e < n) (h : col e = j) (t : Nat) : nx n col j t < n := by
  unfold nx
  split
  · assumption
  · have := ff_le he h (Nat.zero_le e)
    omega
theorem nx_none {t : Nat} (ht : t ≤ n) (h : ∀ e, e < n → col e ≠ j) : nx n col j t = n := by
  unfold nx
  rw [ff_none ht fun e _ he => h e he, if_neg (Nat.lt_irrefl n), ff_none (Nat.zero_le _) fun e _ he => h e he]
theorem nx_rn {p c d : Nat} (h : Rn n col p c d) (hj : j = p ∨ j = p + 1) : nx n col j (c + 1) = nx n col j d := by
  obtain ⟨hc, hd, hcase⟩ := h
  have nt : ∀ e, e < n → ¬ Tch n col p e → col e ≠ j := fun e he hn hcol => hn ⟨he, hj.elim (fun h => .inl (hcol.trans h)) (fun h => .inr (hcol.trans h))⟩
  have h1 := hc.1
  have h2 := hd.1
  rcases hcase with ⟨hlt, hno⟩ | ⟨hle, hn1, hn2⟩
  · unfold nx
    rw [ff_to (t := c + 1) (u := d) hlt (Nat.le_of_lt h2) fun e e1 e2 => nt e (by omega) (hno e (by omega) e2)]
  · have a1 : ff n col j (c + 1) = n := ff_none h1 fun e e1 e2 => nt e e2 (hn1 e (by omega))
    have a2 : ff n col j 0 = ff n col j d := ff_to (Nat.zero_le _) (Nat.le_of_lt h2) fun e e1 e2 => nt e (by omega) (hn2 e e2)
    unfold nx
    rw [a1, if_neg (Nat.lt_irrefl n), a2]
    split <;> rfl
end

/-! ### the closure -/
/-- the closure of the letters: n of them, m positions -/
structure BrC (n m : Nat) (col : Nat → Nat) (sg mt : List Int) : Prop where
  hs : sg.length = n
  hS : SgM sg
  hm : mt.length = 4 * n
  hc : ∀ c, c < n → 1 ≤ col c ∧ col c < m
  hM : ∀ p c d, Rn n col p c d → gi mt (upH sg col p c) = (lowH sg col p d : Int) ∧ gi mt (lowH sg col p d) = (upH sg col p c : Int)
section
variable {n m : Nat} {col : Nat → Nat} {sg mt : List Int} (B : BrC n m col sg mt)
include B
theorem BrC.mate {p c d : Nat} (h : Rn n col p c d) : gn mt (upH sg col p c) = lowH sg col p d ∧ gn mt (lowH sg col p d) = upH sg col p c := by
  obtain ⟨h1, h2⟩ := B.hM p c d h
  unfold gn
  rw [h1, h2]
  exact ⟨rfl, rfl⟩
/-- every half-edge leads up or comes from below, at a position -/
theorem BrC.ends {h : Nat} (hh : h < mt.length) : ∃ p c d, Rn n col p c d ∧ p < m ∧ (h = upH sg col p c ∨ h = lowH sg col p d) := by
  have hc : h / 4 < n := by have := B.hm; omega
  have hcol := B.hc _ hc
  have hr := role_lt (sg := sg) h
  have hcase : role sg h = 0 ∨ role sg h = 1 ∨ role sg h = 2 ∨ role sg h = 3 := by omega
  have e := he_role (sg := sg) h
  rcases hcase with hr | hr | hr | hr <;> rw [hr] at e
  · obtain ⟨c, hR⟩ := rn_pred (n := n) (col := col) (p := col (h / 4)) (d := h / 4) ⟨hc, .inl rfl⟩
    exact ⟨_, c, _, hR, hcol.2, .inr (by unfold lowH; rw [if_pos rfl]; exact e.symm)⟩
  · obtain ⟨d, hR⟩ := rn_succ (n := n) (col := col) (p := col (h / 4)) (c := h / 4) ⟨hc, .inl rfl⟩
    exact ⟨_, _, d, hR, hcol.2, .inl (by unfold upH; rw [if_pos rfl]; exact e.symm)⟩
  · obtain ⟨d, hR⟩ := rn_succ (n := n) (col := col) (p := col (h / 4) - 1) (c := h / 4) ⟨hc, .inr (by omega)⟩
    exact ⟨_, _, d, hR, by omega, .inl (by unfold upH; rw [if_neg (by omega)]; exact e.symm)⟩
  · obtain ⟨c, hR⟩ := rn_pred (n := n) (col := col) (p := col (h / 4) - 1) (d := h / 4) ⟨hc, .inr (by omega)⟩
    exact ⟨_, c, _, hR, by omega, .inr (by unfold lowH; rw [if_neg (by omega)]; exact e.symm)⟩
theorem BrC.up_out {p c : Nat} (h : Tch n col p c) : upH sg col p c < mt.length ∧ outB sg (upH sg col p c) = true ∧ upH sg col p c / 4 = c := by
  unfold upH
  refine ⟨by rw [B.hm]; exact he_lt h.1 _, ?_, he_div _ _⟩
  rw [he_out B.hs B.hS h.1 (by split <;> omega)]
  split <;> rfl
theorem BrC.low_in {p c : Nat} (h : Tch n col p c) : lowH sg col p c < mt.length ∧ outB sg (lowH sg col p c) = false ∧ lowH sg col p c / 4 = c := by
  unfold lowH
  refine ⟨by rw [B.hm]; exact he_lt h.1 _, ?_, he_div _ _⟩
  rw [he_out B.hs B.hS h.1 (by split <;> omega)]
  split <;> rfl
theorem BrC.inv : InvM mt := by
  intro h hh
  obtain ⟨p, c, d, hR, hp, hor⟩ := B.ends hh
  obtain ⟨u1, u2, -⟩ := B.up_out hR.1
  obtain ⟨l1, l2, -⟩ := B.low_in hR.2.1
  obtain ⟨m1, m2⟩ := B.hM _ _ _ hR
  obtain ⟨g1, g2⟩ := B.mate hR
  have hne : upH sg col p c ≠ lowH sg col p d := fun e => by rw [e, l2] at u2; cases u2
  rcases hor with rfl | rfl
  · rw [m1, g1, m2]
    exact ⟨by omega, by omega, fun e => hne (by omega), rfl⟩
  · rw [m2, g2, m1]
    exact ⟨by omega, by omega, fun e => hne (by omega), rfl⟩
theorem BrC.outM : OutM sg mt := by
  intro h hh
  obtain ⟨p, c, d, hR, hp, hor⟩ := B.ends hh
  obtain ⟨u1, u2, -⟩ := B.up_out hR.1
  obtain ⟨l1, l2, -⟩ := B.low_in hR.2.1
  obtain ⟨g1, g2⟩ := B.mate hR
  rcases hor with rfl | rfl
  · rw [g1, u2, l2]; decide
  · rw [g2, u2, l2]; decide
/-! ### faces by labels -/
omit B in
theorem role_up (p c : Nat) : role sg (upH sg col p c) = if col c = p then 1 else 2 := by unfold upH; exact role_he (by split <;> omega)
omit B in
theorem role_low (p c : Nat) : role sg (lowH sg col p c) = if col c = p then 0 else 3 := by unfold lowH; exact role_he (by split <;> omega)
end
def lamR (n : Nat) (col : Nat → Nat) (c r : Nat) : Nat :=
  if r = 0 then (if nx n col (col c + 1) c < n then nx n col (col c + 1) c else n + 1) else if r = 1 then nx n col (col c) (c + 1) else if r = 2 then nx n col (col c - 1) c else c
def lamH (n : Nat) (col : Nat → Nat) (sg : List Int) (h : Nat) : Nat := lamR n col (h / 4) (role sg h)
theorem lamH_he (n : Nat) (col : Nat → Nat) (sg : List Int) (c : Nat) {r : Nat} (hr : r < 4) : lamH n col sg (he sg c r) = lamR n col c r := by
  unfold lamH
  rw [he_div, role_he hr]
section
variable {n m : Nat} {col : Nat → Nat} {sg mt : List Int} (B : BrC n m col sg mt)
include B
theorem BrC.lam {h : Nat} (hh : h < mt.length) : lamH n col sg (nxF mt h) = lamH n col sg h := by
  obtain ⟨p, c, d, hR, hp, hor⟩ := B.ends hh
  obtain ⟨g1, g2⟩ := B.mate hR
  have tc := hR.1
  have td := hR.2.1
  have cc := B.hc c tc.1
  have cd := B.hc d td.1
  have n0 := nx_rn hR (j := p) (.inl rfl)
  have n1 := nx_rn hR (j := p + 1) (.inr rfl)
  unfold nxF
  rcases hor with rfl | rfl
  · rw [g1]
    unfold lowH upH
    rw [he_turn, lamH_he _ _ _ _ (by omega), lamH_he _ _ _ _ (by split <;> omega)]
    by_cases ec : col c = p <;> by_cases ed : col d = p
    · rw [if_pos ec, if_pos ed]
      show d = nx n col (col c) (c + 1)
      rw [ec, n0, nx_hit td.1 ed]
    · have ed' : col d = p + 1 := td.2.resolve_left ed
      rw [if_pos ec, if_neg ed]
      show nx n col (col d - 1) d = nx n col (col c) (c + 1)
      rw [ec, n0, ed']
      rfl
    · have ec' : col c = p + 1 := tc.2.resolve_left ec
      rw [if_neg ec, if_pos ed]
      show d = nx n col (col c - 1) c
      rw [ec', show p + 1 - 1 = p from rfl, nx_skip tc.1 ec, n0, nx_hit td.1 ed]
    · have ec' : col c = p + 1 := tc.2.resolve_left ec
      have ed' : col d = p + 1 := td.2.resolve_left ed
      rw [if_neg ec, if_neg ed]
      show nx n col (col d - 1) d = nx n col (col c - 1) c
      rw [ec', ed', show p + 1 - 1 = p from rfl, nx_skip tc.1 ec, n0]
  · rw [g2]
    unfold lowH upH
    rw [he_turn, lamH_he _ _ _ _ (by omega), lamH_he _ _ _ _ (by split <;> omega)]
    by_cases ec : col c = p <;> by_cases ed : col d = p
    · rw [if_pos ec, if_pos ed]
      show (if nx n col (col c + 1) c < n then nx n col (col c + 1) c else n + 1) = if nx n col (col d + 1) d < n then nx n col (col d + 1) d else n + 1
      rw [ec, ed, nx_skip tc.1 (by omega), n1]
    · have ed' : col d = p + 1 := td.2.resolve_left ed
      rw [if_pos ec, if_neg ed]
      show (if nx n col (col c + 1) c < n then nx n col (col c + 1) c else n + 1) = d
      rw [ec, nx_skip tc.1 (by omega), n1, nx_hit td.1 ed', if_pos td.1]
    · have ec' : col c = p + 1 := tc.2.resolve_left ec
      rw [if_neg ec, if_pos ed]
      show nx n col (col c) (c + 1) = if nx n col (col d + 1) d < n then nx n col (col d + 1) d else n + 1
      rw [ec', ed, n1, if_pos (nx_lt tc.1 ec' d)]
    · have ec' : col c = p + 1 := tc.2.resolve_left ec
      have ed' : col d = p + 1 := td.2.resolve_left ed
      rw [if_neg ec, if_neg ed]
      show nx n col (col c) (c + 1) = d
      rw [ec', n1, nx_hit td.1 ed']
/-- letters at one position are joined -/
theorem BrC.joined {p c d : Nat} (hc : Tch n col p c) (hd : Tch n col p d) : Cn mt c d := by
  have hI := B.inv
  obtain ⟨f, hf, hl⟩ := least_of (P := fun e => Tch n col p e) hc
  have key : ∀ k e, e ≤ k → Tch n col p e → Cn mt f e := by
    intro k
    induction k with
    | zero =>
      intro e he te
      have := hl e te
      obtain rfl : f = e := by omega
      exact .refl
    | succ k ih =>
      intro e he te
      by_cases h0 : e = f
      · subst h0; exact .refl
      · have hfe := hl e te
        obtain ⟨c, h1, h2, h3⟩ := greatest e ⟨f, by omega, hf⟩
        have hR : Rn n col p c e := ⟨h2, te, .inl ⟨h1, h3⟩⟩
        have i1 := ih c (by omega) h2
        obtain ⟨u1, -, u3⟩ := B.up_out h2
        obtain ⟨-, -, l3⟩ := B.low_in te
        have i2 := Cn.one (mt := mt) u1
        rw [(B.mate hR).1, u3, l3] at i2
        exact i1.trans i2
  exact ((key c c (Nat.le_refl _) hc).symm hI).trans (key d d (Nat.le_refl _) hd)
theorem BrC.sph : Sph mt n := by
  have hI := B.inv
  have hF := nxF_perm hI B.hm
  refine sph_of_lower hI B.hm fun r hr hrl => ?_
  have lab : ∀ {c d : Nat}, c < n → Cn mt c d → labAt mt n c = labAt mt n d := fun hc h => lab_eq_of_cn hI B.hm hc h
  -- the outermost letters of the component
  obtain ⟨cl, ⟨hcl1, hcl2⟩, hcl3⟩ : ∃ c, (c < n ∧ labAt mt n c = r) ∧ ∀ d, d < n → labAt mt n d = r → col c ≤ col d := by
    obtain ⟨j, ⟨c, hc, rfl⟩, hj⟩ := least_of (P := fun j => ∃ c, (c < n ∧ labAt mt n c = r) ∧ col c = j) ⟨r, ⟨hr, hrl⟩, rfl⟩
    exact ⟨c, hc, fun d hd hdl => hj _ ⟨d, ⟨hd, hdl⟩, rfl⟩⟩
  obtain ⟨cr, ⟨hcr1, hcr2⟩, hcr3⟩ : ∃ c, (c < n ∧ labAt mt n c = r) ∧ ∀ d, d < n → labAt mt n d = r → col d ≤ col c := by
    obtain ⟨j, ⟨c, hc, rfl⟩, hj⟩ := least_of (P := fun j => ∃ c, (c < n ∧ labAt mt n c = r) ∧ m - col c = j) ⟨r, ⟨hr, hrl⟩, rfl⟩
    refine ⟨c, hc, fun d hd hdl => ?_⟩
    have h1 := hj _ ⟨d, ⟨hd, hdl⟩, rfl⟩
    have h2 := B.hc d hd
    have h3 := B.hc c hc.1
    omega
  have nl : ∀ e, e < n → col e ≠ col cl - 1 := fun e he h => by
    have h1 := B.hc cl hcl1
    have j := B.joined (p := col cl - 1) (c := e) (d := cl) ⟨he, .inl h⟩ ⟨hcl1, .inr (by omega)⟩
    have := hcl3 e he ((lab he j).trans hcl2)
    omega
  have nr : ∀ e, e < n → col e ≠ col cr + 1 := fun e he h => by
    have j := B.joined (p := col cr) (c := e) (d := cr) ⟨he, .inr h⟩ ⟨hcr1, .inl rfl⟩
    have := hcr3 e he ((lab he j).trans hcr2)
    omega
  -- the half-edges that the labels are taken from
  obtain ⟨hk, hk1, hk2, hk3⟩ : ∃ hk : Nat → Nat, (∀ k, k < n → hk k = he sg k 3) ∧ hk n = he sg cl 2 ∧ hk (n + 1) = he sg cr 0 :=
    ⟨fun k => if k < n then he sg k 3 else if k = n then he sg cl 2 else he sg cr 0, fun k hk => if_pos hk, by simp, by simp; omega⟩
  have hkl : ∀ k, k < n + 2 → hk k < mt.length ∧ lamH n col sg (hk k) = k ∧ (¬ (k < n ∧ labAt mt n k ≠ r) → labAt mt n (hk k / 4) = r) := by
    intro k h
    have hcase : k < n ∨ k = n ∨ k = n + 1 := by omega
    rcases hcase with h | rfl | rfl
    · rw [hk1 k h, lamH_he _ _ _ _ (by decide), he_div, B.hm]
      exact ⟨he_lt h _, rfl, fun h' => by
        by_cases e : labAt mt n k = r
        · exact e
        · exact absurd ⟨h, e⟩ h'⟩
    · rw [hk2, lamH_he _ _ _ _ (by decide), he_div, B.hm]
      refine ⟨he_lt hcl1 _, ?_, fun _ => hcl2⟩
      show nx k col (col cl - 1) cl = k
      exact nx_none (Nat.le_of_lt hcl1) nl
    · rw [hk3, lamH_he _ _ _ _ (by decide), he_div, B.hm]
      refine ⟨he_lt hcr1 _, ?_, fun _ => hcr2⟩
      show (if nx n col (col cr + 1) cr < n then nx n col (col cr + 1) cr else n + 1) = n + 1
      rw [nx_none (Nat.le_of_lt hcr1) nr, if_neg (Nat.lt_irrefl n)]
  have along : ∀ k {h : Nat}, h < mt.length → lamH n col sg (it (nxF mt) k h) = lamH n col sg h ∧ labAt mt n (it (nxF mt) k h / 4) = labAt mt n (h / 4) := by
    intro k
    induction k with
    | zero => intro h _; exact ⟨rfl, rfl⟩
    | succ k ih =>
      intro h hh
      obtain ⟨i1, i2⟩ := ih hh
      have hl := hF.it_lt k hh
      show lamH n col sg (nxF mt (it (nxF mt) k h)) = _ ∧ labAt mt n (nxF mt (it (nxF mt) k h) / 4) = _
      refine ⟨(B.lam hl).trans i1, ?_⟩
      unfold nxF
      rw [turnN_div]
      exact (lab_mate hI B.hm hl).symm.trans i2
  have lst : ∀ {h : Nat}, h < mt.length → lstN (nxF mt) mt.length h < mt.length ∧ lstB (nxF mt) mt.length (lstN (nxF mt) mt.length h) = true ∧ lamH n col sg (lstN (nxF mt) mt.length h) = lamH n col sg h ∧ labAt mt n (lstN (nxF mt) mt.length h / 4) = labAt mt n (h / 4) := by
    intro h hh
    obtain ⟨s1, -⟩ := lstN_spec hF hh
    obtain ⟨k, e⟩ := (mem_cyc hF hh).1 s1
    obtain ⟨a1, a2⟩ := along k hh
    rw [e] at a1 a2
    exact ⟨cyc_lt hF hh s1, lstN_lstB hF hh, a1, a2⟩
  have hA : cnt (fun k => decide (¬ (k < n ∧ labAt mt n k ≠ r))) (n + 2) = cnt (fun c => decide (labAt mt n c = r)) n + 2 := by
    rw [cnt_succ, cnt_succ, if_pos (by simp), if_pos (by simp), cnt_congr (Q := fun c => decide (labAt mt n c = r)) fun c hc => by simp [hc]]
  rw [← hA]
  refine cnt_inj (fun k => lstN (nxF mt) mt.length (hk k)) (fun k h1 h2 => ?_) fun x y hx hy _ _ e => ?_
  · obtain ⟨a1, a2, a3⟩ := hkl k h1
    obtain ⟨b1, b2, b3, b4⟩ := lst a1
    refine ⟨b1, ?_⟩
    rw [Bool.and_eq_true]
    exact ⟨b2, decide_eq_true (b4.trans (a3 (of_decide_eq_true h2)))⟩
  · obtain ⟨a1, a2, -⟩ := hkl x hx
    obtain ⟨c1, c2, -⟩ := hkl y hy
    have b3 := (lst a1).2.2.1
    have d3 := (lst c1).2.2.1
    have e' : lstN (nxF mt) mt.length (hk x) = lstN (nxF mt) mt.length (hk y) := e
    rw [e', d3, a2, c2] at b3
    exact b3.symm
theorem BrC.isD {L : Int} (h64 : n ≤ 64) (hL : 0 ≤ L ∧ L ≤ 64) : IsD sg mt L := by
  have h1 := B.hs
  exact ⟨by omega, by rw [h1]; exact B.hm, hL.1, hL.2, B.hS, B.inv, B.outM, by rw [h1]; exact B.sph⟩
end
end Go.Proofs.Ytaghemilihaiaaa
namespace Go.Proofs.Ytaghemilihaiaaa

/-- the position of a half-edge, and the column of its face -/
def posR (col : Nat → Nat) (c r : Nat) : Nat := if r = 0 ∨ r = 1 then col c else col c - 1
def posH (col : Nat → Nat) (sg : List Int) (h : Nat) : Nat := posR col (h / 4) (role sg h)
theorem posH_he (col : Nat → Nat) (sg : List Int) (c : Nat) {r : Nat} (hr : r < 4) : posH col sg (he sg c r) = posR col c r := by
  unfold posH
  rw [he_div, role_he hr]
theorem posH_up {n : Nat} {col : Nat → Nat} {sg : List Int} {p c : Nat} (h : Tch n col p c) : posH col sg (upH sg col p c) = p := by
  unfold upH
  rw [posH_he _ _ _ (by split <;> omega)]
  by_cases e : col c = p
  · rw [if_pos e]; exact e
  · rw [if_neg e]
    have := h.2.resolve_left e
    show col c - 1 = p
    omega
theorem posH_low {n : Nat} {col : Nat → Nat} {sg : List Int} {p c : Nat} (h : Tch n col p c) : posH col sg (lowH sg col p c) = p := by
  unfold lowH
  rw [posH_he _ _ _ (by split <;> omega)]
  by_cases e : col c = p
  · rw [if_pos e]; exact e
  · rw [if_neg e]
    have := h.2.resolve_left e
    show col c - 1 = p
    omega
/-- a position with a letter -/
def tB (n : Nat) (col : Nat → Nat) (p : Nat) : Bool := (List.range n).any fun c => decide (col c = p ∨ col c = p + 1)
theorem tB_iff {n : Nat} {col : Nat → Nat} {p : Nat} : tB n col p = true ↔ ∃ c, Tch n col p c := by
  unfold tB
  rw [List.any_eq_true]
  constructor
  · rintro ⟨c, h1, h2⟩
    exact ⟨c, List.mem_range.1 h1, of_decide_eq_true h2⟩
  · rintro ⟨c, h1, h2⟩
    exact ⟨c, List.mem_range.2 h1, decide_eq_true h2⟩
section
variable {n m : Nat} {col : Nat → Nat} {sg mt : List Int} (B : BrC n m col sg mt)
include B
/-- an outgoing half-edge leads up at its position, to the next letter -/
theorem BrC.outs {h : Nat} (hh : h < mt.length) (ho : outB sg h = true) : ∃ p c, Tch n col p c ∧ p < m ∧ h = upH sg col p c ∧ posH col sg h = p := by
  obtain ⟨p, c, d, hR, hp, hor⟩ := B.ends hh
  rcases hor with rfl | rfl
  · exact ⟨p, c, hR.1, hp, rfl, posH_up hR.1⟩
  · rw [(B.low_in hR.2.1).2.1] at ho; cases ho
theorem BrC.nxC {p c d : Nat} (h : Rn n col p c d) : nxC sg mt (upH sg col p c) = upH sg col p d := by
  obtain ⟨u1, u2, -⟩ := B.up_out h.1
  have td := h.2.1
  have hd : d < sg.length := by rw [B.hs]; exact td.1
  unfold Go.Proofs.Ytaghemilihaiaaa.nxC
  rw [if_pos u2]
  unfold nxR
  rw [(B.mate h).1, (B.low_in td).2.2]
  have e2 : eps sg d = if gi sg d = 1 then 0 else 1 := rfl
  by_cases ed : col d = p
  · have l : lowH sg col p d = 4 * d + (0 + eps sg d) % 4 := by unfold lowH he; rw [if_pos ed]
    have u : upH sg col p d = 4 * d + (1 + eps sg d) % 4 := by unfold upH he; rw [if_pos ed]
    rw [l, u]
    unfold overN
    rcases B.hS d hd with e | e
    · rw [if_pos e] at e2
      rw [e2, if_pos e, if_pos (by omega)]
    · rw [if_neg (by omega)] at e2
      rw [e2, if_neg (by omega)]; omega
  · have l : lowH sg col p d = 4 * d + (3 + eps sg d) % 4 := by unfold lowH he; rw [if_neg ed]
    have u : upH sg col p d = 4 * d + (2 + eps sg d) % 4 := by unfold upH he; rw [if_neg ed]
    rw [l, u]
    unfold overN
    rcases B.hS d hd with e | e
    · rw [if_pos e] at e2
      rw [e2, if_neg (by omega)]; omega
    · rw [if_neg (by omega)] at e2
      rw [e2, if_pos (by omega), if_neg (by omega)]
theorem BrC.reach {p f : Nat} (hf : Tch n col p f) (hl : ∀ e, Tch n col p e → f ≤ e) : ∀ k e, e ≤ k → Tch n col p e → ∃ j, it (Go.Proofs.Ytaghemilihaiaaa.nxC sg mt) j (upH sg col p f) = upH sg col p e := by
  intro k
  induction k with
  | zero =>
    intro e he te
    have := hl e te
    obtain rfl : f = e := by omega
    exact ⟨0, rfl⟩
  | succ k ih =>
    intro e he te
    by_cases h0 : e = f
    · subst h0; exact ⟨0, rfl⟩
    · have hfe := hl e te
      obtain ⟨c, h1, h2, h3⟩ := greatest e ⟨f, by omega, hf⟩
      have hR : Rn n col p c e := ⟨h2, te, .inl ⟨h1, h3⟩⟩
      obtain ⟨j, hj⟩ := ih c (by omega) h2
      refine ⟨j + 1, ?_⟩
      show Go.Proofs.Ytaghemilihaiaaa.nxC sg mt (it (Go.Proofs.Ytaghemilihaiaaa.nxC sg mt) j _) = _
      rw [hj]
      exact B.nxC hR
variable {L : Int} (hd : IsD sg mt L)
include hd
/-- one circle at each position -/
theorem BrC.same {p c d : Nat} (hc : Tch n col p c) (hd' : Tch n col p d) : upH sg col p d ∈ cyc (Go.Proofs.Ytaghemilihaiaaa.nxC sg mt) mt.length (upH sg col p c) := by
  have hP := nxC_perm hd
  obtain ⟨f, hf, hl⟩ := least_of (P := fun e => Tch n col p e) hc
  obtain ⟨u1, -, -⟩ := B.up_out hf
  obtain ⟨i, hi⟩ := B.reach hf hl c c (Nat.le_refl _) hc
  obtain ⟨j, hj⟩ := B.reach hf hl d d (Nat.le_refl _) hd'
  have m1 := (mem_cyc hP u1).2 ⟨i, hi⟩
  have m2 := (mem_cyc hP u1).2 ⟨j, hj⟩
  exact mem_trans hP (B.up_out hc).1 (mem_symm hP u1 m1) m2
theorem BrC.pos_it {h : Nat} (hh : h < mt.length) (ho : outB sg h = true) : ∀ k, posH col sg (it (Go.Proofs.Ytaghemilihaiaaa.nxC sg mt) k h) = posH col sg h ∧ outB sg (it (Go.Proofs.Ytaghemilihaiaaa.nxC sg mt) k h) = true := by
  intro k
  induction k with
  | zero => exact ⟨rfl, ho⟩
  | succ k ih =>
    have hl := (nxC_perm hd).it_lt k hh
    obtain ⟨p, c, tc, -, e, ep⟩ := B.outs hl ih.2
    obtain ⟨d, hR⟩ := rn_succ tc
    show posH col sg (Go.Proofs.Ytaghemilihaiaaa.nxC sg mt (it (Go.Proofs.Ytaghemilihaiaaa.nxC sg mt) k h)) = _ ∧ outB sg (Go.Proofs.Ytaghemilihaiaaa.nxC sg mt (it (Go.Proofs.Ytaghemilihaiaaa.nxC sg mt) k h)) = true
    have e2 : Go.Proofs.Ytaghemilihaiaaa.nxC sg mt (it (Go.Proofs.Ytaghemilihaiaaa.nxC sg mt) k h) = upH sg col p d := by rw [e]; exact B.nxC hR
    rw [e2, posH_up hR.2.1]
    exact ⟨ep.symm.trans ih.1, (B.up_out hR.2.1).2.1⟩
theorem BrC.circles : (circL sg mt).length = cnt (tB n col) m := by
  have hP := nxC_perm hd
  rw [circ_len]
  refine Nat.le_antisymm ?_ ?_
  · refine cnt_inj (posH col sg) (fun x hx hax => ?_) fun x y hx hy hax hay e => ?_
    · rw [Bool.and_eq_true] at hax
      obtain ⟨p, c, tc, hp, -, ep⟩ := B.outs hx hax.1
      rw [ep]
      exact ⟨hp, tB_iff.2 ⟨c, tc⟩⟩
    · rw [Bool.and_eq_true] at hax hay
      obtain ⟨p, c, tc, -, ec, ep⟩ := B.outs hx hax.1
      obtain ⟨q, d, td, -, ed, eq⟩ := B.outs hy hay.1
      rw [ep, eq] at e
      subst e
      have m1 := B.same hd tc td
      have m2 := B.same hd td tc
      rw [← ec, ← ed] at m1 m2
      have l1 := lstB_iff.1 hax.2 _ m1
      have l2 := lstB_iff.1 hay.2 _ m2
      omega
  · have hex : ∀ p, ∃ c, Tch n col p c ∨ tB n col p = false := fun p => by
      cases h : tB n col p
      · exact ⟨0, .inr rfl⟩
      · obtain ⟨c, hc⟩ := tB_iff.1 h
        exact ⟨c, .inl hc⟩
    obtain ⟨F, hF⟩ := Classical.axiomOfChoice hex
    have at_ : ∀ p, tB n col p = true → Tch n col p (F p) := fun p h => (hF p).elim id fun h' => by rw [h] at h'; cases h'
    have lst : ∀ p, tB n col p = true → lstN (Go.Proofs.Ytaghemilihaiaaa.nxC sg mt) mt.length (upH sg col p (F p)) < mt.length ∧ outB sg (lstN (Go.Proofs.Ytaghemilihaiaaa.nxC sg mt) mt.length (upH sg col p (F p))) = true ∧ lstB (Go.Proofs.Ytaghemilihaiaaa.nxC sg mt) mt.length (lstN (Go.Proofs.Ytaghemilihaiaaa.nxC sg mt) mt.length (upH sg col p (F p))) = true ∧ posH col sg (lstN (Go.Proofs.Ytaghemilihaiaaa.nxC sg mt) mt.length (upH sg col p (F p))) = p := fun p h => by
      obtain ⟨u1, u2, -⟩ := B.up_out (at_ p h)
      obtain ⟨s1, -⟩ := lstN_spec hP u1
      obtain ⟨k, e⟩ := (mem_cyc hP u1).1 s1
      obtain ⟨i1, i2⟩ := B.pos_it hd u1 u2 k
      rw [e] at i1 i2
      exact ⟨cyc_lt hP u1 s1, i2, lstN_lstB hP u1, i1.trans (posH_up (at_ p h))⟩
    refine cnt_inj (fun p => lstN (Go.Proofs.Ytaghemilihaiaaa.nxC sg mt) mt.length (upH sg col p (F p))) (fun p _ ht => ?_) fun p q _ _ hp hq e => ?_
    · obtain ⟨a1, a2, a3, -⟩ := lst p ht
      refine ⟨a1, ?_⟩
      rw [Bool.and_eq_true]
      exact ⟨a2, a3⟩
    · have a := (lst p hp).2.2.2
      have b := (lst q hq).2.2.2
      have e' : lstN (Go.Proofs.Ytaghemilihaiaaa.nxC sg mt) mt.length (upH sg col p (F p)) = lstN (Go.Proofs.Ytaghemilihaiaaa.nxC sg mt) mt.length (upH sg col q (F q)) := e
      rw [e', b] at a
      exact a.symm
omit hd in
/-- the column of a face -/
theorem BrC.face {h : Nat} (hh : h < mt.length) : posH col sg (nxF mt h) + (if outB sg (nxF mt h) = true then 0 else 1) = posH col sg h + if outB sg h = true then 0 else 1 := by
  obtain ⟨p, c, d, hR, hp, hor⟩ := B.ends hh
  obtain ⟨g1, g2⟩ := B.mate hR
  have tc := hR.1
  have td := hR.2.1
  have cc := B.hc c tc.1
  have cd := B.hc d td.1
  unfold nxF
  rcases hor with rfl | rfl
  · rw [(B.up_out tc).2.1, posH_up tc, g1]
    unfold lowH
    rw [he_turn, posH_he _ _ _ (by omega), he_out B.hs B.hS td.1 (by omega)]
    by_cases ed : col d = p
    · rw [if_pos ed]
      show col d - 1 + 1 = p + 0
      omega
    · have := td.2.resolve_left ed
      rw [if_neg ed]
      show col d - 1 + 0 = p + 0
      omega
  · rw [(B.low_in td).2.1, posH_low td, g2]
    unfold upH
    rw [he_turn, posH_he _ _ _ (by omega), he_out B.hs B.hS tc.1 (by omega)]
    by_cases ec : col c = p
    · rw [if_pos ec]
      show col c + 1 = p + 1
      omega
    · have := tc.2.resolve_left ec
      rw [if_neg ec]
      show col c + 0 = p + 1
      omega
theorem BrC.coherent {h k : Nat} (hh : h < mt.length) (hk : k < mt.length) : incB sg mt h k = false := by
  have hI := B.inv
  have hF := nxF_perm hI B.hm
  have hP := nxC_perm hd
  rw [Bool.eq_false_iff]
  intro hi
  unfold incB at hi
  rw [Bool.and_eq_true, Bool.and_eq_true, decide_eq_true_eq, decide_eq_true_eq, beq_iff_eq] at hi
  obtain ⟨⟨h1, h2⟩, h3⟩ := hi
  refine h3 ?_
  obtain ⟨j, hj⟩ := (mem_cyc hF hh).1 h1
  have along : ∀ i, posH col sg (it (nxF mt) i h) + (if outB sg (it (nxF mt) i h) = true then 0 else 1) = posH col sg h + if outB sg h = true then 0 else 1 := by
    intro i
    induction i with
    | zero => rfl
    | succ i ih => exact (B.face (hF.it_lt i hh)).trans ih
  have e := along j
  rw [hj, ← h2] at e
  have e : posH col sg k = posH col sg h := Nat.add_right_cancel e
  have pend : ∀ {x : Nat}, x < mt.length → posH col sg (outEnd sg mt x) = posH col sg x := fun {x} hx => by
    unfold outEnd
    by_cases ho : outB sg x = true
    · rw [if_pos ho]
    · rw [if_neg ho]
      obtain ⟨p, c, d, hR, hp, hor⟩ := B.ends hx
      rcases hor with rfl | rfl
      · exact absurd (B.up_out hR.1).2.1 ho
      · rw [(B.mate hR).2, posH_up hR.1, posH_low hR.2.1]
  obtain ⟨a1, a2⟩ := outEnd_ok hd hh
  obtain ⟨b1, b2⟩ := outEnd_ok hd hk
  obtain ⟨p, c, tc, -, ec, ep⟩ := B.outs a1 a2
  obtain ⟨q, d, td, -, ed, eq⟩ := B.outs b1 b2
  have hpq : q = p := by rw [← eq, ← ep, pend hh, pend hk, e]
  subst hpq
  have hm := B.same hd tc td
  unfold ceN numN
  rw [ed, ec, lstN_same hP (B.up_out tc).1 hm]
theorem BrC.inc : ∀ k, k ≤ mt.length → incL sg mt k = [] := by
  have hr : ∀ h, h < mt.length → ∀ k, k ≤ mt.length → incR sg mt h k = [] := by
    intro h hh k
    induction k with
    | zero => intro _; rfl
    | succ k ih =>
      intro hk
      unfold incR
      rw [ih (by omega), if_neg fun hx => by rw [B.coherent hd hh (by omega)] at hx; cases hx.2]
      rfl
  intro k
  induction k with
  | zero => intro _; rfl
  | succ k ih =>
    intro hk
    unfold incL
    rw [ih (by omega), hr k (by omega) _ (Nat.le_refl _)]
    rfl
end
end Go.Proofs.Ytaghemilihaiaaa
namespace Go.Proofs.Ytaghemilihaiaaa

/-- the rows: the half-edges that lead up, those at the bottom, the mates -/
structure BrT where
  u : List Int
  d : List Int
  m : List Int
def entB (s : BrT) (a h : Nat) : BrT := if gi s.u a < 0 then ⟨s.u, s.d.set a (h : Int), s.m⟩ else ⟨s.u, s.d, (s.m.set (gn s.u a) (h : Int)).set h (gi s.u a)⟩
def leadB (s : BrT) (a x y : Nat) : BrT := ⟨(s.u.set a (x : Int)).set (a + 1) (y : Int), s.d, s.m⟩
def stepB (sg : List Int) (col : Nat → Nat) (s : BrT) (k : Nat) : BrT :=
  leadB (entB (entB s (col k - 1) (he sg k 3)) (col k - 1 + 1) (he sg k 0)) (col k - 1) (he sg k 2) (he sg k 1)
def stB (n m : Nat) (col : Nat → Nat) (sg : List Int) : Nat → BrT
  | 0 => ⟨List.replicate m (-1), List.replicate m (-1), List.replicate (4 * n) 0⟩
  | k + 1 => stepB sg col (stB n m col sg k) k
/-- the mates when the positions below k are closed -/
def clM (s : BrT) : Nat → List Int
  | 0 => s.m
  | k + 1 => if gi s.u k < 0 then clM s k else ((clM s k).set (gn s.u k) (gi s.d k)).set (gn s.d k) (gi s.u k)
def loM (s : BrT) (k : Nat) : Nat := cnt (fun p => decide (gi s.u p < 0)) k

theorem upH_inj {n : Nat} {col : Nat → Nat} {sg : List Int} {p q c d : Nat} (h1 : Tch n col p c) (h2 : Tch n col q d) (h : upH sg col p c = upH sg col q d) : p = q ∧ c = d := by
  unfold upH at h
  obtain ⟨e, hr⟩ := he_inj (by split <;> omega) (by split <;> omega) h
  subst e
  refine ⟨?_, rfl⟩
  have a1 := h1.2
  have a2 := h2.2
  split at hr <;> split at hr <;> omega
theorem lowH_inj {n : Nat} {col : Nat → Nat} {sg : List Int} {p q c d : Nat} (h1 : Tch n col p c) (h2 : Tch n col q d) (h : lowH sg col p c = lowH sg col q d) : p = q ∧ c = d := by
  unfold lowH at h
  obtain ⟨e, hr⟩ := he_inj (by split <;> omega) (by split <;> omega) h
  subst e
  refine ⟨?_, rfl⟩
  have a1 := h1.2
  have a2 := h2.2
  split at hr <;> split at hr <;> omega
theorem up_low {col : Nat → Nat} {sg : List Int} {p q c d : Nat} : upH sg col p c ≠ lowH sg col q d := by
  unfold upH lowH
  intro h
  obtain ⟨-, hr⟩ := he_inj (by split <;> omega) (by split <;> omega) h
  split at hr <;> split at hr <;> omega
theorem upH_lt {n : Nat} {col : Nat → Nat} {sg : List Int} {p c : Nat} (h : Tch n col p c) : upH sg col p c < 4 * n := he_lt h.1 _
theorem lowH_lt {n : Nat} {col : Nat → Nat} {sg : List Int} {p c : Nat} (h : Tch n col p c) : lowH sg col p c < 4 * n := he_lt h.1 _

/-- the rows when the letters below k are laid, and of the letter k those at the positions of D -/
structure BrI (n m : Nat) (col : Nat → Nat) (sg : List Int) (k : Nat) (D : Nat → Prop) (s : BrT) : Prop where
  lu : s.u.length = m
  ld : s.d.length = m
  lm : s.m.length = 4 * n
  a : ∀ p, p < m → (gi s.u p = -1 ∧ (∀ c, c < k → ¬ Tch n col p c) ∧ (D p → gi s.d p = lowH sg col p k)) ∨
    ∃ f l, f ≤ l ∧ l < k ∧ Tch n col p f ∧ Tch n col p l ∧ (∀ e, e < f → ¬ Tch n col p e) ∧ (∀ e, l < e → e < k → ¬ Tch n col p e) ∧ gi s.u p = (upH sg col p l : Int) ∧ gi s.d p = (lowH sg col p f : Int)
  b : ∀ p c e, Tch n col p c → Tch n col p e → c < e → (∀ g, c < g → g < e → ¬ Tch n col p g) → (e < k ∨ (e = k ∧ D p)) → gi s.m (upH sg col p c) = (lowH sg col p e : Int) ∧ gi s.m (lowH sg col p e) = (upH sg col p c : Int)
section
variable {n m : Nat} {col : Nat → Nat} {sg : List Int}
theorem BrI.start : BrI n m col sg 0 (fun _ => False) (stB n m col sg 0) := by
  refine ⟨List.length_replicate, List.length_replicate, List.length_replicate, fun p hp => .inl ⟨gi_replicate hp, fun c hc => absurd hc (Nat.not_lt_zero c), fun h => h.elim⟩, fun p c e _ _ _ _ h => ?_⟩
  rcases h with h | h
  · exact absurd h (Nat.not_lt_zero e)
  · exact h.2.elim
theorem BrI.enter {k : Nat} {D : Nat → Prop} {s : BrT} (H : BrI n m col sg k D s) {p : Nat} (hp : p < m) (hk : Tch n col p k) : BrI n m col sg k (fun q => D q ∨ q = p) (entB s p (lowH sg col p k)) := by
  unfold entB
  rcases H.a p hp with ⟨hu, hno, -⟩ | ⟨f, l, hfl, hlk, tf, tl, n1, n2, hu, hd⟩
  · rw [if_pos (by omega)]
    refine ⟨H.lu, by rw [List.length_set]; exact H.ld, H.lm, fun q hq => ?_, fun q c e hc he hce hno2 hor => ?_⟩
    · by_cases e : q = p
      · subst e
        exact .inl ⟨hu, hno, fun _ => by show gi (s.d.set q _) q = _; rw [gi_set (by rw [H.ld]; exact hp), if_pos rfl]⟩
      · have e2 : gi (s.d.set p (lowH sg col p k : Int)) q = gi s.d q := by rw [gi_set (by rw [H.ld]; exact hp), if_neg e]
        rcases H.a q hq with ⟨x1, x2, x3⟩ | ⟨f, l, x1, x2, x3, x4, x5, x6, x7, x8⟩
        · exact .inl ⟨x1, x2, fun h => e2.trans (x3 (h.resolve_right e))⟩
        · exact .inr ⟨f, l, x1, x2, x3, x4, x5, x6, x7, e2.trans x8⟩
    · rcases hor with h | ⟨rfl, h | rfl⟩
      · exact H.b q c e hc he hce hno2 (.inl h)
      · exact H.b q c e hc he hce hno2 (.inr ⟨rfl, h⟩)
      · exact absurd hc (hno c hce)
  · rw [if_neg (by omega)]
    have hg : gn s.u p = upH sg col p l := by unfold gn; rw [hu]; rfl
    rw [hg, hu]
    have lu := upH_lt (sg := sg) tl
    have ll := lowH_lt (sg := sg) hk
    have hlen : (s.m.set (upH sg col p l) (lowH sg col p k : Int)).length = 4 * n := by rw [List.length_set]; exact H.lm
    have val : ∀ x, gi ((s.m.set (upH sg col p l) (lowH sg col p k : Int)).set (lowH sg col p k) (upH sg col p l : Int)) x = if x = lowH sg col p k then (upH sg col p l : Int) else if x = upH sg col p l then (lowH sg col p k : Int) else gi s.m x := fun x => by
      rw [gi_set (by rw [hlen]; exact ll), gi_set (by rw [H.lm]; exact lu)]
    refine ⟨H.lu, H.ld, by rw [List.length_set]; exact hlen, fun q hq => ?_, fun q c e hc he hce hno2 hor => ?_⟩
    · by_cases e : q = p
      · subst e; exact .inr ⟨f, l, hfl, hlk, tf, tl, n1, n2, hu, hd⟩
      · rcases H.a q hq with ⟨x1, x2, x3⟩ | h
        · exact .inl ⟨x1, x2, fun h => x3 (h.resolve_right e)⟩
        · exact .inr h
    · show gi ((s.m.set (upH sg col p l) (lowH sg col p k : Int)).set (lowH sg col p k) (upH sg col p l : Int)) (upH sg col q c) = _ ∧ gi ((s.m.set (upH sg col p l) (lowH sg col p k : Int)).set (lowH sg col p k) (upH sg col p l : Int)) (lowH sg col q e) = _
      rw [val, val, if_neg up_low]
      by_cases hnew : q = p ∧ e = k
      · obtain ⟨rfl, rfl⟩ := hnew
        have hcl : c = l := by
          rcases Nat.lt_trichotomy c l with h | h | h
          · exact absurd tl (hno2 l h hlk)
          · exact h
          · exact absurd hc (n2 c h hce)
        subst hcl
        rw [if_pos rfl, if_pos rfl]
        exact ⟨rfl, rfl⟩
      · have hold : e < k ∨ (e = k ∧ D q) := by
          rcases hor with h | ⟨h1, h2 | h2⟩
          · exact .inl h
          · exact .inr ⟨h1, h2⟩
          · exact absurd ⟨h2, h1⟩ hnew
        obtain ⟨b1, b2⟩ := H.b q c e hc he hce hno2 hold
        have z1 : ¬ upH sg col q c = upH sg col p l := fun h => by
          obtain ⟨rfl, rfl⟩ := upH_inj hc tl h
          rcases hor with h | ⟨h1, -⟩
          · exact n2 e hce h he
          · exact hnew ⟨rfl, h1⟩
        have z2 : ¬ lowH sg col q e = lowH sg col p k := fun h => hnew (lowH_inj he hk h)
        rw [if_neg z1, if_neg z2, if_neg fun h => up_low h.symm]
        exact ⟨b1, b2⟩
theorem BrI.step (hc : ∀ c, c < n → 1 ≤ col c ∧ col c < m) {k : Nat} {s : BrT} (hk : k < n) (H : BrI n m col sg k (fun _ => False) s) : BrI n m col sg (k + 1) (fun _ => False) (stepB sg col s k) := by
  obtain ⟨c1, c2⟩ := hc k hk
  have t1 : Tch n col (col k - 1) k := ⟨hk, .inr (by omega)⟩
  have t2 : Tch n col (col k - 1 + 1) k := ⟨hk, .inl (by omega)⟩
  have e1 : he sg k 3 = lowH sg col (col k - 1) k := by unfold lowH; rw [if_neg (by omega)]
  have e2 : he sg k 0 = lowH sg col (col k - 1 + 1) k := by unfold lowH; rw [if_pos (by omega)]
  have H2 := (H.enter (p := col k - 1) (by omega) t1).enter (p := col k - 1 + 1) (by omega) t2
  unfold stepB
  rw [e1, e2]
  generalize entB (entB s (col k - 1) (lowH sg col (col k - 1) k)) (col k - 1 + 1) (lowH sg col (col k - 1 + 1) k) = s2 at H2 ⊢
  have hD : ∀ q, ((False ∨ q = col k - 1) ∨ q = col k - 1 + 1) ↔ Tch n col q k := fun q => by
    constructor
    · rintro ((h | rfl) | rfl)
      · exact h.elim
      · exact t1
      · exact t2
    · rintro ⟨-, h | h⟩
      · exact .inr (by omega)
      · exact .inl (.inr (by omega))
  have lset : (s2.u.set (col k - 1) (he sg k 2 : Int)).length = m := by rw [List.length_set]; exact H2.lu
  have val : ∀ q, gi ((s2.u.set (col k - 1) (he sg k 2 : Int)).set (col k - 1 + 1) (he sg k 1 : Int)) q = if q = col k - 1 + 1 then (he sg k 1 : Int) else if q = col k - 1 then (he sg k 2 : Int) else gi s2.u q := fun q => by
    rw [gi_set (by rw [lset]; omega), gi_set (by rw [H2.lu]; omega)]
  unfold leadB
  refine ⟨by rw [List.length_set]; exact lset, H2.ld, H2.lm, fun q hq => ?_, fun q c e tc te hce hno hor => ?_⟩
  · show (gi ((s2.u.set (col k - 1) (he sg k 2 : Int)).set (col k - 1 + 1) (he sg k 1 : Int)) q = -1 ∧ _ ∧ _) ∨ ∃ f l, _ ∧ _ ∧ _ ∧ _ ∧ _ ∧ _ ∧ gi ((s2.u.set (col k - 1) (he sg k 2 : Int)).set (col k - 1 + 1) (he sg k 1 : Int)) q = _ ∧ _
    rw [val]
    by_cases tq : Tch n col q k
    · have eu : (if q = col k - 1 + 1 then (he sg k 1 : Int) else if q = col k - 1 then (he sg k 2 : Int) else gi s2.u q) = (upH sg col q k : Int) := by
        unfold upH
        rcases tq.2 with h | h
        · rw [if_pos (by omega), if_pos h]
        · rw [if_neg (by omega), if_pos (by omega), if_neg (by omega)]
      rw [eu]
      rcases H2.a q hq with ⟨x1, x2, x3⟩ | ⟨f, l, x1, x2, x3, x4, x5, x6, x7, x8⟩
      · exact .inr ⟨k, k, Nat.le_refl _, by omega, tq, tq, x2, fun e e1 e2 => by omega, rfl, x3 ((hD q).2 tq)⟩
      · exact .inr ⟨f, k, by omega, by omega, x3, tq, x5, fun e e1 e2 => by omega, rfl, x8⟩
    · have h1 : ¬ q = col k - 1 + 1 := fun h => tq ((hD q).1 (.inr h))
      have h2 : ¬ q = col k - 1 := fun h => tq ((hD q).1 (.inl (.inr h)))
      rw [if_neg h1, if_neg h2]
      rcases H2.a q hq with ⟨x1, x2, x3⟩ | ⟨f, l, x1, x2, x3, x4, x5, x6, x7, x8⟩
      · refine .inl ⟨x1, fun c hc => ?_, fun h => h.elim⟩
        rcases Nat.lt_or_eq_of_le (Nat.le_of_lt_succ hc) with h | h
        · exact x2 c h
        · subst h; exact tq
      · refine .inr ⟨f, l, x1, by omega, x3, x4, x5, fun e e1 e2 => ?_, x7, x8⟩
        rcases Nat.lt_or_eq_of_le (Nat.le_of_lt_succ e2) with h | h
        · exact x6 e e1 h
        · subst h; exact tq
  · refine H2.b q c e tc te hce hno ?_
    rcases hor with h | h
    · rcases Nat.lt_or_eq_of_le (Nat.le_of_lt_succ h) with h | h
      · exact .inl h
      · subst h; exact .inr ⟨rfl, (hD q).2 te⟩
    · exact h.2.elim
theorem stB_inv (hc : ∀ c, c < n → 1 ≤ col c ∧ col c < m) : ∀ k, k ≤ n → BrI n m col sg k (fun _ => False) (stB n m col sg k)
  | 0, _ => BrI.start
  | k + 1, h => BrI.step hc (by omega) (stB_inv hc k (by omega))
/-- a position of the whole row -/
theorem BrI.fin {s : BrT} (H : BrI n m col sg n (fun _ => False) s) {p : Nat} (hp : p < m) :
    (gi s.u p = -1 ∧ tB n col p = false) ∨ ∃ f l, f ≤ l ∧ Tch n col p f ∧ Tch n col p l ∧ (∀ e, e < f → ¬ Tch n col p e) ∧ (∀ e, l < e → ¬ Tch n col p e) ∧ gi s.u p = (upH sg col p l : Int) ∧ gi s.d p = (lowH sg col p f : Int) ∧ tB n col p = true := by
  rcases H.a p hp with ⟨x1, x2, x3⟩ | ⟨f, l, x1, x2, x3, x4, x5, x6, x7, x8⟩
  · refine .inl ⟨x1, ?_⟩
    rw [Bool.eq_false_iff]
    intro h
    obtain ⟨c, tc⟩ := tB_iff.1 h
    exact x2 c tc.1 tc
  · exact .inr ⟨f, l, x1, x3, x4, x5, fun e e1 te => x6 e e1 te.1 te, x7, x8, tB_iff.2 ⟨f, x3⟩⟩
theorem clM_length (s : BrT) : ∀ k, (clM s k).length = s.m.length
  | 0 => rfl
  | k + 1 => by
    unfold clM
    split
    · exact clM_length s k
    · rw [List.length_set, List.length_set]; exact clM_length s k
theorem clM_inv {s : BrT} (H : BrI n m col sg n (fun _ => False) s) : ∀ k, k ≤ m → ∀ p c d, Rn n col p c d → (c < d ∨ p < k) → gi (clM s k) (upH sg col p c) = (lowH sg col p d : Int) ∧ gi (clM s k) (lowH sg col p d) = (upH sg col p c : Int) := by
  intro k
  induction k with
  | zero =>
    intro _ p c d hR hor
    obtain ⟨tc, td, ⟨h1, h2⟩ | ⟨h1, -⟩⟩ := hR
    · exact H.b p c d tc td h1 h2 (.inl td.1)
    · omega
  | succ k ih =>
    intro hk p c d hR hor
    have tc := hR.1
    have td := hR.2.1
    have lm := clM_length s k
    rw [H.lm] at lm
    unfold clM
    rcases H.fin (p := k) (by omega) with ⟨hu, ht⟩ | ⟨f, l, hfl, tf, tl, n1, n2, hu, hd, -⟩
    · rw [if_pos (by omega)]
      refine ih (by omega) p c d hR ?_
      rcases hor with h | h
      · exact .inl h
      · by_cases e : p = k
        · subst e; rw [tB_iff.2 ⟨c, tc⟩] at ht; cases ht
        · exact .inr (by omega)
    · have g1 : gn s.u k = upH sg col k l := by unfold gn; rw [hu]; rfl
      have g2 : gn s.d k = lowH sg col k f := by unfold gn; rw [hd]; rfl
      have lu := upH_lt (sg := sg) tl
      have ll := lowH_lt (sg := sg) tf
      rw [if_neg (by omega), g1, g2, hu, hd]
      have val : ∀ x, gi (((clM s k).set (upH sg col k l) (lowH sg col k f : Int)).set (lowH sg col k f) (upH sg col k l : Int)) x = if x = lowH sg col k f then (upH sg col k l : Int) else if x = upH sg col k l then (lowH sg col k f : Int) else gi (clM s k) x := fun x => by
        rw [gi_set (by rw [List.length_set, lm]; exact ll), gi_set (by rw [lm]; exact lu)]
      rw [val, val, if_neg up_low]
      by_cases hnew : p = k ∧ ¬ c < d
      · obtain ⟨rfl, h⟩ := hnew
        obtain ⟨-, -, ⟨h1, -⟩ | ⟨h1, h2, h3⟩⟩ := hR
        · exact absurd h1 h
        · have ec : c = l := by
            rcases Nat.lt_trichotomy c l with h | h | h
            · exact absurd tl (h2 l h)
            · exact h
            · exact absurd tc (n2 c h)
          have ed : d = f := by
            rcases Nat.lt_trichotomy d f with h | h | h
            · exact absurd td (n1 d h)
            · exact h
            · exact absurd tf (h3 f h)
          subst ec; subst ed
          rw [if_pos rfl, if_pos rfl]
          exact ⟨rfl, rfl⟩
      · obtain ⟨b1, b2⟩ := ih (by omega) p c d hR (by
          rcases hor with h | h
          · exact .inl h
          · by_cases e : p = k
            · by_cases h2 : c < d
              · exact .inl h2
              · exact absurd ⟨e, h2⟩ hnew
            · exact .inr (by omega))
        have z1 : ¬ upH sg col p c = upH sg col k l := fun h => by
          obtain ⟨rfl, rfl⟩ := upH_inj tc tl h
          by_cases h2 : c < d
          · exact n2 d h2 td
          · exact hnew ⟨rfl, h2⟩
        have z2 : ¬ lowH sg col p d = lowH sg col k f := fun h => by
          obtain ⟨rfl, rfl⟩ := lowH_inj td tf h
          by_cases h2 : c < d
          · exact n1 c h2 tc
          · exact hnew ⟨rfl, h2⟩
        rw [if_neg z1, if_neg z2, if_neg fun h => up_low h.symm]
        exact ⟨b1, b2⟩
/-- THE CLOSURE is a diagram, with as many circles as positions and no incoherent half-edges -/
theorem braid_all (hs : sg.length = n) (hS : SgM sg) (hc : ∀ c, c < n → 1 ≤ col c ∧ col c < m) (h64 : n ≤ 64) (hm : m ≤ 64) :
    IsD sg (clM (stB n m col sg n) m) (loM (stB n m col sg n) m : Int) ∧ (circL sg (clM (stB n m col sg n) m)).length + loM (stB n m col sg n) m = m ∧ incL sg (clM (stB n m col sg n) m) (clM (stB n m col sg n) m).length = [] := by
  have H := stB_inv (sg := sg) hc n (Nat.le_refl _)
  have hl : (clM (stB n m col sg n) m).length = 4 * n := (clM_length _ _).trans H.lm
  have B : BrC n m col sg (clM (stB n m col sg n) m) := ⟨hs, hS, hl, hc, fun p c d hR => clM_inv H m (Nat.le_refl _) p c d hR (.inr (by
    have h1 := hR.1.2
    have h2 := hc c hR.1.1
    omega))⟩
  have hL : loM (stB n m col sg n) m ≤ m := cnt_le _ _
  have hD := B.isD (L := (loM (stB n m col sg n) m : Int)) h64 ⟨by omega, by omega⟩
  refine ⟨hD, ?_, B.inc hD _ (Nat.le_refl _)⟩
  rw [B.circles hD]
  have e : loM (stB n m col sg n) m = cnt (fun p => !tB n col p) m := by
    unfold loM
    refine cnt_congr fun p hp => ?_
    rcases H.fin hp with ⟨hu, ht⟩ | ⟨f, l, -, -, -, -, -, hu, -, ht⟩
    · rw [ht, decide_eq_true (by omega)]; rfl
    · rw [ht, decide_eq_false (by omega)]; rfl
  rw [e]
  exact cnt_not _ _
end
end Go.Proofs.Ytaghemilihaiaaa
namespace Go.Proofs.Ytaghemilihaiaaa
open Go.RowKit

/-- a row of integers of one's own, its list xs -/
theorem row_at {w : World} {B g c : Nat} {xs : List Int} (h : OI w B (.slice (some ⟨g, 0, none⟩) xs.length c) xs) {k : Nat} (hk : k < xs.length) : w.cell? ⟨g, k, none⟩ = some (.int .i64 (gi xs k)) ∧ w.frozen? ⟨g, k, none⟩ = false := by
  obtain ⟨g', c', e, -, -, -, -, h1, h2⟩ := h.block (by omega)
  injection e with e _ _
  injection e with e
  injection e with e
  subst e
  refine ⟨?_, h2 k⟩
  rw [h1 k hk, gi_lt hk]
theorem OI.put {w : World} {B g c n : Nat} {xs : List Int} (h : OI w B (.slice (some ⟨g, 0, none⟩) n c) xs) (hn : xs.length = n) (k : Nat) (y : Int) : OI (w.setCell ⟨g, k, none⟩ (.int .i64 y)) B (.slice (some ⟨g, 0, none⟩) n c) (xs.set k y) := by
  subst hn
  have := OR.stored (k := k) h y
  rwa [List.length_set] at this
/-- the blocks: the variables up, down, d and the rows -/
structure BrA where
  bu : Nat
  bd : Nat
  bx : Nat
  gu : Nat
  gd : Nat
  gm : Nat
structure BrW (w0 wr : World) (K : BrA) (m N : Nat) (vx vs : Value) (sg : List Int) (L : Int) (s : BrT) : Prop where
  u0 : wr.cell? ⟨K.bu, 0, none⟩ = some (.slice (some ⟨K.gu, 0, none⟩) m m)
  d0 : wr.cell? ⟨K.bd, 0, none⟩ = some (.slice (some ⟨K.gd, 0, none⟩) m m)
  x0 : wr.cell? ⟨K.bx, 0, none⟩ = some vx
  x1 : wr.cell? ⟨K.bx, 1, none⟩ = some (.slice (some ⟨K.gm, 0, none⟩) N N)
  x2 : wr.cell? ⟨K.bx, 2, none⟩ = some (.int .i64 L)
  f0 : wr.frozen? ⟨K.bx, 0, none⟩ = false
  f2 : wr.frozen? ⟨K.bx, 2, none⟩ = false
  ou : OI wr w0.heap.size (.slice (some ⟨K.gu, 0, none⟩) m m) s.u
  od : OI wr w0.heap.size (.slice (some ⟨K.gd, 0, none⟩) m m) s.d
  om : OI wr w0.heap.size (.slice (some ⟨K.gm, 0, none⟩) N N) s.m
  os : OI wr w0.heap.size vs sg
  lu : s.u.length = m
  ld : s.d.length = m
  lm : s.m.length = N
  n1 : K.gu ≠ K.gd ∧ K.gu ≠ K.gm ∧ K.gd ≠ K.gm
  n2 : K.gu ≠ K.bu ∧ K.gu ≠ K.bd ∧ K.gu ≠ K.bx
  n3 : K.gd ≠ K.bu ∧ K.gd ≠ K.bd ∧ K.gd ≠ K.bx
  n4 : K.gm ≠ K.bu ∧ K.gm ≠ K.bd ∧ K.gm ≠ K.bx
  n5 : K.bx ≠ K.bu ∧ K.bx ≠ K.bd
  nv : ∀ g, vs.ownBlock = some g → g ≠ K.bu ∧ g ≠ K.bd ∧ g ≠ K.bx ∧ g ≠ K.gu ∧ g ≠ K.gd ∧ g ≠ K.gm
  ge : w0.heap.size ≤ K.gu ∧ w0.heap.size ≤ K.gd ∧ w0.heap.size ≤ K.gm ∧ w0.heap.size ≤ K.bx
  bel : Below w0.heap.size w0 wr
section
variable {w0 wr w' : World} {K : BrA} {m N : Nat} {vx vs : Value} {sg : List Int} {L : Int} {s : BrT}
theorem BrW.heap (h : BrW w0 wr K m N vx vs sg L s) (hb : Below wr.heap.size wr w') : BrW w0 w' K m N vx vs sg L s := by
  have c : ∀ {a : Addr} {v : Value}, wr.cell? a = some v → w'.cell? a = some v := fun {a v} hc => (hb.cell (World.block_lt_of_cell? _ _ hc)).trans hc
  have hx : K.bx < wr.heap.size := World.block_lt_of_cell? _ _ h.x0
  exact ⟨c h.u0, c h.d0, c h.x0, c h.x1, c h.x2, (hb.frozen (p := ⟨K.bx, 0, none⟩) hx).trans h.f0, (hb.frozen (p := ⟨K.bx, 2, none⟩) hx).trans h.f2, h.ou.below hb (Nat.le_refl _), h.od.below hb (Nat.le_refl _), h.om.below hb (Nat.le_refl _), h.os.below hb (Nat.le_refl _),
    h.lu, h.ld, h.lm, h.n1, h.n2, h.n3, h.n4, h.n5, h.nv, h.ge, h.bel.trans (hb.mono h.bel.size)⟩
theorem BrW.drewN (h : BrW w0 wr K m N vx vs sg L s) (n : Nat) : BrW w0 (wr.drewN n) K m N vx vs sg L s := h.heap (below_drewN (Below.refl _ _) n)
theorem own_slice {g n c : Nat} : (Value.slice (some ⟨g, 0, none⟩) n c).ownBlock = some g := rfl
theorem OI.off {B g k : Nat} {v y : Value} {xs : List Int} (h : OI wr B v xs) (hn : v.ownBlock ≠ some g) : OI (wr.setCell ⟨g, k, none⟩ y) B v xs :=
  h.keep fun b hb => Below.heap_setCell _ _ _ b fun e => hn (by rw [hb, e])
theorem cell_off {g k : Nat} {a : Addr} {y : Value} (hn : a.block ≠ g) : (wr.setCell ⟨g, k, none⟩ y).cell? a = wr.cell? a := World.cell?_of_block (Below.heap_setCell _ _ _ _ hn)
theorem slice_ne {g g' n c : Nat} (h : g ≠ g') : (Value.slice (some ⟨g, 0, none⟩) n c).ownBlock ≠ some g' := fun e => h (by rw [own_slice] at e; injection e)
theorem BrW.setU (h : BrW w0 wr K m N vx vs sg L s) (k : Nat) (y : Int) : BrW w0 (wr.setCell ⟨K.gu, k, none⟩ (.int .i64 y)) K m N vx vs sg L ⟨s.u.set k y, s.d, s.m⟩ := by
  obtain ⟨a1, a2, a3⟩ := h.n1
  obtain ⟨b1, b2, b3⟩ := h.n2
  exact ⟨(cell_off b1.symm).trans h.u0, (cell_off b2.symm).trans h.d0, (cell_off b3.symm).trans h.x0, (cell_off b3.symm).trans h.x1, (cell_off b3.symm).trans h.x2, by rw [World.frozen?_setCell]; exact h.f0, by rw [World.frozen?_setCell]; exact h.f2,
    h.ou.put h.lu k y, h.od.off (slice_ne a1.symm), h.om.off (slice_ne a2.symm), h.os.off fun e => (h.nv _ e).2.2.2.1 rfl, by rw [List.length_set]; exact h.lu, h.ld, h.lm, h.n1, h.n2, h.n3, h.n4, h.n5, h.nv, h.ge, h.bel.setCell h.ge.1 _⟩
theorem BrW.setD (h : BrW w0 wr K m N vx vs sg L s) (k : Nat) (y : Int) : BrW w0 (wr.setCell ⟨K.gd, k, none⟩ (.int .i64 y)) K m N vx vs sg L ⟨s.u, s.d.set k y, s.m⟩ := by
  obtain ⟨a1, a2, a3⟩ := h.n1
  obtain ⟨b1, b2, b3⟩ := h.n3
  exact ⟨(cell_off b1.symm).trans h.u0, (cell_off b2.symm).trans h.d0, (cell_off b3.symm).trans h.x0, (cell_off b3.symm).trans h.x1, (cell_off b3.symm).trans h.x2, by rw [World.frozen?_setCell]; exact h.f0, by rw [World.frozen?_setCell]; exact h.f2,
    h.ou.off (slice_ne a1), h.od.put h.ld k y, h.om.off (slice_ne a3.symm), h.os.off fun e => (h.nv _ e).2.2.2.2.1 rfl, h.lu, by rw [List.length_set]; exact h.ld, h.lm, h.n1, h.n2, h.n3, h.n4, h.n5, h.nv, h.ge, h.bel.setCell h.ge.2.1 _⟩
theorem BrW.setM (h : BrW w0 wr K m N vx vs sg L s) (k : Nat) (y : Int) : BrW w0 (wr.setCell ⟨K.gm, k, none⟩ (.int .i64 y)) K m N vx vs sg L ⟨s.u, s.d, s.m.set k y⟩ := by
  obtain ⟨a1, a2, a3⟩ := h.n1
  obtain ⟨b1, b2, b3⟩ := h.n4
  exact ⟨(cell_off b1.symm).trans h.u0, (cell_off b2.symm).trans h.d0, (cell_off b3.symm).trans h.x0, (cell_off b3.symm).trans h.x1, (cell_off b3.symm).trans h.x2, by rw [World.frozen?_setCell]; exact h.f0, by rw [World.frozen?_setCell]; exact h.f2,
    h.ou.off (slice_ne a2), h.od.off (slice_ne a3), h.om.put h.lm k y, h.os.off fun e => (h.nv _ e).2.2.2.2.2 rfl, h.lu, h.ld, by rw [List.length_set]; exact h.lm, h.n1, h.n2, h.n3, h.n4, h.n5, h.nv, h.ge, h.bel.setCell h.ge.2.2.1 _⟩
theorem addr_ne {b i j : Nat} (h : i ≠ j) : (⟨b, i, none⟩ : Addr) ≠ ⟨b, j, none⟩ := fun e => by injection e with _ e; exact h e
theorem BrW.setX0 (h : BrW w0 wr K m N vx vs sg L s) (v : Value) : BrW w0 (wr.setCell ⟨K.bx, 0, none⟩ v) K m N v vs sg L s := by
  obtain ⟨b1, b2⟩ := h.n5
  exact ⟨(cell_off b1.symm).trans h.u0, (cell_off b2.symm).trans h.d0, World.cell?_setCell_same (h := h.x0) .., (World.cell?_setCell_other (h := addr_ne (by decide)) ..).trans h.x1, (World.cell?_setCell_other (h := addr_ne (by decide)) ..).trans h.x2, by rw [World.frozen?_setCell]; exact h.f0, by rw [World.frozen?_setCell]; exact h.f2,
    h.ou.off (slice_ne h.n2.2.2), h.od.off (slice_ne h.n3.2.2), h.om.off (slice_ne h.n4.2.2), h.os.off fun e => (h.nv _ e).2.2.1 rfl, h.lu, h.ld, h.lm, h.n1, h.n2, h.n3, h.n4, h.n5, h.nv, h.ge, h.bel.setCell h.ge.2.2.2 _⟩
theorem BrW.setX2 (h : BrW w0 wr K m N vx vs sg L s) (y : Int) : BrW w0 (wr.setCell ⟨K.bx, 2, none⟩ (.int .i64 y)) K m N vx vs sg y s := by
  obtain ⟨b1, b2⟩ := h.n5
  exact ⟨(cell_off b1.symm).trans h.u0, (cell_off b2.symm).trans h.d0, (World.cell?_setCell_other (h := addr_ne (by decide)) ..).trans h.x0, (World.cell?_setCell_other (h := addr_ne (by decide)) ..).trans h.x1, World.cell?_setCell_same (h := h.x2) .., by rw [World.frozen?_setCell]; exact h.f0, by rw [World.frozen?_setCell]; exact h.f2,
    h.ou.off (slice_ne h.n2.2.2), h.od.off (slice_ne h.n3.2.2), h.om.off (slice_ne h.n4.2.2), h.os.off fun e => (h.nv _ e).2.2.1 rfl, h.lu, h.ld, h.lm, h.n1, h.n2, h.n3, h.n4, h.n5, h.nv, h.ge, h.bel.setCell h.ge.2.2.2 _⟩
/-- one sign is appended -/
theorem BrW.app {o : Obj} {v' : Value} {y : Int} (h : BrW w0 wr K m N vx vs sg L s) (ho : OI w' w0.heap.size v' (sg ++ [y])) (hg : (wr.alloc o).grownBy w' vs.ownBlock) (hob : v'.ownBlock = vs.ownBlock ∨ v'.ownBlock = some (wr.heap.size + 1)) : BrW w0 w' K m N vx v' (sg ++ [y]) L s := by
  have blk : ∀ b, b < wr.heap.size → vs.ownBlock ≠ some b → w'.heap[b]? = wr.heap[b]? := fun b h1 h2 => by
    rw [hg.block b (by simp; omega) (fun e => h2 e.symm), Below.heap_alloc _ _ b (by omega)]
  have lu := World.block_lt_of_cell? _ _ h.u0
  have ld := World.block_lt_of_cell? _ _ h.d0
  have lx := World.block_lt_of_cell? _ _ h.x0
  have row : ∀ {g n c : Nat} {xs : List Int}, OI wr w0.heap.size (.slice (some ⟨g, 0, none⟩) n c) xs → vs.ownBlock ≠ some g → OI w' w0.heap.size (.slice (some ⟨g, 0, none⟩) n c) xs := fun {g n c xs} hr hne => hr.keep fun b hb => blk b (hr.lt b hb).2 (by rw [own_slice] at hb; injection hb with hb; rw [← hb]; exact hne)
  have ku : w'.heap[K.bu]? = wr.heap[K.bu]? := blk _ lu fun e => (h.nv _ e).1 rfl
  have kd : w'.heap[K.bd]? = wr.heap[K.bd]? := blk _ ld fun e => (h.nv _ e).2.1 rfl
  have kx : w'.heap[K.bx]? = wr.heap[K.bx]? := blk _ lx fun e => (h.nv _ e).2.2.1 rfl
  have gu := (h.ou.lt K.gu rfl).2
  have gd := (h.od.lt K.gd rfl).2
  have gm := (h.om.lt K.gm rfl).2
  exact ⟨(World.cell?_of_block (a := ⟨K.bu, 0, none⟩) ku).trans h.u0, (World.cell?_of_block (a := ⟨K.bd, 0, none⟩) kd).trans h.d0, (World.cell?_of_block (a := ⟨K.bx, 0, none⟩) kx).trans h.x0, (World.cell?_of_block (a := ⟨K.bx, 1, none⟩) kx).trans h.x1, (World.cell?_of_block (a := ⟨K.bx, 2, none⟩) kx).trans h.x2,
    (World.frozen?_of_block (a := ⟨K.bx, 0, none⟩) kx).trans h.f0, (World.frozen?_of_block (a := ⟨K.bx, 2, none⟩) kx).trans h.f2,
    row h.ou fun e => (h.nv _ e).2.2.2.1 rfl, row h.od fun e => (h.nv _ e).2.2.2.2.1 rfl, row h.om fun e => (h.nv _ e).2.2.2.2.2 rfl, ho, h.lu, h.ld, h.lm, h.n1, h.n2, h.n3, h.n4, h.n5, fun g hg' => by
      rcases hob with e | e
      · exact h.nv g (e ▸ hg')
      · rw [e] at hg'
        injection hg' with hg'
        have hlu : K.bu < wr.heap.size := lu
        have hld : K.bd < wr.heap.size := ld
        have hlx : K.bx < wr.heap.size := lx
        exact ⟨by omega, by omega, by omega, by omega, by omega, by omega⟩, h.ge, h.os.grown_below h.bel h.bel.size _ hg⟩
theorem BrW.up_at (h : BrW w0 wr K m N vx vs sg L s) {k : Nat} (hk : k < m) : wr.cell? ⟨K.gu, k, none⟩ = some (.int .i64 (gi s.u k)) ∧ wr.frozen? ⟨K.gu, k, none⟩ = false := row_at (c := m) (by rw [h.lu]; exact h.ou) (by rw [h.lu]; exact hk)
theorem BrW.down_at (h : BrW w0 wr K m N vx vs sg L s) {k : Nat} (hk : k < m) : wr.cell? ⟨K.gd, k, none⟩ = some (.int .i64 (gi s.d k)) ∧ wr.frozen? ⟨K.gd, k, none⟩ = false := row_at (c := m) (by rw [h.ld]; exact h.od) (by rw [h.ld]; exact hk)
theorem BrW.mate_at (h : BrW w0 wr K m N vx vs sg L s) {k : Nat} (hk : k < N) : wr.cell? ⟨K.gm, k, none⟩ = some (.int .i64 (gi s.m k)) ∧ wr.frozen? ⟨K.gm, k, none⟩ = false := row_at (c := N) (by rw [h.lm]; exact h.om) (by rw [h.lm]; exact hk)
set_option maxHeartbeats 4000000 in
/-- the closure 'enter' -/
theorem enter_any (h : BrW w0 wr K m N vx vs sg L s) {a e : Nat} (ha : a < m) (he : e < N) (hu : gi s.u a = -1 ∨ ∃ x : Nat, gi s.u a = x ∧ x < N) {ai ei : Int} (hai : ai = a) (hei : ei = e) :
    Calls Try.prog 27 #[.int .i64 ai, .int .i64 ei, .pointer (some ⟨K.bu, 0, none⟩), .pointer (some ⟨K.bd, 0, none⟩), .pointer (some ⟨K.bx, 0, none⟩)] wr fun e' w' => e' = .returned (.tuple #[]) ∧ BrW w0 w' K m N vx vs sg L (entB s a e) := by
  subst hai hei
  have H := Lib.hid h
  have u0 := h.u0
  have d0 := h.d0
  have x1 := h.x1
  obtain ⟨c1, q1⟩ := h.up_at ha
  obtain ⟨c2, q2⟩ := h.down_at ha
  rcases hu with hu | ⟨x, hu, hx⟩
  · rw [hu] at c1
    have HE : Hid (BrW w0 (wr.setCell ⟨K.gd, a, none⟩ (.int .i64 e)) K m N vx vs sg L (entB s a e)) := Lib.hid (by
      have := h.setD a e
      unfold entB
      rw [if_pos (by omega)]
      exact this)
    clear h hu x1 q1
    go_enter Try.func27, Try.ntmps27
    go_wp2_with fail
    refine bodyPost_end (results_none rfl _ _ _) rfl ?_
    exact ⟨rfl, HE.out⟩
  · rw [hu] at c1
    obtain ⟨c3, q3⟩ := h.mate_at hx
    have h1 := h.setM x e
    obtain ⟨c4, q4⟩ := h1.mate_at he
    have HE : Hid (BrW w0 ((wr.setCell ⟨K.gm, x, none⟩ (.int .i64 e)).setCell ⟨K.gm, e, none⟩ (.int .i64 x)) K m N vx vs sg L (entB s a e)) := Lib.hid (by
      have := h1.setM e x
      unfold entB
      rw [if_neg (by omega), show gn s.u a = x by unfold gn; rw [hu]; rfl, hu]
      exact this)
    have n1 := h.n1
    have n4 := h.n4
    clear h hu h1 q1 c2 q2
    go_enter Try.func27, Try.ntmps27
    go_wp2_with fail
    go_region
    all_goals
      go_wp2_with fail
      refine bodyPost_end (results_none rfl _ _ _) rfl ?_
      exact ⟨rfl, HE.out.heap (Below.refl _ _).drew⟩
end
end Go.Proofs.Ytaghemilihaiaaa
namespace Go.Proofs.Ytaghemilihaiaaa
open Go.ChangeShapes Go.WideShapes Go.RowKit

/-- a slice of small integers that came in -/
structure SmA (w : World) (A : Option Addr) (xs : List Int) : Prop where
  ln : xs.length ≤ maxLen
  rd : xs ≠ [] → ∃ b off, A = some ⟨b, off, none⟩ ∧ b < w.heap.size ∧ ∀ k, k < xs.length → w.cell? ⟨b, off + k, none⟩ = some (.int .i8 (gi xs k))
  rg : ∀ k, -128 ≤ gi xs k ∧ gi xs k ≤ 127
theorem SmA.call {w w' : World} {A : Option Addr} {xs : List Int} (h : SmA w A xs) (hb : Below w.heap.size w w') : SmA w' A xs :=
  ⟨h.ln, fun hne => by
    obtain ⟨b, off, e, hl, hc⟩ := h.rd hne
    exact ⟨b, off, e, Nat.lt_of_lt_of_le hl hb.size, fun k hk => (World.cell?_of_block (a := ⟨b, off + k, none⟩) (hb.block b hl)).trans (hc k hk)⟩, h.rg⟩
theorem i8_wf {n : Int} (h : (Lit.int .i8 n).wf = true) : -128 ≤ n ∧ n ≤ 127 := by
  have hmin : IntKind.i8.min = -128 := rfl
  have hmax : IntKind.i8.max = 127 := rfl
  simp only [Lit.wf, Bool.and_eq_true, decide_eq_true_eq] at h
  omega
theorem small_open {H : Type} {enc : TypeId × Value → H} {W : World} {base n : Nat} {held : Bool} {x : Value} {y : DataW H × List MemPlace}
    (g : DataW.trod enc Try.prog W base (fun _ => true) held n 43 [x] = some y) : ∃ A c xs, x = .slice A (xs : List Int).length c ∧ SmA W A xs := by
  rcases DataW.trod_slice Try.underlying43 g with ⟨hcs, _⟩ | ⟨a, len, cap, elems, rest, n', _, hcs, _, hb, hl, hm, hlen, hel, hsp, hns⟩
  · injection hcs with hcs
    exact ⟨none, 0, [], hcs, Nat.zero_le _, fun h => absurd rfl h, fun k => by simp [gi]⟩
  · injection hcs with hcs
    have each : ∀ i : Nat, ∃ s : Int, (i < len → W.cell? (a.add i) = some (.int .i8 s)) ∧ (-128 ≤ s ∧ s ≤ 127) := by
      intro i
      by_cases hi : i < len
      · have h1 := hel i hi
        have h2 : elems[i]? = some (elems[i]'(by omega)) := List.getElem?_eq_getElem (by omega)
        rw [h2, show Try.prog.cellsOf 45 = 1 by kernel_rfl, Option.bind_eq_some_iff] at h1
        obtain ⟨cs', hc1, hc2⟩ := h1
        obtain ⟨-, hl3, hcell⟩ := World.cells?_some hc1
        match cs', hl3 with
        | [c0], _ =>
          obtain ⟨L0, e0, -, w0⟩ := DataW.trod_int Try.underlying45 hc2
          injection e0 with e0
          subst e0
          have k0 := hcell 0 (by decide)
          rw [Addr.add_add, Nat.mul_one, Nat.add_zero] at k0
          exact ⟨L0, fun _ => k0, i8_wf w0⟩
      · exact ⟨0, fun h => absurd h hi, by simp⟩
    obtain ⟨f, hf⟩ := Classical.axiomOfChoice each
    have hl2 : ((List.range len).map f).length = len := by simp
    refine ⟨some a, cap, (List.range len).map f, by rw [hl2]; exact hcs, by rw [hl2]; omega, fun hne => ?_, fun k => ?_⟩
    · have hpos : 0 < len := by
        rcases Nat.eq_zero_or_pos len with h | h
        · subst h; simp at hne
        · exact h
      have h0 := (hf 0).1 hpos
      have e0 : a.add 0 = a := by simp [Addr.add]
      rw [e0] at h0
      have hsp := World.cell?_spot h0
      obtain ⟨b, off, sp⟩ := a
      simp only at hsp
      subst hsp
      refine ⟨b, off, rfl, World.block_lt_of_cell? W _ h0, fun k hk => ?_⟩
      rw [hl2] at hk
      have k0 := (hf k).1 hk
      have e : gi ((List.range len).map f) k = f k := by simp [gi, hk]
      rw [e]
      rw [Addr.add_lit] at k0
      exact k0
    · by_cases hk : k < len
      · have e : gi ((List.range len).map f) k = f k := by simp [gi, hk]
        rw [e]
        exact (hf k).2
      · have e : gi ((List.range len).map f) k = 0 := by simp [gi, hk]
        rw [e]
        simp
/-- the column of a letter -/
theorem col_of (s : Int) (n : Nat) (hn : 0 < n) (h5 : n ≤ 5) : ∃ (u : Int) (v i : Nat), s.tmod (n : Int) = u ∧ -5 < u ∧ u < 5 ∧ u + (n : Int) + 1 = (v : Int) + 1 ∧ v ≤ 10 ∧ (v : Int).tmod (n : Int) = (i : Int) ∧ (v : Int) % (n : Int) = (i : Int) ∧ i < n := by
  have h1 : s.tmod (n : Int) < n := Int.tmod_lt_of_pos _ (by omega)
  have h2 : -(n : Int) < s.tmod (n : Int) := by
    have := Int.tmod_lt_of_pos (-s) (show (0 : Int) < n by omega)
    rw [Int.neg_tmod] at this
    omega
  obtain ⟨u, hu⟩ : ∃ u, s.tmod (n : Int) = u := ⟨_, rfl⟩
  rw [hu] at h1 h2
  obtain ⟨v, hv⟩ : ∃ v : Nat, u + (n : Int) = v := ⟨(u + n).toNat, by omega⟩
  have h3 : (v : Int).tmod (n : Int) = ((v % n : Nat) : Int) := by rw [Int.tmod_eq_emod_of_nonneg (by omega)]; exact (Int.natCast_emod v n).symm
  exact ⟨u, v, v % n, hu, by omega, by omega, by omega, by omega, h3, (Int.natCast_emod v n).symm, Nat.mod_lt _ hn⟩
/-- the columns and the signs of a word over m positions -/
def colW (m : Nat) (xs : List Int) (c : Nat) : Nat := (((gi xs c).tmod ((m : Int) - 1) + m - 1).tmod ((m : Int) - 1)).toNat + 1
def sgW (xs : List Int) : List Int := xs.map fun x => if 0 ≤ x then 1 else -1
theorem sgW_length (xs : List Int) : (sgW xs).length = xs.length := List.length_map _
theorem sgW_gi {xs : List Int} {c : Nat} (h : c < xs.length) : gi (sgW xs) c = if 0 ≤ gi xs c then 1 else -1 := by
  unfold sgW gi
  simp [h]
theorem sgW_SgM (xs : List Int) : SgM (sgW xs) := fun c hc => by
  rw [sgW_length] at hc
  rw [sgW_gi hc]
  split
  · exact .inl rfl
  · exact .inr rfl
theorem colW_lt {m : Nat} (hm : 2 ≤ m ∧ m ≤ 6) (xs : List Int) (c : Nat) : 1 ≤ colW m xs c ∧ colW m xs c < m := by
  obtain ⟨u, v, i, h1, -, -, h2, -, h3, -, h4⟩ := col_of (gi xs c) (m - 1) (by omega) (by omega)
  have e : ((m - 1 : Nat) : Int) = (m : Int) - 1 := by omega
  rw [e] at h1 h2 h3
  unfold colW
  rw [h1, show u + (m : Int) - 1 = v by omega, h3]
  omega
theorem he_sg {xs : List Int} {c : Nat} (hc : c < xs.length) (r : Nat) : he (sgW xs) c r = if 0 ≤ gi xs c then 4 * c + r % 4 else 4 * c + (r + 1) % 4 := by
  unfold he eps
  rw [sgW_gi hc]
  split <;> rfl

/-- the two rows and their boxes -/
structure BrV (w0 wr : World) (bu bd gu gd m : Nat) (u d : List Int) : Prop where
  u0 : wr.cell? ⟨bu, 0, none⟩ = some (.slice (some ⟨gu, 0, none⟩) m m)
  d0 : wr.cell? ⟨bd, 0, none⟩ = some (.slice (some ⟨gd, 0, none⟩) m m)
  ou : OI wr w0.heap.size (.slice (some ⟨gu, 0, none⟩) m m) u
  od : OI wr w0.heap.size (.slice (some ⟨gd, 0, none⟩) m m) d
  lu : u.length = m
  ld : d.length = m
  n1 : gu ≠ gd
  n2 : gu ≠ bu ∧ gu ≠ bd
  n3 : gd ≠ bu ∧ gd ≠ bd
  ge : w0.heap.size ≤ gu ∧ w0.heap.size ≤ gd
  bel : Below w0.heap.size w0 wr
theorem own_rep {w : World} {B g m : Nat} (hB : B ≤ g) (hm : m ≤ maxLen) (h : w.heap[g]? = some (.cells (Array.replicate m (Value.int .i64 0)) 3)) : OI w B (.slice (some ⟨g, 0, none⟩) m m) (List.replicate m 0) := by
  refine ⟨by simp, .inr ⟨g, m, Array.replicate m (Value.int .i64 0), by simp, hB, h, by simp, hm, by simp, by simp⟩⟩
theorem four (W : World) (a b c d : Obj) : ((((W.alloc a).alloc b).alloc c).alloc d).drew.heap[W.heap.size]? = some a ∧ ((((W.alloc a).alloc b).alloc c).alloc d).drew.heap[W.heap.size + 1]? = some b ∧ ((((W.alloc a).alloc b).alloc c).alloc d).drew.heap[W.heap.size + 1 + 1]? = some c ∧ ((((W.alloc a).alloc b).alloc c).alloc d).drew.heap[W.heap.size + 1 + 1 + 1]? = some d := by
  have e1 : (W.alloc a).heap.size = W.heap.size + 1 := by simp
  have e2 : ((W.alloc a).alloc b).heap.size = W.heap.size + 1 + 1 := by simp
  have e3 : (((W.alloc a).alloc b).alloc c).heap.size = W.heap.size + 1 + 1 + 1 := by simp
  refine ⟨?_, ?_, ?_, ?_⟩
  · show ((((W.alloc a).alloc b).alloc c).alloc d).heap[W.heap.size]? = some a
    rw [Below.heap_alloc _ _ _ (by omega), Below.heap_alloc _ _ _ (by omega), Below.heap_alloc _ _ _ (by omega)]
    exact heap_alloc_new _ _
  · show ((((W.alloc a).alloc b).alloc c).alloc d).heap[W.heap.size + 1]? = some b
    rw [Below.heap_alloc _ _ _ (by omega), Below.heap_alloc _ _ _ (by omega), ← e1]
    exact heap_alloc_new _ _
  · show ((((W.alloc a).alloc b).alloc c).alloc d).heap[W.heap.size + 1 + 1]? = some c
    rw [Below.heap_alloc _ _ _ (by omega), ← e2]
    exact heap_alloc_new _ _
  · show ((((W.alloc a).alloc b).alloc c).alloc d).heap[W.heap.size + 1 + 1 + 1]? = some d
    rw [← e3]
    exact heap_alloc_new _ _
theorem cell_of {W : World} {b : Nat} {v : Value} {t : TypeId} (h : W.heap[b]? = some (.cells #[v] t)) : W.cell? ⟨b, 0, none⟩ = some v := by
  unfold World.cell?
  rw [h]
  rfl
theorem below4 (W : World) (a b c d : Obj) : Below W.heap.size W ((((W.alloc a).alloc b).alloc c).alloc d).drew :=
  (((((Below.refl _ _).alloc (Nat.le_refl _) _).alloc (by simp) _).alloc (by simp; omega) _).alloc (by simp; omega) _).drew
theorem BrV.start {w0 wr : World} {bu bd gu gd m : Nat} (hm : m ≤ maxLen)
    (h3 : wr.heap[bu]? = some (.cells #[.slice (some ⟨gu, 0, none⟩) m m] 22)) (h4 : wr.heap[bd]? = some (.cells #[.slice (some ⟨gd, 0, none⟩) m m] 22))
    (h1 : wr.heap[gu]? = some (.cells (Array.replicate m (Value.int .i64 0)) 3)) (h2 : wr.heap[gd]? = some (.cells (Array.replicate m (Value.int .i64 0)) 3))
    (n1 : gu ≠ gd) (n2 : gu ≠ bu ∧ gu ≠ bd) (n3 : gd ≠ bu ∧ gd ≠ bd) (ge : w0.heap.size ≤ gu ∧ w0.heap.size ≤ gd) (bel : Below w0.heap.size w0 wr) : BrV w0 wr bu bd gu gd m (List.replicate m 0) (List.replicate m 0) :=
  ⟨cell_of h3, cell_of h4, own_rep ge.1 hm h1, own_rep ge.2 hm h2, by simp, by simp, n1, n2, n3, ge, bel⟩
section
variable {w0 wr w' : World} {bu bd gu gd m : Nat} {u d : List Int}
theorem BrV.set2 (h : BrV w0 wr bu bd gu gd m u d) (k : Nat) (y z : Int) : BrV w0 ((wr.setCell ⟨gu, k, none⟩ (.int .i64 y)).setCell ⟨gd, k, none⟩ (.int .i64 z)) bu bd gu gd m (u.set k y) (d.set k z) := by
  obtain ⟨b1, b2⟩ := h.n2
  obtain ⟨c1, c2⟩ := h.n3
  exact ⟨(cell_off c1.symm).trans ((cell_off b1.symm).trans h.u0), (cell_off c2.symm).trans ((cell_off b2.symm).trans h.d0),
    (h.ou.put h.lu k y).off (slice_ne h.n1), (h.od.off (slice_ne h.n1.symm)).put h.ld k z, by rw [List.length_set]; exact h.lu, by rw [List.length_set]; exact h.ld, h.n1, h.n2, h.n3, h.ge, (h.bel.setCell h.ge.1 _).setCell h.ge.2 _⟩
theorem BrV.heap (h : BrV w0 wr bu bd gu gd m u d) (hb : Below wr.heap.size wr w') : BrV w0 w' bu bd gu gd m u d := by
  have c : ∀ {a : Addr} {v : Value}, wr.cell? a = some v → w'.cell? a = some v := fun {a v} hc => (hb.cell (World.block_lt_of_cell? _ _ hc)).trans hc
  exact ⟨c h.u0, c h.d0, h.ou.below hb (Nat.le_refl _), h.od.below hb (Nat.le_refl _), h.lu, h.ld, h.n1, h.n2, h.n3, h.ge, h.bel.trans (hb.mono h.bel.size)⟩
theorem BrV.at_ (h : BrV w0 wr bu bd gu gd m u d) {k : Nat} (hk : k < m) : (wr.cell? ⟨gu, k, none⟩ = some (.int .i64 (gi u k)) ∧ wr.frozen? ⟨gu, k, none⟩ = false) ∧ wr.cell? ⟨gd, k, none⟩ = some (.int .i64 (gi d k)) ∧ wr.frozen? ⟨gd, k, none⟩ = false :=
  ⟨row_at (c := m) (by rw [h.lu]; exact h.ou) (by rw [h.lu]; exact hk), row_at (c := m) (by rw [h.ld]; exact h.od) (by rw [h.ld]; exact hk)⟩
theorem BrV.box (h : BrV w0 wr bu bd gu gd m u d) {N : Nat} (hN : N ≤ maxLen) :
    BrW w0 ((wr.alloc (.cells (Array.replicate N (Value.int .i64 0)) 3)).alloc (.cells #[.slice none 0 0, .slice (some ⟨wr.heap.size, 0, none⟩) N N, .int .i64 0] 24)) ⟨bu, bd, wr.heap.size + 1, gu, gd, wr.heap.size⟩ m N (.slice none 0 0) (.slice none 0 0) [] 0 ⟨u, d, List.replicate N 0⟩ := by
  have lu := World.block_lt_of_cell? _ _ h.u0
  have ld := World.block_lt_of_cell? _ _ h.d0
  replace lu : bu < wr.heap.size := lu
  replace ld : bd < wr.heap.size := ld
  have lgu := (h.ou.lt gu rfl).2
  have lgd := (h.od.lt gd rfl).2
  have hs := h.bel.size
  have e1 : (wr.alloc (.cells (Array.replicate N (Value.int .i64 0)) 3)).heap.size = wr.heap.size + 1 := by simp
  have hb1 : Below wr.heap.size wr (wr.alloc (.cells (Array.replicate N (Value.int .i64 0)) 3)) := (Below.refl _ _).alloc (Nat.le_refl _) _
  have hm1 : (wr.alloc (.cells (Array.replicate N (Value.int .i64 0)) 3)).heap[wr.heap.size]? = some (.cells (Array.replicate N (Value.int .i64 0)) 3) := heap_alloc_new _ _
  generalize hW : wr.alloc (.cells (Array.replicate N (Value.int .i64 0)) 3) = W at *
  obtain ⟨h0, h1, h2⟩ := box_cells (Below.refl (W.heap.size + 1) (W.alloc (.cells #[.slice none 0 0, .slice (some ⟨wr.heap.size, 0, none⟩) N N, .int .i64 0] 24)))
  have hb2 : Below W.heap.size W (W.alloc (.cells #[.slice none 0 0, .slice (some ⟨wr.heap.size, 0, none⟩) N N, .int .i64 0] 24)) := (Below.refl _ _).alloc (Nat.le_refl _) _
  have hz : ∀ k, (W.alloc (.cells #[.slice none 0 0, .slice (some ⟨wr.heap.size, 0, none⟩) N N, .int .i64 0] 24)).frozen? ⟨W.heap.size, k, none⟩ = false := fun k => by
    unfold World.frozen?
    rw [heap_alloc_new]
    simp
  have hb : Below wr.heap.size wr (W.alloc (.cells #[.slice none 0 0, .slice (some ⟨wr.heap.size, 0, none⟩) N N, .int .i64 0] 24)) := hb1.trans (hb2.mono (by omega))
  have om : OI W w0.heap.size (.slice (some ⟨wr.heap.size, 0, none⟩) N N) (List.replicate N 0) := own_rep hs hN hm1
  have V := h.heap hb
  have l1 : bu < W.heap.size := by omega
  have l2 : bd < W.heap.size := by omega
  have l3 : gu < W.heap.size := by omega
  have l4 : gd < W.heap.size := by omega
  have l5 : wr.heap.size < W.heap.size := by omega
  rw [← e1]
  exact ⟨V.u0, V.d0, h0, h1, h2, hz 0, hz 2, V.ou, V.od, om.below hb2 (Nat.le_refl _), OR.nil _ _, V.lu, V.ld, by simp, ⟨h.n1, Nat.ne_of_lt lgu, Nat.ne_of_lt lgd⟩, ⟨h.n2.1, h.n2.2, Nat.ne_of_lt l3⟩, ⟨h.n3.1, h.n3.2, Nat.ne_of_lt l4⟩,
    ⟨Nat.ne_of_gt lu, Nat.ne_of_gt ld, Nat.ne_of_lt l5⟩, ⟨Nat.ne_of_gt l1, Nat.ne_of_gt l2⟩, fun g hg => by simp [Value.ownBlock] at hg, ⟨h.ge.1, h.ge.2, hs, by show _ ≤ W.heap.size; omega⟩, V.bel⟩
end
section
variable {w0 wr w' : World} {K : BrA} {m N : Nat} {vs : Value} {sg : List Int} {L : Int} {s : BrT}
theorem BrW.dbox (h : BrW w0 wr K m N vs vs sg L s) : ∃ A1 c1, vs = .slice A1 sg.length c1 ∧ DBox wr K.bx A1 (some ⟨K.gm, 0, none⟩) c1 N sg s.m L := by
  obtain ⟨A1, c1, rfl, -, -, h1⟩ := h.os.reads
  obtain ⟨A2, c2, e, -, -, h2⟩ := h.om.reads
  injection e with e _ _
  subst e
  exact ⟨A1, c1, rfl, h.x0, by rw [h.lm]; exact h.x1, h.x2, World.block_lt_of_cell? _ _ h.x0, h1.imp fun _ hb => hb.2, h2.imp fun _ hb => hb.2⟩
end
theorem entB_u (s : BrT) (a h : Nat) : (entB s a h).u = s.u := by unfold entB; split <;> rfl
theorem stB_u {n m : Nat} {col : Nat → Nat} {sg : List Int} (hc : ∀ c, c < n → 1 ≤ col c ∧ col c < m) {k : Nat} (hk : k ≤ n) {p : Nat} (hp : p < m) : gi (stB n m col sg k).u p = -1 ∨ ∃ x : Nat, gi (stB n m col sg k).u p = x ∧ x < 4 * n := by
  rcases (stB_inv hc k hk).a p hp with ⟨h, -⟩ | ⟨f, l, -, -, -, h1, -, -, h2, -⟩
  · exact .inl h
  · exact .inr ⟨_, h2, upH_lt h1⟩
/-- a position behind the last letter -/
theorem stB_fin {n m : Nat} {col : Nat → Nat} {sg : List Int} (hc : ∀ c, c < n → 1 ≤ col c ∧ col c < m) {p : Nat} (hp : p < m) : gi (stB n m col sg n).u p = -1 ∨ ∃ x y : Nat, gi (stB n m col sg n).u p = x ∧ gi (stB n m col sg n).d p = y ∧ x < 4 * n ∧ y < 4 * n ∧ x ≠ y := by
  rcases (stB_inv (sg := sg) hc n (Nat.le_refl _)).fin hp with ⟨h, -⟩ | ⟨f, l, -, h1, h2, -, -, h3, h4, -⟩
  · exact .inl h
  · exact .inr ⟨_, _, h3, h4, upH_lt h2, lowH_lt h1, up_low⟩
theorem sgW_take {xs : List Int} {k : Nat} (h : k < xs.length) : (sgW xs).take (k + 1) = (sgW xs).take k ++ [if 0 ≤ gi xs k then 1 else -1] := by
  rw [List.take_succ_eq_append_getElem (by rw [sgW_length]; exact h), ← sgW_gi h, gi_lt (by rw [sgW_length]; exact h)]
end Go.Proofs.Ytaghemilihaiaaa

