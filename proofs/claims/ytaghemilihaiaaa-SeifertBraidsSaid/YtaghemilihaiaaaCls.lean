/-
  Classes of an equivalence, counted by their least elements; a swap of two values of a permutation joins two cycles or parts one. No program here.
-/
import Derived.Test.YtaghemilihaiaaaSphM
namespace Go.Proofs.Ytaghemilihaiaaa

/-! ### classes -/
structure EqvB (r : Nat → Nat → Bool) (N : Nat) : Prop where
  rfl_ : ∀ x, x < N → r x x = true
  sym : ∀ x y, x < N → y < N → r x y = true → r y x = true
  tr : ∀ x y z, x < N → y < N → z < N → r x y = true → r y z = true → r x z = true

def headB (r : Nat → Nat → Bool) (x : Nat) : Bool := (List.range x).all fun y => !r y x
def ncls (r : Nat → Nat → Bool) (N : Nat) : Nat := cnt (headB r) N
theorem headB_iff {r : Nat → Nat → Bool} {x : Nat} : headB r x = true ↔ ∀ y, y < x → r y x = false := by
  unfold headB
  rw [List.all_eq_true]
  constructor
  · intro h y hy
    have := h y (List.mem_range.2 hy)
    simpa using this
  · intro h y hy
    have := h y (List.mem_range.1 hy)
    simp [this]
theorem ncls_congr {r r' : Nat → Nat → Bool} {N : Nat} (h : ∀ x y, x < N → y < N → r x y = r' x y) : ncls r N = ncls r' N := by
  unfold ncls
  refine cnt_congr fun x hx => ?_
  rw [Bool.eq_iff_iff, headB_iff, headB_iff]
  exact ⟨fun g y hy => by rw [← h y x (by omega) hx]; exact g y hy, fun g y hy => by rw [h y x (by omega) hx]; exact g y hy⟩

/-- x and y are put into one class -/
def joinB (r : Nat → Nat → Bool) (x y z w : Nat) : Bool := r z w || (r z x && r y w) || (r z y && r x w)
theorem joinB_iff {r : Nat → Nat → Bool} {x y z w : Nat} : joinB r x y z w = true ↔ r z w = true ∨ (r z x = true ∧ r y w = true) ∨ (r z y = true ∧ r x w = true) := by
  unfold joinB
  simp only [Bool.or_eq_true, Bool.and_eq_true]
  exact ⟨fun h => h.elim (fun h => h.elim .inl fun h => .inr (.inl h)) fun h => .inr (.inr h), fun h => h.elim (fun h => .inl (.inl h)) fun h => h.elim (fun h => .inl (.inr h)) .inr⟩
theorem joinB_symm (r : Nat → Nat → Bool) (x y z w : Nat) : joinB r x y z w = joinB r y x z w := by
  unfold joinB
  cases r z w <;> cases (r z x && r y w) <;> cases (r z y && r x w) <;> rfl

section
variable {r : Nat → Nat → Bool} {N : Nat} (hE : EqvB r N) {x y : Nat} (hx : x < N) (hy : y < N)
include hE hx hy
theorem joinB_eqv : EqvB (joinB r x y) N := by
  refine ⟨fun z hz => joinB_iff.2 (.inl (hE.rfl_ z hz)), fun z w hz hw h => ?_, fun z w v hz hw hv h1 h2 => ?_⟩
  · rw [joinB_iff] at h ⊢
    rcases h with h | ⟨h1, h2⟩ | ⟨h1, h2⟩
    · exact .inl (hE.sym _ _ hz hw h)
    · exact .inr (.inr ⟨hE.sym _ _ hy hw h2, hE.sym _ _ hz hx h1⟩)
    · exact .inr (.inl ⟨hE.sym _ _ hx hw h2, hE.sym _ _ hz hy h1⟩)
  · rw [joinB_iff] at h1 h2 ⊢
    rcases h1 with h1 | ⟨a1, a2⟩ | ⟨a1, a2⟩ <;> rcases h2 with h2 | ⟨b1, b2⟩ | ⟨b1, b2⟩
    · exact .inl (hE.tr _ _ _ hz hw hv h1 h2)
    · exact .inr (.inl ⟨hE.tr _ _ _ hz hw hx h1 b1, b2⟩)
    · exact .inr (.inr ⟨hE.tr _ _ _ hz hw hy h1 b1, b2⟩)
    · exact .inr (.inl ⟨a1, hE.tr _ _ _ hy hw hv a2 h2⟩)
    · exact .inr (.inl ⟨a1, b2⟩)
    · exact .inl (hE.tr _ _ _ hz hx hv a1 b2)
    · exact .inr (.inr ⟨a1, hE.tr _ _ _ hx hw hv a2 h2⟩)
    · exact .inl (hE.tr _ _ _ hz hy hv a1 b2)
    · exact .inr (.inr ⟨a1, b2⟩)
theorem joinB_same (h : r x y = true) {z w : Nat} (hz : z < N) (hw : w < N) : joinB r x y z w = r z w := by
  rw [Bool.eq_iff_iff, joinB_iff]
  constructor
  · rintro (h1 | ⟨h1, h2⟩ | ⟨h1, h2⟩)
    · exact h1
    · exact hE.tr _ _ _ hz hx hw h1 (hE.tr _ _ _ hx hy hw h h2)
    · exact hE.tr _ _ _ hz hy hw h1 (hE.tr _ _ _ hy hx hw (hE.sym _ _ hx hy h) h2)
  · exact .inl
omit hx hy in
/-- the least of a class -/
theorem head_of {z : Nat} (hz : z < N) : ∃ m, m ≤ z ∧ r m z = true ∧ headB r m = true := by
  obtain ⟨m, hm, hl⟩ := least_of (P := fun m => m < N ∧ r m z = true) ⟨hz, hE.rfl_ z hz⟩
  refine ⟨m, hl z ⟨hz, hE.rfl_ z hz⟩, hm.2, headB_iff.2 fun y hy => ?_⟩
  rw [Bool.eq_false_iff]
  intro h
  have := hl y ⟨by omega, hE.tr _ _ _ (by omega) hm.1 hz h hm.2⟩
  omega
omit hE hx hy in
theorem head_le {m z : Nat} (hh : headB r m = true) (h : r z m = true) : m ≤ z := by
  rcases Nat.lt_or_ge z m with h1 | h1
  · rw [headB_iff.1 hh z h1] at h; cases h
  · exact h1
theorem ncls_join_aux {a b : Nat} (ha : a < N) (hb : b < N) (hra : r a x = true) (hrb : r b y = true) (hha : headB r a = true) (hhb : headB r b = true) (hlt : a < b) :
    ncls (joinB r x y) N + 1 = ncls r N := by
  have key : ∀ z, z < N → headB r z = (headB (joinB r x y) z || decide (z = b)) := by
    intro z hz
    rw [Bool.eq_iff_iff, Bool.or_eq_true, decide_eq_true_eq]
    constructor
    · intro h
      by_cases e : z = b
      · exact .inr e
      · refine .inl (headB_iff.2 fun w hw => ?_)
        rw [Bool.eq_false_iff]
        intro hj
        rcases joinB_iff.1 hj with h1 | ⟨h1, h2⟩ | ⟨h1, h2⟩
        · rw [headB_iff.1 h w hw] at h1; cases h1
        · have hbz := hE.tr _ _ _ hb hy hz hrb h2
          have h3 := head_le h hbz
          have h4 := head_le hhb (hE.sym _ _ hb hz hbz)
          omega
        · have haz := hE.tr _ _ _ ha hx hz hra h2
          have hwb := hE.tr _ _ _ (by omega) hy hb h1 (hE.sym _ _ hb hy hrb)
          have h3 := head_le h haz
          have h4 := head_le hha (hE.sym _ _ ha hz haz)
          have h5 := head_le hhb hwb
          omega
    · rintro (h | rfl)
      · refine headB_iff.2 fun w hw => ?_
        rw [Bool.eq_false_iff]
        intro h1
        have := headB_iff.1 h w hw
        rw [joinB_iff.2 (.inl h1)] at this
        cases this
      · exact hhb
  have hb' : headB (joinB r x y) b = false := by
    rw [Bool.eq_false_iff]
    intro h
    have := headB_iff.1 h a hlt
    rw [joinB_iff.2 (.inr (.inl ⟨hra, hE.sym _ _ hb hy hrb⟩))] at this
    cases this
  have hcnt : ∀ m, cnt (fun z => headB (joinB r x y) z || decide (z = b)) m = cnt (headB (joinB r x y)) m + if b < m then 1 else 0 := by
    intro m
    induction m with
    | zero => rfl
    | succ m ih =>
      rw [cnt_succ, cnt_succ, ih]
      by_cases e : m = b
      · subst e
        rw [hb']
        simp
      · have : (b < m + 1) = (b < m) := by rw [eq_iff_iff]; omega
        simp [e, this]
        split <;> split <;> omega
  have := cnt_congr key
  rw [hcnt, if_pos hb] at this
  unfold ncls
  omega
theorem ncls_join : ncls (joinB r x y) N + (if r x y = true then 0 else 1) = ncls r N := by
  by_cases h : r x y = true
  · rw [if_pos h, Nat.add_zero]
    exact ncls_congr fun z w hz hw => joinB_same hE hx hy h hz hw
  · rw [if_neg h]
    rw [Bool.not_eq_true] at h
    obtain ⟨a, a1, a2, a3⟩ := head_of hE hx
    obtain ⟨b, b1, b2, b3⟩ := head_of hE hy
    have hne : a ≠ b := by
      rintro rfl
      rw [hE.tr _ _ _ hx (by omega) hy (hE.sym _ _ (by omega) hx a2) b2] at h
      cases h
    rcases Nat.lt_or_gt_of_ne hne with hlt | hlt
    · exact ncls_join_aux hE hx hy (by omega) (by omega) a2 b2 a3 b3 hlt
    · rw [← ncls_join_aux hE hy hx (by omega) (by omega) b2 a2 b3 a3 hlt]
      congr 1
      exact ncls_congr fun z w _ _ => joinB_symm r x y z w
end

/-! ### cycles of a permutation -/
def rc (f : Nat → Nat) (N x y : Nat) : Bool := decide (y ∈ cyc f N x)
theorem rc_iff {f : Nat → Nat} {N : Nat} (hP : PermB f N) {x y : Nat} (hx : x < N) : rc f N x y = true ↔ ∃ k, it f k x = y := by
  unfold rc
  rw [decide_eq_true_eq]
  exact mem_cyc hP hx
theorem rc_eqv {f : Nat → Nat} {N : Nat} (hP : PermB f N) : EqvB (rc f N) N := by
  refine ⟨fun x hx => ?_, fun x y hx _ h => ?_, fun x y z hx _ _ h1 h2 => ?_⟩
  · exact decide_eq_true (self_mem hP hx)
  · exact decide_eq_true (mem_symm hP hx (of_decide_eq_true h))
  · exact decide_eq_true (mem_trans hP hx (of_decide_eq_true h1) (of_decide_eq_true h2))
theorem rc_next {f : Nat → Nat} {N : Nat} (hP : PermB f N) {x : Nat} (hx : x < N) : rc f N x (f x) = true := (rc_iff hP hx).2 ⟨1, rfl⟩
theorem ncls_rc {f : Nat → Nat} {N : Nat} (hP : PermB f N) : ncls (rc f N) N = cnt (lstB f N) N := by
  unfold ncls
  refine cnt_congr fun x hx => ?_
  rw [Bool.eq_iff_iff, headB_iff, lstB_iff]
  constructor
  · intro h g hg
    have hgN := cyc_lt hP hx hg
    rcases Nat.lt_or_ge g x with h1 | h1
    · have h2 := h g h1
      rw [show rc f N g x = true from decide_eq_true (mem_symm hP hx hg)] at h2
      cases h2
    · exact h1
  · intro h y hy
    rw [Bool.eq_false_iff]
    intro h1
    have := h y (mem_symm hP (by omega) (of_decide_eq_true h1))
    omega
/-- a closed relation holds along the cycles -/
theorem rc_sub {f : Nat → Nat} {N : Nat} (hP : PermB f N) {r : Nat → Nat → Bool} (hE : EqvB r N) (hr : ∀ x, x < N → r x (f x) = true) {x y : Nat} (hx : x < N) (h : rc f N x y = true) : r x y = true := by
  obtain ⟨k, rfl⟩ := (rc_iff hP hx).1 h
  clear h
  induction k with
  | zero => exact hE.rfl_ x hx
  | succ k ih => exact hE.tr _ _ _ hx (hP.it_lt k hx) (hP.lt _ (hP.it_lt k hx)) ih (hr _ (hP.it_lt k hx))

/-- x and y exchanged -/
def sw (x y z : Nat) : Nat := if z = x then y else if z = y then x else z
theorem sw_l (x y : Nat) : sw x y x = y := by simp [sw]
theorem sw_r (x y : Nat) : sw x y y = x := by
  unfold sw
  by_cases h : y = x
  · simp [h]
  · simp [h]
theorem sw_o {x y z : Nat} (h1 : z ≠ x) (h2 : z ≠ y) : sw x y z = z := by simp [sw, h1, h2]
theorem sw_sw (x y z : Nat) : sw x y (sw x y z) = z := by
  by_cases h1 : z = x
  · subst h1; rw [sw_l, sw_r]
  · by_cases h2 : z = y
    · subst h2; rw [sw_r, sw_l]
    · rw [sw_o h1 h2, sw_o h1 h2]
theorem sw_lt {x y z N : Nat} (hx : x < N) (hy : y < N) (hz : z < N) : sw x y z < N := by
  unfold sw
  split
  · exact hy
  · split
    · exact hx
    · exact hz
theorem sw_perm {f : Nat → Nat} {N x y : Nat} (hP : PermB f N) (hx : x < N) (hy : y < N) : PermB (fun z => f (sw x y z)) N :=
  ⟨fun z hz => hP.lt _ (sw_lt hx hy hz), fun a b ha hb e => by
    have := hP.inj _ _ (sw_lt hx hy ha) (sw_lt hx hy hb) e
    rw [← sw_sw x y a, this, sw_sw]⟩

section
variable {f : Nat → Nat} {N : Nat} (hP : PermB f N) {x y : Nat} (hx : x < N) (hy : y < N)
include hP hx hy
theorem sw_sub {z w : Nat} (hz : z < N) (hw : w < N) (h : joinB (rc (fun z => f (sw x y z)) N) x y z w = true) : joinB (rc f N) x y z w = true := by
  have hE := rc_eqv hP
  have hJ := joinB_eqv hE hx hy
  have hstep : ∀ u, u < N → joinB (rc f N) x y u (f (sw x y u)) = true := by
    intro u hu
    rw [joinB_iff]
    by_cases h1 : u = x
    · subst h1
      rw [sw_l]
      exact .inr (.inl ⟨hE.rfl_ _ hx, rc_next hP hy⟩)
    · by_cases h2 : u = y
      · subst h2
        rw [sw_r]
        exact .inr (.inr ⟨hE.rfl_ _ hy, rc_next hP hx⟩)
      · rw [sw_o h1 h2]
        exact .inl (rc_next hP hu)
  have hP' := sw_perm hP hx hy
  have hs : ∀ {u v}, u < N → rc (fun z => f (sw x y z)) N u v = true → joinB (rc f N) x y u v = true := fun hu h => rc_sub hP' hJ hstep hu h
  have hxy : joinB (rc f N) x y x y = true := joinB_iff.2 (.inr (.inl ⟨hE.rfl_ _ hx, hE.rfl_ _ hy⟩))
  rcases joinB_iff.1 h with h1 | ⟨h1, h2⟩ | ⟨h1, h2⟩
  · exact hs hz h1
  · exact hJ.tr _ _ _ hz hx hw (hs hz h1) (hJ.tr _ _ _ hx hy hw hxy (hs hy h2))
  · exact hJ.tr _ _ _ hz hy hw (hs hz h1) (hJ.tr _ _ _ hy hx hw (hJ.sym _ _ hx hy hxy) (hs hx h2))
theorem sw_join {z w : Nat} (hz : z < N) (hw : w < N) : joinB (rc (fun z => f (sw x y z)) N) x y z w = joinB (rc f N) x y z w := by
  rw [Bool.eq_iff_iff]
  refine ⟨sw_sub hP hx hy hz hw, fun h => ?_⟩
  have := sw_sub (sw_perm hP hx hy) hx hy (z := z) (w := w) hz hw
  have e : (fun z => (fun z => f (sw x y z)) (sw x y z)) = f := by funext z; show f (sw x y (sw x y z)) = f z; rw [sw_sw]
  rw [e] at this
  exact this h
/-- the exchange joins two cycles -/
theorem sw_joins (h : rc f N x y = false) : rc (fun z => f (sw x y z)) N x y = true := by
  have hP' := sw_perm hP hx hy
  obtain ⟨p0, p1, p2, p3⟩ := per_spec hP hy
  have hno : ∀ k, it f k y ≠ x := by
    intro k e
    have : rc f N y x = true := (rc_iff hP hy).2 ⟨k, e⟩
    rw [(rc_eqv hP).sym _ _ hy hx this] at h
    cases h
  have key : ∀ k, k < per f N y → it (fun z => f (sw x y z)) (k + 1) x = it f (k + 1) y := by
    intro k
    induction k with
    | zero => intro _; show f (sw x y x) = f y; rw [sw_l]
    | succ k ih =>
      intro hk
      show f (sw x y (it (fun z => f (sw x y z)) (k + 1) x)) = f (it f (k + 1) y)
      rw [ih (by omega), sw_o (hno _) (p3 _ (by omega) hk)]
  refine (rc_iff hP' hx).2 ⟨per f N y - 1 + 1, ?_⟩
  rw [key _ (by omega), Nat.sub_add_cancel p0]
  exact p2
/-- the exchange parts a cycle -/
theorem sw_parts (hne : x ≠ y) (h : rc f N x y = true) : rc (fun z => f (sw x y z)) N x y = false := by
  have hP' := sw_perm hP hx hy
  obtain ⟨p0, p1, p2, p3⟩ := per_spec hP hx
  obtain ⟨k0, hk0⟩ := (rc_iff hP hx).1 h
  obtain ⟨k, hk, hlst⟩ := least_of (P := fun k => it f k x = y) hk0
  have hkp : k < per f N x := by
    have := hlst (k0 % per f N x) (by rw [← it_mod hP hx]; exact hk0)
    have := Nat.mod_lt k0 p0
    omega
  have hk1 : 0 < k := by
    rcases Nat.eq_zero_or_pos k with e | e
    · subst e; exact absurd hk hne
    · exact e
  have key : ∀ j, j < k → it (fun z => f (sw x y z)) (j + 1) y = it f (j + 1) x := by
    intro j
    induction j with
    | zero => intro _; show f (sw x y y) = f x; rw [sw_r]
    | succ j ih =>
      intro hj
      show f (sw x y (it (fun z => f (sw x y z)) (j + 1) y)) = f (it f (j + 1) x)
      rw [ih (by omega), sw_o (p3 _ (by omega) (by omega)) (fun e => by have := hlst _ e; omega)]
  rw [Bool.eq_false_iff]
  intro h'
  have h2 := (rc_eqv hP').sym _ _ hx hy h'
  have hret : it (fun z => f (sw x y z)) k y = y := by
    have := key (k - 1) (by omega)
    rw [Nat.sub_add_cancel hk1] at this
    rw [this]; exact hk
  have hall : ∀ m, it (fun z => f (sw x y z)) m y ≠ x := by
    intro m
    have hm : it (fun z => f (sw x y z)) m y = it (fun z => f (sw x y z)) (m % k) y := by
      have hq : ∀ q, it (fun z => f (sw x y z)) (k * q) y = y := by
        intro q
        induction q with
        | zero => rfl
        | succ q ih => rw [Nat.mul_succ, it_add, hret, ih]
      have e := Nat.mod_add_div m k
      conv => lhs; rw [← e]
      rw [it_add, hq]
    rw [hm]
    have hlt := Nat.mod_lt m hk1
    rcases Nat.eq_zero_or_pos (m % k) with e | e
    · rw [e]; exact fun e => hne e.symm
    · have := key (m % k - 1) (by omega)
      rw [Nat.sub_add_cancel e] at this
      rw [this]
      exact p3 _ e (by omega)
  obtain ⟨m, hm⟩ := (rc_iff hP' hy).1 h2
  exact hall m hm
theorem ncls_sw : ncls (rc (fun z => f (sw x y z)) N) N + (if rc f N x y = true then 0 else 1) = ncls (rc f N) N + (if rc (fun z => f (sw x y z)) N x y = true then 0 else 1) := by
  have h1 := ncls_join (rc_eqv hP) hx hy
  have h2 := ncls_join (rc_eqv (sw_perm hP hx hy)) hx hy
  have h3 := ncls_congr (N := N) fun z w hz hw => sw_join hP hx hy hz hw
  rw [← h1, ← h2, h3]
  simp only [Nat.add_assoc]
  rw [Nat.add_comm (if rc f N x y = true then 0 else 1)]
theorem ncls_joins (h : rc f N x y = false) : ncls (rc (fun z => f (sw x y z)) N) N + 1 = ncls (rc f N) N := by
  have := ncls_sw hP hx hy
  rw [h, sw_joins hP hx hy h] at this
  simpa using this
theorem ncls_parts (hne : x ≠ y) (h : rc f N x y = true) : ncls (rc (fun z => f (sw x y z)) N) N = ncls (rc f N) N + 1 := by
  have := ncls_sw hP hx hy
  rw [h, sw_parts hP hx hy hne h] at this
  simpa using this
end
end Go.Proofs.Ytaghemilihaiaaa

