/-
  A diagram and its images have equally many homomorphisms to the permutations of three points. No program here.
-/
import Derived.Test.YtcjgfncbecbhjaaPerm
import Derived.Test.YtcjgfncbecbhjaaImgM
namespace Go.Proofs.Ytcjgfncbecbhjaa

/-! ### the permutations of three points as a group -/
def S6 : Gp (Fin 6) where
  m a b := ⟨mulD a.1 b.1, mul_lt _ a.2 _ b.2⟩
  o := 0
  i a := ⟨invD a.1, inv_lt _ a.2⟩
  asc a b c := Fin.ext (mul_asc _ a.2 _ b.2 _ c.2)
  om a := Fin.ext (one_mul' _ a.2)
  mo a := Fin.ext (mul_one' _ a.2)
  im a := Fin.ext (inv_mul' _ a.2)
  mi a := Fin.ext (mul_inv' _ a.2)
/-- .. with the factors exchanged -/
def S6o : Gp (Fin 6) where
  m a b := S6.m b a
  o := S6.o
  i := S6.i
  asc a b c := (S6.asc c b a).symm
  om a := S6.mo a
  mo a := S6.om a
  im a := S6.mi a
  mi a := S6.im a
/-- what a relation asks of the third generator -/
def relV (s : Int) (a o : Fin 6) : Fin 6 := if s = 1 then S6.m (S6.m (S6.i o) a) o else S6.m (S6.m o a) (S6.i o)

/-- an assignment that is a homomorphism -/
structure HomD (sg mt : List Int) (φ : Nat → Fin 6) : Prop where
  mate : ∀ x, x < mt.length → φ (gn mt x) = φ x
  over : ∀ c, c < sg.length → φ (4 * c + 1) = φ (4 * c + 3)
  rel : ∀ c, c < sg.length → φ (4 * c + 2) = relV (gi sg c) (φ (4 * c)) (φ (4 * c + 1))

/-- a number as an element -/
def fi (x : Nat) : Fin 6 := ⟨x % 6, Nat.mod_lt _ (by decide)⟩
theorem fi_val {x : Nat} (h : x < 6) : (fi x).1 = x := Nat.mod_eq_of_lt h

/-! ### codes of lists of digits -/
def cdD : List Nat → Nat
  | [] => 0
  | a :: l => a + 6 * cdD l
theorem dg_cd : ∀ {l : List Nat}, DgL l → dg l.length (cdD l) = l ∧ cdD l < 6 ^ l.length
  | [], _ => ⟨rfl, Nat.one_pos⟩
  | a :: l, h => by
    have ha : a < 6 := h 0 (by simp)
    obtain ⟨h1, h2⟩ := dg_cd (l := l) fun k hk => h (k + 1) (by simpa using hk)
    have e1 : (a + 6 * cdD l) % 6 = a := by omega
    have e2 : (a + 6 * cdD l) / 6 = cdD l := by omega
    refine ⟨?_, ?_⟩
    · show (a + 6 * cdD l) % 6 :: dg l.length ((a + 6 * cdD l) / 6) = _
      rw [e1, e2, h1]
    · show a + 6 * cdD l < 6 ^ (l.length + 1)
      rw [Nat.pow_succ]; omega
theorem dg_inj : ∀ {g x y : Nat}, x < 6 ^ g → y < 6 ^ g → dg g x = dg g y → x = y
  | 0, x, y, hx, hy, _ => by rw [Nat.pow_zero] at hx hy; omega
  | g + 1, x, y, hx, hy, h => by
    injection h with h1 h2
    rw [Nat.pow_succ] at hx hy
    have := dg_inj (g := g) (x := x / 6) (y := y / 6) (by omega) (by omega) h2
    omega

section
variable {sg mt : List Int} {L : Int} (hd : IsD sg mt L)
include hd
/-- constant along the arcs -/
theorem hom_arc {φ : Nat → Fin 6} (h : HomD sg mt φ) {x y : Nat} (hx : x < mt.length) (hy : y < mt.length) (e : arN sg mt x = arN sg mt y) : φ x = φ y := by
  have hI := hd.2.2.2.2.2.1
  have hn := hd.2.1
  refine jl_ind (N := mt.length) (Q := fun x y => φ x = φ y) (fun _ _ => rfl) (fun _ _ _ _ h => h.symm) (fun _ _ _ _ _ _ h1 h2 => h1.trans h2) (eAB_in hI hn) (fun e he => ?_) x y hx hy ((arN_iff hd hx hy).1 e)
  rcases List.mem_append.1 he with he | he
  · unfold eA at he
    obtain ⟨z, hz, rfl⟩ := List.mem_map.1 he
    exact (h.mate z (List.mem_range.1 hz)).symm
  · unfold eB at he
    obtain ⟨z, hz, rfl⟩ := List.mem_map.1 he
    exact h.over z (List.mem_range.1 hz)
theorem rel_of {l : List Nat} {lp : Nat} (hl : DgL l) (hll : l.length = arC sg mt + lp) {c : Nat} (hc : c < sg.length) :
    imgD l (redL (relL sg mt c)) = 0 ↔ fi (gN l (arN sg mt (4 * c + 2))) = relV (gi sg c) (fi (gN l (arN sg mt (4 * c)))) (fi (gN l (arN sg mt (4 * c + 1)))) := by
  have hN := hd.2.1
  rw [(red_img hl (rel_wl hd hll hc)).1]
  have h0 := arc_dg hd hl hll (show 4 * c < mt.length by omega)
  have h1 := arc_dg hd hl hll (show 4 * c + 1 < mt.length by omega)
  have h2 := arc_dg hd hl hll (show 4 * c + 2 < mt.length by omega)
  have hg := (ga_arc hd hll (show 4 * c + 2 < mt.length by omega)).2.1
  unfold relL
  dsimp only
  rcases hd.2.2.2.2.1 c hc with e | e
  · rw [e, if_pos (by decide), imgD_four hl hg, letter_lt.1, letter_lt.1, letter_lt.2, letter_lt.2]
    have key : ∀ a, a < 6 → ∀ b, b < 6 → ∀ o, o < 6 → (mulD (mulD (mulD (invD b) (invD o)) a) o = 0 ↔ fi b = relV 1 (fi a) (fi o)) := by decide +kernel
    exact key _ h0 _ h2 _ h1
  · rw [e, if_neg (by decide), imgD_four hl hg, letter_lt.1, letter_lt.1, letter_lt.2, letter_lt.2]
    have key : ∀ a, a < 6 → ∀ b, b < 6 → ∀ o, o < 6 → (mulD (mulD (mulD (invD b) o) a) (invD o) = 0 ↔ fi b = relV (-1) (fi a) (fi o)) := by decide +kernel
    exact key _ h0 _ h2 _ h1
theorem hom_of {l : List Nat} {lp : Nat} (hl : DgL l) (hll : l.length = arC sg mt + lp) : homB (wrdL sg mt sg.length) l = true ↔ HomD sg mt fun x => fi (gN l (arN sg mt x)) := by
  have hN := hd.2.1
  have hI := hd.2.2.2.2.2.1
  unfold homB wrdL
  rw [List.all_eq_true]
  constructor
  · intro h
    refine ⟨fun x hx => ?_, fun c hc => ?_, fun c hc => ?_⟩
    · rw [(arN_iff hd (hI.gn hx).2.1 hx).2 ((arR_eqv hI hN).sym _ _ hx (hI.gn hx).2.1 (arc_mate hd hx))]
    · rw [(arN_iff hd (by omega) (by omega)).2 (arc_cross hd hc)]
    · have := h _ (List.mem_map.2 ⟨c, List.mem_range.2 hc, rfl⟩)
      exact (rel_of hd hl hll hc).1 (of_decide_eq_true this)
  · intro h w hw
    obtain ⟨c, hc, rfl⟩ := List.mem_map.1 hw
    have hc := List.mem_range.1 hc
    exact decide_eq_true ((rel_of hd hl hll hc).2 (h.rel c hc))
/-- the digits of an assignment -/
theorem list_of (φ : Nat → Fin 6) (h : HomD sg mt φ) (lp : Nat) (t : Nat → Nat) (ht : ∀ j, t j < 6) : ∃ l : List Nat, l.length = arC sg mt + lp ∧ DgL l ∧ (∀ x, x < mt.length → gN l (arN sg mt x) = (φ x).1) ∧ ∀ j, j < lp → gN l (arC sg mt + j) = t j := by
  have hex : ∀ a, ∃ x, a < arC sg mt → x < mt.length ∧ arN sg mt x = a := by
    intro a
    by_cases ha : a < arC sg mt
    · obtain ⟨x, h1, h2⟩ := arN_surj hd ha
      exact ⟨x, fun _ => ⟨h1, h2⟩⟩
    · exact ⟨0, fun h => absurd h ha⟩
  obtain ⟨s, hs⟩ := Classical.axiomOfChoice hex
  let l := (List.range (arC sg mt + lp)).map fun a => if a < arC sg mt then (φ (s a)).1 else t (a - arC sg mt)
  have hlen : l.length = arC sg mt + lp := by simp [l]
  have hat : ∀ a, a < arC sg mt + lp → gN l a = if a < arC sg mt then (φ (s a)).1 else t (a - arC sg mt) := fun a ha => by
    rw [gN_lt (by rw [hlen]; exact ha)]
    simp [l]
  refine ⟨l, hlen, fun k hk => ?_, fun x hx => ?_, fun j hj => ?_⟩
  · rw [hlen] at hk
    rw [hat k hk]
    split
    · exact (φ _).2
    · exact ht _
  · have ha := arN_lt (sg := sg) hd.2.2.2.2.2.1 hd.2.1 hx
    rw [hat _ (by omega), if_pos ha]
    obtain ⟨h1, h2⟩ := hs _ ha
    rw [hom_arc hd h h1 hx h2]
  · rw [hat _ (by omega), if_neg (by omega)]
    congr 1
    omega
end
/-- as many, through a map of the assignments that keeps them apart -/
theorem homs_le {sg mt q r : List Int} {L : Int} (hd : IsD sg mt L) (hd' : IsD q r L) (lp : Nat) (T : (Nat → Fin 6) → Nat → Fin 6) (hT : ∀ φ, HomD sg mt φ → HomD q r (T φ))
    (hi : ∀ φ χ, HomD sg mt φ → HomD sg mt χ → (∀ x, x < r.length → T φ x = T χ x) → ∀ x, x < mt.length → φ x = χ x) :
    homN (wrdL sg mt sg.length) (arC sg mt + lp) (6 ^ (arC sg mt + lp)) ≤ homN (wrdL q r q.length) (arC q r + lp) (6 ^ (arC q r + lp)) := by
  let ph : Nat → Nat → Fin 6 := fun y x => fi (gN (dg (arC sg mt + lp) y) (arN sg mt x))
  have hlen : ∀ y, (dg (arC sg mt + lp) y).length = arC sg mt + lp := fun y => dg_len _ _
  have hdg : ∀ y, DgL (dg (arC sg mt + lp) y) := fun y => dg_dg _ _
  have hex : ∀ y, ∃ l : List Nat, homB (wrdL sg mt sg.length) (dg (arC sg mt + lp) y) = true → l.length = arC q r + lp ∧ DgL l ∧ (∀ x, x < r.length → gN l (arN q r x) = (T (ph y) x).1) ∧ ∀ j, j < lp → gN l (arC q r + j) = gN (dg (arC sg mt + lp) y) (arC sg mt + j) % 6 := by
    intro y
    by_cases hy : homB (wrdL sg mt sg.length) (dg (arC sg mt + lp) y) = true
    · obtain ⟨l, hl⟩ := list_of hd' (T (ph y)) (hT _ ((hom_of hd (hdg y) (hlen y)).1 hy)) lp (fun j => gN (dg (arC sg mt + lp) y) (arC sg mt + j) % 6) fun j => Nat.mod_lt _ (by decide)
      exact ⟨l, fun _ => hl⟩
    · exact ⟨[], fun h => absurd h hy⟩
  obtain ⟨g, hg⟩ := Classical.axiomOfChoice hex
  refine cnt_inj (fun y => cdD (g y)) (fun y hy hA => ?_) (fun y z hy hz hA hB e => ?_)
  · obtain ⟨h1, h2, h3, -⟩ := hg y hA
    obtain ⟨e1, e2⟩ := dg_cd h2
    rw [h1] at e1 e2
    refine ⟨e2, ?_⟩
    rw [e1, hom_of hd' h2 h1]
    have := hT _ ((hom_of hd (hdg y) (hlen y)).1 hA)
    have hv : ∀ x, x < r.length → fi (gN (g y) (arN q r x)) = T (ph y) x := fun x hx => by
      rw [h3 x hx]; exact Fin.ext (fi_val (T (ph y) x).2)
    have hN := hd'.2.1
    refine ⟨fun x hx => ?_, fun c hc => ?_, fun c hc => ?_⟩
    · rw [hv x hx, hv _ (hd'.2.2.2.2.2.1.gn hx).2.1]; exact this.mate x hx
    · rw [hv _ (by omega), hv _ (by omega)]; exact this.over c hc
    · rw [hv _ (by omega), hv _ (by omega), hv _ (by omega)]; exact this.rel c hc
  · obtain ⟨y1, y2, y3, y4⟩ := hg y hA
    obtain ⟨z1, z2, z3, z4⟩ := hg z hB
    have eg : g y = g z := by
      have e1 := (dg_cd y2).1
      have e2 := (dg_cd z2).1
      rw [y1] at e1
      rw [z1] at e2
      rw [← e1, ← e2]
      exact congrArg _ e
    have hph := hi _ _ ((hom_of hd (hdg y) (hlen y)).1 hA) ((hom_of hd (hdg z) (hlen z)).1 hB) fun x hx => by
      apply Fin.ext
      rw [← y3 x hx, ← z3 x hx, eg]
    refine dg_inj hy hz (List.ext_getElem (by rw [hlen, hlen]) fun k h1 h2 => ?_)
    rw [← gN_lt h1, ← gN_lt h2]
    rw [hlen] at h1 h2
    by_cases hk : k < arC sg mt
    · obtain ⟨x, hx, rfl⟩ := arN_surj hd hk
      have := congrArg Fin.val (hph x hx)
      rwa [fi_val (hdg y _ (by rw [hlen]; exact h1)), fi_val (hdg z _ (by rw [hlen]; exact h2))] at this
    · have a := y4 (k - arC sg mt) (by omega)
      have b := z4 (k - arC sg mt) (by omega)
      rw [show arC sg mt + (k - arC sg mt) = k by omega] at a b
      rw [eg, b, Nat.mod_eq_of_lt (hdg z _ (by rw [hlen]; exact h2)), Nat.mod_eq_of_lt (hdg y _ (by rw [hlen]; exact h1))] at a
      exact a.symm

/-! ### the reverse and the reflection: inverses -/
section
variable {sg mt q r : List Int} {L : Int} {u : Nat → Nat} (hd : IsD sg mt L) (hM : Moved sg mt q r u)
include hd hM
/-- an assignment carried over -/
theorem hom_inv (φ : Nat → Fin 6) (h : HomD sg mt φ) (hu : ∀ c, c < sg.length → (pinv u mt.length (4 * c) = 4 * c ∧ pinv u mt.length (4 * c + 1) = 4 * c + 3 ∧ pinv u mt.length (4 * c + 2) = 4 * c + 2 ∧ pinv u mt.length (4 * c + 3) = 4 * c + 1 ∧ gi q c = -gi sg c) ∨
    (pinv u mt.length (4 * c) = 4 * c + 2 ∧ pinv u mt.length (4 * c + 1) = 4 * c + 3 ∧ pinv u mt.length (4 * c + 2) = 4 * c ∧ pinv u mt.length (4 * c + 3) = 4 * c + 1 ∧ gi q c = gi sg c)) : HomD q r fun y => S6.i (φ (pinv u mt.length y)) := by
  have hP := mv_perm hd hM
  refine ⟨fun y hy => ?_, fun c hc => ?_, fun c hc => ?_⟩
  · rw [hM.rl] at hy
    have hx := pinv_lt hP hy
    have e := mv_gn hM hx
    rw [f_pinv hP hy] at e
    rw [e, pinv_f hP (hd.2.2.2.2.2.1.gn hx).2.1, h.mate _ hx]
  · rw [hM.ql] at hc
    rcases hu c hc with ⟨-, h1, -, h3, -⟩ | ⟨-, h1, -, h3, -⟩ <;> rw [h1, h3, h.over c hc]
  · rw [hM.ql] at hc
    have hr := h.rel c hc
    have ho := h.over c hc
    rcases hu c hc with ⟨h0, h1, h2, h3, h4⟩ | ⟨h0, h1, h2, h3, h4⟩
    · rw [h0, h1, h2, h4, ← ho, hr]
      have key : ∀ a o : Fin 6, S6.i (relV 1 a o) = relV (-1) (S6.i a) (S6.i o) ∧ S6.i (relV (-1) a o) = relV 1 (S6.i a) (S6.i o) := by decide +kernel
      rcases hd.2.2.2.2.1 c hc with e | e <;> rw [e]
      · exact (key _ _).1
      · exact (key _ _).2
    · rw [h0, h1, h2, h4, ← ho, hr]
      have key : ∀ a o : Fin 6, S6.i a = relV 1 (S6.i (relV 1 a o)) (S6.i o) ∧ S6.i a = relV (-1) (S6.i (relV (-1) a o)) (S6.i o) := by decide +kernel
      rcases hd.2.2.2.2.1 c hc with e | e <;> rw [e]
      · exact (key _ _).1
      · exact (key _ _).2
theorem homs_inv (hd' : IsD q r L) (lp : Nat) (hu : ∀ c, c < sg.length → (pinv u mt.length (4 * c) = 4 * c ∧ pinv u mt.length (4 * c + 1) = 4 * c + 3 ∧ pinv u mt.length (4 * c + 2) = 4 * c + 2 ∧ pinv u mt.length (4 * c + 3) = 4 * c + 1 ∧ gi q c = -gi sg c) ∨
    (pinv u mt.length (4 * c) = 4 * c + 2 ∧ pinv u mt.length (4 * c + 1) = 4 * c + 3 ∧ pinv u mt.length (4 * c + 2) = 4 * c ∧ pinv u mt.length (4 * c + 3) = 4 * c + 1 ∧ gi q c = gi sg c)) :
    homN (wrdL sg mt sg.length) (arC sg mt + lp) (6 ^ (arC sg mt + lp)) ≤ homN (wrdL q r q.length) (arC q r + lp) (6 ^ (arC q r + lp)) := by
  have hP := mv_perm hd hM
  refine homs_le hd hd' lp (fun φ y => S6.i (φ (pinv u mt.length y))) (fun φ h => hom_inv hd hM φ h hu) (fun φ χ _ _ h x hx => ?_)
  have := h (u x) (by rw [hM.rl]; exact hP.lt x hx)
  rw [pinv_f hP hx] at this
  have := congrArg S6.i this
  rwa [Gp.ii, Gp.ii] at this
end

/-! ### the mirror image: by the potential on the faces -/
section
variable {sg mt : List Int} {L : Int} (hd : IsD sg mt L)
include hd
omit hd in
theorem outB_four {c : Nat} (_hc : c < sg.length) : outB sg (4 * c) = false ∧ outB sg (4 * c + 2) = true ∧ (gi sg c = 1 → outB sg (4 * c + 1) = true ∧ outB sg (4 * c + 3) = false) ∧ (gi sg c = -1 → outB sg (4 * c + 1) = false ∧ outB sg (4 * c + 3) = true) := by
  have h0 : outB sg (4 * c) = false := by unfold outB; rw [if_neg (by omega), if_neg (by omega), if_neg (by omega)]
  have h1 : outB sg (4 * c + 1) = (gi sg c == 1) := by unfold outB; rw [if_pos (by omega), show (4 * c + 1) / 4 = c by omega]
  have h2 : outB sg (4 * c + 2) = true := by unfold outB; rw [if_neg (by omega), if_pos (by omega)]
  have h3 : outB sg (4 * c + 3) = (gi sg c == -1) := by unfold outB; rw [if_neg (by omega), if_neg (by omega), if_pos (by omega), show (4 * c + 3) / 4 = c by omega]
  refine ⟨h0, h2, fun e => ?_, fun e => ?_⟩
  · rw [h1, h3, e]; decide
  · rw [h1, h3, e]; decide
/-- what lies along the edges -/
def wH (sg : List Int) (φ : Nat → Fin 6) (h : Nat) : Fin 6 := if outB sg h = true then φ h else S6.i (φ h)
structure PotH (sg mt : List Int) (φ p : Nat → Fin 6) : Prop where
  face : ∀ h, h < mt.length → p (nxF mt h) = p h
  edge : ∀ h, h < mt.length → wH sg φ h = S6.m (S6.i (p (gn mt h))) (p h)
  base : ∀ c, c < sg.length → labAt mt sg.length c = c → p (4 * c) = S6.o
theorem pot_ex {φ : Nat → Fin 6} (h : HomD sg mt φ) : ∃ p, PotH sg mt φ p := by
  have hN := hd.2.1
  have hI := hd.2.2.2.2.2.1
  obtain ⟨p, h1, h2⟩ := potential hd S6o (wH sg φ) (fun x hx => by
    have h0 := hd.2.2.2.2.2.2.1 x hx
    unfold wH
    rw [h.mate x hx]
    revert h0
    cases outB sg x <;> cases outB sg (gn mt x) <;> simp [S6o, Gp.ii]) (fun c hc => by
    obtain ⟨o0, o2, o1, o3⟩ := outB_four hc
    unfold VtxOk wH
    have hr := h.rel c hc
    have ho := h.over c hc
    show S6.m (S6.m (S6.m _ _) _) _ = S6.o
    rw [if_neg (by rw [o0]; simp), if_pos o2, ← ho, hr]
    have key : ∀ a o : Fin 6, S6.m (S6.m (S6.m (S6.i a) o) (relV 1 a o)) (S6.i o) = S6.o ∧ S6.m (S6.m (S6.m (S6.i a) (S6.i o)) (relV (-1) a o)) o = S6.o := by decide +kernel
    rcases hd.2.2.2.2.1 c hc with e | e
    · rw [if_pos (o1 e).1, if_neg (by rw [(o1 e).2]; simp), e]
      exact (key _ _).1
    · rw [if_neg (by rw [(o3 e).1]; simp), if_pos (o3 e).2, e]
      exact (key _ _).2)
  have hl : ∀ x, x < mt.length → labAt mt sg.length (x / 4) < sg.length := fun x hx => (lab_least hI hN (show x / 4 < sg.length by omega)).2.2
  refine ⟨fun x => S6.m (S6.i (p (4 * labAt mt sg.length (x / 4)))) (p x), fun x hx => ?_, fun x hx => ?_, fun c hc hlc => ?_⟩
  · have e : labAt mt sg.length (nxF mt x / 4) = labAt mt sg.length (x / 4) := by
      unfold nxF
      rw [turnN_div]
      exact (lab_mate hI hN hx).symm
    rw [e, h1 x hx]
  · rw [h2 x hx, show labAt mt sg.length (gn mt x / 4) = labAt mt sg.length (x / 4) from (lab_mate hI hN hx).symm]
    show S6.m (S6.i (p (gn mt x))) (p x) = _
    rw [Gp.imul, Gp.ii, Gp.asc, Gp.mia]
  · show S6.m (S6.i (p (4 * labAt mt sg.length (4 * c / 4)))) (p (4 * c)) = S6.o
    rw [show 4 * c / 4 = c by omega, hlc, Gp.im]
theorem pot_gn {φ p : Nat → Fin 6} (h : PotH sg mt φ p) {x : Nat} (hx : x < mt.length) : p (gn mt x) = p (turnN x 3) := by
  have hI := hd.2.2.2.2.2.1
  have hg := hI.gn hx
  have := h.face (gn mt x) hg.2.1
  unfold nxF at this
  rw [hg.2.2.2] at this
  exact this.symm
/-- the four corners of a crossing -/
theorem pot_four {φ p : Nat → Fin 6} (h : PotH sg mt φ p) {c : Nat} (hc : c < sg.length) :
    p (gn mt (4 * c)) = p (4 * c + 3) ∧ p (gn mt (4 * c + 1)) = p (4 * c) ∧ p (gn mt (4 * c + 2)) = p (4 * c + 1) ∧ p (gn mt (4 * c + 3)) = p (4 * c + 2) := by
  have hN := hd.2.1
  have e0 : turnN (4 * c) 3 = 4 * c + 3 := by unfold turnN; omega
  have e1 : turnN (4 * c + 1) 3 = 4 * c := by unfold turnN; omega
  have e2 : turnN (4 * c + 2) 3 = 4 * c + 1 := by unfold turnN; omega
  have e3 : turnN (4 * c + 3) 3 = 4 * c + 2 := by unfold turnN; omega
  exact ⟨by rw [pot_gn hd h (by omega), e0], by rw [pot_gn hd h (by omega), e1], by rw [pot_gn hd h (by omega), e2], by rw [pot_gn hd h (by omega), e3]⟩
/-- the assignment of the mirror image -/
def psH (sg mt : List Int) (p : Nat → Fin 6) (x : Nat) : Fin 6 := if outB sg x = true then S6.m (p (gn mt x)) (S6.i (p x)) else S6.m (p x) (S6.i (p (gn mt x)))
theorem psH_mate (p : Nat → Fin 6) {x : Nat} (hx : x < mt.length) : psH sg mt p (gn mt x) = psH sg mt p x := by
  have h0 := hd.2.2.2.2.2.2.1 x hx
  unfold psH
  rw [(hd.2.2.2.2.2.1.gn hx).2.2.2]
  revert h0
  cases outB sg x <;> cases outB sg (gn mt x) <;> simp
omit hd in
theorem psH_out {p : Nat → Fin 6} {x : Nat} (h : outB sg x = true) : psH sg mt p x = S6.m (p (gn mt x)) (S6.i (p x)) := if_pos h
omit hd in
theorem psH_in {p : Nat → Fin 6} {x : Nat} (h : outB sg x = false) : psH sg mt p x = S6.m (p x) (S6.i (p (gn mt x))) := if_neg (by rw [h]; simp)
theorem corners {φ p : Nat → Fin 6} (hφ : HomD sg mt φ) (h : PotH sg mt φ p) {c : Nat} (hc : c < sg.length) :
    (gi sg c = 1 → p (4 * c + 1) = S6.m (p (4 * c)) (S6.m (S6.i (p (4 * c + 3))) (p (4 * c + 2)))) ∧ (gi sg c = -1 → p (4 * c + 3) = S6.m (p (4 * c + 2)) (S6.m (S6.i (p (4 * c + 1))) (p (4 * c)))) := by
  have hN := hd.2.1
  obtain ⟨g0, g1, g2, g3⟩ := pot_four hd h hc
  obtain ⟨o0, o2, o1, o3⟩ := outB_four hc
  have e1 := h.edge (4 * c + 1) (by omega)
  have e3 := h.edge (4 * c + 3) (by omega)
  rw [g1] at e1
  rw [g3] at e3
  unfold wH at e1 e3
  rw [← hφ.over c hc] at e3
  have key : ∀ f a b c d : Fin 6, f = S6.m (S6.i a) b → S6.i f = S6.m (S6.i c) d → b = S6.m a (S6.m (S6.i d) c) := by
    intro f a b c d h1 h2
    have h3 : f = S6.m (S6.i d) c := by rw [← S6.ii f, h2, Gp.imul, Gp.ii]
    rw [← h3, h1, Gp.mia]
  refine ⟨fun e => ?_, fun e => ?_⟩
  · rw [if_pos (o1 e).1] at e1
    rw [if_neg (by rw [(o1 e).2]; simp)] at e3
    exact key _ _ _ _ _ e1 e3
  · rw [if_neg (by rw [(o3 e).1]; simp)] at e1
    rw [if_pos (o3 e).2] at e3
    exact key _ _ _ _ _ e3 e1
theorem psH_hom {q r : List Int} {φ p : Nat → Fin 6} (hφ : HomD sg mt φ) (h : PotH sg mt φ p) (him : IsMv sg mt (byM sg) sgN q r) : HomD q r fun y => psH sg mt p (pinv (mvT (byM sg)) mt.length y) := by
  have hM := moved_M hd him
  have hP := mv_perm hd hM
  have hN := hd.2.1
  have hq : ∀ c, c < sg.length → gi q c = -gi sg c := fun c hc => by rw [him.qe c hc]; unfold sgN; omega
  have hv : ∀ x y, x < mt.length → mvT (byM sg) x = y → pinv (mvT (byM sg)) mt.length y = x := fun x y hx e => by rw [← e]; exact pinv_f hP hx
  refine ⟨fun y hy => ?_, fun c hc => ?_, fun c hc => ?_⟩
  · rw [hM.rl] at hy
    have hx := pinv_lt hP hy
    have e := mv_gn hM hx
    rw [f_pinv hP hy] at e
    rw [e, pinv_f hP (hd.2.2.2.2.2.1.gn hx).2.1, psH_mate hd _ hx]
  all_goals
    rw [hM.ql] at hc
    obtain ⟨g0, g1, g2, g3⟩ := pot_four hd h hc
    obtain ⟨o0, o2, o1, o3⟩ := outB_four hc
    obtain ⟨k1, k2⟩ := corners hd hφ h hc
    rcases hd.2.2.2.2.1 c hc with e | e
  · rw [hv (4 * c) (4 * c + 1) (by omega) (by rw [mvT_M, show 4 * c / 4 = c by omega, if_pos e]; unfold turnN; omega), hv (4 * c + 2) (4 * c + 3) (by omega) (by rw [mvT_M, show (4 * c + 2) / 4 = c by omega, if_pos e]; unfold turnN; omega)]
    rw [psH_in o0, psH_out o2, g0, g2, k1 e]
    generalize p (4 * c) = C0
    generalize p (4 * c + 2) = C2
    generalize p (4 * c + 3) = C3
    revert C0 C2 C3
    decide +kernel
  · rw [hv (4 * c + 2) (4 * c + 1) (by omega) (by rw [mvT_M, show (4 * c + 2) / 4 = c by omega, if_neg (by omega)]; unfold turnN; omega), hv (4 * c) (4 * c + 3) (by omega) (by rw [mvT_M, show 4 * c / 4 = c by omega, if_neg (by omega)]; unfold turnN; omega)]
    rw [psH_in o0, psH_out o2, g0, g2, k2 e]
    generalize p (4 * c) = C0
    generalize p (4 * c + 1) = C1
    generalize p (4 * c + 2) = C2
    revert C0 C1 C2
    decide +kernel
  · rw [hv (4 * c) (4 * c + 1) (by omega) (by rw [mvT_M, show 4 * c / 4 = c by omega, if_pos e]; unfold turnN; omega), hv (4 * c + 1) (4 * c + 2) (by omega) (by rw [mvT_M, show (4 * c + 1) / 4 = c by omega, if_pos e]; unfold turnN; omega),
      hv (4 * c + 3) (4 * c) (by omega) (by rw [mvT_M, show (4 * c + 3) / 4 = c by omega, if_pos e]; unfold turnN; omega), hq c hc, e]
    rw [psH_in o0, psH_out (o1 e).1, psH_in (o1 e).2, g0, g1, g3, k1 e]
    generalize p (4 * c) = C0
    generalize p (4 * c + 2) = C2
    generalize p (4 * c + 3) = C3
    revert C0 C2 C3
    decide +kernel
  · rw [hv (4 * c + 2) (4 * c + 1) (by omega) (by rw [mvT_M, show (4 * c + 2) / 4 = c by omega, if_neg (by omega)]; unfold turnN; omega), hv (4 * c + 3) (4 * c + 2) (by omega) (by rw [mvT_M, show (4 * c + 3) / 4 = c by omega, if_neg (by omega)]; unfold turnN; omega),
      hv (4 * c + 1) (4 * c) (by omega) (by rw [mvT_M, show (4 * c + 1) / 4 = c by omega, if_neg (by omega)]; unfold turnN; omega), hq c hc, e]
    rw [psH_out o2, psH_out (o3 e).2, psH_in (o3 e).1, g1, g2, g3, k2 e]
    generalize p (4 * c) = C0
    generalize p (4 * c + 1) = C1
    generalize p (4 * c + 2) = C2
    revert C0 C1 C2
    decide +kernel
/-- the potential is known by the assignment of the mirror image -/
theorem pot_same {φ χ p p' : Nat → Fin 6} (h : PotH sg mt φ p) (h' : PotH sg mt χ p') (he : ∀ x, x < mt.length → psH sg mt p x = psH sg mt p' x) : ∀ x, x < mt.length → p x = p' x := by
  have hN := hd.2.1
  have hI := hd.2.2.2.2.2.1
  have across : ∀ x, x < mt.length → p x = p' x → p (gn mt x) = p' (gn mt x) := by
    intro x hx e
    have := he x hx
    unfold psH at this
    rw [e] at this
    split at this
    · exact S6.rcn this
    · have := S6.lc this
      rw [← S6.ii (p (gn mt x)), this, S6.ii]
  have turn : ∀ x, x < mt.length → p x = p' x → p (turnN x 3) = p' (turnN x 3) := by
    intro x hx e
    rw [← pot_gn hd h hx, ← pot_gn hd h' hx]
    exact across x hx e
  have four : ∀ x y, x < mt.length → y / 4 = x / 4 → p x = p' x → p y = p' y := by
    intro x y hx hy e
    have t1 := turn x hx e
    have l1 : turnN x 3 < mt.length := by rw [hN] at hx ⊢; exact turnN_lt hx
    have t2 := turn _ l1 t1
    have l2 : turnN (turnN x 3) 3 < mt.length := by rw [hN] at l1 ⊢; exact turnN_lt l1
    have t3 := turn _ l2 t2
    have hc : y = x ∨ y = turnN x 3 ∨ y = turnN (turnN x 3) 3 ∨ y = turnN (turnN (turnN x 3) 3) 3 := by unfold turnN; omega
    rcases hc with rfl | rfl | rfl | rfl <;> assumption
  have key : ∀ {c d}, Cn mt c d → c < sg.length → (∀ x, x < mt.length → x / 4 = c → p x = p' x) → ∀ x, x < mt.length → x / 4 = d → p x = p' x := by
    intro c d hcd
    induction hcd with
    | refl => exact fun _ h => h
    | @step d z hcd hl hz ih =>
      intro hc h0 x hx hxd
      have := across z hl (ih hc h0 z hl hz)
      exact four (gn mt z) x (hI.gn hl).2.1 hxd this
  intro x hx
  have hc : x / 4 < sg.length := by omega
  obtain ⟨a1, -, a3⟩ := lab_least hI hN hc
  have hll := lab_lab hI hN hc
  refine key a1 a3 (fun y hy hyd => ?_) x hx rfl
  refine four (4 * gN (labN mt sg.length) (x / 4)) y (by omega) (by rw [hyd]; omega) ?_
  rw [h.base _ a3 hll, h'.base _ a3 hll]
theorem homs_mir {q r : List Int} (him : IsMv sg mt (byM sg) sgN q r) (hd' : IsD q r L) (lp : Nat) :
    homN (wrdL sg mt sg.length) (arC sg mt + lp) (6 ^ (arC sg mt + lp)) ≤ homN (wrdL q r q.length) (arC q r + lp) (6 ^ (arC q r + lp)) := by
  have hM := moved_M hd him
  have hP := mv_perm hd hM
  have hex : ∀ φ : Nat → Fin 6, ∃ p, HomD sg mt φ → PotH sg mt φ p := by
    intro φ
    by_cases h : HomD sg mt φ
    · obtain ⟨p, hp⟩ := pot_ex hd h
      exact ⟨p, fun _ => hp⟩
    · exact ⟨φ, fun h' => absurd h' h⟩
  obtain ⟨P, hP'⟩ := Classical.axiomOfChoice hex
  refine homs_le hd hd' lp (fun φ y => psH sg mt (P φ) (pinv (mvT (byM sg)) mt.length y)) (fun φ h => psH_hom hd h (hP' φ h) him) (fun φ χ hφ hχ h x hx => ?_)
  have hps : ∀ x, x < mt.length → psH sg mt (P φ) x = psH sg mt (P χ) x := fun x hx => by
    have := h (mvT (byM sg) x) (by rw [hM.rl]; exact hP.lt x hx)
    rwa [pinv_f hP hx] at this
  have hpp := pot_same hd (hP' φ hφ) (hP' χ hχ) hps
  have e1 := (hP' φ hφ).edge x hx
  have e2 := (hP' χ hχ).edge x hx
  rw [hpp x hx, hpp _ (hd.2.2.2.2.2.1.gn hx).2.1, ← e2] at e1
  unfold wH at e1
  split at e1
  · exact e1
  · rw [← S6.ii (φ x), e1, S6.ii]
end

/-! ### back again -/
theorem mv_back {sg mt q r : List Int} {L : Int} {by1 by2 : Nat → Nat → Int} {sgF : Nat → Int} (hd : IsD sg mt L) (h : IsMv sg mt by1 sgF q r) (hM : Moved sg mt q r (mvT by1)) (hs : ∀ c, sgF c = 1 ∨ sgF c = -1) (hu : ∀ x, x < mt.length → mvT by2 (mvT by1 x) = x) : IsMv q r by2 sgF sg mt := by
  have hP := mv_perm hd hM
  refine ⟨h.ql.symm, h.rl.symm, fun c hc => ?_, fun y hy => ?_⟩
  · rw [h.ql] at hc
    rw [h.qe c hc]
    rcases hs c with e | e <;> rw [e] <;> omega
  · rw [h.rl] at hy
    obtain ⟨x, hx, rfl⟩ : ∃ x, x < mt.length ∧ mvT by1 x = y := ⟨_, pinv_lt hP hy, f_pinv hP hy⟩
    rw [mv_gn hM hx, hu x hx, hu _ (hd.2.2.2.2.2.1.gn hx).2.1]
    exact (hd.2.2.2.2.2.1.gn hx).1
section
variable {sg mt q r : List Int} {L : Int} (hd : IsD sg mt L)
include hd
theorem homs_M (h : IsMv sg mt (byM sg) sgN q r) (lp : Nat) : homN (wrdL sg mt sg.length) (arC sg mt + lp) (6 ^ (arC sg mt + lp)) = homN (wrdL q r q.length) (arC q r + lp) (6 ^ (arC q r + lp)) := by
  have hM := moved_M hd h
  have hd' := mv_isD hd hM
  have hN := hd.2.1
  have hb := mv_back (by2 := byM q) hd h hM (fun _ => .inr rfl) fun x hx => by
    have hc : x / 4 < sg.length := by omega
    rw [mvT_M, mvT_M, turnN_div, h.qe _ hc, turnN_add]
    unfold sgN
    rcases hd.2.2.2.2.1 _ hc with e | e <;> rw [e]
    · exact turnN_four x
    · exact turnN_four x
  exact Nat.le_antisymm (homs_mir hd h hd' lp) (homs_mir hd' hb hd lp)
theorem homs_F (h : IsMv sg mt byF sgN q r) (lp : Nat) : homN (wrdL sg mt sg.length) (arC sg mt + lp) (6 ^ (arC sg mt + lp)) = homN (wrdL q r q.length) (arC q r + lp) (6 ^ (arC q r + lp)) := by
  have hM := moved_F hd h
  have hd' := mv_isD hd hM
  have hb := mv_back (by2 := byF) hd h hM (fun _ => .inr rfl) fun x hx => by
    rw [mvT_F, mvT_F]; unfold turnN; split <;> split <;> omega
  have key : ∀ {sg mt q r : List Int}, IsD sg mt L → IsD q r L → IsMv sg mt byF sgN q r → homN (wrdL sg mt sg.length) (arC sg mt + lp) (6 ^ (arC sg mt + lp)) ≤ homN (wrdL q r q.length) (arC q r + lp) (6 ^ (arC q r + lp)) := by
    intro sg mt q r hd hd' h
    have hM := moved_F hd h
    have hP := mv_perm hd hM
    have hN := hd.2.1
    have hv : ∀ x y, x < mt.length → mvT byF x = y → pinv (mvT byF) mt.length y = x := fun x y hx e => by rw [← e]; exact pinv_f hP hx
    refine homs_inv hd hM hd' lp fun c hc => .inl ⟨hv _ _ (by omega) ?_, hv _ _ (by omega) ?_, hv _ _ (by omega) ?_, hv _ _ (by omega) ?_, by rw [h.qe c hc]; unfold sgN; omega⟩ <;>
      (rw [mvT_F]; unfold turnN; split <;> omega)
  exact Nat.le_antisymm (key hd hd' h) (key hd' hd hb)
theorem homs_R (h : IsMv sg mt byR sgP q r) (lp : Nat) : homN (wrdL sg mt sg.length) (arC sg mt + lp) (6 ^ (arC sg mt + lp)) = homN (wrdL q r q.length) (arC q r + lp) (6 ^ (arC q r + lp)) := by
  have hM := moved_R hd h
  have hd' := mv_isD hd hM
  have hb := mv_back (by2 := byR) hd h hM (fun _ => .inl rfl) fun x hx => by
    rw [mvT_R, mvT_R, turnN_add]; exact turnN_four x
  have key : ∀ {sg mt q r : List Int}, IsD sg mt L → IsD q r L → IsMv sg mt byR sgP q r → homN (wrdL sg mt sg.length) (arC sg mt + lp) (6 ^ (arC sg mt + lp)) ≤ homN (wrdL q r q.length) (arC q r + lp) (6 ^ (arC q r + lp)) := by
    intro sg mt q r hd hd' h
    have hM := moved_R hd h
    have hP := mv_perm hd hM
    have hN := hd.2.1
    have hv : ∀ x y, x < mt.length → mvT byR x = y → pinv (mvT byR) mt.length y = x := fun x y hx e => by rw [← e]; exact pinv_f hP hx
    refine homs_inv hd hM hd' lp fun c hc => .inr ⟨hv _ _ (by omega) ?_, hv _ _ (by omega) ?_, hv _ _ (by omega) ?_, hv _ _ (by omega) ?_, by rw [h.qe c hc]; unfold sgP; omega⟩ <;>
      (rw [mvT_R]; unfold turnN; omega)
  exact Nat.le_antisymm (key hd hd' h) (key hd' hd hb)
end
end Go.Proofs.Ytcjgfncbecbhjaa

