/-
  Edges laid one by one onto a permutation: faces and components counted, the genus inequality. No program here.
-/
import Derived.Test.YtaghemilihaiaaaCls
namespace Go.Proofs.Ytaghemilihaiaaa

/-- the permutation a behind the exchanges of the edges es -/
def fE (a : Nat → Nat) : List (Nat × Nat) → Nat → Nat
  | [] => a
  | e :: es => fun z => fE a es (sw e.1 e.2 z)
/-- the other end of the edge, the number itself if it is on none -/
def eE : List (Nat × Nat) → Nat → Nat
  | [] => fun z => z
  | e :: es => fun z => eE es (sw e.1 e.2 z)
theorem fE_eq (a : Nat → Nat) : ∀ es z, fE a es z = a (eE es z)
  | [], _ => rfl
  | e :: es, z => fE_eq a es (sw e.1 e.2 z)
/-- joined by cycles of a and by edges -/
def kE (a : Nat → Nat) (N : Nat) : List (Nat × Nat) → Nat → Nat → Bool
  | [] => rc a N
  | e :: es => joinB (kE a N es) e.1 e.2
def InE (N : Nat) (es : List (Nat × Nat)) : Prop := ∀ e, e ∈ es → e.1 < N ∧ e.2 < N ∧ e.1 ≠ e.2
theorem InE.tail {N : Nat} {e : Nat × Nat} {es : List (Nat × Nat)} (h : InE N (e :: es)) : InE N es := fun x hx => h x (List.mem_cons_of_mem _ hx)
theorem InE.head {N : Nat} {e : Nat × Nat} {es : List (Nat × Nat)} (h : InE N (e :: es)) : e.1 < N ∧ e.2 < N ∧ e.1 ≠ e.2 := h e (List.mem_cons_self ..)

section
variable {a : Nat → Nat} {N : Nat} (hP : PermB a N)
include hP
theorem fE_perm : ∀ es, InE N es → PermB (fE a es) N
  | [], _ => hP
  | _ :: es, h => sw_perm (fE_perm es h.tail) h.head.1 h.head.2.1
theorem kE_eqv : ∀ es, InE N es → EqvB (kE a N es) N
  | [], _ => rc_eqv hP
  | _ :: es, h => joinB_eqv (kE_eqv es h.tail) h.head.1 h.head.2.1
/-- edges keep to the components -/
theorem kE_edge : ∀ es, InE N es → ∀ z, z < N → kE a N es z (eE es z) = true
  | [], h, z, hz => (kE_eqv hP [] h).rfl_ z hz
  | e :: es, h, z, hz => by
    obtain ⟨h1, h2, -⟩ := h.head
    have hE := kE_eqv hP es h.tail
    have ih := kE_edge es h.tail (sw e.1 e.2 z) (sw_lt h1 h2 hz)
    show joinB (kE a N es) e.1 e.2 z (eE es (sw e.1 e.2 z)) = true
    rw [joinB_iff]
    by_cases e1 : z = e.1
    · subst e1
      rw [sw_l] at ih ⊢
      exact .inr (.inl ⟨hE.rfl_ _ h1, ih⟩)
    · by_cases e2 : z = e.2
      · subst e2
        rw [sw_r] at ih ⊢
        exact .inr (.inr ⟨hE.rfl_ _ h2, ih⟩)
      · rw [sw_o e1 e2] at ih ⊢
        exact .inl ih
omit hP in
theorem eE_lt : ∀ es, InE N es → ∀ z, z < N → eE es z < N
  | [], _, _, hz => hz
  | _ :: es, h, _, hz => eE_lt es h.tail _ (sw_lt h.head.1 h.head.2.1 hz)
omit hP in
theorem kE_rc : ∀ es, InE N es → ∀ z w, z < N → rc a N z w = true → kE a N es z w = true
  | [], _, _, _, _, h => h
  | _ :: es, h, z, w, hz, h1 => joinB_iff.2 (.inl (kE_rc es h.tail z w hz h1))
theorem kE_next (es : List (Nat × Nat)) (h : InE N es) {z : Nat} (hz : z < N) : kE a N es z (a z) = true := kE_rc es h z _ hz (rc_next hP hz)
theorem kE_face (es : List (Nat × Nat)) (h : InE N es) {z : Nat} (hz : z < N) : kE a N es z (fE a es z) = true := by
  have hE := kE_eqv hP es h
  have h1 := eE_lt es h z hz
  rw [fE_eq]
  exact hE.tr _ _ _ hz h1 (hP.lt _ h1) (kE_edge hP es h z hz) (kE_next hP es h h1)
theorem kE_faces (es : List (Nat × Nat)) (h : InE N es) {z w : Nat} (hz : z < N) (hr : rc (fE a es) N z w = true) : kE a N es z w = true :=
  rc_sub (fE_perm hP es h) (kE_eqv hP es h) (fun _ hx => kE_face hP es h hx) hz hr
/-- what one more edge does to the numbers of faces and of components -/
theorem edge_on (e : Nat × Nat) (es : List (Nat × Nat)) (h : InE N (e :: es)) :
    (kE a N es e.1 e.2 = false ∧ rc (fE a es) N e.1 e.2 = false ∧ ncls (rc (fE a (e :: es)) N) N + 1 = ncls (rc (fE a es) N) N ∧ ncls (kE a N (e :: es)) N + 1 = ncls (kE a N es) N) ∨
    (kE a N es e.1 e.2 = true ∧ rc (fE a es) N e.1 e.2 = false ∧ ncls (rc (fE a (e :: es)) N) N + 1 = ncls (rc (fE a es) N) N ∧ ncls (kE a N (e :: es)) N = ncls (kE a N es) N) ∨
    (kE a N es e.1 e.2 = true ∧ rc (fE a es) N e.1 e.2 = true ∧ ncls (rc (fE a (e :: es)) N) N = ncls (rc (fE a es) N) N + 1 ∧ ncls (kE a N (e :: es)) N = ncls (kE a N es) N) := by
  obtain ⟨h1, h2, h3⟩ := h.head
  have hF := fE_perm hP es h.tail
  have hk : ncls (kE a N (e :: es)) N + (if kE a N es e.1 e.2 = true then 0 else 1) = ncls (kE a N es) N := ncls_join (kE_eqv hP es h.tail) h1 h2
  cases hkk : kE a N es e.1 e.2
  · left
    have hr : rc (fE a es) N e.1 e.2 = false := by
      rw [Bool.eq_false_iff]
      intro hr
      rw [kE_faces hP es h.tail h1 hr] at hkk
      cases hkk
    rw [hkk] at hk
    exact ⟨rfl, hr, ncls_joins hF h1 h2 hr, by simpa using hk⟩
  · right
    rw [hkk] at hk
    cases hr : rc (fE a es) N e.1 e.2
    · exact .inl ⟨rfl, rfl, ncls_joins hF h1 h2 hr, by simpa using hk⟩
    · exact .inr ⟨rfl, rfl, ncls_parts hF h1 h2 h3 hr, by simpa using hk⟩
/-- the genus inequality, and the parity of its two sides -/
theorem genus_le : ∀ es, InE N es → ∃ d, ncls (rc (fE a es) N) N + ncls (rc a N) N + 2 * d = es.length + 2 * ncls (kE a N es) N
  | [], _ => ⟨0, by show ncls (rc a N) N + _ + _ = 0 + 2 * ncls (rc a N) N; omega⟩
  | e :: es, h => by
    obtain ⟨d, hd⟩ := genus_le es h.tail
    rw [List.length_cons]
    rcases edge_on hP e es h with ⟨-, -, h3, h4⟩ | ⟨-, -, h3, h4⟩ | ⟨-, -, h3, h4⟩
    · exact ⟨d, by omega⟩
    · exact ⟨d + 1, by omega⟩
    · exact ⟨d, by omega⟩
/-- drawn on spheres -/
def Plane (a : Nat → Nat) (N : Nat) (es : List (Nat × Nat)) : Prop := ncls (rc (fE a es) N) N + ncls (rc a N) N = es.length + 2 * ncls (kE a N es) N
theorem Plane.tail {e : Nat × Nat} {es : List (Nat × Nat)} (h : InE N (e :: es)) (hp : Plane a N (e :: es)) :
    Plane a N es ∧ (kE a N es e.1 e.2 = true → rc (fE a es) N e.1 e.2 = true) := by
  obtain ⟨d, hd⟩ := genus_le hP es h.tail
  unfold Plane at hp ⊢
  rw [List.length_cons] at hp
  rcases edge_on hP e es h with ⟨h1, -, h3, h4⟩ | ⟨h1, -, h3, h4⟩ | ⟨h1, h2, h3, h4⟩
  · exact ⟨by omega, fun h => by rw [h1] at h; cases h⟩
  · omega
  · exact ⟨by omega, fun _ => h2⟩
end
end Go.Proofs.Ytaghemilihaiaaa

