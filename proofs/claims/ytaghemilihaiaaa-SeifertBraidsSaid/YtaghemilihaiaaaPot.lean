/-
  Potentials on the faces of a drawing on spheres, with values in any group. No program here.
-/
import Derived.Test.YtaghemilihaiaaaGenus
namespace Go.Proofs.Ytaghemilihaiaaa

/-- a group -/
structure Gp (G : Type) where
  m : G → G → G
  o : G
  i : G → G
  asc : ∀ a b c, m (m a b) c = m a (m b c)
  om : ∀ a, m o a = a
  mo : ∀ a, m a o = a
  im : ∀ a, m (i a) a = o
  mi : ∀ a, m a (i a) = o

section
variable {G : Type} (Γ : Gp G)
theorem Gp.ima (a b : G) : Γ.m (Γ.i a) (Γ.m a b) = b := by rw [← Γ.asc, Γ.im, Γ.om]
theorem Gp.mia (a b : G) : Γ.m a (Γ.m (Γ.i a) b) = b := by rw [← Γ.asc, Γ.mi, Γ.om]
theorem Gp.lc {a b c : G} (h : Γ.m a b = Γ.m a c) : b = c := by rw [← Γ.ima a b, h, Γ.ima]
theorem Gp.rcn {a b c : G} (h : Γ.m b a = Γ.m c a) : b = c := by
  have e : ∀ x, Γ.m (Γ.m x a) (Γ.i a) = x := fun x => by rw [Γ.asc, Γ.mi, Γ.mo]
  rw [← e b, h, e]
theorem Gp.ii (a : G) : Γ.i (Γ.i a) = a := Γ.lc (a := Γ.i a) (by rw [Γ.mi, Γ.im])
theorem Gp.io : Γ.i Γ.o = Γ.o := Γ.lc (a := Γ.o) (by rw [Γ.mi, Γ.om])
theorem Gp.imul (a b : G) : Γ.i (Γ.m a b) = Γ.m (Γ.i b) (Γ.i a) :=
  Γ.lc (a := Γ.m a b) (by rw [Γ.mi, Γ.asc, Γ.mia, Γ.mi])
end

/-- one slot clockwise -/
def rot (h : Nat) : Nat := turnN h 3
theorem rot_perm (n : Nat) : PermB rot (4 * n) := ⟨fun _ hh => turnN_lt hh, fun _ _ _ _ e => turnN_inj e⟩
theorem rot0 (c : Nat) : rot (4 * c) = 4 * c + 3 := by unfold rot turnN; omega
theorem rot1 (c : Nat) : rot (4 * c + 1) = 4 * c := by unfold rot turnN; omega
theorem rot2 (c : Nat) : rot (4 * c + 2) = 4 * c + 1 := by unfold rot turnN; omega
theorem rot3 (c : Nat) : rot (4 * c + 3) = 4 * c + 2 := by unfold rot turnN; omega

/-- the ends of the edges -/
def ends : List (Nat × Nat) → List Nat
  | [] => []
  | e :: es => e.1 :: e.2 :: ends es
theorem eE_out : ∀ {es : List (Nat × Nat)} {z : Nat}, z ∉ ends es → eE es z = z
  | [], _, _ => rfl
  | e :: es, z, h => by
    unfold ends at h
    rw [List.mem_cons, List.mem_cons, not_or, not_or] at h
    show eE es (sw e.1 e.2 z) = z
    rw [sw_o h.1 h.2.1]
    exact eE_out h.2.2
theorem eE_inj : ∀ {es : List (Nat × Nat)} {z w : Nat}, eE es z = eE es w → z = w
  | [], _, _, h => h
  | e :: es, z, w, h => by
    have := eE_inj (es := es) h
    rw [← sw_sw e.1 e.2 z, this, sw_sw]
section
variable {e : Nat × Nat} {es : List (Nat × Nat)} (hd : (ends (e :: es)).Nodup)
include hd
theorem ends_parts : e.1 ∉ ends es ∧ e.2 ∉ ends es ∧ e.1 ≠ e.2 ∧ (ends es).Nodup := by
  unfold ends at hd
  rw [List.nodup_cons, List.nodup_cons, List.mem_cons, not_or] at hd
  exact ⟨hd.1.2, hd.2.1, hd.1.1, hd.2.2⟩
theorem eE_l : eE (e :: es) e.1 = e.2 := by
  show eE es (sw e.1 e.2 e.1) = e.2
  rw [sw_l]; exact eE_out (ends_parts hd).2.1
theorem eE_r : eE (e :: es) e.2 = e.1 := by
  show eE es (sw e.1 e.2 e.2) = e.1
  rw [sw_r]; exact eE_out (ends_parts hd).1
omit hd in
theorem eE_o {z : Nat} (h1 : z ≠ e.1) (h2 : z ≠ e.2) : eE (e :: es) z = eE es z := by
  show eE es (sw e.1 e.2 z) = _
  rw [sw_o h1 h2]
theorem eE_ne1 {z : Nat} (h1 : z ≠ e.1) : eE es z ≠ e.1 := fun h => h1 (eE_inj (es := es) (by rw [h, eE_out (ends_parts hd).1]))
theorem eE_ne2 {z : Nat} (h2 : z ≠ e.2) : eE es z ≠ e.2 := fun h => h2 (eE_inj (es := es) (by rw [h, eE_out (ends_parts hd).2.1]))
end
theorem eE_eE : ∀ {es : List (Nat × Nat)}, (ends es).Nodup → ∀ z, eE es (eE es z) = z
  | [], _, _ => rfl
  | e :: es, hd, z => by
    have ih := eE_eE (ends_parts hd).2.2.2 z
    by_cases h1 : z = e.1
    · subst h1; rw [eE_l hd, eE_r hd]
    · by_cases h2 : z = e.2
      · subst h2; rw [eE_r hd, eE_l hd]
      · rw [eE_o h1 h2, eE_o (eE_ne1 hd h1) (eE_ne2 hd h2), ih]

section
variable {G : Type} (Γ : Gp G)
/-- what leaves the crossing c is nothing -/
def VtxOk (w : Nat → G) (c : Nat) : Prop := Γ.m (w (4 * c + 3)) (Γ.m (w (4 * c + 2)) (Γ.m (w (4 * c + 1)) (w (4 * c)))) = Γ.o
def OneX (n : Nat) (es : List (Nat × Nat)) (X : Nat → Prop) : Prop := ∀ c d, c < n → d < n → X c → X d → kE rot (4 * n) es (4 * c) (4 * d) = true → c = d
structure Pot (n : Nat) (es : List (Nat × Nat)) (w p : Nat → G) : Prop where
  face : ∀ h, h < 4 * n → p (fE rot es h) = p h
  edge : ∀ h, h < 4 * n → w h = Γ.m (p h) (Γ.i (p (eE es h)))
/-- w is laid along the edges -/
structure Along (n : Nat) (es : List (Nat × Nat)) (w : Nat → G) : Prop where
  anti : ∀ h, h < 4 * n → w (eE es h) = Γ.i (w h)
  off : ∀ h, h < 4 * n → eE es h = h → w h = Γ.o

variable {Γ} {n : Nat} {es : List (Nat × Nat)}
theorem Pot.vtx {w p : Nat → G} (hin : InE (4 * n) es) (hd : (ends es).Nodup) (h : Pot Γ n es w p) {c : Nat} (hc : c < n) : VtxOk Γ w c := by
  have k : ∀ x, x < 4 * n → p (eE es x) = p (rot x) := by
    intro x hx
    have := h.face (eE es x) (eE_lt es hin x hx)
    rw [fE_eq, eE_eE hd] at this
    exact this.symm
  unfold VtxOk
  rw [h.edge (4 * c + 3) (by omega), h.edge (4 * c + 2) (by omega), h.edge (4 * c + 1) (by omega), h.edge (4 * c) (by omega),
    k (4 * c + 3) (by omega), k (4 * c + 2) (by omega), k (4 * c + 1) (by omega), k (4 * c) (by omega), rot3, rot2, rot1, rot0]
  simp only [Γ.asc, Γ.ima, Γ.mi]

/-- the components are those of crossings -/
theorem kE_slot (hin : InE (4 * n) es) {c : Nat} (hc : c < n) {s : Nat} (hs : s < 4) : kE rot (4 * n) es (4 * c) (4 * c + s) = true := by
  have hE := kE_eqv (rot_perm n) es hin
  have h0 := kE_next (rot_perm n) es hin (z := 4 * c) (by omega)
  have h3 := kE_next (rot_perm n) es hin (z := 4 * c + 3) (by omega)
  have h2 := kE_next (rot_perm n) es hin (z := 4 * c + 2) (by omega)
  rw [rot0] at h0
  rw [rot3] at h3
  rw [rot2] at h2
  have g2 := hE.tr _ _ _ (by omega) (by omega) (by omega) h0 h3
  have g1 := hE.tr _ _ _ (by omega) (by omega) (by omega) g2 h2
  have hcase : s = 0 ∨ s = 1 ∨ s = 2 ∨ s = 3 := by omega
  rcases hcase with rfl | rfl | rfl | rfl
  · exact hE.rfl_ _ (by omega)
  · exact g1
  · exact g2
  · exact h0
theorem kE_slots (hin : InE (4 * n) es) {c v : Nat} (hc : c < n) (hv : v < 4 * n) {s : Nat} (hs : s < 4) : kE rot (4 * n) es (4 * c + s) v = kE rot (4 * n) es (4 * c) v := by
  have hE := kE_eqv (rot_perm n) es hin
  have h1 := kE_slot hin hc hs
  rw [Bool.eq_iff_iff]
  exact ⟨fun h => hE.tr _ _ _ (by omega) (by omega) hv h1 h, fun h => hE.tr _ _ _ (by omega) (by omega) hv (hE.sym _ _ (by omega) (by omega) h1) h⟩
theorem kE_edge_l (hin : InE (4 * n) es) {z v : Nat} (hz : z < 4 * n) (hv : v < 4 * n) : kE rot (4 * n) es (eE es z) v = kE rot (4 * n) es z v := by
  have hE := kE_eqv (rot_perm n) es hin
  have h1 := kE_edge (rot_perm n) es hin z hz
  have h2 := eE_lt es hin z hz
  rw [Bool.eq_iff_iff]
  exact ⟨fun h => hE.tr _ _ _ hz h2 hv h1 h, fun h => hE.tr _ _ _ h2 hz hv (hE.sym _ _ hz h2 h1) h⟩
theorem kE_face_l (hin : InE (4 * n) es) {z v : Nat} (hz : z < 4 * n) (hv : v < 4 * n) : kE rot (4 * n) es (fE rot es z) v = kE rot (4 * n) es z v := by
  have hE := kE_eqv (rot_perm n) es hin
  have h1 := kE_face (rot_perm n) es hin hz
  have h2 := (fE_perm (rot_perm n) es hin).lt z hz
  rw [Bool.eq_iff_iff]
  exact ⟨fun h => hE.tr _ _ _ hz h2 hv h1 h, fun h => hE.tr _ _ _ h2 hz hv (hE.sym _ _ hz h2 h1) h⟩

/-- an edge that joins two components bears nothing -/
theorem bridge_off {e : Nat × Nat} (hin : InE (4 * n) (e :: es)) (hd : (ends (e :: es)).Nodup) {w : Nat → G} {X : Nat → Prop} (hw : Along Γ n (e :: es) w) (hv : ∀ c, c < n → ¬ X c → VtxOk Γ w c)
    (ih : ∀ (w : Nat → G) (X : Nat → Prop), OneX n es X → Along Γ n es w → (∀ c, c < n → ¬ X c → VtxOk Γ w c) → ∃ p, Pot Γ n es w p)
    (hk : kE rot (4 * n) es e.1 e.2 = false) (v v' : Nat) (hvv : (v = e.1 ∧ v' = e.2) ∨ (v = e.2 ∧ v' = e.1)) (hX : ∀ c, c < n → X c → kE rot (4 * n) es (4 * c) v = false) : w v = Γ.o := by
  obtain ⟨i1, i2, i3⟩ := hin.head
  have hE := kE_eqv (rot_perm n) es hin.tail
  obtain ⟨d1, d2, -, d4⟩ := ends_parts hd
  have hk' : kE rot (4 * n) es e.2 e.1 = false := by
    rw [Bool.eq_false_iff]
    intro h
    rw [hE.sym _ _ i2 i1 h] at hk
    cases hk
  have hvN : v < 4 * n := by rcases hvv with ⟨rfl, rfl⟩ | ⟨rfl, rfl⟩ <;> assumption
  have hv'v : kE rot (4 * n) es v' v = false := by rcases hvv with ⟨rfl, rfl⟩ | ⟨rfl, rfl⟩ <;> assumption
  have hev : eE es v = v := by rcases hvv with ⟨rfl, rfl⟩ | ⟨rfl, rfl⟩ <;> exact eE_out (by assumption)
  have hout : ∀ z, z ≠ v → z ≠ v' → eE (e :: es) z = eE es z := by
    intro z h1 h2
    rcases hvv with ⟨rfl, rfl⟩ | ⟨rfl, rfl⟩
    · exact eE_o h1 h2
    · exact eE_o h2 h1
  let w2 : Nat → G := fun h => if kE rot (4 * n) es h v = true ∧ h ≠ v then w h else Γ.o
  have hw2v : w2 v = Γ.o := if_neg fun h => h.2 rfl
  have hw2n : ∀ h, kE rot (4 * n) es h v = false → w2 h = Γ.o := fun h hh => if_neg fun g => by rw [hh] at g; cases g.1
  have hw2y : ∀ h, kE rot (4 * n) es h v = true → h ≠ v → w2 h = w h := fun h hh hn => if_pos ⟨hh, hn⟩
  obtain ⟨p, hp⟩ := ih w2 (fun c => c = v / 4) (fun c d _ _ h1 h2 _ => by rw [h1, h2]) ⟨fun h hh => by
      by_cases h1 : h = v
      · subst h1; rw [hev, hw2v, Γ.io]
      · cases h2 : kE rot (4 * n) es h v
        · rw [hw2n _ h2, hw2n _ (by rw [kE_edge_l hin.tail hh hvN]; exact h2), Γ.io]
        · have h3 : h ≠ v' := by rintro rfl; rw [hv'v] at h2; cases h2
          have h4 : eE es h ≠ v := fun e' => h1 (eE_inj (es := es) (by rw [e', hev]))
          rw [hw2y _ h2 h1, hw2y _ (by rw [kE_edge_l hin.tail hh hvN]; exact h2) h4, ← hout h h1 h3]
          exact hw.anti h hh, fun h hh he => by
      by_cases h1 : h = v
      · subst h1; exact hw2v
      · cases h2 : kE rot (4 * n) es h v
        · exact hw2n _ h2
        · have h3 : h ≠ v' := by rintro rfl; rw [hv'v] at h2; cases h2
          rw [hw2y _ h2 h1]
          exact hw.off h hh (by rw [hout h h1 h3]; exact he)⟩ (fun c hc hne => by
      have hne' : ∀ s, s < 4 → 4 * c + s ≠ v := fun s hs e' => hne (by omega)
      cases h2 : kE rot (4 * n) es (4 * c) v
      · have hs : ∀ s, s < 4 → w2 (4 * c + s) = Γ.o := fun s hs => hw2n _ (by rw [kE_slots hin.tail hc hvN hs]; exact h2)
        unfold VtxOk
        rw [hs 3 (by omega), hs 2 (by omega), hs 1 (by omega), show w2 (4 * c) = Γ.o from hs 0 (by omega), Γ.om, Γ.om, Γ.om]
      · have hs : ∀ s, s < 4 → w2 (4 * c + s) = w (4 * c + s) := fun s hs => hw2y _ (by rw [kE_slots hin.tail hc hvN hs]; exact h2) (hne' s hs)
        have := hv c hc fun hx => by rw [hX c hc hx] at h2; cases h2
        unfold VtxOk at this ⊢
        rw [hs 3 (by omega), hs 2 (by omega), hs 1 (by omega), show w2 (4 * c) = w (4 * c) from hs 0 (by omega)]
        exact this)
  have hc : v / 4 < n := by omega
  have e4 : v = 4 * (v / 4) + v % 4 := by omega
  have hm : v % 4 < 4 := Nat.mod_lt _ (by omega)
  generalize v / 4 = c at e4 hc
  generalize v % 4 = s at e4 hm
  have hkc : kE rot (4 * n) es (4 * c) v = true := by rw [e4]; exact kE_slot hin.tail hc hm
  have h1 := hp.vtx hin.tail d4 hc
  have h2 := hv c hc fun hx => by rw [hX c hc hx] at hkc; cases hkc
  have hs : ∀ t, t < 4 → t ≠ s → w2 (4 * c + t) = w (4 * c + t) := fun t ht hts => hw2y _ (by rw [kE_slots hin.tail hc hvN ht]; exact hkc) (by rw [e4]; omega)
  have hs0 : w2 (4 * c + s) = Γ.o := by rw [← e4]; exact hw2v
  have hz : ∀ t, t = 0 → 4 * c + t = 4 * c := fun t ht => by omega
  rw [e4]
  unfold VtxOk at h1 h2
  have hcase : s = 0 ∨ s = 1 ∨ s = 2 ∨ s = 3 := by omega
  rcases hcase with rfl | rfl | rfl | rfl
  · rw [hs 3 (by omega) (by omega), hs 2 (by omega) (by omega), hs 1 (by omega) (by omega), show w2 (4 * c) = Γ.o from hs0] at h1
    exact Γ.lc (Γ.lc (Γ.lc (h2.trans h1.symm)))
  · rw [hs 3 (by omega) (by omega), hs 2 (by omega) (by omega), show w2 (4 * c) = w (4 * c) from hs 0 (by omega) (by omega), hs0] at h1
    exact Γ.rcn (Γ.lc (Γ.lc (h2.trans h1.symm)))
  · rw [hs 3 (by omega) (by omega), hs 1 (by omega) (by omega), show w2 (4 * c) = w (4 * c) from hs 0 (by omega) (by omega), hs0] at h1
    exact Γ.rcn (Γ.lc (h2.trans h1.symm))
  · rw [hs 2 (by omega) (by omega), hs 1 (by omega) (by omega), show w2 (4 * c) = w (4 * c) from hs 0 (by omega) (by omega), hs0] at h1
    exact Γ.rcn (h2.trans h1.symm)

theorem rc_const {f : Nat → Nat} {N : Nat} (hP : PermB f N) {T : Type} {p : Nat → T} (hp : ∀ h, h < N → p (f h) = p h) {x y : Nat} (hx : x < N) (h : rc f N x y = true) : p y = p x := by
  obtain ⟨k, rfl⟩ := (rc_iff hP hx).1 h
  clear h
  induction k with
  | zero => rfl
  | succ k ih => show p (f _) = _; rw [hp _ (hP.it_lt k hx), ih]

theorem OneX.tail {e : Nat × Nat} {X : Nat → Prop} (h : OneX n (e :: es) X) : OneX n es X :=
  fun c d hc hd h1 h2 hk => h c d hc hd h1 h2 (joinB_iff.2 (.inl hk))

/-- one edge more: it joins two components -/
theorem pot_joins {e : Nat × Nat} (hin : InE (4 * n) (e :: es)) (hd : (ends (e :: es)).Nodup) {w : Nat → G} {X : Nat → Prop} (hX : OneX n (e :: es) X) (hw : Along Γ n (e :: es) w) (hv : ∀ c, c < n → ¬ X c → VtxOk Γ w c)
    (ih : ∀ (w : Nat → G) (X : Nat → Prop), OneX n es X → Along Γ n es w → (∀ c, c < n → ¬ X c → VtxOk Γ w c) → ∃ p, Pot Γ n es w p)
    (hk : kE rot (4 * n) es e.1 e.2 = false) : ∃ p, Pot Γ n (e :: es) w p := by
  obtain ⟨i1, i2, i3⟩ := hin.head
  have hE := kE_eqv (rot_perm n) es hin.tail
  obtain ⟨d1, d2, -, d4⟩ := ends_parts hd
  have hxy := hw.anti e.1 i1
  rw [eE_l hd] at hxy
  have hwx : w e.1 = Γ.o := by
    by_cases hx : ∀ c, c < n → X c → kE rot (4 * n) es (4 * c) e.1 = false
    · exact bridge_off hin hd hw hv ih hk _ _ (.inl ⟨rfl, rfl⟩) hx
    · have hy : ∀ c, c < n → X c → kE rot (4 * n) es (4 * c) e.2 = false := by
        intro d hd' hxd
        rw [Bool.eq_false_iff]
        intro hkd
        refine hx fun c hc hxc => ?_
        rw [Bool.eq_false_iff]
        intro hkc
        have := hX c d hc hd' hxc hxd (joinB_iff.2 (.inr (.inl ⟨hkc, hE.sym _ _ (by omega) i2 hkd⟩)))
        subst this
        rw [hE.tr _ _ _ i1 (by omega) i2 (hE.sym _ _ (by omega) i1 hkc) hkd] at hk
        cases hk
      have := bridge_off hin hd hw hv ih hk _ _ (.inr ⟨rfl, rfl⟩) hy
      rw [this] at hxy
      rw [← Γ.ii (w e.1), ← hxy, Γ.io]
  have hwy : w e.2 = Γ.o := by rw [hxy, hwx, Γ.io]
  obtain ⟨p1, hp⟩ := ih w X hX.tail ⟨fun h hh => by
      by_cases h1 : h = e.1
      · subst h1; rw [eE_out d1, hwx, Γ.io]
      · by_cases h2 : h = e.2
        · subst h2; rw [eE_out d2, hwy, Γ.io]
        · rw [← eE_o h1 h2]; exact hw.anti h hh, fun h hh he => by
      by_cases h1 : h = e.1
      · rw [h1]; exact hwx
      · by_cases h2 : h = e.2
        · rw [h2]; exact hwy
        · exact hw.off h hh (by rw [eE_o h1 h2]; exact he)⟩ hv
  let p : Nat → G := fun h => if kE rot (4 * n) es h e.2 = true then Γ.m (p1 h) (Γ.m (Γ.i (p1 e.2)) (p1 e.1)) else p1 h
  have hpx : p e.1 = p1 e.1 := if_neg (by rw [hk]; simp)
  have hpy : p e.2 = p1 e.1 := (if_pos (hE.rfl_ _ i2)).trans (Γ.mia _ _)
  have hpf : ∀ z, z < 4 * n → p (fE rot es z) = p z := by
    intro z hz
    show (if _ then _ else _) = (if _ then _ else _)
    rw [kE_face_l hin.tail hz i2, hp.face z hz]
  refine ⟨p, fun h hh => ?_, fun h hh => ?_⟩
  · show p (fE rot es (sw e.1 e.2 h)) = p h
    rw [hpf _ (sw_lt i1 i2 hh)]
    by_cases h1 : h = e.1
    · rw [h1, sw_l, hpx, hpy]
    · by_cases h2 : h = e.2
      · rw [h2, sw_r, hpx, hpy]
      · rw [sw_o h1 h2]
  · by_cases h1 : h = e.1
    · rw [h1, eE_l hd, hpx, hpy, hwx, Γ.mi]
    · by_cases h2 : h = e.2
      · rw [h2, eE_r hd, hpx, hpy, hwy, Γ.mi]
      · rw [eE_o h1 h2, hp.edge h hh]
        have hke := kE_edge_l hin.tail hh i2
        cases hkk : kE rot (4 * n) es h e.2
        · rw [hkk] at hke
          rw [show p h = p1 h from if_neg (by rw [hkk]; simp), show p (eE es h) = p1 (eE es h) from if_neg (by rw [hke]; simp)]
        · rw [hkk] at hke
          rw [show p h = Γ.m (p1 h) (Γ.m (Γ.i (p1 e.2)) (p1 e.1)) from if_pos hkk, show p (eE es h) = Γ.m (p1 (eE es h)) (Γ.m (Γ.i (p1 e.2)) (p1 e.1)) from if_pos hke]
          simp only [Γ.asc, Γ.imul, Γ.mia, Γ.ima, Γ.ii]

/-- one edge more: it parts a face -/
theorem pot_parts {e : Nat × Nat} (hin : InE (4 * n) (e :: es)) (hd : (ends (e :: es)).Nodup) {w : Nat → G} {X : Nat → Prop} (hX : OneX n (e :: es) X) (hw : Along Γ n (e :: es) w) (hv : ∀ c, c < n → ¬ X c → VtxOk Γ w c)
    (ih : ∀ (w : Nat → G) (X : Nat → Prop), OneX n es X → Along Γ n es w → (∀ c, c < n → ¬ X c → VtxOk Γ w c) → ∃ p, Pot Γ n es w p)
    (hr : rc (fE rot es) (4 * n) e.1 e.2 = true) : ∃ p, Pot Γ n (e :: es) w p := by
  obtain ⟨i1, i2, i3⟩ := hin.head
  obtain ⟨d1, d2, -, d4⟩ := ends_parts hd
  have hP := fE_perm (rot_perm n) es hin.tail
  have hP' := fE_perm (rot_perm n) (e :: es) hin
  have hR := rc_eqv hP'
  have hxy := hw.anti e.1 i1
  rw [eE_l hd] at hxy
  have hAy : rc (fE rot (e :: es)) (4 * n) e.1 e.2 = false := sw_parts hP i1 i2 i3 hr
  let u : Nat → G := fun z => if rc (fE rot (e :: es)) (4 * n) e.1 z = true then w e.1 else Γ.o
  have hux : u e.1 = w e.1 := if_pos (hR.rfl_ _ i1)
  have huy : u e.2 = Γ.o := if_neg (by rw [hAy]; simp)
  have huf : ∀ z, z < 4 * n → u (fE rot (e :: es) z) = u z := by
    intro z hz
    have h1 := rc_next hP' hz
    have h2 := hP'.lt z hz
    have : rc (fE rot (e :: es)) (4 * n) e.1 (fE rot (e :: es) z) = rc (fE rot (e :: es)) (4 * n) e.1 z := by
      rw [Bool.eq_iff_iff]
      exact ⟨fun h => hR.tr _ _ _ i1 h2 hz h (hR.sym _ _ hz h2 h1), fun h => hR.tr _ _ _ i1 hz h2 h h1⟩
    show (if _ then _ else _) = (if _ then _ else _)
    rw [this]
  have hur : ∀ z, z < 4 * n → u (eE (e :: es) z) = u (rot z) := by
    intro z hz
    have := huf (eE (e :: es) z) (eE_lt _ hin z hz)
    rw [fE_eq, eE_eE hd] at this
    exact this.symm
  let w1 : Nat → G := fun h => Γ.m (Γ.i (u h)) (Γ.m (w h) (u (eE (e :: es) h)))
  have hw1x : w1 e.1 = Γ.o := by
    show Γ.m (Γ.i (u e.1)) (Γ.m (w e.1) (u (eE (e :: es) e.1))) = Γ.o
    rw [eE_l hd, hux, huy, Γ.mo, Γ.im]
  have hw1y : w1 e.2 = Γ.o := by
    show Γ.m (Γ.i (u e.2)) (Γ.m (w e.2) (u (eE (e :: es) e.2))) = Γ.o
    rw [eE_r hd, hux, huy, hxy, Γ.im, Γ.mo, Γ.io]
  obtain ⟨p1, hp⟩ := ih w1 X hX.tail ⟨fun h hh => by
      by_cases h1 : h = e.1
      · subst h1; rw [eE_out d1, hw1x, Γ.io]
      · by_cases h2 : h = e.2
        · subst h2; rw [eE_out d2, hw1y, Γ.io]
        · rw [← eE_o h1 h2]
          show Γ.m (Γ.i (u (eE (e :: es) h))) (Γ.m (w (eE (e :: es) h)) (u (eE (e :: es) (eE (e :: es) h)))) = Γ.i (Γ.m (Γ.i (u h)) (Γ.m (w h) (u (eE (e :: es) h))))
          rw [eE_eE hd, hw.anti h hh]
          simp only [Γ.asc, Γ.imul, Γ.ii], fun h hh he => by
      by_cases h1 : h = e.1
      · rw [h1]; exact hw1x
      · by_cases h2 : h = e.2
        · rw [h2]; exact hw1y
        · have he' : eE (e :: es) h = h := by rw [eE_o h1 h2]; exact he
          show Γ.m (Γ.i (u h)) (Γ.m (w h) (u (eE (e :: es) h))) = Γ.o
          rw [hw.off h hh he', he', Γ.om, Γ.im]⟩ (fun c hc hne => by
      have h0 := hv c hc hne
      unfold VtxOk at h0 ⊢
      show Γ.m (Γ.m (Γ.i (u (4 * c + 3))) (Γ.m (w (4 * c + 3)) (u (eE (e :: es) (4 * c + 3))))) (Γ.m (Γ.m (Γ.i (u (4 * c + 2))) (Γ.m (w (4 * c + 2)) (u (eE (e :: es) (4 * c + 2)))))
        (Γ.m (Γ.m (Γ.i (u (4 * c + 1))) (Γ.m (w (4 * c + 1)) (u (eE (e :: es) (4 * c + 1))))) (Γ.m (Γ.i (u (4 * c))) (Γ.m (w (4 * c)) (u (eE (e :: es) (4 * c))))))) = Γ.o
      rw [hur (4 * c + 3) (by omega), hur (4 * c + 2) (by omega), hur (4 * c + 1) (by omega), hur (4 * c) (by omega), rot3, rot2, rot1, rot0]
      have h5 : ∀ z, Γ.m (w (4 * c + 3)) (Γ.m (w (4 * c + 2)) (Γ.m (w (4 * c + 1)) (Γ.m (w (4 * c)) z))) = z := by
        intro z
        have := congrArg (fun x => Γ.m x z) h0
        simpa only [Γ.asc, Γ.om] using this
      simp only [Γ.asc, Γ.mia, h5, Γ.im])
  let p : Nat → G := fun h => Γ.m (u h) (p1 h)
  have hp1 : p1 e.2 = p1 e.1 := rc_const hP hp.face i1 hr
  refine ⟨p, fun h hh => ?_, fun h hh => ?_⟩
  · have h1 : p1 (fE rot (e :: es) h) = p1 h := by
      show p1 (fE rot es (sw e.1 e.2 h)) = p1 h
      rw [hp.face _ (sw_lt i1 i2 hh)]
      by_cases h1 : h = e.1
      · rw [h1, sw_l, hp1]
      · by_cases h2 : h = e.2
        · rw [h2, sw_r, hp1]
        · rw [sw_o h1 h2]
    show Γ.m _ _ = Γ.m _ _
    rw [huf h hh, h1]
  · by_cases h1 : h = e.1
    · rw [h1, eE_l hd]
      show w e.1 = Γ.m (Γ.m (u e.1) (p1 e.1)) (Γ.i (Γ.m (u e.2) (p1 e.2)))
      rw [hux, huy, hp1, Γ.om, Γ.asc, Γ.mi, Γ.mo]
    · by_cases h2 : h = e.2
      · rw [h2, eE_r hd]
        show w e.2 = Γ.m (Γ.m (u e.2) (p1 e.2)) (Γ.i (Γ.m (u e.1) (p1 e.1)))
        rw [hux, huy, hp1, Γ.om, hxy, Γ.imul, Γ.mia]
      · have h3 := hp.edge h hh
        have h4 : w h = Γ.m (u h) (Γ.m (w1 h) (Γ.i (u (eE (e :: es) h)))) := by
          show w h = Γ.m (u h) (Γ.m (Γ.m (Γ.i (u h)) (Γ.m (w h) (u (eE (e :: es) h)))) (Γ.i (u (eE (e :: es) h))))
          simp only [Γ.asc, Γ.mia, Γ.mi, Γ.mo]
        rw [h4, h3, ← eE_o h1 h2]
        show _ = Γ.m (Γ.m (u h) (p1 h)) (Γ.i (Γ.m (u (eE (e :: es) h)) (p1 (eE (e :: es) h))))
        simp only [Γ.asc, Γ.imul]
end

/-- what is laid along the edges of a drawing on spheres and adds up to nothing at each crossing, but at one of a component, comes from the faces -/
theorem pot_all {G : Type} {Γ : Gp G} {n : Nat} : ∀ {es : List (Nat × Nat)}, InE (4 * n) es → (ends es).Nodup → Plane rot (4 * n) es →
    ∀ (w : Nat → G) (X : Nat → Prop), OneX n es X → Along Γ n es w → (∀ c, c < n → ¬ X c → VtxOk Γ w c) → ∃ p, Pot Γ n es w p
  | [], _, _, _, w, _, _, hw, _ => ⟨fun _ => Γ.o, fun _ _ => rfl, fun h hh => by rw [hw.off h hh rfl, Γ.io, Γ.om]⟩
  | e :: es, hin, hd, hpl, w, X, hX, hw, hv => by
    obtain ⟨h1, h2⟩ := hpl.tail (rot_perm n) hin
    have ih := pot_all (Γ := Γ) hin.tail (ends_parts hd).2.2.2 h1
    cases hk : kE rot (4 * n) es e.1 e.2
    · exact pot_joins hin hd hX hw hv ih hk
    · exact pot_parts hin hd hX hw hv ih (h2 hk)
end Go.Proofs.Ytaghemilihaiaaa

