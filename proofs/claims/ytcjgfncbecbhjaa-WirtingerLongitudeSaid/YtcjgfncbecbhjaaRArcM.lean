/-
  The passes of the reference's Arcs: the least element of each arc. No program here.
-/
import Derived.Test.YtcjgfncbecbhjaaOfM
namespace Go.Proofs.Ytcjgfncbecbhjaa

/-- what h looks at -/
def nbA (mt : List Int) (h k : Nat) : Prop := k = gn mt h ∨ (h % 2 = 1 ∧ k = turnN h 2)
inductive Rt (mt : List Int) (x : Nat) : Nat → Prop
  | refl : Rt mt x x
  | step {y z : Nat} : Rt mt x y → y < mt.length → nbA mt y z → Rt mt x z
theorem Rt.trans {mt : List Int} {x y z : Nat} (h1 : Rt mt x y) (h2 : Rt mt y z) : Rt mt x z := by
  induction h2 with
  | refl => exact h1
  | step _ hl hn ih => exact .step ih hl hn
section
variable {sg mt : List Int} (hI : InvM mt) (hn : mt.length = 4 * sg.length)
include hI hn
theorem nbA_lt {h k : Nat} (hh : h < mt.length) (hk : nbA mt h k) : k < mt.length := by
  rcases hk with rfl | ⟨-, rfl⟩
  · exact (hI.gn hh).2.1
  · unfold turnN; omega
omit hn in
theorem nbA_symm {h k : Nat} (hh : h < mt.length) (hk : nbA mt h k) : nbA mt k h := by
  rcases hk with rfl | ⟨h1, rfl⟩
  · exact .inl (hI.gn hh).2.2.2.symm
  · refine .inr ⟨?_, ?_⟩
    · unfold turnN; omega
    · unfold turnN; omega
theorem nbA_arc {h k : Nat} (hh : h < mt.length) (hk : nbA mt h k) : arR sg mt h k = true := by
  have hin := eAB_in hI hn
  have hE := arR_eqv hI hn
  rcases hk with rfl | ⟨h1, rfl⟩
  · exact jl_edge hin (h, gn mt h) (List.mem_append.2 (.inl (List.mem_map.2 ⟨h, List.mem_range.2 hh, rfl⟩)))
  · have hc : h / 4 < sg.length := by omega
    have he := jl_edge hin (4 * (h / 4) + 1, 4 * (h / 4) + 3) (List.mem_append.2 (.inr (List.mem_map.2 ⟨h / 4, List.mem_range.2 hc, rfl⟩)))
    rcases (by omega : h = 4 * (h / 4) + 1 ∨ h = 4 * (h / 4) + 3) with e | e
    · have e2 : turnN h 2 = 4 * (h / 4) + 3 := by unfold turnN; omega
      rw [e2]
      conv => lhs; rw [show arR sg mt h = arR sg mt (4 * (h / 4) + 1) by rw [← e]]
      exact he
    · have e2 : turnN h 2 = 4 * (h / 4) + 1 := by unfold turnN; omega
      rw [e2]
      conv => lhs; rw [show arR sg mt h = arR sg mt (4 * (h / 4) + 3) by rw [← e]]
      exact hE.sym _ _ (by omega) (by omega) he
theorem Rt.lt {x y : Nat} (hx : x < mt.length) (h : Rt mt x y) : y < mt.length := by
  induction h with
  | refl => exact hx
  | step _ hl hk _ => exact nbA_lt hI hn hl hk
theorem Rt.symm {x y : Nat} (_hx : x < mt.length) (h : Rt mt x y) : Rt mt y x := by
  induction h with
  | refl => exact .refl
  | @step y z h1 hl hk ih => exact Rt.trans (.step .refl (nbA_lt hI hn hl hk) (nbA_symm hI hl hk)) ih
theorem arc_Rt {x y : Nat} (hx : x < mt.length) (hy : y < mt.length) (h : arR sg mt x y = true) : Rt mt x y := by
  refine jl_ind (N := mt.length) (Q := fun x y => Rt mt x y) (fun _ _ => .refl) (fun x y hx _ h => h.symm hI hn hx) (fun x y z _ _ _ h1 h2 => h1.trans h2) (eAB_in hI hn) (fun e he => ?_) x y hx hy h
  rcases List.mem_append.1 he with h | h
  · obtain ⟨a, ha, rfl⟩ := List.mem_map.1 h
    exact .step .refl (List.mem_range.1 ha) (.inl rfl)
  · obtain ⟨a, ha, rfl⟩ := List.mem_map.1 h
    have ha := List.mem_range.1 ha
    refine .step .refl (by show 4 * a + 1 < _; omega) (.inr ⟨by show (4 * a + 1) % 2 = 1; omega, by show 4 * a + 3 = turnN (4 * a + 1) 2; unfold turnN; omega⟩)
end

/-- reached by at most p steps -/
def La (mt : List Int) (r : Nat) : Nat → Nat → Prop
  | 0, c => c = r
  | p + 1, c => La mt r p c ∨ ∃ k, nbA mt c k ∧ La mt r p k
theorem La.mono {mt : List Int} {r p c : Nat} (h : La mt r p c) (q : Nat) : La mt r (p + q) c := by
  induction q with
  | zero => exact h
  | succ q ih => exact .inl ih
theorem La.stable {mt : List Int} {r p : Nat} (h : ∀ c, c < mt.length → La mt r (p + 1) c → La mt r p c) (hlt : ∀ c k, c < mt.length → nbA mt c k → k < mt.length) : ∀ q c, c < mt.length → La mt r q c → La mt r p c := by
  intro q
  induction q with
  | zero =>
    intro c _ hc
    have := La.mono (mt := mt) (r := r) (p := 0) hc p
    rwa [Nat.zero_add] at this
  | succ q ih =>
    rintro c hcl (hc | ⟨k, hk, h1⟩)
    · exact ih c hcl hc
    · exact h c hcl (.inr ⟨k, hk, ih k (hlt c k hcl hk) h1⟩)
theorem La.grow {mt : List Int} {r : Nat} (hr : r < mt.length) : ∀ p, (∃ q, q < p ∧ ∀ c, c < mt.length → La mt r (q + 1) c → La mt r q c) ∨ ∃ l : List Nat, l.Nodup ∧ l.length = p + 1 ∧ ∀ x, x ∈ l → x < mt.length ∧ La mt r p x := by
  intro p
  induction p with
  | zero => exact .inr ⟨[r], by simp, rfl, by intro x hx; simp at hx; subst hx; exact ⟨hr, rfl⟩⟩
  | succ p ih =>
    rcases ih with ⟨q, hq, h⟩ | ⟨l, h1, h2, h3⟩
    · exact .inl ⟨q, by omega, h⟩
    · by_cases hs : ∀ c, c < mt.length → La mt r (p + 1) c → La mt r p c
      · exact .inl ⟨p, by omega, hs⟩
      · obtain ⟨c, hc⟩ := Classical.not_forall.1 hs
        obtain ⟨hcl, hc⟩ := Classical.not_imp.1 hc
        obtain ⟨hc1, hc2⟩ := Classical.not_imp.1 hc
        refine .inr ⟨c :: l, ?_, by simp [h2], ?_⟩
        · rw [List.nodup_cons]
          exact ⟨fun hm => hc2 (h3 c hm).2, h1⟩
        · intro x hx
          rcases List.mem_cons.1 hx with rfl | hx
          · exact ⟨hcl, hc1⟩
          · exact ⟨(h3 x hx).1, .inl (h3 x hx).2⟩
section
variable {sg mt : List Int} (hI : InvM mt) (hn : mt.length = 4 * sg.length)
include hI hn
omit hn in
theorem La.of_rt {r c : Nat} (_hr : r < mt.length) (h : Rt mt r c) : ∃ p, La mt r p c := by
  induction h with
  | refl => exact ⟨0, rfl⟩
  | step _ hl hk ih =>
    obtain ⟨p, hp⟩ := ih
    exact ⟨p + 1, .inr ⟨_, nbA_symm hI hl hk, hp⟩⟩
theorem La.all {r c : Nat} (hr : r < mt.length) (hc : c < mt.length) (h : arR sg mt r c = true) : La mt r mt.length c := by
  rcases La.grow hr mt.length with ⟨q, hq, hs⟩ | ⟨l, h1, h2, h3⟩
  · obtain ⟨p, hp⟩ := La.of_rt hI hr (arc_Rt hI hn hr hc h)
    have := (La.stable hs (fun c k h1 h2 => nbA_lt hI hn h1 h2) p c hc hp).mono (mt.length - q)
    rwa [show q + (mt.length - q) = mt.length by omega] at this
  · exfalso
    have hsub : l ⊆ List.range mt.length := fun x hx => List.mem_range.2 (h3 x hx).1
    have := h1.length_le_of_subset hsub
    simp at this
    omega
end

/-! ### the passes -/
def lowA (mt : List Int) (ls : List Nat) (h : Nat) : Nat := if h % 2 = 1 then min (min (gN ls h) (gN ls (gn mt h))) (gN ls (turnN h 2)) else min (gN ls h) (gN ls (gn mt h))
def partA (mt : List Int) (ls : List Nat) (k : Nat) : List Nat := (List.range k).foldl (fun ls h => ls.set h (lowA mt ls h)) ls
def passA (mt : List Int) : Nat → List Nat
  | 0 => List.range mt.length
  | p + 1 => partA mt (passA mt p) mt.length
theorem partA_succ (mt : List Int) (ls : List Nat) (k : Nat) : partA mt ls (k + 1) = (partA mt ls k).set k (lowA mt (partA mt ls k) k) := by
  unfold partA
  rw [List.range_succ, List.foldl_append]
  rfl
theorem partA_zero (mt : List Int) (ls : List Nat) : partA mt ls 0 = ls := rfl
structure LbA (sg mt : List Int) (ls : List Nat) : Prop where
  len : ls.length = mt.length
  cn : ∀ c, c < mt.length → gN ls c < mt.length ∧ arR sg mt (gN ls c) c = true
section
variable {sg mt : List Int} (hI : InvM mt) (hn : mt.length = 4 * sg.length)
include hI hn
theorem LbA.start : LbA sg mt (List.range mt.length) := ⟨by simp, fun c hc => by rw [gN_range hc]; exact ⟨hc, (arR_eqv hI hn).rfl_ c hc⟩⟩
omit hI hn in
/-- the new number is one of the three -/
theorem lowA_spec (ls : List Nat) (h : Nat) : (lowA mt ls h = gN ls h ∨ ∃ k, nbA mt h k ∧ lowA mt ls h = gN ls k) ∧ lowA mt ls h ≤ gN ls h ∧ ∀ k, nbA mt h k → lowA mt ls h ≤ gN ls k := by
  unfold lowA
  by_cases ho : h % 2 = 1
  · rw [if_pos ho]
    refine ⟨?_, by omega, ?_⟩
    · rcases (by omega : min (min (gN ls h) (gN ls (gn mt h))) (gN ls (turnN h 2)) = gN ls h ∨ min (min (gN ls h) (gN ls (gn mt h))) (gN ls (turnN h 2)) = gN ls (gn mt h) ∨ min (min (gN ls h) (gN ls (gn mt h))) (gN ls (turnN h 2)) = gN ls (turnN h 2)) with e | e | e
      · exact .inl e
      · exact .inr ⟨_, .inl rfl, e⟩
      · exact .inr ⟨_, .inr ⟨ho, rfl⟩, e⟩
    · rintro k (rfl | ⟨-, rfl⟩) <;> omega
  · rw [if_neg ho]
    refine ⟨?_, by omega, ?_⟩
    · rcases (by omega : min (gN ls h) (gN ls (gn mt h)) = gN ls h ∨ min (gN ls h) (gN ls (gn mt h)) = gN ls (gn mt h)) with e | e
      · exact .inl e
      · exact .inr ⟨_, .inl rfl, e⟩
    · rintro k (rfl | ⟨h1, -⟩)
      · omega
      · exact absurd h1 ho
theorem LbA.low {ls : List Nat} (H : LbA sg mt ls) {h : Nat} (hh : h < mt.length) : lowA mt ls h < mt.length ∧ arR sg mt (lowA mt ls h) h = true := by
  have hE := arR_eqv hI hn
  rcases (lowA_spec (mt := mt) ls h).1 with e | ⟨k, hk, e⟩
  · rw [e]; exact H.cn h hh
  · have hkl := nbA_lt hI hn hh hk
    obtain ⟨h1, h2⟩ := H.cn k hkl
    rw [e]
    exact ⟨h1, hE.tr _ _ _ h1 hkl hh h2 (hE.sym _ _ hh hkl (nbA_arc hI hn hh hk))⟩
theorem LbA.step {ls : List Nat} (H : LbA sg mt ls) {h : Nat} (hh : h < mt.length) : LbA sg mt (ls.set h (lowA mt ls h)) := by
  refine ⟨by rw [List.length_set]; exact H.len, fun c hc => ?_⟩
  rw [gN_set (by rw [H.len]; exact hh)]
  split
  · rename_i e; rw [e]; exact H.low hI hn hh
  · exact H.cn c hc
theorem LbA.part {ls : List Nat} (H : LbA sg mt ls) : ∀ k, k ≤ mt.length → LbA sg mt (partA mt ls k) := by
  intro k
  induction k with
  | zero => intro _; exact H
  | succ k ih => intro hk; rw [partA_succ]; exact (ih (by omega)).step hI hn (by omega)
theorem LbA.pass : ∀ p, LbA sg mt (passA mt p) := by
  intro p
  induction p with
  | zero => exact LbA.start hI hn
  | succ p ih => exact ih.part hI hn _ (Nat.le_refl _)
/-- the least of the class stays -/
theorem LbA.keep {ls : List Nat} (H : LbA sg mt ls) {r c : Nat} (hr : headB (arR sg mt) r = true) (hc : c < mt.length) (h : gN ls c = r) : ∀ k, k ≤ mt.length → gN (partA mt ls k) c = r := by
  intro k
  induction k with
  | zero => intro _; exact h
  | succ k ih =>
    intro hk
    have e := ih (by omega)
    have HK := H.part hI hn k (by omega)
    rw [partA_succ, gN_set (by rw [HK.len]; omega)]
    split
    · rename_i ec
      subst ec
      obtain ⟨h1, h2⟩ := HK.low hI hn (show c < mt.length by omega)
      have h3 := (lowA_spec (mt := mt) (partA mt ls c) c).2.1
      rw [e] at h3
      have hE := arR_eqv hI hn
      obtain ⟨g1, g2⟩ := HK.cn c (by omega)
      rw [e] at g1 g2
      have := head_le hr (hE.tr _ _ _ h1 (by omega) g1 h2 (hE.sym _ _ g1 (by omega) g2))
      omega
    · exact e
theorem LbA.spread {ls : List Nat} (H : LbA sg mt ls) {r c k : Nat} (hr : headB (arR sg mt) r = true) (hc : c < mt.length) (hk : nbA mt c k) (h : gN ls k = r) : gN (partA mt ls mt.length) c = r := by
  have hkl := nbA_lt hI hn hc hk
  have HC := H.part hI hn c (by omega)
  have e1 := LbA.keep hI hn H hr hkl h c (by omega)
  have hE := arR_eqv hI hn
  have e2 : gN (partA mt ls (c + 1)) c = r := by
    rw [partA_succ, gN_set (by rw [HC.len]; exact hc), if_pos rfl]
    obtain ⟨h1, h2⟩ := HC.low hI hn hc
    have h3 := (lowA_spec (mt := mt) (partA mt ls c) c).2.2 k hk
    rw [e1] at h3
    obtain ⟨g1, g2⟩ := HC.cn k hkl
    rw [e1] at g1 g2
    have h4 := hE.tr _ _ _ h1 hc hkl h2 (nbA_arc hI hn hc hk)
    have := head_le hr (hE.tr _ _ _ h1 hkl g1 h4 (hE.sym _ _ g1 hkl g2))
    omega
  have : ∀ j, c + 1 ≤ j → j ≤ mt.length → gN (partA mt ls j) c = r := by
    intro j
    induction j with
    | zero => intro h; omega
    | succ j ih =>
      intro h1 h2
      rcases Nat.lt_or_ge c j with h3 | h3
      · have e := ih (by omega) (by omega)
        have HJ := H.part hI hn j (by omega)
        rw [partA_succ, gN_set (by rw [HJ.len]; omega), if_neg (by omega)]
        exact e
      · obtain rfl : c = j := by omega
        exact e2
  exact this _ (by omega) (Nat.le_refl _)
theorem pass_least {r : Nat} (hr : headB (arR sg mt) r = true) (hrl : r < mt.length) : ∀ p c, c < mt.length → La mt r p c → gN (passA mt p) c = r := by
  intro p
  induction p with
  | zero => intro c hc h; rw [show c = r from h]; exact gN_range hrl
  | succ p ih =>
    rintro c hc (h | ⟨k, hk, h⟩)
    · exact LbA.keep hI hn (LbA.pass hI hn p) hr hc (ih c hc h) _ (Nat.le_refl _)
    · exact LbA.spread hI hn (LbA.pass hI hn p) hr hc hk (ih k (nbA_lt hI hn hc hk) h)
/-- behind the passes each half-edge bears the least of its arc -/
theorem pass_lo {c : Nat} (hc : c < mt.length) : gN (passA mt mt.length) c = lo (arR sg mt) c := by
  obtain ⟨h1, h2, h3⟩ := lo_spec (arR_eqv hI hn) hc
  exact pass_least hI hn h3 (by omega) _ c hc (La.all hI hn (by omega) hc h2)
end
end Go.Proofs.Ytcjgfncbecbhjaa

