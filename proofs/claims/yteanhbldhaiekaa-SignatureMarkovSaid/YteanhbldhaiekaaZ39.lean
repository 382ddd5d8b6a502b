/-
  The signature of a closed braid under the steps of Markov's theorem, and of the negated braid. No program here.
-/
import Derived.Test.YteanhbldhaiekaaZ38
namespace Go.Proofs.Yteanhbldhaiekaa

/-- a step from the word w over n strands to the word w' over n' strands -/
def MkR (n : Nat) (w : List Int) (n' : Nat) (w' : List Int) : Prop :=
  (∃ z : Int, 1 ≤ z.natAbs ∧ z.natAbs < n ∧ n' = n ∧ w' = z :: (w ++ [-z])) ∨
  (∃ (z : Int) (u : List Int), n' = n ∧ w = -z :: (u ++ [z]) ∧ w' = u) ∨
  (∃ z : Int, 1 ≤ n ∧ z.natAbs = n ∧ n' = n + 1 ∧ w' = w ++ [z]) ∨
  (∃ (z : Int) (u : List Int), 1 ≤ n' ∧ z.natAbs = n' ∧ n = n' + 1 ∧ w = u ++ [z] ∧ w' = u ∧ WdN n' u) ∨
  (∃ (a b : List Int) (y z : Int), n' = n ∧ w = a ++ y :: z :: b ∧ w' = a ++ z :: y :: b ∧ y.natAbs + 1 ≠ z.natAbs ∧ z.natAbs + 1 ≠ y.natAbs) ∨
  (∃ (a b : List Int) (y z : Int), n' = n ∧ w = a ++ y :: z :: y :: b ∧ w' = a ++ z :: y :: z :: b ∧ sgl y = sgl z ∧ (z.natAbs = y.natAbs + 1 ∨ y.natAbs = z.natAbs + 1)) ∨
  (∃ (a b : List Int) (z : Int), 1 ≤ z.natAbs ∧ z.natAbs < n ∧ n' = n ∧ w = a ++ b ∧ w' = a ++ z :: -z :: b) ∨
  (∃ (a b : List Int) (z : Int), n' = n ∧ w = a ++ z :: -z :: b ∧ w' = a ++ b)
section
variable {n : Nat} {s : Int}
theorem sg_conj {z : Int} {w : List Int} (hw : WdN n w) (hz1 : 1 ≤ z.natAbs) (hz2 : z.natAbs < n) (h : SgB n w s) : SgB n (z :: (w ++ [-z])) s := by
  have h1 := SgB.ins (z := -z) (by rw [Int.natAbs_neg]; exact hz1) (by rw [Int.natAbs_neg]; exact hz2) h
  rw [Int.neg_neg] at h1
  exact SgB.rot (w := z :: w) (fun y hy => by
    rcases List.mem_cons.1 hy with rfl | hy
    · rw [Int.natAbs_neg]; exact ⟨hz1, hz2⟩
    · rcases List.mem_cons.1 hy with rfl | hy
      · exact ⟨hz1, hz2⟩
      · exact hw y hy) h1
theorem sg_ins {z : Int} {a b : List Int} (hw : WdN n (a ++ b)) (hz1 : 1 ≤ z.natAbs) (hz2 : z.natAbs < n) (h : SgB n (a ++ b) s) : SgB n (a ++ z :: -z :: b) s := by
  have h1 := SgB.ins (z := z) hz1 hz2 (SgB.rots hw h)
  refine SgB.rots (u := z :: -z :: b) (v := a) (fun y hy => ?_) h1
  have hy' : y ∈ z :: -z :: (b ++ a) := hy
  rcases List.mem_cons.1 hy' with rfl | hy'
  · exact ⟨hz1, hz2⟩
  · rcases List.mem_cons.1 hy' with rfl | hy'
    · rw [Int.natAbs_neg]; exact ⟨hz1, hz2⟩
    · exact (hw.right.app hw.left) y hy'
theorem sg_stab {z : Int} {w : List Int} (hw : WdN n w) (hn : 1 ≤ n) (hz : z.natAbs = n) (h : SgB n w s) : SgB (n + 1) (w ++ [z]) s :=
  SgB.rot (fun y hy => by
    rcases List.mem_cons.1 hy with rfl | hy
    · omega
    · have := hw y hy; omega) (SgB.stab hw hn hz h)
theorem MkR.sg {w w' : List Int} {n' : Nat} (hw : WdN n w) (hR : MkR n w n' w') (h : SgB n w s) : SgB n' w' s := by
  rcases hR with ⟨z, h1, h2, rfl, rfl⟩ | ⟨z, u, rfl, rfl, rfl⟩ | ⟨z, h1, h2, rfl, rfl⟩ | ⟨z, u, h1, h2, rfl, rfl, rfl, h3⟩ | ⟨a, b, y, z, rfl, rfl, rfl, h1, h2⟩ | ⟨a, b, y, z, rfl, rfl, rfl, h1, h2⟩ | ⟨a, b, z, h1, h2, rfl, rfl, rfl⟩ | ⟨a, b, z, rfl, rfl, rfl⟩
  · exact sg_conj hw h1 h2 h
  · obtain ⟨s', hs⟩ := SgB.ex n' w'
    obtain ⟨z1, z2⟩ := hw (-z) (by simp)
    have h1 := sg_conj (z := -z) (WdN.left (u := [z]) hw.tail) z1 z2 hs
    rw [Int.neg_neg] at h1
    rw [h.uniq h1]; exact hs
  · exact sg_stab hw h1 h2 h
  · obtain ⟨s', hs⟩ := SgB.ex n' w'
    rw [h.uniq (sg_stab h3 h1 h2 hs)]; exact hs
  · have e1 := SgB.comm (w := b ++ a) h1 h2 (SgB.rots hw h)
    refine SgB.rots (u := z :: y :: b) (v := a) (fun x hx => ?_) e1
    simp only [List.mem_append, List.mem_cons] at hx
    refine hw x ?_
    simp only [List.mem_append, List.mem_cons]
    rcases hx with (h | h | h) | h
    · exact .inr (.inr (.inl h))
    · exact .inr (.inl h)
    · exact .inr (.inr (.inr h))
    · exact .inl h
  · have e1 := SgB.trip (w := b ++ a) h1 h2 (SgB.rots hw h)
    refine SgB.rots (u := z :: y :: z :: b) (v := a) (fun x hx => ?_) e1
    simp only [List.mem_append, List.mem_cons] at hx
    refine hw x ?_
    simp only [List.mem_append, List.mem_cons]
    rcases hx with (h | h | h | h) | h
    · exact .inr (.inr (.inl h))
    · exact .inr (.inl h)
    · exact .inr (.inr (.inl h))
    · exact .inr (.inr (.inr (.inr h)))
    · exact .inl h
  · exact sg_ins hw h1 h2 h
  · obtain ⟨s', hs⟩ := SgB.ex n' (a ++ b)
    obtain ⟨z1, z2⟩ := hw z (by simp)
    have hw2 : WdN n' (a ++ b) := hw.left.app fun y hy => hw y (by simp [hy])
    rw [h.uniq (sg_ins hw2 z1 z2 hs)]; exact hs
/-- all letters negated -/
def eps1 (g : Nat) : Int := sg1 g
theorem qh_neg : ∀ (w : List Int), (∀ z ∈ w, z ≠ 0) → ∀ (x x' l l' : Nat → Int), (∀ k, k < w.length → x' k = sg1 (gN w k) * x k) → (∀ h, l' h = -sg1 h * l h) → qh (w.map fun z => -z) x' l' = -qh w x l
  | [], _, _, _, _, _, _, _ => rfl
  | z :: w, h0, x, x', l, l', hx, hl => by
    have e0 : x' 0 = sg1 z.natAbs * x 0 := hx 0 (by simp)
    rw [List.map_cons, qh_cons, qh_cons, sgl_neg (h0 z (by simp)), Int.natAbs_neg, qh_neg w (fun y hy => h0 y (by simp [hy])) (fun k => x (k + 1)) (fun k => x' (k + 1)) (upL l (z.natAbs + 1) (x 0)) (upL l' (z.natAbs + 1) (x' 0)) (fun k hk => hx (k + 1) (by simp; omega)) fun h => ?_, e0, hl]
    · have := sg1_mul z.natAbs
      grind
    · unfold upL
      split
      · rename_i e
        rw [hl, e0, e, sg1_succ]
        grind
      · exact hl h
theorem SgB.negw {w : List Int} (hw : WdN n w) (h : SgB n w s) : SgB n (w.map fun z => -z) (-s) := by
  obtain ⟨p, r, hs, rfl⟩ := h
  refine ⟨r, p, ?_, by omega⟩
  have hq1 := qB_QF n w
  have hq2 := qB_QF n (w.map fun z => -z)
  rw [List.length_map] at hq2 ⊢
  obtain ⟨N, hN⟩ : ∃ N, w.length = N := ⟨_, rfl⟩
  rw [hN] at hs hq1 hq2 ⊢
  let c : Nat → Int := fun i => if i < N then sg1 (gN w i) else -sg1 (i - N + 1)
  have hc : ∀ i, c i = 1 ∨ c i = -1 := fun i => by
    show (if _ then _ else _) = _ ∨ (if _ then _ else _) = _
    split
    · exact sg1_two _
    · rcases sg1_two (i - N + 1) with e | e <;> rw [e]
      · exact .inr rfl
      · exact .inl rfl
  refine hs.neg.lin (φ := fun v i => c i * v i) ⟨fun v v' i => Int.mul_add _ _ _, fun t v i => by show c i * (t * v i) = t * (c i * v i); grind⟩ (fun v hv i hi => ?_) (fun v v' hv => by show -qB n w v = -qB n w v'; rw [hq1 v v' hv]) hq2 fun v => ?_
  · have : c i * v i = 0 := hv i hi
    rcases Int.mul_eq_zero.1 this with e | e
    · rcases hc i with e2 | e2 <;> rw [e2] at e <;> cases e
    · exact e
  · show qh (w.map fun z => -z) (fun i => c i * v i) (lB n (w.map fun z => -z).length fun i => c i * v i) = -qh w v (lB n w.length v)
    rw [List.length_map, hN]
    refine qh_neg w (fun z hz e => by have := (hw z hz).1; rw [e] at this; simp at this) v _ _ _ (fun k hk => ?_) fun h => ?_
    · show (if _ then _ else _) * v k = _
      rw [if_pos (by omega)]
    · unfold lB
      by_cases e : 1 ≤ h ∧ h < n
      · rw [if_pos e, if_pos e]
        show (if _ then _ else _) * _ = _
        rw [if_neg (by omega), show N + h - 1 - N + 1 = h by omega]
      · rw [if_neg e, if_neg e, Int.mul_zero]
end
/-! ### what Of answers -/
theorem brv_wd {S : Int} {ws : List Int} (h : BrV S ws) : ∃ m : Nat, S = m + 1 ∧ S.toNat - 1 = m ∧ WdN (m + 1) ws := by
  obtain ⟨h1, h2, h3, h4⟩ := h
  refine ⟨S.toNat - 1, by omega, rfl, fun z hz => ?_⟩
  obtain ⟨k, hk, rfl⟩ := List.getElem_of_mem hz
  have := h4 k hk
  rw [gi_lt hk] at this
  omega
theorem ofE_zero {S : Int} {ws : List Int} (h : ofE S ws = 0) : BrV S ws ∧ Occ ws (S.toNat - 1) ∧ mxE S ws = 0 ∧ syE (mxL S ws) = 0 ∧ inE (syL (mxL S ws)) = 0 ∧ lpL S ws = lpS ws (S.toNat - 1) := by
  unfold ofE at h
  split at h
  · rename_i h1
    split at h
    · rename_i h2
      have h3 := h1
      unfold mxE at h3
      split at h3
      · rename_i h4
        have h5 := h4
        unfold lpE at h5
        split at h5
        · rename_i h6
          split at h5
          · rename_i h7
            exact ⟨h6, h7, h1, h2, h, by unfold lpL; rw [if_pos h4]⟩
          · cases h5
        · cases h5
      · rename_i h4; exact absurd h3 h4
    · rename_i h2; exact absurd h h2
  · rename_i h1; exact absurd h h1
theorem sg_of {S : Int} {ws : List Int} {p q : Nat} (h : ofE S ws = 0) (hA : OfA S ws p q) : SgB S.toNat ws ((p : Int) - q) := by
  obtain ⟨h1, h2, h3, h4, h5, h6⟩ := ofE_zero h
  obtain ⟨m, rfl, hm, hW⟩ := brv_wd h1
  unfold OfA at hA
  rw [if_pos h] at hA
  have e1 : syL (mxL ((m : Int) + 1) ws) = syM (mxL ((m : Int) + 1) ws) := by unfold syL; rw [if_pos h4]
  have e2 : mxL ((m : Int) + 1) ws = mkL (lpS ws m).length (lpS ws m).length fun i j => elS ws (gL (lpS ws m) i) (gL (lpS ws m) j) := by unfold mxL; rw [if_pos h3, h6, hm]
  have e3 : (mxL ((m : Int) + 1) ws).length = (lpS ws m).length := by rw [e2, mkL_len]
  rw [e1] at hA
  unfold syM at hA
  rw [mkL_len, e3] at hA
  rw [hm] at h2
  rw [show ((m : Int) + 1).toNat = m + 1 by omega]
  refine sgb_of_mat h2 hW (fun i j hi hj => ?_) hA
  rw [mkL_eI hi hj, e2, mkL_eI hi hj, mkL_eI hj hi]
/-! ### the negated word -/
def ngW (ws : List Int) : List Int := ws.map fun z => -z
theorem ngW_gi (ws : List Int) (k : Nat) : gi (ngW ws) k = -gi ws k := by
  unfold ngW gi
  rw [List.getD_eq_getElem?_getD, List.getD_eq_getElem?_getD, List.getElem?_map]
  cases ws[k]? <;> rfl
theorem ngW_len (ws : List Int) : (ngW ws).length = ws.length := List.length_map _
theorem ng_isG (ws : List Int) (g k : Nat) : isG (ngW ws) g k ↔ isG ws g k := by
  unfold isG
  rw [ngW_gi]
  omega
theorem ng_lsS (ws : List Int) (g : Nat) : ∀ k, lsS (ngW ws) g k = lsS ws g k
  | 0 => rfl
  | k + 1 => by
    rw [lsS, lsS, ng_lsS ws g k]
    by_cases h : isG ws g k
    · rw [if_pos h, if_pos ((ng_isG ws g k).2 h)]
    · rw [if_neg h, if_neg fun h' => h ((ng_isG ws g k).1 h')]
theorem ng_ocS (ws : List Int) (g : Nat) : ∀ k, ocS (ngW ws) g k = ocS ws g k
  | 0 => rfl
  | k + 1 => by
    rw [ocS, ocS, ng_ocS ws g k, ng_lsS]
    by_cases h : isG ws g k
    · rw [if_pos h, if_pos ((ng_isG ws g k).2 h)]
    · rw [if_neg h, if_neg fun h' => h ((ng_isG ws g k).1 h')]
theorem ng_lpS (ws : List Int) : ∀ n, lpS (ngW ws) n = lpS ws n
  | 0 => rfl
  | n + 1 => by rw [lpS, lpS, ng_lpS ws n, ng_ocS, ngW_len]
theorem ng_brv {S : Int} {ws : List Int} (h : BrV S ws) : BrV S (ngW ws) := by
  obtain ⟨h1, h2, h3, h4⟩ := h
  refine ⟨h1, h2, by rw [ngW_len]; exact h3, fun k hk => ?_⟩
  rw [ngW_len] at hk
  have := h4 k hk
  rw [ngW_gi]
  omega
theorem ng_mxE {S : Int} {ws : List Int} (h : mxE S ws = 0) : mxE S (ngW ws) = 0 ∧ lpL S (ngW ws) = lpL S ws := by
  unfold mxE at h
  split at h
  · rename_i h1
    split at h
    · cases h
    · rename_i h2
      have h3 := h1
      unfold lpE at h3
      split at h3
      · rename_i h4
        split at h3
        · rename_i h5
          have e1 : lpE S (ngW ws) = 0 := by
            unfold lpE
            have h7 : Occ (ngW ws) (S.toNat - 1) := fun g a b => by rw [ng_lsS, ngW_len]; exact h5 g a b
            rw [if_pos (ng_brv h4), if_pos h7]
          have e2 : lpL S (ngW ws) = lpL S ws := by
            unfold lpL
            rw [if_pos e1, if_pos h1, ng_lpS]
          refine ⟨?_, e2⟩
          unfold mxE
          rw [if_pos e1, e2, if_neg h2]
        · cases h3
      · cases h3
  · rename_i h1; exact absurd h h1
/-- the matrix of a braid is small enough -/
theorem sy_zero {S : Int} {ws : List Int} (h : mxE S ws = 0) : syE (mxL S ws) = 0 := by
  have e : mxL S ws = mkL (lpL S ws).length (lpL S ws).length fun i j => elS ws (gL (lpL S ws) i) (gL (lpL S ws) j) := by unfold mxL; rw [if_pos h]
  have hl : (mxL S ws).length = (lpL S ws).length := by rw [e, mkL_len]
  have h1 : SqA (mxL S ws) := fun i hi => by
    rw [hl] at hi ⊢
    rw [e]; exact mkL_rowL hi
  have h2 : SmC (mxL S ws) := fun i hi j hj => by
    rw [h1 i hi, hl] at hj
    rw [hl] at hi
    rw [e, mkL_eI hi hj]
    have := elS_rg ws (gL (lpL S ws) i) (gL (lpL S ws) j)
    omega
  have h3 : SmC (syM (mxL S ws)) := fun i hi j hj => by
    unfold syM at hi hj ⊢
    rw [mkL_len] at hi
    rw [mkL_rowL hi] at hj
    rw [mkL_eI hi hj]
    rw [hl] at hi hj
    rw [e, mkL_eI hi hj, mkL_eI hj hi]
    have := elS_rg ws (gL (lpL S ws) i) (gL (lpL S ws) j)
    have := elS_rg ws (gL (lpL S ws) j) (gL (lpL S ws) i)
    omega
  unfold syE
  rw [if_pos h1, if_pos h2, if_pos h3]
theorem ng_Glp {ws : List Int} {n : Nat} {x y : Lp} (hx : x ∈ lpS ws n) (hy : y ∈ lpS ws n) : (Glp (ngW ws) x y).natAbs = (Glp ws x y).natAbs := by
  obtain ⟨x0, -, x1, x2, x3, x4⟩ := lpS_mem ws n x hx
  obtain ⟨y0, -, y1, y2, y3, y4⟩ := lpS_mem ws n y hy
  have a1 := isG_gN x3
  have a2 := isG_gN x4
  have a3 := isG_gN y3
  have a4 := isG_gN y4
  have gn : ∀ k, gN (ngW ws) k = gN ws k := fun k => by unfold gN; rw [ngW_gi, Int.natAbs_neg]
  have bne : ∀ k l, k ≠ l → Bm (ngW ws) k l = Bm ws k l := fun k l hkl => by unfold Bm; rw [if_neg hkl, if_neg hkl, gn, gn]
  by_cases hg : x.g = y.g
  · have key : ∀ k l, gN ws k = gN ws l → gi ws k ≠ 0 → Bm (ngW ws) k l = -Bm ws k l := fun k l h h0 => by
      by_cases e : k = l
      · subst e
        unfold Bm
        rw [if_pos rfl, if_pos rfl, ngW_gi, sgl_neg h0]
      · rw [bne k l e, Bm_same h e]; rfl
    have n1 : gi ws x.p ≠ 0 := by intro e; unfold gN at a1; rw [e] at a1; simp at a1; omega
    have n2 : gi ws x.q ≠ 0 := by intro e; unfold gN at a2; rw [e] at a2; simp at a2; omega
    have e : Glp (ngW ws) x y = -Glp ws x y := by
      unfold Glp
      rw [key _ _ (by omega) n1, key _ _ (by omega) n1, key _ _ (by omega) n2, key _ _ (by omega) n2]
      omega
    rw [e, Int.natAbs_neg]
  · have ne : ∀ k l, gN ws k = x.g → gN ws l = y.g → k ≠ l := fun k l h1 h2 e => by subst e; omega
    unfold Glp
    rw [bne _ _ (ne _ _ a1 a3), bne _ _ (ne _ _ a1 a4), bne _ _ (ne _ _ a2 a3), bne _ _ (ne _ _ a2 a4)]
theorem ofE_neg {S : Int} {ws : List Int} (h : ofE S ws = 0) : ofE S (ngW ws) = 0 := by
  obtain ⟨h1, h2, h3, h4, h5, h6⟩ := ofE_zero h
  obtain ⟨k1, k2⟩ := ng_mxE h3
  have k3 := sy_zero k1
  unfold ofE
  rw [if_pos k1, if_pos k3]
  have e0 : ∀ {v : List Int}, mxE S v = 0 → syE (mxL S v) = 0 → lpL S v = lpL S ws → syL (mxL S v) = mkL (lpL S ws).length (lpL S ws).length fun i j => elS v (gL (lpL S ws) i) (gL (lpL S ws) j) + elS v (gL (lpL S ws) j) (gL (lpL S ws) i) := fun {v} a1 a2 a3 => by
    have e2 : mxL S v = mkL (lpL S ws).length (lpL S ws).length fun i j => elS v (gL (lpL S ws) i) (gL (lpL S ws) j) := by unfold mxL; rw [if_pos a1, a3]
    unfold syL
    rw [if_pos a2]
    unfold syM
    rw [e2, mkL_len]
    unfold mkL
    refine List.map_congr_left fun i hi => List.map_congr_left fun j hj => ?_
    have hi := List.mem_range.1 hi
    have hj := List.mem_range.1 hj
    exact _root_.congr (_root_.congrArg _ (mkL_eI (a := fun i j => elS v (gL (lpL S ws) i) (gL (lpL S ws) j)) hi hj)) (mkL_eI (a := fun i j => elS v (gL (lpL S ws) i) (gL (lpL S ws) j)) hj hi)
  have hL64 : (lpL S ws).length ≤ 64 := by
    have := h3
    unfold mxE at this
    split at this
    · split at this
      · cases this
      · omega
    · rename_i hh; exact absurd this hh
  rw [e0 k1 k3 k2]
  rw [e0 h3 h4 rfl] at h5
  obtain ⟨L, hL⟩ : ∃ L, (lpL S ws).length = L := ⟨_, rfl⟩
  rw [hL] at hL64 h5 ⊢
  have sq : ∀ v : List Int, IsM (mkL L L fun i j => elS v (gL (lpL S ws) i) (gL (lpL S ws) j) + elS v (gL (lpL S ws) j) (gL (lpL S ws) i)) ∧ SqS (mkL L L fun i j => elS v (gL (lpL S ws) i) (gL (lpL S ws) j) + elS v (gL (lpL S ws) j) (gL (lpL S ws) i)) := fun v => by
    refine ⟨mkL_IsM hL64 hL64, fun i hi => ?_, fun i hi j hj => ?_⟩
    · rw [mkL_len] at hi ⊢; exact mkL_rowL hi
    · rw [mkL_len] at hi
      rw [mkL_eI hi (by omega), mkL_eI (by omega) hi]
      omega
  have bn : ∀ v : List Int, bndM (mkL L L fun i j => elS v (gL (lpL S ws) i) (gL (lpL S ws) j) + elS v (gL (lpL S ws) j) (gL (lpL S ws) i)).length (rowL (mkL L L fun i j => elS v (gL (lpL S ws) i) (gL (lpL S ws) j) + elS v (gL (lpL S ws) j) (gL (lpL S ws) i)) 0) (eI (mkL L L fun i j => elS v (gL (lpL S ws) i) (gL (lpL S ws) j) + elS v (gL (lpL S ws) j) (gL (lpL S ws) i))) =
      bndM L L fun i j => elS v (gL (lpL S ws) i) (gL (lpL S ws) j) + elS v (gL (lpL S ws) j) (gL (lpL S ws) i) := fun v => by
    rw [mkL_len]
    rcases Nat.eq_zero_or_pos L with h | h
    · subst h; rfl
    · rw [mkL_rowL h]
      unfold bndM
      refine pN_congr fun i hi => ?_
      rw [sN_congr fun j hj => by rw [mkL_eI hi hj]]
  have key : (bndM L L fun i j => elS (ngW ws) (gL (lpL S ws) i) (gL (lpL S ws) j) + elS (ngW ws) (gL (lpL S ws) j) (gL (lpL S ws) i)) = bndM L L fun i j => elS ws (gL (lpL S ws) i) (gL (lpL S ws) j) + elS ws (gL (lpL S ws) j) (gL (lpL S ws) i) := by
    unfold bndM
    refine pN_congr fun i hi => ?_
    rw [sN_congr fun j hj => ?_]
    have m1 : gL (lpL S ws) i ∈ lpS ws (S.toNat - 1) := by rw [← h6]; exact gL_mem (by omega)
    have m2 : gL (lpL S ws) j ∈ lpS ws (S.toNat - 1) := by rw [← h6]; exact gL_mem (by omega)
    show (elS (ngW ws) (gL (lpL S ws) i) (gL (lpL S ws) j) + elS (ngW ws) (gL (lpL S ws) j) (gL (lpL S ws) i)).natAbs = (elS ws (gL (lpL S ws) i) (gL (lpL S ws) j) + elS ws (gL (lpL S ws) j) (gL (lpL S ws) i)).natAbs
    rw [← gm_el m1 m2, ← gm_el (ws := ngW ws) (n := S.toNat - 1) (by rw [ng_lpS]; exact m1) (by rw [ng_lpS]; exact m2)]
    exact ng_Glp m1 m2
  have hsm : Sml (mkL L L fun i j => elS ws (gL (lpL S ws) i) (gL (lpL S ws) j) + elS ws (gL (lpL S ws) j) (gL (lpL S ws) i)) := by
    unfold inE at h5
    rw [if_pos (sq ws)] at h5
    split at h5
    · rename_i h; exact h
    · cases h5
  unfold inE
  rw [if_pos (sq (ngW ws)), if_pos]
  unfold Sml at hsm ⊢
  rw [bn] at hsm ⊢
  rw [key]
  exact hsm
end Go.Proofs.Yteanhbldhaiekaa
