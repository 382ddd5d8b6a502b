/-
  The Seifert graph has two sides, and the colouring by passes over its edges finds them. No program here.
-/
import Derived.Test.YtaghemilihaiaaaSGraph
import Derived.Test.YtaghemilihaiaaaRSeif
namespace Go.Proofs.Ytaghemilihaiaaa

theorem turn_s0 (c : Nat) : turnN (4 * c) 3 = 4 * c + 3 := by unfold turnN; omega
theorem turn_s1 (c : Nat) : turnN (4 * c + 1) 3 = 4 * c := by unfold turnN; omega
theorem turn_s2 (c : Nat) : turnN (4 * c + 2) 3 = 4 * c + 1 := by unfold turnN; omega
theorem turn_s3 (c : Nat) : turnN (4 * c + 3) 3 = 4 * c + 2 := by unfold turnN; omega

section
variable {sg mt : List Int} {L : Int} (hd : IsD sg mt L)
include hd
/-- the numbers of the faces around a crossing -/
theorem face_slots {p : Nat → Int} (hp1 : ∀ h, h < mt.length → p (nxF mt h) = p h) (hp2 : ∀ h, h < mt.length → p h - p (gn mt h) = if outB sg h = true then 1 else -1) {h : Nat} (hh : h < mt.length) :
    p h - p (turnN h 3) = if outB sg h = true then 1 else -1 := by
  have hg := hd.2.2.2.2.2.1.gn hh
  have := hp1 (gn mt h) hg.2.1
  unfold nxF at this
  rw [hg.2.2.2] at this
  rw [this]
  exact hp2 h hh
/-- along a Seifert circle the face to the left keeps its number -/
theorem pot_nxC {p : Nat → Int} (hp1 : ∀ h, h < mt.length → p (nxF mt h) = p h) (hp2 : ∀ h, h < mt.length → p h - p (gn mt h) = if outB sg h = true then 1 else -1) : ∀ h, h < mt.length → p (nxC sg mt h) = p h := by
  intro h hh
  have hn := hd.2.1
  unfold nxC
  split
  · rename_i ho
    have hg := (hd.2.2.2.2.2.1.gn hh).2.1
    have hin := in_slot hd hg (mate_in hd hh ho)
    have hc : gn mt h / 4 < sg.length := by omega
    obtain ⟨c, hcc⟩ : ∃ c, gn mt h / 4 = c := ⟨_, rfl⟩
    rw [hcc] at hin hc
    have hs := outB_slots hd.2.2.2.2.1 hc
    have f0 := face_slots hd hp1 hp2 (h := 4 * c) (by omega)
    have f1 := face_slots hd hp1 hp2 (h := 4 * c + 1) (by omega)
    have f2 := face_slots hd hp1 hp2 (h := 4 * c + 2) (by omega)
    have f3 := face_slots hd hp1 hp2 (h := 4 * c + 3) (by omega)
    rw [turn_s0, hs.1] at f0
    rw [turn_s1] at f1
    rw [turn_s2, hs.2.1] at f2
    rw [turn_s3] at f3
    have e := hp1 h hh
    unfold nxF at e
    unfold nxR overN
    rw [hcc]
    simp only [Bool.false_eq_true, if_false, if_true] at f0 f2
    rcases hin with h1 | ⟨h1, h2⟩ | ⟨h1, h2⟩
    · rw [show gn mt h = 4 * c by omega, turn_s0] at e
      rw [if_pos h1]
      rcases hd.2.2.2.2.1 c hc with h2 | h2
      · rw [if_pos h2, ← e]
        have := (hs.2.2.1 h2)
        rw [this.1] at f1
        rw [this.2] at f3
        simp at f1 f3
        omega
      · rw [if_neg (by omega), ← e]
    · rw [show gn mt h = 4 * c + 3 by omega, turn_s3] at e
      rw [if_neg (by omega), ← e, Nat.mul_comm]
    · rw [show gn mt h = 4 * c + 1 by omega, turn_s1] at e
      rw [if_neg (by omega), ← e, Nat.mul_comm]
      have := (hs.2.2.2 h2)
      rw [this.1] at f1
      simp at f1
      omega
  · rfl
theorem pot_band {p : Nat → Int} (hp1 : ∀ h, h < mt.length → p (nxF mt h) = p h) (hp2 : ∀ h, h < mt.length → p h - p (gn mt h) = if outB sg h = true then 1 else -1) {c : Nat} (hc : c < sg.length) : p (4 * c + 2) - p (overN sg c) = 1 ∨ p (4 * c + 2) - p (overN sg c) = -1 := by
  have hn := hd.2.1
  have hs := outB_slots hd.2.2.2.2.1 hc
  have f2 := face_slots hd hp1 hp2 (h := 4 * c + 2) (by omega)
  have f3 := face_slots hd hp1 hp2 (h := 4 * c + 3) (by omega)
  rw [turn_s2, hs.2.1] at f2
  rw [turn_s3] at f3
  simp only [if_true] at f2
  unfold overN
  rcases hd.2.2.2.2.1 c hc with h2 | h2
  · rw [if_pos h2]; exact .inl f2
  · rw [if_neg (by omega)]
    rw [(hs.2.2.2 h2).2] at f3
    simp at f3
    right; omega
/-- the two sides of the Seifert graph -/
theorem bip_col : ∃ col : Nat → Int, (∀ i, col i = 1 ∨ col i = -1) ∧ ∀ c, c < sg.length →
    col (numN (nxC sg mt) mt.length (outB sg) (4 * c + 2)) = - col (numN (nxC sg mt) mt.length (outB sg) (overN sg c)) := by
  obtain ⟨p, hp1, hp2⟩ := numbering hd
  have hP := nxC_perm hd
  have hW := out_nxC hd
  have hn := hd.2.1
  refine ⟨fun i => if p (((circL sg mt)[i]?.getD []).headD 0) % 2 = 0 then 1 else -1, fun i => ?_, fun c hc => ?_⟩
  · show (if _ then (1 : Int) else -1) = 1 ∨ (if _ then (1 : Int) else -1) = -1
    split
    · exact .inl rfl
    · exact .inr rfl
  · have key : ∀ h, h < mt.length → outB sg h = true → p (((circL sg mt)[numN (nxC sg mt) mt.length (outB sg) h]?.getD []).headD 0) = p h := by
      intro h hh ho
      have h1 := (num_lt hP hW hh ho).2
      unfold circL
      rw [h1]
      obtain ⟨a1, -⟩ := lstN_spec hP hh
      have hl := cyc_lt hP hh a1
      have e : ((some (cyc (nxC sg mt) mt.length (lstN (nxC sg mt) mt.length h))).getD []).headD 0 = lstN (nxC sg mt) mt.length h := by
        obtain ⟨h0, _, _, _⟩ := per_spec hP hl
        unfold cyc
        simp only [Option.getD_some]
        rw [show per (nxC sg mt) mt.length (lstN (nxC sg mt) mt.length h) = (per (nxC sg mt) mt.length (lstN (nxC sg mt) mt.length h) - 1) + 1 by omega, List.range_succ_eq_map]
        rfl
      rw [e]
      exact rc_const hP (pot_nxC hd hp1 hp2) hh (decide_eq_true a1)
    have hs := outB_slots hd.2.2.2.2.1 hc
    have ho := over_out hd.2.2.2.2.1 hc
    simp only
    rw [key _ (by omega) hs.2.1, key _ (by omega) ho.1]
    have hb := pot_band hd hp1 hp2 hc
    by_cases h1 : p (4 * c + 2) % 2 = 0
    · rw [if_pos h1, if_neg (by omega)]; rfl
    · rw [if_neg h1, if_pos (by omega)]
theorem sedge_lt {c : Nat} (hc : c < sg.length) : ∃ a b : Nat, sedge sg mt c = ((a : Int), (b : Int)) ∧ a < (circL sg mt).length ∧ b < (circL sg mt).length ∧ a = numN (nxC sg mt) mt.length (outB sg) (4 * c + 2) ∧ b = numN (nxC sg mt) mt.length (outB sg) (overN sg c) := by
  have hs := outB_slots hd.2.2.2.2.1 hc
  have ho := over_out hd.2.2.2.2.1 hc
  have hn := hd.2.1
  refine ⟨_, _, ?_, (num_lt (nxC_perm hd) (out_nxC hd) (by omega) hs.2.1).1, (num_lt (nxC_perm hd) (out_nxC hd) (by omega) ho.1).1, rfl, rfl⟩
  unfold sedge numI
  rw [if_pos hs.2.1, if_pos ho.1]
end

/-! ### the colouring -/
def bst (s : List Int) (a b : Nat) : List Int := if gi s a ≠ 0 ∧ gi s b = 0 then s.set b (-(gi s a)) else s
/-- the edges: ends below n, and of different colours -/
structure BE (col : Nat → Int) (n m : Nat) (e : Nat → Nat × Nat) : Prop where
  pm : ∀ i, col i = 1 ∨ col i = -1
  lt : ∀ k, k < m → (e k).1 < n ∧ (e k).2 < n
  opp : ∀ k, k < m → col (e k).1 = - col (e k).2
/-- what holds between the starts -/
structure BO (n m : Nat) (e : Nat → Nat × Nat) (k : Nat) (s : List Int) : Prop where
  len : s.length = n
  bd : ∀ v, -1 ≤ gi s v ∧ gi s v ≤ 1
  out : ∀ k, k < m → gi s (e k).1 = - gi s (e k).2
  nz : ∀ v, v < k → gi s v ≠ 0
def clo (m : Nat) (e : Nat → Nat × Nat) (s : List Int) : Prop := ∀ k, k < m → (gi s (e k).1 = 0 ↔ gi s (e k).2 = 0)
def dnB (e : Nat → Nat × Nat) (s : List Int) (k : Nat) : Bool := decide (gi s (e k).1 ≠ 0) && decide (gi s (e k).2 ≠ 0)
def dn (m : Nat) (e : Nat → Nat × Nat) (s : List Int) : Nat := cnt (dnB e s) m
/-- what holds from a start on -/
structure BI2 (col : Nat → Int) (n : Nat) (old : List Int) (g : Int) (st : Nat) (s : List Int) : Prop where
  len : s.length = n
  bd : ∀ v, -1 ≤ gi s v ∧ gi s v ≤ 1
  val : ∀ v, gi s v = gi old v ∨ (gi old v = 0 ∧ gi s v = g * col v)
  st : gi s st ≠ 0

theorem bst_len (s : List Int) (a b : Nat) : (bst s a b).length = s.length := by unfold bst; split <;> simp
theorem bst_nz {s : List Int} {a b v : Nat} (hb : b < s.length) (hv : gi s v ≠ 0) : gi (bst s a b) v = gi s v := by
  unfold bst
  split
  · rename_i h
    rw [gi_set hb, if_neg (by rintro rfl; exact hv h.2)]
  · rfl
theorem cnt_mono {P Q : Nat → Bool} : ∀ {m : Nat}, (∀ x, x < m → P x = true → Q x = true) → cnt P m ≤ cnt Q m
  | 0, _ => Nat.le_refl _
  | m + 1, h => by
    rw [cnt_succ, cnt_succ]
    have := cnt_mono (m := m) fun x hx => h x (by omega)
    have h2 := h m (by omega)
    cases hp : P m <;> cases hq : Q m <;> simp [hp, hq] at h2 ⊢ <;> omega
theorem cnt_more {P Q : Nat → Bool} : ∀ {m k : Nat}, (∀ x, x < m → P x = true → Q x = true) → k < m → P k = false → Q k = true → cnt P m + 1 ≤ cnt Q m
  | 0, _, _, h, _, _ => by omega
  | m + 1, k, h, hk, h1, h2 => by
    rw [cnt_succ, cnt_succ]
    by_cases e : k = m
    · subst e
      have := cnt_mono (m := k) fun x hx => h x (by omega)
      simp [h1, h2]
      omega
    · have := cnt_more (m := m) (k := k) (fun x hx => h x (by omega)) (by omega) h1 h2
      have h3 := h m (by omega)
      cases hp : P m <;> cases hq : Q m <;> simp [hp, hq] at h3 ⊢ <;> omega
theorem cnt_full {P : Nat → Bool} : ∀ {m : Nat}, m ≤ cnt P m → ∀ k, k < m → P k = true
  | 0, _, k, hk => by omega
  | m + 1, h, k, hk => by
    rw [cnt_succ] at h
    have h1 := cnt_le P m
    by_cases e : P m = true
    · rw [if_pos e] at h
      by_cases ek : k = m
      · rw [ek]; exact e
      · exact cnt_full (m := m) (by omega) k (by omega)
    · rw [if_neg e] at h; omega
section
variable {col : Nat → Int} {n m : Nat} {e : Nat → Nat × Nat} (hE : BE col n m e)
include hE
theorem bst_mono {s : List Int} {k : Nat} (hl : s.length = n) (hk : k < m) : ∀ x, x < m → dnB e s x = true → dnB e (bst s (e k).1 (e k).2) x = true ∧ dnB e (bst s (e k).2 (e k).1) x = true := by
  intro x _ h
  unfold dnB at h ⊢
  simp only [Bool.and_eq_true, decide_eq_true_eq] at h ⊢
  have := hE.lt k hk
  rw [bst_nz (by omega) h.1, bst_nz (by omega) h.2, bst_nz (by omega) h.1, bst_nz (by omega) h.2]
  exact ⟨h, h⟩
omit hE in
theorem bst_idle {s : List Int} {a b : Nat} (h : gi s a = 0 ↔ gi s b = 0) : bst s a b = s := by
  unfold bst
  rw [if_neg]
  rintro ⟨h1, h2⟩
  exact h1 (h.2 h2)
/-- one end is coloured from the other one -/
theorem bcol_step {old s : List Int} {g : Int} {st k : Nat} (hO : BO n m e st old) (hk : k < m) (h : BI2 col n old g st s) : BI2 col n old g st (bst s (e k).1 (e k).2) ∧ BI2 col n old g st (bst s (e k).2 (e k).1) := by
  have hlt := hE.lt k hk
  have hop := hE.opp k hk
  have ho := hO.out k hk
  have key : ∀ a b, a < n → b < n → col a = - col b → gi old a = - gi old b → BI2 col n old g st (bst s a b) := by
    intro a b ha hb hc ho
    refine ⟨by rw [bst_len]; exact h.len, fun v => ?_, fun v => ?_, ?_⟩
    · unfold bst
      split
      · rw [gi_set (by rw [h.len]; exact hb)]
        split
        · have := h.bd a; omega
        · exact h.bd v
      · exact h.bd v
    · unfold bst
      split
      · rename_i hc2
        rw [gi_set (by rw [h.len]; exact hb)]
        split
        · rename_i hv
          subst hv
          have ob : gi old v = 0 := by
            rcases h.val v with h1 | h1
            · rw [← h1]; exact hc2.2
            · exact h1.1
          right
          refine ⟨ob, ?_⟩
          rcases h.val a with h1 | h1
          · exfalso; rw [ob] at ho; rw [h1] at hc2; omega
          · rw [h1.2, hc]
            rcases hE.pm v with h2 | h2 <;> rw [h2] <;> simp
        · exact h.val v
      · exact h.val v
    · rw [bst_nz (by rw [h.len]; exact hb) h.st]; exact h.st
  exact ⟨key _ _ hlt.1 hlt.2 hop ho, key _ _ hlt.2 hlt.1 (by omega) (by omega)⟩
theorem bcol_start {old : List Int} {st : Nat} (hO : BO n m e st old) (hs : st < n) (h0 : gi old st = 0) : BI2 col n old (col st) st (old.set st 1) := by
  refine ⟨by rw [List.length_set]; exact hO.len, fun v => ?_, fun v => ?_, ?_⟩
  · rw [gi_set (by rw [hO.len]; exact hs)]
    split
    · omega
    · exact hO.bd v
  · rw [gi_set (by rw [hO.len]; exact hs)]
    split
    · rename_i hv; subst hv
      right
      refine ⟨h0, ?_⟩
      rcases hE.pm v with h2 | h2 <;> rw [h2] <;> rfl
    · exact .inl rfl
  · rw [gi_set (by rw [hO.len]; exact hs), if_pos rfl]; omega
theorem bcol_end {old s : List Int} {g : Int} {st : Nat} (hO : BO n m e st old) (h : BI2 col n old g st s) (hc : clo m e s) : BO n m e (st + 1) s := by
  refine ⟨h.len, h.bd, fun k hk => ?_, fun v hv => ?_⟩
  · have hcl := hc k hk
    have ho := hO.out k hk
    have hop := hE.opp k hk
    rcases h.val (e k).1 with h1 | h1 <;> rcases h.val (e k).2 with h2 | h2
    · omega
    · have : gi s (e k).1 = 0 := by omega
      have h3 := hcl.1 this
      omega
    · have : gi s (e k).2 = 0 := by omega
      have h3 := hcl.2 this
      omega
    · rw [h1.2, h2.2, hop, Int.mul_neg]
  · rcases Nat.lt_or_eq_of_le (Nat.le_of_lt_succ hv) with h1 | h1
    · have h2 := hO.nz v h1
      rcases h.val v with h3 | h3
      · rw [h3]; exact h2
      · exact absurd h3.1 h2
    · rw [h1]; exact h.st
/-- the passes: t done, k edges of the next one -/
def BW (m : Nat) (e : Nat → Nat × Nat) (t k : Nat) (s : List Int) : Prop := clo m e s ∨ t + 1 ≤ dn m e s ∨ (t ≤ dn m e s ∧ ∀ i, i < k → (gi s (e i).1 = 0 ↔ gi s (e i).2 = 0))
def BP (m : Nat) (e : Nat → Nat × Nat) (t : Nat) (s : List Int) : Prop := clo m e s ∨ t ≤ dn m e s
omit hE in
theorem bp_zero (s : List Int) : BP m e 0 s := .inr (Nat.zero_le _)
omit hE in
theorem bw_start {t : Nat} {s : List Int} (h : BP m e t s) : BW m e t 0 s := h.elim .inl fun h => .inr (.inr ⟨h, fun i hi => by omega⟩)
omit hE in
theorem bw_end {t : Nat} {s : List Int} (h : BW m e t m s) : BP m e (t + 1) s := by
  rcases h with h | h | h
  · exact .inl h
  · exact .inr h
  · exact .inl h.2
omit hE in
theorem bp_end {s : List Int} (h : BP m e m s) : clo m e s := by
  rcases h with h | h
  · exact h
  · intro k hk
    have := cnt_full h k hk
    unfold dnB at this
    simp only [Bool.and_eq_true, decide_eq_true_eq] at this
    exact ⟨fun h => absurd h this.1, fun h => absurd h this.2⟩
theorem bw_step {t k : Nat} {s : List Int} (hl : s.length = n) (hk : k < m) (h : BW m e t k s) : BW m e t (k + 1) (bst (bst s (e k).1 (e k).2) (e k).2 (e k).1) := by
  have hlt := hE.lt k hk
  by_cases hc : gi s (e k).1 = 0 ↔ gi s (e k).2 = 0
  · rw [bst_idle hc, bst_idle hc.symm]
    rcases h with h | h | h
    · exact .inl h
    · exact .inr (.inl h)
    · refine .inr (.inr ⟨h.1, fun i hi => ?_⟩)
      rcases Nat.lt_or_eq_of_le (Nat.le_of_lt_succ hi) with h1 | h1
      · exact h.2 i h1
      · rw [h1]; exact hc
  · have hmono : ∀ x, x < m → dnB e s x = true → dnB e (bst (bst s (e k).1 (e k).2) (e k).2 (e k).1) x = true := fun x hx hd =>
      (bst_mono hE (by rw [bst_len]; exact hl) hk x hx (bst_mono hE hl hk x hx hd).1).2
    have hnot : dnB e s k = false := by
      unfold dnB
      rw [Bool.and_eq_false_iff, decide_eq_false_iff_not, decide_eq_false_iff_not]
      apply Classical.byContradiction
      intro h
      rw [not_or] at h
      exact hc ⟨fun h' => absurd h' (by simpa using h.1), fun h' => absurd h' (by simpa using h.2)⟩
    have hyes : dnB e (bst (bst s (e k).1 (e k).2) (e k).2 (e k).1) k = true := by
      by_cases h1 : gi s (e k).1 = 0
      · have h2 : gi s (e k).2 ≠ 0 := fun h2 => hc ⟨fun _ => h2, fun _ => h1⟩
        have e1 : bst s (e k).1 (e k).2 = s := by unfold bst; rw [if_neg (fun h => h.1 h1)]
        rw [e1]
        unfold dnB
        rw [bst_nz (by omega) h2]
        unfold bst
        rw [if_pos ⟨h2, h1⟩, gi_set (by omega), if_pos rfl]
        simp only [Bool.and_eq_true, decide_eq_true_eq]
        exact ⟨by omega, h2⟩
      · have h2 : gi s (e k).2 = 0 := by
          apply Classical.byContradiction
          intro h2
          exact hc ⟨fun h' => absurd h' h1, fun h' => absurd h' h2⟩
        have e1 : gi (bst s (e k).1 (e k).2) (e k).1 ≠ 0 := by rw [bst_nz (by omega) h1]; exact h1
        have e2 : gi (bst s (e k).1 (e k).2) (e k).2 ≠ 0 := by
          unfold bst
          rw [if_pos ⟨h1, h2⟩, gi_set (by omega), if_pos rfl]; omega
        unfold dnB
        rw [bst_nz (by rw [bst_len]; omega) e1, bst_nz (by rw [bst_len]; omega) e2]
        simp only [Bool.and_eq_true, decide_eq_true_eq]
        exact ⟨e1, e2⟩
    have hmore := cnt_more hmono hk hnot hyes
    rcases h with h | h | h
    · exact absurd (h k hk) hc
    · right; left
      show _ ≤ cnt _ _
      unfold dn at h
      omega
    · right; left
      show _ ≤ cnt _ _
      have := h.1
      unfold dn at this
      omega
end
end Go.Proofs.Ytaghemilihaiaaa

