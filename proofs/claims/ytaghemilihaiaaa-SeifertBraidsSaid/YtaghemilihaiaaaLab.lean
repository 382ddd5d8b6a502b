/-
  Graph components of a diagram: the least crossing of each one, by the passes of the reference: plain lists, no program here.
-/
import Derived.Test.YtaghemilihaiaaaCyc
namespace Go.Proofs.Ytaghemilihaiaaa

def gn (xs : List Int) (k : Nat) : Nat := (gi xs k).toNat
def gN (ls : List Nat) (k : Nat) : Nat := ls.getD k 0
theorem gN_set {ls : List Nat} {i k y : Nat} (hi : i < ls.length) : gN (ls.set i y) k = if k = i then y else gN ls k := by
  by_cases h : k = i
  · subst h; simp [gN, hi]
  · simp only [h, if_false]
    unfold gN
    rw [List.getD_eq_getElem?_getD, List.getD_eq_getElem?_getD, List.getElem?_set_ne (fun e => h e.symm)]
theorem gN_range {n k : Nat} (h : k < n) : gN (List.range n) k = k := by simp [gN, h]
theorem gN_map {ls : List Nat} {k : Nat} (h : k < ls.length) : gi (ls.map Int.ofNat) k = (gN ls k : Int) := by simp [gi, gN, h]
theorem gN_lt {ls : List Nat} {k : Nat} (h : k < ls.length) : gN ls k = ls[k] := by simp [gN, h]

/-- the mates are in order: an involution without fixed elements -/
def InvM (mt : List Int) : Prop := ∀ h, h < mt.length → 0 ≤ gi mt h ∧ gi mt h < mt.length ∧ gi mt h ≠ h ∧ gi mt (gn mt h) = h

theorem InvM.gn {mt : List Int} (hI : InvM mt) {h : Nat} (hh : h < mt.length) : gi mt h = (gn mt h : Int) ∧ gn mt h < mt.length ∧ gn mt h ≠ h ∧ gn mt (gn mt h) = h := by
  obtain ⟨h1, h2, h3, h4⟩ := hI h hh
  have e : gi mt h = (Ytaghemilihaiaaa.gn mt h : Int) := by unfold Ytaghemilihaiaaa.gn; omega
  refine ⟨e, by omega, by intro e'; rw [e'] at e; exact h3 e, ?_⟩
  show (gi mt (Ytaghemilihaiaaa.gn mt h)).toNat = h
  rw [h4]
  rfl

/-- d is joined to c by edges -/
inductive Cn (mt : List Int) (c : Nat) : Nat → Prop
  | refl : Cn mt c c
  | step {d h : Nat} : Cn mt c d → h < mt.length → h / 4 = d → Cn mt c (gn mt h / 4)

theorem Cn.trans {mt : List Int} {c d e : Nat} (h1 : Cn mt c d) (h2 : Cn mt d e) : Cn mt c e := by
  induction h2 with
  | refl => exact h1
  | step _ hl he ih => exact .step ih hl he
theorem Cn.one {mt : List Int} {h : Nat} (hh : h < mt.length) : Cn mt (h / 4) (gn mt h / 4) := .step .refl hh rfl
theorem Cn.symm {mt : List Int} (hI : InvM mt) {c d : Nat} (h : Cn mt c d) : Cn mt d c := by
  induction h with
  | refl => exact .refl
  | @step d h _ hl he ih =>
    obtain ⟨_, h2, _, h4⟩ := hI.gn hl
    have := Cn.one (mt := mt) h2
    rw [h4, he] at this
    exact this.trans ih
theorem Cn.lt {mt : List Int} (hI : InvM mt) {n c d : Nat} (hn : mt.length = 4 * n) (hc : c < n) (h : Cn mt c d) : d < n := by
  induction h with
  | refl => exact hc
  | step _ hl _ _ => have := (hI.gn hl).2.1; omega

/-- joined by at most p edges -/
def Lv (mt : List Int) (r : Nat) : Nat → Nat → Prop
  | 0, c => c = r
  | p + 1, c => Lv mt r p c ∨ ∃ h, h < mt.length ∧ Lv mt r p (h / 4) ∧ gn mt h / 4 = c

theorem Lv.mono {mt : List Int} {r p c : Nat} (h : Lv mt r p c) (q : Nat) : Lv mt r (p + q) c := by
  induction q with
  | zero => exact h
  | succ q ih => exact .inl ih
theorem Lv.of_cn {mt : List Int} {r c : Nat} (h : Cn mt r c) : ∃ p, Lv mt r p c := by
  induction h with
  | refl => exact ⟨0, rfl⟩
  | step _ hl he ih =>
    obtain ⟨p, hp⟩ := ih
    exact ⟨p + 1, .inr ⟨_, hl, by rw [he]; exact hp, rfl⟩⟩
theorem Lv.cn {mt : List Int} {r : Nat} : ∀ {p c : Nat}, Lv mt r p c → Cn mt r c := by
  intro p
  induction p with
  | zero => intro c h; rw [show c = r from h]; exact .refl
  | succ p ih =>
    rintro c (h | ⟨h, hl, h1, rfl⟩)
    · exact ih h
    · exact .step (ih h1) hl rfl
theorem Lv.stable {mt : List Int} {r p : Nat} (h : ∀ c, Lv mt r (p + 1) c → Lv mt r p c) : ∀ q c, Lv mt r q c → Lv mt r p c := by
  intro q
  induction q with
  | zero =>
    intro c hc
    have := Lv.mono (mt := mt) (r := r) (p := 0) hc p
    rwa [Nat.zero_add] at this
  | succ q ih =>
    rintro c (hc | ⟨g, hl, h1, rfl⟩)
    · exact ih c hc
    · exact h _ (.inr ⟨g, hl, ih _ h1, rfl⟩)
theorem Lv.grow {mt : List Int} {r : Nat} : ∀ p, (∃ q, q < p ∧ ∀ c, Lv mt r (q + 1) c → Lv mt r q c) ∨ ∃ l : List Nat, l.Nodup ∧ l.length = p + 1 ∧ ∀ x, x ∈ l → Lv mt r p x := by
  intro p
  induction p with
  | zero => exact .inr ⟨[r], by simp, rfl, by intro x hx; simpa [Lv] using hx⟩
  | succ p ih =>
    rcases ih with ⟨q, hq, h⟩ | ⟨l, h1, h2, h3⟩
    · exact .inl ⟨q, by omega, h⟩
    · by_cases hs : ∀ c, Lv mt r (p + 1) c → Lv mt r p c
      · exact .inl ⟨p, by omega, hs⟩
      · obtain ⟨c, hc⟩ := Classical.not_forall.1 hs
        obtain ⟨hc1, hc2⟩ := Classical.not_imp.1 hc
        refine .inr ⟨c :: l, ?_, by simp [h2], ?_⟩
        · rw [List.nodup_cons]
          exact ⟨fun hm => hc2 (h3 c hm), h1⟩
        · intro x hx
          rcases List.mem_cons.1 hx with rfl | hx
          · exact hc1
          · exact .inl (h3 x hx)
theorem Lv.all {mt : List Int} (hI : InvM mt) {n r c : Nat} (hn : mt.length = 4 * n) (hr : r < n) (h : Cn mt r c) : Lv mt r n c := by
  rcases Lv.grow (mt := mt) (r := r) n with ⟨q, hq, hs⟩ | ⟨l, h1, h2, h3⟩
  · obtain ⟨p, hp⟩ := Lv.of_cn h
    have := (Lv.stable hs p c hp).mono (n - q)
    rwa [show q + (n - q) = n by omega] at this
  · exfalso
    have hsub : l ⊆ List.range n := fun x hx => List.mem_range.2 ((h3 x hx).cn.lt hI hn hr)
    have := h1.length_le_of_subset hsub
    simp at this
    omega

/-! ### the passes -/
def lowN (mt : List Int) (ls : List Nat) (h : Nat) : Nat := min (gN ls (h / 4)) (gN ls (gn mt h / 4))
def stepN (mt : List Int) (ls : List Nat) (h : Nat) : List Nat := (ls.set (h / 4) (lowN mt ls h)).set (gn mt h / 4) (lowN mt ls h)
def partN (mt : List Int) (ls : List Nat) (k : Nat) : List Nat := (List.range k).foldl (stepN mt) ls
def passN (mt : List Int) (ls : List Nat) : Nat → List Nat
  | 0 => ls
  | p + 1 => partN mt (passN mt ls p) mt.length
def labN (mt : List Int) (n : Nat) : List Nat := passN mt (List.range n) n

theorem partN_succ (mt : List Int) (ls : List Nat) (k : Nat) : partN mt ls (k + 1) = stepN mt (partN mt ls k) k := by
  unfold partN
  rw [List.range_succ, List.foldl_append]
  rfl
theorem partN_zero (mt : List Int) (ls : List Nat) : partN mt ls 0 = ls := rfl

/-- what every pass keeps -/
structure LabI (mt : List Int) (n : Nat) (ls : List Nat) : Prop where
  len : ls.length = n
  le : ∀ c, c < n → gN ls c ≤ c
  cn : ∀ c, c < n → Cn mt (gN ls c) c

theorem LabI.start (mt : List Int) (n : Nat) : LabI mt n (List.range n) :=
  ⟨by simp, fun c hc => by rw [gN_range hc]; omega, fun c hc => by rw [gN_range hc]; exact .refl⟩

section
variable {mt : List Int} (hI : InvM mt) {n : Nat} (hn : mt.length = 4 * n)
include hI hn
theorem gN_step {ls : List Nat} (hl : ls.length = n) {h : Nat} (hh : h < mt.length) (c : Nat) : gN (stepN mt ls h) c = if c = gn mt h / 4 ∨ c = h / 4 then lowN mt ls h else gN ls c := by
  have h2 := (hI.gn hh).2.1
  unfold stepN
  rw [gN_set (by rw [List.length_set]; omega), gN_set (by omega)]
  by_cases e1 : c = gn mt h / 4
  · rw [if_pos e1, if_pos (.inl e1)]
  · rw [if_neg e1]
    by_cases e2 : c = h / 4
    · rw [if_pos e2, if_pos (.inr e2)]
    · rw [if_neg e2, if_neg (by rintro (h | h) <;> contradiction)]
theorem LabI.step {ls : List Nat} (H : LabI mt n ls) {h : Nat} (hh : h < mt.length) : LabI mt n (stepN mt ls h) := by
  obtain ⟨_, h2, _, _⟩ := hI.gn hh
  have ha : h / 4 < n := by omega
  have hb : gn mt h / 4 < n := by omega
  have hcl : ∀ c, c = gn mt h / 4 ∨ c = h / 4 → lowN mt ls h ≤ c ∧ Cn mt (lowN mt ls h) c := by
    intro c hc
    have e1 := H.le _ ha
    have e2 := H.le _ hb
    have c1 := H.cn _ ha
    have c2 := H.cn _ hb
    have j1 := Cn.one (mt := mt) hh
    unfold lowN
    rcases Nat.le_total (gN ls (h / 4)) (gN ls (gn mt h / 4)) with hle | hle
    · rw [Nat.min_eq_left hle]
      rcases hc with rfl | rfl
      · exact ⟨by omega, c1.trans j1⟩
      · exact ⟨by omega, c1⟩
    · rw [Nat.min_eq_right hle]
      rcases hc with rfl | rfl
      · exact ⟨by omega, c2⟩
      · exact ⟨by omega, c2.trans (j1.symm hI)⟩
  refine ⟨by simp [stepN, H.len], fun c hc => ?_, fun c hc => ?_⟩
  · rw [gN_step hI hn H.len hh]
    split
    · rename_i e; exact (hcl c e).1
    · exact H.le c hc
  · rw [gN_step hI hn H.len hh]
    split
    · rename_i e; exact (hcl c e).2
    · exact H.cn c hc
theorem LabI.part {ls : List Nat} (H : LabI mt n ls) : ∀ k, k ≤ mt.length → LabI mt n (partN mt ls k) := by
  intro k
  induction k with
  | zero => intro _; exact H
  | succ k ih => intro hk; rw [partN_succ]; exact (ih (by omega)).step hI hn (by omega)
theorem LabI.pass {ls : List Nat} (H : LabI mt n ls) : ∀ p, LabI mt n (passN mt ls p) := by
  intro p
  induction p with
  | zero => exact H
  | succ p ih => exact ih.part hI hn _ (Nat.le_refl _)

/-- a crossing that bears the least number keeps it -/
theorem keep_least {ls : List Nat} {r : Nat} (H : LabI mt n ls) (hr : ∀ d, Cn mt r d → r ≤ d) {c : Nat} (hc : c < n) (h : gN ls c = r) : ∀ k, k ≤ mt.length → gN (partN mt ls k) c = r := by
  intro k
  induction k with
  | zero => intro _; exact h
  | succ k ih =>
    intro hk
    have HK := H.part hI hn k (by omega)
    have e := ih (by omega)
    have hh : k < mt.length := by omega
    obtain ⟨_, h2, _, _⟩ := hI.gn hh
    have hrc : Cn mt r c := by have := H.cn c hc; rwa [h] at this
    rw [partN_succ, gN_step hI hn HK.len hh]
    split
    · rename_i ec
      have j1 := Cn.one (mt := mt) hh
      have c1 := HK.cn (k / 4) (by omega)
      have c2 := HK.cn (gn mt k / 4) (by omega)
      unfold lowN
      rcases ec with rfl | rfl
      · have := hr _ ((hrc.trans (j1.symm hI)).trans (c1.symm hI))
        rw [e]
        omega
      · have := hr _ ((hrc.trans j1).trans (c2.symm hI))
        rw [e]
        omega
    · exact e
/-- behind the edge h its far crossing bears it too -/
theorem spread {ls : List Nat} {r : Nat} (H : LabI mt n ls) (hr : ∀ d, Cn mt r d → r ≤ d) {h : Nat} (hh : h < mt.length) (e : gN ls (h / 4) = r) : gN (partN mt ls mt.length) (gn mt h / 4) = r := by
  obtain ⟨_, h2, _, _⟩ := hI.gn hh
  have hb : gn mt h / 4 < n := by omega
  have hrc : Cn mt r (h / 4) := by have := H.cn (h / 4) (by omega); rwa [e] at this
  have HK := H.part hI hn h (by omega)
  have e1 := keep_least hI hn H hr (show h / 4 < n by omega) e h (by omega)
  have e2 : gN (partN mt ls (h + 1)) (gn mt h / 4) = r := by
    rw [partN_succ, gN_step hI hn HK.len hh, if_pos (.inl rfl)]
    unfold lowN
    have := hr _ ((hrc.trans (Cn.one hh)).trans ((HK.cn (gn mt h / 4) hb).symm hI))
    rw [e1]
    omega
  -- and it stays to the end of the pass
  have : ∀ k, h + 1 ≤ k → k ≤ mt.length → gN (partN mt ls k) (gn mt h / 4) = r := by
    intro k
    induction k with
    | zero => intro h1; omega
    | succ k ih =>
      intro h1 h3
      rcases Nat.lt_or_eq_of_le h1 with h4 | h4
      · have e := ih (by omega) (by omega)
        have HK := H.part hI hn k (by omega)
        have hkl : k < mt.length := by omega
        obtain ⟨_, g2, _, _⟩ := hI.gn hkl
        have hrb : Cn mt r (gn mt h / 4) := hrc.trans (Cn.one hh)
        rw [partN_succ, gN_step hI hn HK.len hkl]
        split
        · rename_i ec
          have j1 := Cn.one (mt := mt) hkl
          have c1 := HK.cn (k / 4) (by omega)
          have c2 := HK.cn (gn mt k / 4) (by omega)
          unfold lowN
          rcases ec with ec | ec
          · rw [ec] at hrb e
            have := hr _ ((hrb.trans (j1.symm hI)).trans (c1.symm hI))
            rw [e]
            omega
          · rw [ec] at hrb e
            have := hr _ ((hrb.trans j1).trans (c2.symm hI))
            rw [e]
            omega
        · exact e
      · rw [← h4]; exact e2
  exact this mt.length (by omega) (Nat.le_refl _)

theorem pass_lv {r : Nat} (hr : ∀ d, Cn mt r d → r ≤ d) (hrn : r < n) : ∀ p c, Lv mt r p c → gN (passN mt (List.range n) p) c = r := by
  intro p
  induction p with
  | zero => intro c h; rw [show c = r from h]; exact gN_range hrn
  | succ p ih =>
    rintro c (h | ⟨h, hl, h1, rfl⟩)
    · exact keep_least hI hn ((LabI.start mt n).pass hI hn p) hr (h.cn.lt hI hn hrn) (ih c h) _ (Nat.le_refl _)
    · exact spread hI hn ((LabI.start mt n).pass hI hn p) hr hl (ih _ h1)

/-- each crossing bears the least of its component -/
theorem lab_least {c : Nat} (hc : c < n) : Cn mt (gN (labN mt n) c) c ∧ (∀ d, Cn mt c d → gN (labN mt n) c ≤ d) ∧ gN (labN mt n) c < n := by
  have H : LabI mt n (labN mt n) := (LabI.start mt n).pass hI hn n
  obtain ⟨r, hr, hl⟩ := least_of (P := fun x => Cn mt c x) Cn.refl
  have hrn := hr.lt hI hn hc
  have hl' : ∀ d, Cn mt r d → r ≤ d := fun d hd => hl d (hr.trans hd)
  have e := pass_lv hI hn hl' hrn n c (Lv.all hI hn hrn (hr.symm hI))
  have e' : gN (labN mt n) c = r := e
  rw [e']
  exact ⟨hr.symm hI, hl, hrn⟩
theorem lab_eq_of_cn {c d : Nat} (hc : c < n) (h : Cn mt c d) : gN (labN mt n) c = gN (labN mt n) d := by
  have hd := h.lt hI hn hc
  obtain ⟨a1, a2, _⟩ := lab_least hI hn hc
  obtain ⟨b1, b2, _⟩ := lab_least hI hn hd
  have e1 := a2 _ (h.trans (b1.symm hI))
  have e2 := b2 _ ((h.symm hI).trans (a1.symm hI))
  omega
theorem cn_of_lab_eq {c d : Nat} (hc : c < n) (hd : d < n) (h : gN (labN mt n) c = gN (labN mt n) d) : Cn mt c d := by
  obtain ⟨a1, _, _⟩ := lab_least hI hn hc
  obtain ⟨b1, _, _⟩ := lab_least hI hn hd
  rw [← h] at b1
  exact (a1.symm hI).trans b1
theorem lab_le {c : Nat} (hc : c < n) : gN (labN mt n) c ≤ c := (lab_least hI hn hc).2.1 c .refl
theorem lab_lab {c : Nat} (hc : c < n) : gN (labN mt n) (gN (labN mt n) c) = gN (labN mt n) c := by
  obtain ⟨a1, _, a3⟩ := lab_least hI hn hc
  exact lab_eq_of_cn hI hn a3 a1
theorem lab_mate {h : Nat} (hh : h < mt.length) : gN (labN mt n) (h / 4) = gN (labN mt n) (gn mt h / 4) :=
  lab_eq_of_cn hI hn (by omega) (Cn.one hh)
end
theorem labN_length (mt : List Int) (n : Nat) : (labN mt n).length = n := by
  have hs : ∀ ls k, (partN mt ls k).length = ls.length := by
    intro ls k
    induction k with
    | zero => rfl
    | succ k ih => rw [partN_succ]; simp [stepN, ih]
  have : ∀ p, (passN mt (List.range n) p).length = n := by
    intro p
    induction p with
    | zero => simp [passN]
    | succ p ih => show (partN mt (passN mt (List.range n) p) mt.length).length = n; rw [hs, ih]
  exact this n

/-! ### numbers of the components -/
/-- how many components begin below r -/
def idxN (ls : List Nat) (r : Nat) : Nat := ((List.range r).filter fun x => gN ls x == x).length
theorem idxN_succ (ls : List Nat) (r : Nat) : idxN ls (r + 1) = idxN ls r + if gN ls r = r then 1 else 0 := by
  unfold idxN
  rw [List.range_succ, List.filter_append, List.length_append]
  congr 1
  by_cases h : gN ls r = r <;> simp [h]
theorem idxN_mono (ls : List Nat) {a b : Nat} (h : a ≤ b) : idxN ls a ≤ idxN ls b := by
  induction b with
  | zero => have : a = 0 := by omega
            subst this; exact Nat.le_refl _
  | succ b ih =>
    rcases Nat.lt_or_eq_of_le h with h1 | rfl
    · have := ih (by omega)
      rw [idxN_succ]; omega
    · exact Nat.le_refl _
theorem idxN_lt (ls : List Nat) {a b : Nat} (h : a < b) (ha : gN ls a = a) : idxN ls a < idxN ls b := by
  have h1 := idxN_mono ls (show a + 1 ≤ b from h)
  rw [idxN_succ, if_pos ha] at h1
  omega
theorem idxN_inj (ls : List Nat) {a b : Nat} (ha : gN ls a = a) (hb : gN ls b = b) (h : idxN ls a = idxN ls b) : a = b := by
  rcases Nat.lt_trichotomy a b with h1 | h1 | h1
  · have := idxN_lt ls h1 ha; omega
  · exact h1
  · have := idxN_lt ls h1 hb; omega
theorem idxN_le (ls : List Nat) (r : Nat) : idxN ls r ≤ r := by
  unfold idxN
  have := List.length_filter_le (fun x => gN ls x == x) (List.range r)
  simpa using this
theorem idxN_surj (ls : List Nat) : ∀ {n p : Nat}, p < idxN ls n → ∃ r, r < n ∧ gN ls r = r ∧ idxN ls r = p := by
  intro n
  induction n with
  | zero => intro p h; simp [idxN] at h
  | succ n ih =>
    intro p h
    rw [idxN_succ] at h
    by_cases h1 : p < idxN ls n
    · obtain ⟨r, a, b, c⟩ := ih h1
      exact ⟨r, by omega, b, c⟩
    · by_cases h2 : gN ls n = n
      · rw [if_pos h2] at h
        exact ⟨n, by omega, h2, by omega⟩
      · rw [if_neg h2] at h; omega
end Go.Proofs.Ytaghemilihaiaaa

