/-
  All matchings of 2n points: the search that the program makes, and the list that the reference makes: plain functions; they agree for n up to 9 (by computing).
-/
import Derived.Test.YtmmcpahaekpknaaBase
namespace Go.Proofs.Ytmmcpahaekpknaa

theorem flatMap_congr' {α β : Type} {l : List α} {f g : α → List β} (h : ∀ a, a ∈ l → f a = g a) : l.flatMap f = l.flatMap g := by
  induction l with
  | nil => rfl
  | cons a l ih => rw [List.flatMap_cons, List.flatMap_cons, h a (by simp), ih fun b hb => h b (by simp [hb])]
theorem sum_map_const {α : Type} (l : List α) (c : Nat) : (l.map fun _ => c).sum = l.length * c := by
  induction l with
  | nil => simp
  | cons a l ih => rw [List.map_cons, List.sum_cons, ih, List.length_cons, Nat.succ_mul]; omega

/-- the first free point from i on -/
def skipF (m : List Int) : Nat → Nat → Nat
  | 0, i => i
  | f + 1, i => if i < m.length ∧ 0 ≤ gi m i then skipF m f (i + 1) else i

/-- the free stretch from k on -/
def cands (m : List Int) : Nat → Nat → List Nat
  | 0, _ => []
  | f + 1, k => if k < m.length ∧ gi m k < 0 then k :: cands m f (k + 1) else []

def oddF (i k : Nat) : Bool := decide ((k - i) % 2 = 1)

def extF : Nat → List Int → Nat → List (List Int)
  | 0, _, _ => []
  | f + 1, m, i =>
    if skipF m (m.length - i) i = m.length then [m]
    else ((cands m (m.length - (skipF m (m.length - i) i + 1)) (skipF m (m.length - i) i + 1)).filter (oddF (skipF m (m.length - i) i))).flatMap fun (k : Nat) =>
      extF f ((m.set (skipF m (m.length - i) i) (k : Int)).set k (skipF m (m.length - i) i : Int)) (skipF m (m.length - i) i + 1)

theorem skipF_done {m : List Int} {f i : Nat} (h : ¬ (i < m.length ∧ 0 ≤ gi m i)) : skipF m f i = i := by
  cases f with
  | zero => rfl
  | succ f => rw [skipF, if_neg h]
theorem skipF_step {m : List Int} {i : Nat} (h : i < m.length) (h0 : 0 ≤ gi m i) : skipF m (m.length - i) i = skipF m (m.length - (i + 1)) (i + 1) := by
  obtain ⟨f, hf⟩ : ∃ f, m.length - i = f + 1 := ⟨m.length - i - 1, by omega⟩
  have : m.length - (i + 1) = f := by omega
  rw [hf, this, skipF, if_pos ⟨h, h0⟩]
theorem skipF_spec (m : List Int) : ∀ f i, i ≤ m.length → m.length - i ≤ f → i ≤ skipF m f i ∧ skipF m f i ≤ m.length ∧ (skipF m f i < m.length → gi m (skipF m f i) < 0)
  | 0, i, h1, h2 => by simp only [skipF]; exact ⟨Nat.le_refl _, h1, fun h => by omega⟩
  | f + 1, i, h1, h2 => by
    simp only [skipF]
    split
    · rename_i h
      have := skipF_spec m f (i + 1) (by omega) (by omega)
      exact ⟨by omega, this.2⟩
    · rename_i h
      refine ⟨Nat.le_refl _, h1, fun hlt => ?_⟩
      rcases Int.lt_or_le (gi m i) 0 with h3 | h3
      · exact h3
      · exact absurd ⟨hlt, h3⟩ h
theorem cands_step {m : List Int} {k : Nat} (h : k < m.length) (h0 : gi m k < 0) : cands m (m.length - k) k = k :: cands m (m.length - (k + 1)) (k + 1) := by
  obtain ⟨f, hf⟩ : ∃ f, m.length - k = f + 1 := ⟨m.length - k - 1, by omega⟩
  have : m.length - (k + 1) = f := by omega
  rw [hf, this, cands, if_pos ⟨h, h0⟩]
theorem cands_done {m : List Int} {f k : Nat} (h : ¬ (k < m.length ∧ gi m k < 0)) : cands m f k = [] := by
  cases f with
  | zero => rfl
  | succ f => rw [cands, if_neg h]

/-! ### enough fuel is enough -/
theorem extF_fuel : ∀ (f g : Nat) (m : List Int) (i : Nat), i ≤ m.length → m.length - i < f → m.length - i < g → extF f m i = extF g m i
  | 0, _, m, i, _, h, _ => by omega
  | _, 0, m, i, _, _, h => by omega
  | f + 1, g + 1, m, i, hi, h1, h2 => by
    have hs := skipF_spec m (m.length - i) i hi (Nat.le_refl _)
    simp only [extF]
    split
    · rfl
    · rename_i hne
      congr 1
      funext k
      have hl : ((m.set (skipF m (m.length - i) i) (k : Int)).set k (skipF m (m.length - i) i : Int)).length = m.length := by simp
      exact extF_fuel f g _ _ (by rw [hl]; omega) (by rw [hl]; omega) (by rw [hl]; omega)

theorem extF_skip {f : Nat} {m : List Int} {i : Nat} (h : i < m.length) (h0 : 0 ≤ gi m i) : extF f m i = extF f m (i + 1) := by
  cases f with
  | zero => rfl
  | succ f => simp only [extF]; rw [skipF_step h h0]

/-! ### the reference's list -/
def glue (k : Nat) (a b : List Int) : List Int := ((2 * k + 1 : Nat) : Int) :: a.map (· + 1) ++ 0 :: b.map (fun (x : Int) => x + ((2 * k + 2 : Nat) : Int))
def allF : Nat → Nat → List (List Int)
  | 0, _ => []
  | f + 1, n => if n = 0 then [[]] else (List.range n).flatMap fun k => (allF f k).flatMap fun a => (allF f (n - 1 - k)).map fun b => glue k a b
def allN (n : Nat) : List (List Int) := allF (n + 1) n

theorem allF_fuel : ∀ (f g n : Nat), n < f → n < g → allF f n = allF g n
  | 0, _, _, h, _ => by omega
  | _, 0, _, _, h => by omega
  | f + 1, g + 1, n, h1, h2 => by
    simp only [allF]
    split
    · rfl
    · apply flatMap_congr'
      intro k hk
      have hk := List.mem_range.1 hk
      rw [allF_fuel f g k (by omega) (by omega), allF_fuel f g (n - 1 - k) (by omega) (by omega)]

theorem allN_zero : allN 0 = [[]] := rfl
theorem allN_succ (n : Nat) : allN (n + 1) = (List.range (n + 1)).flatMap fun k => (allN k).flatMap fun a => (allN (n - k)).map fun b => glue k a b := by
  unfold allN
  rw [allF, if_neg (by omega)]
  apply flatMap_congr'
  intro k hk
  have hk := List.mem_range.1 hk
  have e : n + 1 - 1 - k = n - k := by omega
  rw [e, allF_fuel (n + 1) (k + 1) k (by omega) (by omega), allF_fuel (n + 1) (n - k + 1) (n - k) (by omega) (by omega)]

theorem allN_length : ∀ (f n : Nat), n < f → ∀ a, a ∈ allN n → a.length = 2 * n
  | 0, _, h, _, _ => by omega
  | f + 1, n, h, a, ha => by
    cases n with
    | zero =>
      rw [allN_zero] at ha
      have : a = [] := by simpa using ha
      subst this
      rfl
    | succ n =>
      rw [allN_succ] at ha
      simp only [List.mem_flatMap, List.mem_map, List.mem_range] at ha
      obtain ⟨k, hk, x, hx, y, hy, rfl⟩ := ha
      have h1 := allN_length f k (by omega) x hx
      have h2 := allN_length f (n - k) (by omega) y hy
      simp [glue, h1, h2]
      omega

theorem allN_len {n : Nat} {a : List Int} (h : a ∈ allN n) : a.length = 2 * n := allN_length (n + 1) n (by omega) a h

/-! ### what the search lays in a free stretch -/
def fillAt (m : List Int) (i : Nat) (a : List Int) : List Int := m.take i ++ a.map (fun (x : Int) => x + (i : Int)) ++ m.drop (i + a.length)

theorem fillAt_length {m : List Int} {i : Nat} {a : List Int} (h : i + a.length ≤ m.length) : (fillAt m i a).length = m.length := by
  simp [fillAt]
  omega
theorem fillAt_nil {m : List Int} {i : Nat} : fillAt m i [] = m := by simp [fillAt]
theorem gi_fillAt {m : List Int} {i j : Nat} {a : List Int} (h : i + a.length ≤ m.length) :
    gi (fillAt m i a) j = if j < i then gi m j else if j < i + a.length then gi a (j - i) + i else gi m j := by
  unfold fillAt gi
  simp only [List.getD_eq_getElem?_getD]
  have hti : (m.take i).length = i := by simp; omega
  split
  · rename_i h1
    rw [List.getElem?_append_left (by simp; omega), List.getElem?_append_left (by omega), List.getElem?_take, if_pos h1]
  · rename_i h1
    split
    · rename_i h2
      rw [List.getElem?_append_left (by simp; omega), List.getElem?_append_right (by omega), hti, List.getElem?_map]
      have h3 : j - i < a.length := by omega
      simp [h3]
    · rename_i h2
      rw [List.getElem?_append_right (by simp; omega), List.getElem?_drop]
      congr 2
      simp
      omega

theorem glue_length (k : Nat) (a b : List Int) : (glue k a b).length = a.length + b.length + 2 := by simp [glue]; omega
theorem gi_glue {k : Nat} {a b : List Int} (ha : a.length = 2 * k) (j : Nat) (hj : j < a.length + b.length + 2) :
    gi (glue k a b) j = if j = 0 then ((2 * k + 1 : Nat) : Int) else if j < 2 * k + 1 then gi a (j - 1) + 1 else if j = 2 * k + 1 then 0 else gi b (j - (2 * k + 2)) + ((2 * k + 2 : Nat) : Int) := by
  unfold glue gi
  simp only [List.getD_eq_getElem?_getD]
  by_cases h0 : j = 0
  · subst h0; simp
  rw [if_neg h0]
  obtain ⟨j', rfl⟩ : ∃ j', j = j' + 1 := ⟨j - 1, by omega⟩
  simp only [List.cons_append, List.getElem?_cons_succ]
  by_cases h1 : j' + 1 < 2 * k + 1
  · rw [if_pos h1, List.getElem?_append_left (by simp; omega), List.getElem?_map]
    have h3 : j' < a.length := by omega
    simp [h3]
  rw [if_neg h1, List.getElem?_append_right (by simp; omega)]
  simp only [List.length_map, ha]
  by_cases h2 : j' + 1 = 2 * k + 1
  · have e : j' - 2 * k = 0 := by omega
    rw [if_pos h2, e]
    simp
  rw [if_neg h2]
  obtain ⟨q, hq⟩ : ∃ q, j' - 2 * k = q + 1 := ⟨j' - 2 * k - 1, by omega⟩
  have h4 : q < b.length := by omega
  have e2 : j' + 1 - (2 * k + 2) = q := by omega
  rw [hq, List.getElem?_cons_succ, List.getElem?_map, e2]
  simp [h4]

theorem fill_glue {m : List Int} {i k n : Nat} {a b : List Int} (hk : k ≤ n) (hi : i + 2 * (n + 1) ≤ m.length) (ha : a.length = 2 * k) (hb : b.length = 2 * (n - k)) :
    fillAt (fillAt ((m.set i ((i + 1 + 2 * k : Nat) : Int)).set (i + 1 + 2 * k) (i : Int)) (i + 1) a) (i + 1 + 2 * k + 1) b = fillAt m i (glue k a b) := by
  have hl1 : ((m.set i ((i + 1 + 2 * k : Nat) : Int)).set (i + 1 + 2 * k) (i : Int)).length = m.length := by simp
  have hl2 : (fillAt ((m.set i ((i + 1 + 2 * k : Nat) : Int)).set (i + 1 + 2 * k) (i : Int)) (i + 1) a).length = m.length := by rw [fillAt_length (by rw [hl1]; omega), hl1]
  have hg := glue_length k a b
  apply ext_gi
  · rw [fillAt_length (by rw [hl2]; omega), hl2, fillAt_length (by rw [hg]; omega)]
  · intro j hj
    rw [fillAt_length (by rw [hl2]; omega), hl2] at hj
    rw [gi_fillAt (by rw [hl2]; omega), gi_fillAt (by rw [hl1]; omega), gi_fillAt (by rw [hg]; omega)]
    rw [gi_set (by simp; omega), gi_set (by omega)]
    by_cases h1 : j < i
    · have : j ≠ i + 1 + 2 * k := by omega
      have : j ≠ i := by omega
      have : j < i + 1 := by omega
      have : j < i + 1 + 2 * k + 1 := by omega
      simp [*]
    by_cases h2 : j < i + (glue k a b).length
    · rw [if_neg h1, if_pos h2, gi_glue ha (j - i) (by omega)]
      by_cases h3 : j = i
      · subst h3
        have : j < j + 1 + 2 * k + 1 := by omega
        have : j ≠ j + 1 + 2 * k := by omega
        simp [*]
        omega
      by_cases h4 : j < i + 1 + 2 * k
      · have e1 : j < i + 1 + 2 * k + 1 := by omega
        have e2 : ¬ j < i + 1 := by omega
        have e3 : j < i + 1 + a.length := by omega
        have e4 : ¬ j - i = 0 := by omega
        have e5 : j - i < 2 * k + 1 := by omega
        have e6 : j - (i + 1) = j - i - 1 := by omega
        rw [if_pos e1, if_neg e2, if_pos e3, if_neg e4, if_pos e5, e6]
        omega
      by_cases h5 : j = i + 1 + 2 * k
      · have e1 : j < i + 1 + 2 * k + 1 := by omega
        have e2 : ¬ j < i + 1 := by omega
        have e3 : ¬ j < i + 1 + a.length := by omega
        have e4 : ¬ j - i = 0 := by omega
        have e5 : ¬ j - i < 2 * k + 1 := by omega
        have e6 : j - i = 2 * k + 1 := by omega
        rw [if_pos e1, if_neg e2, if_neg e3, if_pos h5, if_neg e4, if_neg e5, if_pos e6]
        omega
      · have e1 : ¬ j < i + 1 + 2 * k + 1 := by omega
        have e2 : j < i + 1 + 2 * k + 1 + b.length := by omega
        have e4 : ¬ j - i = 0 := by omega
        have e5 : ¬ j - i < 2 * k + 1 := by omega
        have e6 : ¬ j - i = 2 * k + 1 := by omega
        have e7 : j - i - (2 * k + 2) = j - (i + 1 + 2 * k + 1) := by omega
        rw [if_neg e1, if_pos e2, if_neg e4, if_neg e5, if_neg e6, e7]
        omega
    · have e1 : ¬ j < i + 1 + 2 * k + 1 := by omega
      have e2 : ¬ j < i + 1 + 2 * k + 1 + b.length := by omega
      have e3 : ¬ j < i + 1 := by omega
      have e4 : ¬ j < i + 1 + a.length := by omega
      have e5 : ¬ j = i + 1 + 2 * k := by omega
      have e6 : ¬ j = i := by omega
      rw [if_neg e1, if_neg e2, if_neg e3, if_neg e4, if_neg e5, if_neg e6, if_neg h1, if_neg h2]

theorem cands_free {m : List Int} : ∀ (n i : Nat), i + n ≤ m.length → (∀ j, i ≤ j → j < i + n → gi m j < 0) → (i + n < m.length → 0 ≤ gi m (i + n)) → cands m (m.length - i) i = List.range' i n
  | 0, i, h1, h2, h3 => by
    rw [List.range'_zero]
    apply cands_done
    rintro ⟨h4, h5⟩
    have := h3 (by omega)
    rw [Nat.add_zero] at this
    omega
  | n + 1, i, h1, h2, h3 => by
    rw [cands_step (by omega) (h2 i (Nat.le_refl _) (by omega)), cands_free n (i + 1) (by omega) (fun j h4 h5 => h2 j (by omega) (by omega)) (fun h => by
      have e : i + 1 + n = i + (n + 1) := by omega
      rw [e]
      exact h3 (by omega)), List.range'_succ]

theorem odd_range (i : Nat) : ∀ n, (List.range' (i + 1) (2 * n + 1)).filter (oddF i) = (List.range (n + 1)).map fun j => i + 1 + 2 * j
  | 0 => by
    have : oddF i (i + 1) = true := by simp [oddF]
    simp [List.range'_succ, this]
  | n + 1 => by
    have e : List.range' (i + 1) (2 * (n + 1) + 1) = List.range' (i + 1) (2 * n + 1) ++ [i + 1 + (2 * n + 1), i + 1 + (2 * n + 2)] := by
      have e2 : 2 * (n + 1) + 1 = 2 * n + 1 + 1 + 1 := by omega
      rw [e2, List.range'_concat, List.range'_concat]
      simp
    have o1 : oddF i (i + 1 + (2 * n + 1)) = false := by simp [oddF]; omega
    have o2 : oddF i (i + 1 + (2 * n + 2)) = true := by simp [oddF]; omega
    rw [e, List.filter_append, odd_range i n, List.range_succ (n := n + 1), List.map_append]
    simp only [List.filter_cons, o1, o2, List.filter_nil]
    simp
    omega

theorem ext_stretch : ∀ (n : Nat) (m : List Int) (i f : Nat), i + 2 * n ≤ m.length → (∀ j, i ≤ j → j < i + 2 * n → gi m j < 0) → (i + 2 * n < m.length → 0 ≤ gi m (i + 2 * n)) → m.length - i < f →
    extF f m i = (allN n).flatMap fun a => extF (m.length + 1) (fillAt m i a) (i + 2 * n) := by
  intro n
  induction n using Nat.strongRecOn with
  | ind n ih =>
    intro m i f h1 h2 h3 h4
    cases n with
    | zero =>
      rw [allN_zero]
      simp only [List.flatMap_cons, List.flatMap_nil, List.append_nil, fillAt_nil, Nat.mul_zero, Nat.add_zero]
      exact extF_fuel _ _ _ _ (by omega) h4 (by omega)
    | succ n =>
      cases f with
      | zero => omega
      | succ f =>
        have hsk : skipF m (m.length - i) i = i := skipF_done (fun h => by have := h2 i (Nat.le_refl _) (by omega); omega)
        rw [extF, hsk, if_neg (by omega)]
        have hc : cands m (m.length - (i + 1)) (i + 1) = List.range' (i + 1) (2 * n + 1) :=
          cands_free (2 * n + 1) (i + 1) (by omega) (fun j h5 h6 => h2 j (by omega) (by omega)) (fun h => by
            have e : i + 1 + (2 * n + 1) = i + 2 * (n + 1) := by omega
            rw [e]
            exact h3 (by omega))
        rw [hc, odd_range, allN_succ, List.flatMap_map, List.flatMap_assoc]
        apply flatMap_congr'
        intro k hk
        have hk := List.mem_range.1 hk
        have hl1 : ((m.set i ((i + 1 + 2 * k : Nat) : Int)).set (i + 1 + 2 * k) (i : Int)).length = m.length := by simp
        rw [ih k (by omega) _ (i + 1) f (by rw [hl1]; omega) (fun j h5 h6 => by
          rw [gi_set (by simp; omega), gi_set (by omega), if_neg (by omega), if_neg (by omega)]
          exact h2 j (by omega) (by omega)) (fun _ => by
          rw [gi_set (by simp; omega), if_pos rfl]; omega) (by rw [hl1]; omega), List.flatMap_assoc]
        apply flatMap_congr'
        intro a ha
        have hal := allN_len ha
        have hl2 : (fillAt ((m.set i ((i + 1 + 2 * k : Nat) : Int)).set (i + 1 + 2 * k) (i : Int)) (i + 1) a).length = m.length := by rw [fillAt_length (by rw [hl1]; omega), hl1]
        have hg : ∀ j, i + 1 + 2 * k ≤ j → gi (fillAt ((m.set i ((i + 1 + 2 * k : Nat) : Int)).set (i + 1 + 2 * k) (i : Int)) (i + 1) a) j = if j = i + 1 + 2 * k then (i : Int) else gi m j := by
          intro j hj
          rw [gi_fillAt (by rw [hl1]; omega), if_neg (by omega), if_neg (by omega), gi_set (by simp; omega), gi_set (by omega)]
          by_cases e : j = i + 1 + 2 * k
          · rw [if_pos e, if_pos e]
          · rw [if_neg e, if_neg e, if_neg (by omega)]
        rw [extF_skip (by rw [hl2]; omega) (by rw [hg _ (Nat.le_refl _), if_pos rfl]; omega)]
        rw [ih (n - k) (by omega) _ (i + 1 + 2 * k + 1) _ (by rw [hl2]; omega) (fun j h5 h6 => by
          rw [hg j (by omega), if_neg (by omega)]
          exact h2 j (by omega) (by omega)) (fun h5 => by
          rw [hl2] at h5
          have e : i + 1 + 2 * k + 1 + 2 * (n - k) = i + 2 * (n + 1) := by omega
          rw [e, hg _ (by omega), if_neg (by omega)]
          exact h3 (by omega)) (by rw [hl2, hl1]; omega), List.flatMap_map, hl2]
        apply flatMap_congr'
        intro b hb
        have hbl := allN_len hb
        have e : i + 1 + 2 * k + 1 + 2 * (n - k) = i + 2 * (n + 1) := by omega
        rw [fill_glue (n := n) (by omega) h1 hal hbl, e]

theorem ext_all (n : Nat) : extF (2 * n + 1) (List.replicate (2 * n) (-1)) 0 = allN n := by
  have hg : ∀ j, j < 2 * n → gi (List.replicate (2 * n) (-1)) j = -1 := fun j hj => gi_replicate hj
  rw [ext_stretch n (List.replicate (2 * n) (-1)) 0 (2 * n + 1) (by simp) (fun j _ hj => by rw [hg j (by omega)]; omega) (fun h => by simp at h) (by simp)]
  have : ∀ a ∈ allN n, extF ((List.replicate (2 * n) (-1 : Int)).length + 1) (fillAt (List.replicate (2 * n) (-1)) 0 a) (0 + 2 * n) = [a] := by
    intro a ha
    have hal := allN_len ha
    have e : fillAt (List.replicate (2 * n) (-1)) 0 a = a := by
      apply ext_gi
      · rw [fillAt_length (by simp; omega)]; simp [hal]
      · intro j hj
        rw [fillAt_length (by simp; omega)] at hj
        simp at hj
        rw [gi_fillAt (by simp; omega), if_neg (by omega), if_pos (by omega)]
        simp
    have hl : (List.replicate (2 * n) (-1 : Int)).length = 2 * n := by simp
    have hs : skipF a (a.length - (0 + 2 * n)) (0 + 2 * n) = a.length := by
      have e2 : a.length - (0 + 2 * n) = 0 := by omega
      rw [e2, skipF]
      omega
    rw [e, hl, extF, if_pos hs]
  rw [flatMap_congr' this]
  induction allN n with
  | nil => rfl
  | cons a l ih => simp

/-! ### how many there are -/
def segF : Nat → Nat → Nat
  | 0, _ => 0
  | f + 1, n => if n = 0 then 1 else ((List.range n).map fun k => segF f k * segF f (n - 1 - k)).sum
theorem all_count : ∀ (f n : Nat), n < f → (allN n).length = segF f n
  | 0, _, h => by omega
  | f + 1, n, h => by
    cases n with
    | zero => rfl
    | succ n =>
      rw [allN_succ, segF, if_neg (by omega), List.length_flatMap]
      congr 1
      apply List.map_congr_left
      intro k hk
      have hk := List.mem_range.1 hk
      have e : n + 1 - 1 - k = n - k := by omega
      rw [List.length_flatMap, e, ← all_count f k (by omega), ← all_count f (n - k) (by omega)]
      simp only [List.length_map]
      exact sum_map_const _ _

end Go.Proofs.Ytmmcpahaekpknaa
