/-
  A fresh matrix that is built row by row and written; elementary matrices; what a congruence does to the inertia.
-/
import Derived.Test.YteanhbldhaiekaaCong
namespace Go.Proofs.Yteanhbldhaiekaa
open Go.RowKit

def rowF (n : Nat) (f : Nat → Int) : List Int := (List.range n).map f
theorem rowF_len (n : Nat) (f : Nat → Int) : (rowF n f).length = n := by simp [rowF]
theorem rowF_get {n k : Nat} {f : Nat → Int} (h : k < (rowF n f).length) : (rowF n f)[k] = f k := by simp [rowF]
theorem rowF_set (n : Nat) (f : Nat → Int) (j : Nat) (y : Int) : (rowF n f).set j y = rowF n fun x => if x = j then y else f x := by
  apply List.ext_getElem
  · rw [List.length_set, rowF_len, rowF_len]
  · intro k h1 h2
    rw [List.getElem_set, rowF_get, rowF_get]
    by_cases e : j = k
    · rw [if_pos e, if_pos e.symm]
    · rw [if_neg e, if_neg (Ne.symm e)]
theorem rowF_congr {n : Nat} {f g : Nat → Int} (h : ∀ x, x < n → f x = g x) : rowF n f = rowF n g := List.map_congr_left fun x hx => h x (List.mem_range.1 hx)
theorem rowF_rep (n : Nat) : List.replicate n (0 : Int) = rowF n fun _ => 0 := by
  apply List.ext_getElem
  · rw [List.length_replicate, rowF_len]
  · intro k h1 h2
    rw [List.getElem_replicate, rowF_get]
/-- m rows of n integers, fresh, each in a block of its own -/
structure MJ (w : World) (B n m : Nat) (v : Value) (bs : Nat → Nat) (a : Nat → Nat → Int) : Prop where
  ow : OR 33 id w B v ((List.range m).map fun i => Value.slice (some ⟨bs i, 0, none⟩) n n)
  ro : ∀ i, i < m → OI w B (.slice (some ⟨bs i, 0, none⟩) n n) (rowF n (a i))
  ij : ∀ i k, i < m → k < m → bs i = bs k → i = k
section
variable {w w' : World} {B n m : Nat} {v v' : Value} {bs : Nat → Nat} {a : Nat → Nat → Int}
theorem MJ.nil (w : World) (B n : Nat) : MJ w B n 0 (.slice none 0 0) (fun _ => 0) (fun _ _ => 0) := ⟨OR.nil _ _, fun i hi => by omega, fun i k hi => by omega⟩
theorem MJ.below {C : Nat} (h : MJ w B n m v bs a) (hb : Below C w w') (hC : w.heap.size ≤ C) : MJ w' B n m v bs a := ⟨h.ow.below hb hC, fun i hi => (h.ro i hi).below hb hC, h.ij⟩
theorem MJ.push {b : Nat} {f : Nat → Int} (h : MJ w B n m v bs a) (hu : OI w B (.slice (some ⟨b, 0, none⟩) n n) (rowF n f)) (hb : ∀ i, i < m → bs i ≠ b)
    (ho : OR 33 id w' B v' ((List.range m).map (fun i => Value.slice (some ⟨bs i, 0, none⟩) n n) ++ [.slice (some ⟨b, 0, none⟩) n n])) (hg : (w.alloc (.cells #[.slice (some ⟨b, 0, none⟩) n n] 33)).grownBy w' v.ownBlock) : MJ w' B n (m + 1) v' (up bs m b) (up a m f) := by
  have keep : ∀ {y : Value} {z : List Int}, OI w B y z → OI w' B y z := fun {y z} hy => hy.keep fun g hgy => by
    have hlt := (hy.lt g hgy).2
    have hne := OR.apart hy h.ow (by decide) hgy
    rw [hg.block g (by simp; omega) (fun e => hne e.symm), Below.heap_alloc w _ g hlt]
  refine ⟨?_, fun i hi => ?_, fun i k hi hk e => ?_⟩
  · have e : (List.range (m + 1)).map (fun i => Value.slice (some ⟨up bs m b i, 0, none⟩) n n) = (List.range m).map (fun i => Value.slice (some ⟨bs i, 0, none⟩) n n) ++ [.slice (some ⟨b, 0, none⟩) n n] := by
      rw [List.range_succ, List.map_append]
      refine _root_.congr (_root_.congrArg _ (List.map_congr_left fun i hi => ?_)) ?_
      · have := List.mem_range.1 hi
        unfold up
        rw [if_neg (by omega)]
      · unfold up
        simp
    rw [e]
    exact ho
  · unfold up
    by_cases e : i = m
    · rw [if_pos e, if_pos e]; exact keep hu
    · rw [if_neg e, if_neg e]; exact keep (h.ro i (by omega))
  · unfold up at e
    split at e <;> split at e
    · omega
    · exact absurd e.symm (hb k (by omega))
    · exact absurd e (hb i (by omega))
    · exact h.ij i k (by omega) (by omega) e
theorem MJ.store {i j : Nat} (h : MJ w B n m v bs a) (hi : i < m) (y : Int) : MJ (w.setCell ⟨bs i, j, none⟩ (.int .i64 y)) B n m v bs (fun x z => if x = i ∧ z = j then y else a x z) := by
  have hne : v.ownBlock ≠ some (bs i) := OR.apart (h.ro i hi) h.ow (by decide) rfl
  refine ⟨h.ow.keep fun g hg => Below.heap_setCell _ _ _ _ (by intro e; exact hne (hg.trans (by rw [e]))), fun x hx => ?_, h.ij⟩
  by_cases e : x = i
  · subst e
    have hr := h.ro x hx
    have hl := rowF_len n (a x)
    have := OR.stored (k := j) (c := n) (g := bs x) (by rw [hl]; exact hr) y
    rw [List.length_set, hl, rowF_set] at this
    rw [rowF_congr (g := fun z => if z = j then y else a x z) fun z _ => by simp]
    exact this
  · rw [rowF_congr (g := a x) fun z _ => by rw [if_neg fun h => e h.1]]
    exact (h.ro x hx).keep fun g hg => Below.heap_setCell _ _ _ _ (by
      intro e2
      have e3 : bs x = g := by injection hg
      exact e (h.ij x i hx hi (e3.trans e2)))
theorem MJ.heap (h : MJ w B n m v bs a) (e : w'.heap = w.heap) : MJ w' B n m v bs a := ⟨h.ow.keep fun g _ => by rw [e], fun i hi => (h.ro i hi).keep fun g _ => by rw [e], h.ij⟩
theorem MJ.lo {i : Nat} (h : MJ w B n m v bs a) (hi : i < m) : B ≤ bs i ∧ bs i < w.heap.size := (h.ro i hi).lt _ rfl
theorem MJ.congr {b : Nat → Nat → Int} (h : MJ w B n m v bs a) (he : ∀ i j, i < m → j < n → a i j = b i j) : MJ w B n m v bs b :=
  ⟨h.ow, fun i hi => by rw [← rowF_congr fun j hj => he i j hi hj]; exact h.ro i hi, h.ij⟩
theorem MJ.hd (h : MJ w B n m v bs a) (hm : 0 < m) : ∃ g c, v = .slice (some ⟨g, 0, none⟩) m c ∧ B ≤ g ∧ g < w.heap.size ∧ ∀ k, k < m → w.cell? ⟨g, k, none⟩ = some (.slice (some ⟨bs k, 0, none⟩) n n) := by
  obtain ⟨g, c, e, h1, h2, -, -, h3, -⟩ := h.ow.block (by rw [List.length_map, List.length_range]; exact hm)
  rw [List.length_map, List.length_range] at e
  refine ⟨g, c, e, h1, h2, fun k hk => ?_⟩
  have := h3 k (by rw [List.length_map, List.length_range]; exact hk)
  simpa using this
theorem MJ.cell (h : MJ w B n m v bs a) {i j : Nat} (hi : i < m) (hj : j < n) : w.cell? ⟨bs i, j, none⟩ = some (.int .i64 (a i j)) ∧ w.frozen? ⟨bs i, j, none⟩ = false := by
  obtain ⟨g, c, e, -, -, -, -, h3, h4⟩ := (h.ro i hi).block (by rw [rowF_len]; omega)
  injection e with e _ _
  injection e with e
  injection e with e
  subst e
  refine ⟨?_, h4 j⟩
  rw [h3 j (by rw [rowF_len]; exact hj)]
  simp [rowF]
theorem MJ.am (h : MJ w B n m v bs a) (hm : 0 < m) (hml : m ≤ maxLen) (hf : ∀ i j, i < m → j < n → -9223372036854775808 ≤ a i j ∧ a i j ≤ 9223372036854775807) : ∃ g c, v = .slice (some ⟨g, 0, none⟩) m c ∧ AM w (some ⟨g, 0, none⟩) m (mkL m n a) := by
  obtain ⟨g, c, e, h1, h2, h3⟩ := h.hd hm
  refine ⟨g, c, e, fun _ => ⟨g, 0, rfl, h2, fun k hk => ?_⟩, mkL_len _ _ _, hml, fun i j hi hj => ?_⟩
  · rw [mkL_len] at hk
    rw [mkL_row hk]
    obtain ⟨A, c', e2, h4, h5, h6⟩ := (h.ro k hk).reads
    injection e2 with e2 e3 e4
    subst e2 e4
    refine ⟨some ⟨bs k, 0, none⟩, n, ?_, h6.imp fun _ hb => hb.2, ?_⟩
    · rw [Nat.zero_add, h3 k hk]
      have : ((List.range n).map fun j => a k j).length = n := by simp
      rw [this]
    · exact Nat.le_trans h4 h5
  · rw [mkL_rowL hi] at hj
    rw [mkL_eI hi hj]
    exact hf i j hi hj
end
/-- the unit matrix; an elementary one -/
def idM : Mx := fun x y => if x = y then 1 else 0
def elT (i k : Nat) (t : Int) : Mx := fun x y => if x = i ∧ y = k then t else idM x y
theorem det_id (n : Nat) : det n idM = 1 := by
  rw [det_upper (A := idM) fun i j _ hj => if_neg (by omega)]
  induction n with
  | zero => rfl
  | succ n ih => show pI n _ * idM n n = 1; rw [ih]; unfold idM; rw [if_pos rfl]; rfl
theorem det_elT {n i k : Nat} {t : Int} (hi : i < n) (hk : k < n) (h : i = k → t = -1) : det n (elT i k t) ≠ 0 := by
  by_cases e : i = k
  · subst e
    have := det_rmul (A := idM) (B := elT i i t) (t := -1) hi (fun x j _ _ hne => by unfold elT; rw [if_neg fun h => hne h.1]) fun j _ => by
      unfold elT idM
      by_cases ej : j = i
      · subst ej; rw [if_pos ⟨rfl, rfl⟩, if_pos rfl, h rfl]; rfl
      · rw [if_neg fun h => ej h.2, if_neg (Ne.symm ej)]; rfl
    rw [this, det_id]
    decide
  · have h1 := det_radd (A := idM) (t := t) hi hk e
    have h2 : det n (elT i k t) = det n fun x j => if x = i then idM x j + t * idM k j else idM x j := det_congr fun x j _ _ => by
      unfold elT idM
      by_cases ex : x = i
      · subst ex
        by_cases ej : j = k
        · subst ej; rw [if_pos ⟨rfl, rfl⟩, if_pos rfl, if_pos rfl, if_neg e]; omega
        · rw [if_neg fun h => ej h.2, if_pos rfl, if_neg (Ne.symm ej)]; omega
      · rw [if_neg fun h => ex h.1, if_neg ex]
    rw [h2, h1, det_id]
    decide
section
variable {xa xb : List (List Int)}
theorem cg_1 (h : CgA xa xb) : mlE (tpM xb) xa = 0 ∨ mlE (tpM xb) xa = 9 := by
  obtain ⟨h1, h2, h3, h4⟩ := h
  have e : IsM (tpM xb) ∧ IsM xa ∧ rowL (tpM xb) 0 = xa.length := by
    refine ⟨trL_IsM h2.2.1 h2.2.2, h1, ?_⟩
    rcases Nat.eq_zero_or_pos xa.length with h0 | h0
    · rw [tpM_nil (by omega), h0]; rfl
    · unfold tpM
      rw [trL_rowL (h4 h0).2, h3]
  unfold mlE
  rw [if_pos e]
  split
  · exact .inl rfl
  · exact .inr rfl
theorem cg_2 (h : CgA xa xb) (h0 : mlE (tpM xb) xa = 0) : mlE (mlL (tpM xb) xa) xb = 0 ∨ mlE (mlL (tpM xb) xa) xb = 9 := by
  obtain ⟨h1, h2, h3, h4⟩ := h
  have hl : (tpM xb).length = rowL xb 0 := trL_len _ _ _
  have e : mlL (tpM xb) xa = mkL (rowL xb 0) (rowL xa 0) (prM (tpM xb) xa) := by unfold mlL; rw [if_pos h0, hl]
  have e : IsM (mlL (tpM xb) xa) ∧ IsM xb ∧ rowL (mlL (tpM xb) xa) 0 = xb.length := by
    rw [e]
    refine ⟨mkL_IsM h2.2.2 h1.2.2, h2, ?_⟩
    rcases Nat.eq_zero_or_pos xa.length with h0 | h0
    · rw [rowL_nil (by rw [mkL_len]; exact rowL_nil (by omega))]; omega
    · rw [mkL_rowL (h4 h0).2, (h4 h0).1, h3]
  unfold mlE
  rw [if_pos e]
  split
  · exact .inl rfl
  · exact .inr rfl
theorem cg_09 (h : CgA xa xb) : cgE xa xb = 0 ∨ cgE xa xb = 9 := by
  rcases cg_1 h with h1 | h1
  · rw [(cg_end h h1 rfl).1]; exact cg_2 h h1
  · right
    unfold cgE
    rw [if_pos h, h1]
    rfl
end
/-- a matrix with its two properties -/
def SqM (n : Nat) (y : List (List Int)) : Prop := y.length = n ∧ IsM y ∧ SqS y
theorem SqM.row {n i : Nat} {y : List (List Int)} (h : SqM n y) (hi : i < n) : rowL y i = n := by have := h.2.2.1 i (by rw [h.1]; exact hi); rw [h.1] at this; exact this
theorem sI_sw {n : Nat} (f : Nat → Nat → Int) : (sI n fun a => sI n fun b => f a b) = sI n fun b => sI n fun a => f a b := sI_swap n n f
section
variable {n : Nat} {y : List (List Int)} {T : Mx}
/-- Congruent's argument -/
theorem cgA_of (h : SqM n y) (hn : 0 < n) (h64 : n ≤ 64) : CgA y (mkL n n T) :=
  ⟨h.2.1, mkL_IsM h64 h64, by rw [mkL_len]; exact h.1, fun _ => ⟨by rw [h.row hn, h.1], by rw [mkL_rowL hn]; exact hn⟩⟩
/-- the congruent matrix -/
theorem cg_all (h : SqM n y) (hn : 0 < n) (h64 : n ≤ 64) (h0 : cgE y (mkL n n T) = 0) : SqM n (cgL y (mkL n n T)) ∧
    ∀ i j, i < n → j < n → eI (cgL y (mkL n n T)) i j = sI n fun a => T a i * sI n fun b => eI y a b * T b j := by
  have hA := cgA_of (T := T) h hn h64
  have hp : (mkL n n T).length = n := mkL_len _ _ _
  have hpr : rowL (mkL n n T) 0 = n := mkL_rowL hn
  have ht : tpM (mkL n n T) = trL (mkL n n T) n n := by unfold tpM; rw [hp, hpr]
  have e1 : mlE (tpM (mkL n n T)) y = 0 := by
    unfold cgE at h0
    rw [if_pos hA] at h0
    by_cases e : mlE (tpM (mkL n n T)) y = 0
    · exact e
    · rw [if_neg e] at h0; exact absurd h0 e
  obtain ⟨e2, e3⟩ := cg_end hA rfl e1
  have hh : mlL (tpM (mkL n n T)) y = mkL n n (prM (tpM (mkL n n T)) y) := by
    unfold mlL
    rw [if_pos e1, ht, trL_len, h.row hn]
  have hl : cgL y (mkL n n T) = mkL n n (prM (mlL (tpM (mkL n n T)) y) (mkL n n T)) := by
    rw [e3]
    rw [e2] at h0
    unfold mlL at h0 ⊢
    rw [if_pos h0, hpr]
    rw [if_pos e1, mkL_len, ht, trL_len]
  have hv : ∀ i j, i < n → j < n → eI (cgL y (mkL n n T)) i j = sI n fun a => T a i * sI n fun b => eI y a b * T b j := fun i j hi hj => by
    rw [hl, mkL_eI hi hj]
    unfold prM
    rw [hp]
    rw [sI_congr (g := fun l => sI n fun a => T a i * (eI y a l * T l j)) fun l hl' => by
      rw [hh, mkL_eI hi hl', mkL_eI hl' hj]
      unfold prM
      rw [h.1, Int.mul_comm, ← sI_mul]
      exact sI_congr fun a ha => by
        rw [ht, trL_eI hi ha, mkL_eI ha hi, Int.mul_comm, Int.mul_assoc]]
    rw [sI_sw]
    exact sI_congr fun a _ => sI_mul _ _ _
  refine ⟨⟨by rw [hl, mkL_len], by rw [hl]; exact mkL_IsM h64 h64, fun i hi => ?_, fun i hi j hj => ?_⟩, hv⟩
  · rw [hl, mkL_len] at hi
    rw [hl, mkL_len, mkL_rowL hi]
  · rw [hl, mkL_len] at hi
    rw [hv i j hi (by omega), hv j i (by omega) hi]
    have sw : ∀ p q, (sI n fun a => T a p * sI n fun b => eI y a b * T b q) = sI n fun a => sI n fun b => T a p * (eI y a b * T b q) := fun p q => sI_congr fun a _ => (sI_mul _ _ _).symm
    rw [sw, sw, sI_sw]
    refine sI_congr fun b hb => sI_congr fun a ha => ?_
    have hs : eI y a b = eI y b a := by
      have hs := h.2.2.2
      rw [h.1] at hs
      rcases Nat.lt_or_ge b a with h1 | h1
      · exact hs a ha b h1
      · rcases Nat.lt_or_ge a b with h2 | h2
        · exact (hs b hb a h2).symm
        · rw [show a = b by omega]
    rw [hs, Int.mul_left_comm (T a i), Int.mul_left_comm (T b j), Int.mul_comm (T a i)]
end
end Go.Proofs.Yteanhbldhaiekaa

