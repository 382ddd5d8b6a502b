/-
  The lists of the graph components; rows of rows that grow one by one. No program here, but for its types.
-/
import Derived.Test.YtaghemilihaiaaaLabelM
import Derived.Test.YtaghemilihaiaaaCycs
namespace Go.Proofs.Ytaghemilihaiaaa
open Go.RowKit

/-- the crossings below k of the component of r -/
def memb (mt : List Int) (n r k : Nat) : List Nat := (List.range k).filter fun b => decide (labAt mt n b = r)
/-- the components that begin below k -/
def graphU (mt : List Int) (n k : Nat) : List (List Nat) := ((List.range k).filter fun r => decide (labAt mt n r = r)).map fun r => memb mt n r n
def graphL (mt : List Int) (n : Nat) : List (List Nat) := graphU mt n n

theorem memb_succ (mt : List Int) (n r k : Nat) : memb mt n r (k + 1) = memb mt n r k ++ if labAt mt n k = r then [k] else [] := by
  unfold memb
  rw [List.range_succ, List.filter_append]
  congr 1
  by_cases h : labAt mt n k = r <;> simp [h]
theorem graphU_succ (mt : List Int) (n k : Nat) : graphU mt n (k + 1) = graphU mt n k ++ if labAt mt n k = k then [memb mt n k n] else [] := by
  unfold graphU
  rw [List.range_succ, List.filter_append, List.map_append]
  congr 1
  by_cases h : labAt mt n k = k <;> simp [h]
theorem memb_length (mt : List Int) (n r k : Nat) : (memb mt n r k).length ≤ k := by
  unfold memb
  have := List.length_filter_le (fun b => decide (labAt mt n b = r)) (List.range k)
  simpa using this
theorem graphU_length (mt : List Int) (n k : Nat) : (graphU mt n k).length ≤ k := by
  unfold graphU
  rw [List.length_map]
  have := List.length_filter_le (fun r => decide (labAt mt n r = r)) (List.range k)
  simpa using this

/-- by the numbers of the components -/
def membP (mt : List Int) (n p k : Nat) : List Nat := (List.range k).filter fun b => decide (idxAt mt n (labAt mt n b) = p)
theorem membP_succ (mt : List Int) (n p k : Nat) : membP mt n p (k + 1) = membP mt n p k ++ if idxAt mt n (labAt mt n k) = p then [k] else [] := by
  unfold membP
  rw [List.range_succ, List.filter_append]
  congr 1
  by_cases h : idxAt mt n (labAt mt n k) = p <;> simp [h]
theorem reps_idx (mt : List Int) (n k : Nat) : ((List.range k).filter fun r => decide (labAt mt n r = r)).map (idxAt mt n) = List.range (idxAt mt n k) := by
  induction k with
  | zero => rfl
  | succ k ih =>
    rw [List.range_succ, List.filter_append, List.map_append, ih]
    unfold idxAt
    rw [idxN_succ]
    by_cases h : labAt mt n k = k
    · rw [if_pos (show gN (labN mt n) k = k from h), List.range_succ]
      simp [h]
    · rw [if_neg (show ¬ gN (labN mt n) k = k from h)]
      simp [h]
theorem graphL_idx {mt : List Int} (hI : InvM mt) {n : Nat} (hn : mt.length = 4 * n) : (List.range (idxAt mt n n)).map (fun p => membP mt n p n) = graphL mt n := by
  rw [← reps_idx, List.map_map]
  unfold graphL graphU
  apply List.map_congr_left
  intro r hr
  rw [List.mem_filter, List.mem_range] at hr
  obtain ⟨hrn, hl⟩ := hr
  have hl := of_decide_eq_true hl
  simp only [Function.comp]
  unfold membP memb
  apply List.filter_congr
  intro b hb
  rw [List.mem_range] at hb
  rw [Bool.eq_iff_iff, decide_eq_true_eq, decide_eq_true_eq]
  exact ⟨fun h => idxN_inj _ (lab_lab hI hn hb) hl h, fun h => by rw [h]⟩

/-! ### rows of rows, each of its own block, one of which grows -/
structure GRow (w : World) (N gg : Nat) (vs : List Value) (xss : List (List Int)) : Prop where
  out : OR 22 id w N (.slice (some ⟨gg, 0, none⟩) vs.length vs.length) vs
  len : vs.length = xss.length
  row : ∀ k (h : k < vs.length), OI w N vs[k] (xss.getD k [])
  far : ∀ k (h : k < vs.length) g, vs[k].ownBlock = some g → g ≠ gg
  apart : ∀ j k (hj : j < vs.length) (hk : k < vs.length), j ≠ k → ∀ g, vs[j].ownBlock = some g → vs[k].ownBlock ≠ some g

theorem grown_alloc_block {w w' : World} {o : Obj} {row : Option Nat} (hg : (w.alloc o).grownBy w' row) {b : Nat} (hb : b < w.heap.size) (hne : some b ≠ row) : w'.heap[b]? = w.heap[b]? :=
  (hg.block b (by simp; omega) hne).trans (Below.heap_alloc w o b hb)

theorem GRow.push {w w' : World} {N gg p : Nat} {vs : List Value} {xss : List (List Int)} {v' : Value} {y : Int} {o : Obj} (h : GRow w N gg vs xss) (hp : p < vs.length) (hgg : gg < w.heap.size)
    (ho : OI w' N v' (xss.getD p [] ++ [y])) (hg : (w.alloc o).grownBy w' vs[p].ownBlock) (hob : v'.ownBlock = vs[p].ownBlock ∨ v'.ownBlock = some (w.heap.size + 1)) :
    GRow (w'.setCell ⟨gg, p, none⟩ v') N gg (vs.set p v') (xss.set p (xss.getD p [] ++ [y])) := by
  have hpx : p < xss.length := by rw [← h.len]; exact hp
  have hv'g : ∀ g, v'.ownBlock = some g → g ≠ gg := fun g hgv => by
    rcases hob with e | e
    · exact h.far p hp g (by rw [← e]; exact hgv)
    · rw [e] at hgv; injection hgv with hgv; omega
  refine ⟨?_, by simp [h.len], fun k hk => ?_, fun k hk g hgv => ?_, fun j k hj hk hjk g hgj => ?_⟩
  · have h1 : OR 22 id w' N (.slice (some ⟨gg, 0, none⟩) vs.length vs.length) vs := h.out.keep fun g hg' => by
      have : g = gg := by simp [Value.ownBlock] at hg'; omega
      subst this
      exact grown_alloc_block hg hgg (fun e => h.far p hp g e.symm rfl)
    have h2 := OR.stored (k := p) h1 v'
    rw [List.length_set] at h2 ⊢
    exact h2
  · rw [List.length_set] at hk
    by_cases e : k = p
    · subst e
      rw [List.getElem_set_self]
      have e2 : (xss.set k (xss.getD k [] ++ [y])).getD k [] = xss.getD k [] ++ [y] := by simp [hpx]
      rw [e2]
      exact ho.keep fun g hgv => Below.heap_setCell w' _ _ g (by have := hv'g g hgv; simp; omega)
    · rw [List.getElem_set_ne (fun e' => e e'.symm)]
      have e2 : (xss.set p (xss.getD p [] ++ [y])).getD k [] = xss.getD k [] := by
        simp only [List.getD_eq_getElem?_getD]
        rw [List.getElem?_set_ne (fun e' => e e'.symm)]
      rw [e2]
      refine (h.row k hk).keep fun g hgv => ?_
      rw [Below.heap_setCell w' _ _ g (by have := h.far k hk g hgv; simp; omega)]
      exact grown_alloc_block hg ((h.row k hk).lt g hgv).2 (fun e' => h.apart k p hk hp e g hgv e'.symm)
  · rw [List.length_set] at hk
    by_cases e : k = p
    · subst e
      rw [List.getElem_set_self] at hgv
      exact hv'g g hgv
    · rw [List.getElem_set_ne (fun e' => e e'.symm)] at hgv
      exact h.far k hk g hgv
  · have hj' : j < vs.length := by simpa using hj
    have hk' : k < vs.length := by simpa using hk
    have hlt : ∀ i (hi : i < vs.length) g, vs[i].ownBlock = some g → g < w.heap.size := fun i hi g hgv => ((h.row i hi).lt g hgv).2
    by_cases ej : j = p
    · subst ej
      rw [List.getElem_set_self] at hgj
      rw [List.getElem_set_ne hjk]
      intro hgk
      rcases hob with e | e
      · exact h.apart j k hj' hk' hjk g (by rw [← e]; exact hgj) hgk
      · rw [e] at hgj
        injection hgj with hgj
        have := hlt k hk' g hgk
        omega
    · rw [List.getElem_set_ne (fun e' => ej e'.symm)] at hgj
      by_cases ek : k = p
      · subst ek
        rw [List.getElem_set_self]
        intro hgk
        rcases hob with e | e
        · exact h.apart j k hj' hk' hjk g hgj (by rw [← e]; exact hgk)
        · rw [e] at hgk
          injection hgk with hgk
          have := hlt j hj' g hgj
          omega
      · rw [List.getElem_set_ne (fun e' => ek e'.symm)]
        exact h.apart j k hj' hk' hjk g hgj
theorem GRow.rr {w : World} {N gg : Nat} {vs : List Value} {xss : List (List Int)} (h : GRow w N gg vs xss) : RR 22 w N (fun _ => False) (.slice (some ⟨gg, 0, none⟩) vs.length vs.length) xss :=
  ⟨vs, h.out, fun _ _ h => h, h.len, fun k hk => ⟨h.row k hk, fun _ _ h => h⟩⟩
theorem GRow.at_ {w : World} {N gg : Nat} {vs : List Value} {xss : List (List Int)} (h : GRow w N gg vs xss) {p : Nat} (hp : p < vs.length) : w.cell? ⟨gg, p, none⟩ = some vs[p] ∧ w.frozen? ⟨gg, p, none⟩ = false ∧ gg < w.heap.size := by
  obtain ⟨g, c, hv, h1, h2, h3, h4, h5, h6⟩ := h.out.block (by omega)
  injection hv with e1 e2 e3
  injection e1 with e1
  injection e1 with e1
  subst e1
  exact ⟨h5 p hp, h6 p, h2⟩
theorem GRow.start (w : World) (q : Nat) (hq : q ≤ maxLen) : GRow (w.alloc (.cells (Array.replicate q (Value.slice none 0 0)) 22)) w.heap.size w.heap.size (List.replicate q (.slice none 0 0)) (List.replicate q []) := by
  have hg : ∀ k (hk : k < (List.replicate q (Value.slice none 0 0)).length), (List.replicate q (Value.slice none 0 0))[k] = .slice none 0 0 := fun k hk => by simp
  refine ⟨?_, by simp, fun k hk => ?_, fun k hk g hgv => ?_, fun j k hj hk hjk g hgj => ?_⟩
  · have := OR.made (e := 22) (f := id) (xs := List.replicate q (Value.slice none 0 0)) w w.heap.size (Array.replicate q (Value.slice none 0 0)) (Nat.le_refl _) (by simpa using hq) (by simp)
    simpa using this
  · rw [hg k hk]
    have e : (List.replicate q ([] : List Int)).getD k [] = [] := by
      rw [List.getD_eq_getElem?_getD]
      by_cases h : k < q <;> simp [h]
    rw [e]
    exact OR.nil _ _
  · rw [hg k hk] at hgv
    simp [Value.ownBlock] at hgv
  · rw [hg j hj] at hgj
    simp [Value.ownBlock] at hgj

theorem make_rows (t : TypeId) (ht : Try.prog.underlying t = some (.slice 22)) (n : Nat) (hn : n ≤ 1099511627776) (w : World) :
    (Instr.makeSlice t (.int .i64 (n : Int)) (.int .i64 (n : Int))).run Try.prog w = .ok (.slice (some ⟨w.heap.size, 0, none⟩) n n) (w.alloc (.cells (List.replicate n (Value.slice none 0 0)).toArray 22)) := by
  obtain ⟨i0, hi, hz0, hz1, hz2⟩ := info_parts row_info
  have h := run_make (P := Try.prog) w t 22 i0 (.slice none 0 0) ht hi hz0 .i64 .i64 n n (by omega) (Int.le_refl _) (by rw [hz2]; omega) (by omega)
  simp only [Int.toNat_natCast] at h
  rw [h, hz1]
  have e : madeCells (Value.slice none 0 0).cells (n * 1) = (List.replicate n (Value.slice none 0 0)).toArray := by
    apply Array.toList_inj.1
    rw [Nat.mul_one, show (Value.slice none 0 0).cells = #[Value.slice none 0 0] from rfl, toList_madeCells_one]
  rw [e]
end Go.Proofs.Ytaghemilihaiaaa

