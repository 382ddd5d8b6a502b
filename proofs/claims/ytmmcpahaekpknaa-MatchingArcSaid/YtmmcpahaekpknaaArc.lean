/-
  The contract of matching.Arc.
-/
import Derived.Test.YtmmcpahaekpknaaJoin
import Derived.Test.YtmmcpahaekpknaaArcT
import Derived.RegionTactic
namespace Go.Proofs.Ytmmcpahaekpknaa
open Go.RowKit

theorem shiftA_any (i : Int) (p : Nat) (b : Nat) (w : World) (hi : -4611686018427387904 ≤ i) (hi2 : i ≤ 4611686018427387904) (hc : w.cell? ⟨b, 0, none⟩ = some (.int .i64 p)) :
    Calls Try.prog 31 #[.int .i64 i, .pointer (some ⟨b, 0, none⟩)] w fun e w' => e = .returned (.int .i64 (shA p i)) ∧ w = w' := by
  by_cases h : (p : Int) ≤ i
  · have H := Lib.hid (show shA p i = i + 2 by unfold shA; rw [if_pos h])
    go_enter Try.func31, Try.ntmps31
    go_wp2
    go_ret
    exact ⟨ret_int H.out.symm, by trivial⟩
  · have H := Lib.hid (show shA p i = i by unfold shA; rw [if_neg h])
    go_enter Try.func31, Try.ntmps31
    go_wp2
    go_ret
    exact ⟨ret_int H.out.symm, by trivial⟩

set_option maxHeartbeats 1000000 in
theorem arc_arg (A : Option Addr) (c : Nat) (xs : List Int) (p : Int) (w : World) (hx : RI w (· < w.heap.size) A xs) (hm : xs.length ≤ maxLen) (h : ¬ IsM xs) :
    Calls Try.prog 21 #[.slice A xs.length c, .int .i64 p] w fun e w' => e = .returned (.tuple #[.slice none 0 0, .int .i64 1]) ∧ Below w.heap.size w w' := by
  have H1 := Lib.hid h
  clear h
  go_enter Try.func21, Try.ntmps21
  go_wp2_with fail
  refine (valid_no (· < w.heap.size) (hx.keep fun b hb => Below.heap_alloc w _ b hb) (fun b hb => by simp; omega) hm H1.out).mono ?_
  rintro e w1 ⟨rfl, hb1⟩
  go_wp2_with fail
  go_ret2
  exact ⟨rfl, ((Below.refl _ _).alloc (Nat.le_refl _) _).trans (hb1.mono (by simp))⟩

set_option maxHeartbeats 1000000 in
theorem arc_range (A : Option Addr) (c : Nat) (xs : List Int) (p : Int) (w : World) (hx : RI w (· < w.heap.size) A xs) (h : IsM xs) (hp : p < 0 ∨ (xs.length : Int) < p) :
    Calls Try.prog 21 #[.slice A xs.length c, .int .i64 p] w fun e w' => e = .returned (.tuple #[.slice none 0 0, .int .i64 2]) ∧ Below w.heap.size w w' := by
  have h48 : xs.length ≤ 48 := h.2.1
  have H1 := Lib.hid h
  clear h
  by_cases h0 : p < 0
  · clear hp
    go_enter Try.func21, Try.ntmps21
    go_wp2_with fail
    refine (valid_yes (· < w.heap.size) (hx.keep fun b hb => Below.heap_alloc w _ b hb) (fun b hb => by simp; omega) H1.out).mono ?_
    rintro e w1 ⟨rfl, hb1⟩
    have hc1 : w1.cell? ⟨w.heap.size, 0, none⟩ = some (.int .i64 p) := (hb1.cell (p := ⟨w.heap.size, 0, none⟩) (by simp)).trans (by simp)
    go_wp2_with fail
    go_ret2
    exact ⟨rfl, ((Below.refl _ _).alloc (Nat.le_refl _) _).trans (hb1.mono (by simp))⟩
  · have hp : (xs.length : Int) < p := by omega
    go_enter Try.func21, Try.ntmps21
    go_wp2_with fail
    refine (valid_yes (· < w.heap.size) (hx.keep fun b hb => Below.heap_alloc w _ b hb) (fun b hb => by simp; omega) H1.out).mono ?_
    rintro e w1 ⟨rfl, hb1⟩
    have hc1 : w1.cell? ⟨w.heap.size, 0, none⟩ = some (.int .i64 p) := (hb1.cell (p := ⟨w.heap.size, 0, none⟩) (by simp)).trans (by simp)
    go_wp2_with fail
    go_ret2
    exact ⟨rfl, ((Below.refl _ _).alloc (Nat.le_refl _) _).trans (hb1.mono (by simp))⟩

set_option maxHeartbeats 1000000 in
theorem arc_full (A : Option Addr) (c : Nat) (xs : List Int) (p : Int) (w : World) (hx : RI w (· < w.heap.size) A xs) (h : IsM xs) (hp0 : 0 ≤ p) (hp : p ≤ xs.length) (hl : xs.length = 48) :
    Calls Try.prog 21 #[.slice A xs.length c, .int .i64 p] w fun e w' => e = .returned (.tuple #[.slice none 0 0, .int .i64 5]) ∧ Below w.heap.size w w' := by
  have H1 := Lib.hid h
  have e1 : ((xs.length : Int) == 48) = true := by rw [beq_iff_eq]; omega
  have h0 : ¬ p < 0 := by omega
  have h2 : ¬ (xs.length : Int) < p := by omega
  clear h hl
  go_enter Try.func21, Try.ntmps21
  go_wp2_with fail
  refine (valid_yes (· < w.heap.size) (hx.keep fun b hb => Below.heap_alloc w _ b hb) (fun b hb => by simp; omega) H1.out).mono ?_
  rintro e w1 ⟨rfl, hb1⟩
  have hc1 : w1.cell? ⟨w.heap.size, 0, none⟩ = some (.int .i64 p) := (hb1.cell (p := ⟨w.heap.size, 0, none⟩) (by simp)).trans (by simp)
  go_wp2_with fail
  go_ret2
  exact ⟨rfl, ((Below.refl _ _).alloc (Nat.le_refl _) _).trans (hb1.mono (by simp))⟩

/-- what the loop of Arc keeps -/
structure ASt (w wr : World) (gr : Nat) (xs : List Int) (p k : Nat) (r : List Int) : Prop where
  box : wr.heap[w.heap.size]? = some (.cells #[.int .i64 p] 3 (0, 0))
  row : OI wr w.heap.size (.slice (some ⟨gr, 0, none⟩) (xs.length + 2) (xs.length + 2)) r
  len : r.length = xs.length + 2
  at0 : gi r p = (p : Int) + 1
  at1 : gi r (p + 1) = p
  fill : ∀ j, j < k → gi r (emb p j) = shA p (gi xs j)
  below : Below w.heap.size w wr

theorem ASt.step {w wr : World} {gr : Nat} {xs : List Int} {p k : Nat} {r : List Int} (h : ASt w wr gr xs p k r) (hw : gr ≠ w.heap.size) (hwg : w.heap.size ≤ gr) (hk : k < xs.length) :
    ASt w (wr.setCell ⟨gr, emb p k, none⟩ (.int .i64 (shA p (gi xs k)))) gr xs p (k + 1) (r.set (emb p k) (shA p (gi xs k))) := by
  have hel : emb p k < r.length := by rw [h.len]; unfold emb; split <;> omega
  obtain ⟨e0, e1⟩ := emb_ne p k
  refine ⟨?_, ?_, by simpa using h.len, ?_, ?_, ?_, h.below.setCell (by simpa using hwg) _⟩
  · rw [Below.heap_setCell wr _ _ _ (by simpa using fun e => hw e.symm)]; exact h.box
  · have := OR.stored (k := emb p k) (by have := h.row; rw [← h.len] at this; exact this) (shA p (gi xs k))
    rw [List.length_set, h.len] at this
    exact this
  · rw [gi_set hel, if_neg (fun e => e0 e.symm)]; exact h.at0
  · rw [gi_set hel, if_neg (fun e => e1 e.symm)]; exact h.at1
  · intro j hj
    rw [gi_set hel]
    split
    · rename_i e
      have := congrArg (dem p) e
      rw [dem_emb, dem_emb] at this
      rw [this]
    · rename_i e
      exact h.fill j (by
        rcases Nat.lt_or_eq_of_le (Nat.le_of_lt_succ hj) with h' | rfl
        · exact h'
        · exact absurd rfl e)

theorem ASt.done {w wr : World} {gr : Nat} {xs : List Int} {p : Nat} {r : List Int} (hp : p ≤ xs.length) (h : ASt w wr gr xs p xs.length r) : r = arcL xs p := by
  apply ext_gi
  · rw [h.len, arcL_length]
  · intro i hi
    rw [h.len] at hi
    rw [gi_arcL hi]
    by_cases e0 : i = p
    · rw [if_pos e0, e0]; exact h.at0
    rw [if_neg e0]
    by_cases e1 : i = p + 1
    · rw [if_pos e1, e1]; exact h.at1
    rw [if_neg e1]
    have hd := dem_lt (n := xs.length + 2) (by omega) hi e0 e1
    have := h.fill (dem p i) (by omega)
    rw [emb_dem e0 e1] at this
    exact this

theorem ASt.start {w w1 : World} {xs : List Int} {p : Nat} (hp : p ≤ xs.length) (h48 : xs.length ≤ 48) (hs : w.heap.size < w1.heap.size) (hb : Below w.heap.size w w1) (hat : w1.heap[w.heap.size]? = some (.cells #[.int .i64 p] 3 (0, 0))) :
    ASt w (w1.alloc (.cells (((Array.replicate (xs.length + 2) (Value.int .i64 0)).setIfInBounds p (.int .i64 ((p : Int) + 1))).setIfInBounds (p + 1) (.int .i64 p)) 3)).drew w1.heap.size xs p 0 (((List.replicate (xs.length + 2) 0).set p ((p : Int) + 1)).set (p + 1) p) := by
  have hl : (((List.replicate (xs.length + 2) 0).set p ((p : Int) + 1)).set (p + 1) p).length = xs.length + 2 := by simp
  refine ⟨?_, ?_, hl, ?_, ?_, fun j hj => by omega, (hb.alloc (by omega) _).drew⟩
  · exact (Below.heap_alloc w1 _ _ hs).trans hat
  · have := OR.made (e := 3) (f := Value.int .i64) (xs := ((List.replicate (xs.length + 2) 0).set p ((p : Int) + 1)).set (p + 1) p) w1 w.heap.size
      (((Array.replicate (xs.length + 2) (Value.int .i64 0)).setIfInBounds p (.int .i64 ((p : Int) + 1))).setIfInBounds (p + 1) (.int .i64 p)) (by omega) (by rw [hl]; unfold maxLen; omega)
      (by rw [Array.toList_setIfInBounds, Array.toList_setIfInBounds, Array.toList_replicate, List.map_set, List.map_set, List.map_replicate])
    rw [hl] at this
    exact this
  · rw [gi_set (by simp; omega), if_neg (by omega), gi_set (by simp; omega), if_pos rfl]
  · rw [gi_set (by simp; omega), if_pos rfl]

def ArcPost (xs : List Int) (p : Nat) (w : World) (e : Ending) (w' : World) : Prop :=
  ∃ v, e = .returned (.tuple #[v, .int .i64 0]) ∧ OI w' w.heap.size v (arcL xs p) ∧ Below w.heap.size w w'

set_option maxHeartbeats 4000000 in
theorem arc_ok (A : Option Addr) (c : Nat) (xs : List Int) (p : Nat) (w : World) (hx : RI w (· < w.heap.size) A xs) (h : IsM xs) (hp : p ≤ xs.length) (hl : xs.length ≠ 48) :
    Calls Try.prog 21 #[.slice A xs.length c, .int .i64 p] w (ArcPost xs p w) := by
  have h48 : xs.length ≤ 48 := h.2.1
  have H1 := Lib.hid h
  have e1 : ((xs.length : Int) == 48) = false := by rw [beq_eq_false_iff_ne]; omega
  have h0 : ¬ (p : Int) < 0 := by omega
  have h2 : ¬ (xs.length : Int) < p := by omega
  have hmk := fun W => make_ints 34 Try.underlying34 (xs.length + 2) (by omega) W
  have e2 : ((xs.length + 2 : Nat) : Int) = (xs.length : Int) + 2 := by omega
  rw [e2] at hmk
  have hd1 : decide (xs.length < p) = false := decide_eq_false (by omega)
  have hd0 : decide ((p : Int) < 0) = false := decide_eq_false (by omega)
  clear h hl e2
  go_enter Try.func21, Try.ntmps21
  go_wp2_with fail
  refine (valid_yes (· < w.heap.size) (hx.keep fun b hb => Below.heap_alloc w _ b hb) (fun b hb => by simp; omega) H1.out).mono ?_
  rintro e w1 ⟨rfl, hb1⟩
  have hs1 := hb1.size
  simp at hs1
  have hbx : Below w.heap.size w w1 := ((Below.refl _ _).alloc (Nat.le_refl _) _).trans (hb1.mono (by simp))
  have hat1 : w1.heap[w.heap.size]? = some (.cells #[.int .i64 p] 3 (0, 0)) := (hb1.block w.heap.size (by simp)).trans (heap_alloc_new w _)
  have hc1 : w1.cell? ⟨w.heap.size, 0, none⟩ = some (.int .i64 p) := (hb1.cell (p := ⟨w.heap.size, 0, none⟩) (by simp)).trans (by simp)
  have hne1 : w1.heap.size ≠ w.heap.size := by omega
  have hne2 : w.heap.size ≠ w1.heap.size := by omega
  have hlt1 : w.heap.size < w1.heap.size := by omega
  have hp2 : p < xs.length + 2 := by omega
  have hp3 : p + 1 < xs.length + 2 := by omega
  clear hb1
  go_wp2_with fail
  go_region
  go_wp2_with fail
  have HST := Lib.hid (ASt.start hp h48 hlt1 hbx hat1)
  go_loopw [8, 9, 41] (fun _ _ i wr => ∃ (k : Nat) (r : List Int), k ≤ xs.length ∧ i = .int .i64 k ∧ Hid (ASt w wr w1.heap.size xs p k r)) (fun _ _ i _ => xs.length - (intOf i).toNat)
  case atStart => exact ⟨0, _, Nat.zero_le _, rfl, HST⟩
  case round =>
    obtain ⟨k, r, hk, rfl, HJ⟩ := hrel
    clear HST hc1 hat1 hbx
    have hcb : wr.cell? ⟨w.heap.size, 0, none⟩ = some (.int .i64 p) := by rw [cell_of_row wr w.heap.size 0 _ _ (0, 0) HJ.out.box]; rfl
    by_cases hlt : k < xs.length
    · obtain ⟨b, off, rfl, -, hcx⟩ := (hx.below HJ.out.below).at_ hlt
      have c5 := hcx k hlt
      obtain ⟨x1, x2, -, -⟩ := H1.out.2.2.1 k hlt
      have HSH := Lib.hid (shA_nat p k)
      have hel : emb p k < xs.length + 2 := by unfold emb; split <;> omega
      obtain ⟨-, -, -, -, hcell, hfz⟩ := HJ.out.row.ints_at (by rw [HJ.out.len]; omega)
      have c6 := hcell (emb p k) (by rw [HJ.out.len]; omega)
      have f6 := hfz (emb p k)
      have i6 : (emb p k : Int) < (xs.length : Int) + 2 := by omega
      have HJ' := Lib.hid (HJ.out.step hne1 (by omega) hlt)
      clear hcell hfz hcx
      go_wp2_with fail
      refine (shiftA_any _ _ _ _ (by omega) (by omega) hcb).mono ?_
      rintro e w' ⟨he, rfl⟩
      rw [HSH.out] at he
      subst he
      go_wp2_with fail
      refine (shiftA_any _ _ _ _ (by omega) (by omega) hcb).mono ?_
      rintro e w' ⟨rfl, rfl⟩
      go_wp2_with fail
      go_roundw
      case rel => first | exact ⟨k + 1, _, by omega, by go_num, HJ'⟩ | ((repeat apply Exists.intro); exact ⟨⟨k + 1, _, by omega, by go_num, HJ'⟩, rfl⟩)
      case measure => simp [intOf]; omega
    · have hkl : k = xs.length := by omega
      have hfin : OI wr w.heap.size (.slice (some ⟨w1.heap.size, 0, none⟩) (xs.length + 2) (xs.length + 2)) (arcL xs p) := by
        have h := HJ.out
        rw [hkl] at h
        rw [← h.done hp]
        exact h.row
      have HF := Lib.hid hfin
      have hbel := HJ.out.below
      clear hkl hfin hcb
      go_wp2_with fail
      go_ret2
      exact ⟨_, rfl, HF.out, hbel⟩
end Go.Proofs.Ytmmcpahaekpknaa
