/-
  The contracts of surface.square, fits, small, Symmetrized; of the law's square and great.
  The contract of surface.Symmetrized.
-/
import Derived.Test.YteanhbldhaiekaaZ26
import Derived.Test.YteanhbldhaiekaaZ28
import Derived.Test.YteanhbldhaiekaaZ23
import Derived.Test.YteanhbldhaiekaaZ15
namespace Go.Proofs.Yteanhbldhaiekaa
open Go.RowKit

/-- as many rows as columns -/
def SqA (xss : List (List Int)) : Prop := ∀ i, i < xss.length → rowL xss i = xss.length
instance (xss : List (List Int)) : Decidable (SqA xss) := by unfold SqA; infer_instance
/-- no entry beyond 2^50 -/
def SmC (xss : List (List Int)) : Prop := ∀ i, i < xss.length → ∀ j, j < rowL xss i → -1125899906842624 ≤ eI xss i j ∧ eI xss i j ≤ 1125899906842624
instance (xss : List (List Int)) : Decidable (SmC xss) := by unfold SmC; infer_instance
section
variable {w : World} {A : Option Addr} {n cap : Nat} {xss : List (List Int)}
set_option maxHeartbeats 2000000 in
theorem ssquare_any (h : AM w A n xss) : Calls Try.prog 42 #[.slice A n cap] w fun e w' => e = .returned (.bool (decide (SqA xss))) ∧ w = w' := by
  have hnl := h.nl
  unfold maxLen at hnl
  have HX := Lib.hid h
  have HN := Lib.hid h.ln
  clear h
  go_enter Try.func42, Try.ntmps42
  go_wp2_with fail
  go_loopw [7] (fun i' wr => ∃ k : Nat, k ≤ n ∧ i' = .int .i64 k ∧ w = wr ∧ Hid (∀ i, i < k → rowL xss i = n)) (fun i _ => n - (intOf i).toNat)
  case atStart => exact ⟨0, Nat.zero_le _, rfl, rfl, fun i hi => by omega⟩
  case round =>
    obtain ⟨k, hk, rfl, rfl, HA⟩ := hrel
    by_cases hlt : k < n
    · obtain ⟨b, off, Ak, ck, rfl, c2, -⟩ := HX.out.head hlt
      by_cases he : rowL xss k = n
      · have he' : ((rowL xss k : Int) != (n : Int)) = false := by rw [bne_eq_false_iff_eq]; omega
        have HA' : Hid (∀ i, i < k + 1 → rowL xss i = n) := by
          intro i hi
          by_cases e : i = k
          · rw [e]; exact he
          · exact HA.out i (by omega)
        clear he HA
        go_wp2_with fail
        go_roundw
        case rel => exact ⟨k + 1, by omega, by go_num, by trivial, HA'⟩
        case measure => simp [intOf]; omega
      · have he' : ((rowL xss k : Int) != (n : Int)) = true := by rw [bne_iff_ne]; omega
        have HD := Lib.hid (decide_eq_false (show ¬ SqA xss from fun h => he (by have := h k (by rw [HN.out]; exact hlt); rw [HN.out] at this; exact this)))
        go_wp2_with fail
        go_ret
        exact ⟨ret_bool HD.out.symm, rfl⟩
    · obtain rfl : k = n := by omega
      have HD := Lib.hid (decide_eq_true (show SqA xss from fun i hi => by rw [HN.out] at hi ⊢; exact HA.out i hi))
      go_wp2_with fail
      go_ret
      exact ⟨ret_bool HD.out.symm, rfl⟩
set_option maxHeartbeats 2000000 in
theorem lsquare_any (h : AM w A n xss) : Calls Try.prog 15 #[.slice A n cap] w fun e w' => e = .returned (.bool (decide (SqA xss))) ∧ w = w' := by
  have hnl := h.nl
  unfold maxLen at hnl
  have HX := Lib.hid h
  have HN := Lib.hid h.ln
  clear h
  go_enter Try.func15, Try.ntmps15
  go_wp2_with fail
  go_loopw [7] (fun i' wr => ∃ k : Nat, k ≤ n ∧ i' = .int .i64 k ∧ w = wr ∧ Hid (∀ i, i < k → rowL xss i = n)) (fun i _ => n - (intOf i).toNat)
  case atStart => exact ⟨0, Nat.zero_le _, rfl, rfl, fun i hi => by omega⟩
  case round =>
    obtain ⟨k, hk, rfl, rfl, HA⟩ := hrel
    by_cases hlt : k < n
    · obtain ⟨b, off, Ak, ck, rfl, c2, -⟩ := HX.out.head hlt
      by_cases he : rowL xss k = n
      · have he' : ((rowL xss k : Int) != (n : Int)) = false := by rw [bne_eq_false_iff_eq]; omega
        have HA' : Hid (∀ i, i < k + 1 → rowL xss i = n) := by
          intro i hi
          by_cases e : i = k
          · rw [e]; exact he
          · exact HA.out i (by omega)
        clear he HA
        go_wp2_with fail
        go_roundw
        case rel => exact ⟨k + 1, by omega, by go_num, by trivial, HA'⟩
        case measure => simp [intOf]; omega
      · have he' : ((rowL xss k : Int) != (n : Int)) = true := by rw [bne_iff_ne]; omega
        have HD := Lib.hid (decide_eq_false (show ¬ SqA xss from fun h => he (by have := h k (by rw [HN.out]; exact hlt); rw [HN.out] at this; exact this)))
        go_wp2_with fail
        go_ret
        exact ⟨ret_bool HD.out.symm, rfl⟩
    · obtain rfl : k = n := by omega
      have HD := Lib.hid (decide_eq_true (show SqA xss from fun i hi => by rw [HN.out] at hi ⊢; exact HA.out i hi))
      go_wp2_with fail
      go_ret
      exact ⟨ret_bool HD.out.symm, rfl⟩
/-- more than 6 rows, or a row of more than 6 elements -/
def Grt (xss : List (List Int)) : Prop := 6 < xss.length ∨ ∃ i, i < xss.length ∧ 6 < rowL xss i
def grB (xss : List (List Int)) : Bool := decide (6 < xss.length) || (List.range xss.length).any fun i => decide (6 < rowL xss i)
theorem grB_iff {xss : List (List Int)} : grB xss = true ↔ Grt xss := by
  unfold grB Grt
  rw [Bool.or_eq_true, decide_eq_true_eq, List.any_eq_true]
  constructor
  · rintro (h | ⟨i, hi, h⟩)
    · exact Or.inl h
    · exact Or.inr ⟨i, List.mem_range.1 hi, of_decide_eq_true h⟩
  · rintro (h | ⟨i, hi, h⟩)
    · exact Or.inl h
    · exact Or.inr ⟨i, List.mem_range.2 hi, decide_eq_true h⟩
set_option maxHeartbeats 2000000 in
theorem great_any (h : AM w A n xss) : Calls Try.prog 12 #[.slice A n cap] w fun e w' => e = .returned (.bool (grB xss)) ∧ w = w' := by
  have hnl := h.nl
  unfold maxLen at hnl
  have HX := Lib.hid h
  have HN := Lib.hid h.ln
  clear h
  go_enter Try.func12, Try.ntmps12
  go_wp2_with fail
  go_loopw [7] (fun i' wr => ∃ k : Nat, k ≤ n ∧ i' = .int .i64 k ∧ w = wr ∧ Hid (∀ i, i < k → rowL xss i ≤ 6)) (fun i _ => n - (intOf i).toNat)
  case atStart => exact ⟨0, Nat.zero_le _, rfl, rfl, fun i hi => by omega⟩
  case round =>
    obtain ⟨k, hk, rfl, rfl, HA⟩ := hrel
    by_cases hlt : k < n
    · obtain ⟨b, off, Ak, ck, rfl, c2, -⟩ := HX.out.head hlt
      by_cases he : rowL xss k ≤ 6
      · have HA' : Hid (∀ i, i < k + 1 → rowL xss i ≤ 6) := by
          intro i hi
          by_cases e : i = k
          · rw [e]; exact he
          · exact HA.out i (by omega)
        obtain ⟨r, hr⟩ : ∃ r, rowL xss k = r := ⟨_, rfl⟩
        rw [hr] at c2 he
        clear HA hr
        go_wp2_with fail
        go_roundw
        case rel => exact ⟨k + 1, by omega, by go_num, by trivial, HA'⟩
        case measure => simp [intOf]; omega
      · have HD := Lib.hid (grB_iff.2 (Or.inr ⟨k, by rw [HN.out]; exact hlt, by omega⟩))
        obtain ⟨r, hr⟩ : ∃ r, rowL xss k = r := ⟨_, rfl⟩
        rw [hr] at c2 he
        have he2 : 6 < r := by omega
        clear HA hr he
        go_wp2_with fail
        go_ret
        exact ⟨ret_bool HD.out.symm, rfl⟩
    · obtain rfl : k = n := by omega
      have HD : Hid (grB xss = decide ((6 : Int) < (k : Int))) := Lib.hid (by
        by_cases h6 : 6 < k
        · rw [decide_eq_true (show (6 : Int) < (k : Int) by omega)]; exact grB_iff.2 (Or.inl (by rw [HN.out]; exact h6))
        · rw [decide_eq_false (show ¬ (6 : Int) < (k : Int) by omega)]
          refine Bool.eq_false_iff.2 fun hg => ?_
          rcases grB_iff.1 hg with h | ⟨i, hi, h⟩
          · rw [HN.out] at h; exact h6 h
          · rw [HN.out] at hi; have := HA.out i hi; omega)
      go_wp2_with fail
      go_ret
      exact ⟨ret_bool HD.out.symm, rfl⟩
def fitB (x : Int) : Bool := decide (-1125899906842624 ≤ x ∧ x ≤ 1125899906842624)
set_option maxHeartbeats 2000000 in
theorem fits_any (x : Int) (w : World) : Calls Try.prog 63 #[.int .i64 x] w fun e w' => e = .returned (.bool (fitB x)) ∧ w = w' := by
  go_enter Try.func63, Try.ntmps63
  by_cases h1 : -1125899906842624 ≤ x
  · by_cases h2 : x ≤ 1125899906842624
    · have HD : Hid (fitB x = true) := Lib.hid (decide_eq_true (And.intro h1 h2))
      go_wp2_with fail
      go_ret
      exact ⟨ret_bool HD.out.symm, rfl⟩
    · have HD : Hid (fitB x = false) := Lib.hid (decide_eq_false (show ¬ (-1125899906842624 ≤ x ∧ x ≤ 1125899906842624) from fun h => h2 h.2))
      go_wp2_with fail
      go_ret
      exact ⟨ret_bool HD.out.symm, rfl⟩
  · have HD : Hid (fitB x = false) := Lib.hid (decide_eq_false (show ¬ (-1125899906842624 ≤ x ∧ x ≤ 1125899906842624) from fun h => h1 h.1))
    go_wp2_with fail
    go_ret
    exact ⟨ret_bool HD.out.symm, rfl⟩
set_option maxHeartbeats 4000000 in
theorem ssmall_any (h : AM w A n xss) : Calls Try.prog 43 #[.slice A n cap] w fun e w' => e = .returned (.bool (decide (SmC xss))) ∧ w = w' := by
  have hnl := h.nl
  unfold maxLen at hnl
  have HX := Lib.hid h
  have HN := Lib.hid h.ln
  clear h
  go_enter Try.func43, Try.ntmps43
  go_wp2_with fail
  go_loopw [9] (fun i' wr => ∃ k : Nat, k ≤ n ∧ i' = .int .i64 k ∧ w = wr ∧ Hid (∀ i, i < k → ∀ j, j < rowL xss i → -1125899906842624 ≤ eI xss i j ∧ eI xss i j ≤ 1125899906842624)) (fun i _ => n - (intOf i).toNat)
  case atStart => exact ⟨0, Nat.zero_le _, rfl, rfl, fun i hi => by omega⟩
  case round =>
    obtain ⟨k, hk, rfl, rfl, HA⟩ := hrel
    by_cases hlt : k < n
    · obtain ⟨b, off, Ak, ck, rfl, c2, hri⟩ := HX.out.head hlt
      have HRI := Lib.hid hri
      have hrm : rowL xss k ≤ 9223372036854775807 := by
        obtain ⟨b', o', e', -, hc⟩ := HX.out.rd.at_ (k := k) (by rw [HN.out]; exact hlt)
        obtain ⟨_, _, -, -, hm⟩ := hc k (by rw [HN.out]; exact hlt)
        unfold maxLen at hm
        unfold rowL
        omega
      obtain ⟨r, hr⟩ : ∃ r, rowL xss k = r := ⟨_, rfl⟩
      rw [hr] at c2 hrm
      have HR := Lib.hid hr
      clear hr hri
      go_wp2_with fail
      go_loopw [15] (fun j' wr => ∃ j : Nat, j ≤ r ∧ j' = .int .i64 j ∧ w = wr ∧ Hid (∀ y, y < j → -1125899906842624 ≤ eI xss k y ∧ eI xss k y ≤ 1125899906842624)) (fun j _ => r - (intOf j).toNat)
      case atStart => exact ⟨0, Nat.zero_le _, rfl, rfl, fun i hi => by omega⟩
      case round =>
        obtain ⟨j, hj, rfl, rfl, HJ⟩ := hrel
        by_cases hjl : j < r
        · obtain ⟨b2, o2, rfl, -, hc⟩ := HRI.out.at_ (k := j) (by have := HR.out; unfold rowL at this; omega)
          have c3 := hc j (by have := HR.out; unfold rowL at this; omega)
          obtain ⟨x, hx⟩ : ∃ x, gi (xss.getD k []) j = x := ⟨_, rfl⟩
          have hxe : eI xss k j = x := hx
          rw [hx] at c3
          have HF := Lib.hid (fits_any x w)
          clear hc hx
          by_cases hf : -1125899906842624 ≤ x ∧ x ≤ 1125899906842624
          · rw [show fitB x = true from decide_eq_true hf] at HF
            have HJ' : Hid (∀ y, y < j + 1 → -1125899906842624 ≤ eI xss k y ∧ eI xss k y ≤ 1125899906842624) := Lib.hid fun y hy => by
              by_cases e : y = j
              · rw [e, hxe]; exact hf
              · exact HJ.out y (by omega)
            clear hf HJ hxe
            go_wp2_with fail
            refine HF.out.mono ?_
            rintro e w1 ⟨rfl, rfl⟩
            go_wp2_with fail
            go_roundw
            case rel => exact ⟨j + 1, by omega, by go_num, by trivial, HJ'⟩
            case measure => simp [intOf]; omega
          · rw [show fitB x = false from decide_eq_false hf] at HF
            have HD := Lib.hid (decide_eq_false (show ¬ SmC xss from fun h => hf (by have := h k (by rw [HN.out]; exact hlt) j (by rw [HR.out]; exact hjl); rw [hxe] at this; exact this)))
            clear hf HJ hxe
            go_wp2_with fail
            refine HF.out.mono ?_
            rintro e w1 ⟨rfl, rfl⟩
            go_wp2_with fail
            go_ret
            exact ⟨ret_bool HD.out.symm, rfl⟩
        · obtain rfl : j = r := by omega
          have HA' : Hid (∀ i, i < k + 1 → ∀ y, y < rowL xss i → -1125899906842624 ≤ eI xss i y ∧ eI xss i y ≤ 1125899906842624) := Lib.hid fun i hi y hy => by
            by_cases e : i = k
            · subst e; rw [HR.out] at hy; exact HJ.out y hy
            · exact HA.out i (by omega) y hy
          clear HA HJ
          go_wp2_with fail
          go_roundw
          case rel => exact ⟨k + 1, by omega, by go_num, by trivial, HA'⟩
          case measure => simp [intOf]; omega
    · obtain rfl : k = n := by omega
      have HD := Lib.hid (decide_eq_true (show SmC xss from fun i hi => by rw [HN.out] at hi; exact HA.out i hi))
      go_wp2_with fail
      go_ret
      exact ⟨ret_bool HD.out.symm, rfl⟩
end
end Go.Proofs.Yteanhbldhaiekaa
namespace Go.Proofs.Yteanhbldhaiekaa
open Go.RowKit

/-- the sum with the transposed one: its rows are appended element by element; rows before i are done, row i has the elements xs -/
structure SyS (w0 wr : World) (n i : Nat) (bs cp : Nat → Nat) (f : Nat → Nat → Int) (Bi : Nat) (v : Value) (xs : List Int) : Prop where
  hd : ∀ x, x < i → wr.cell? ⟨w0.heap.size, x, none⟩ = some (.slice (some ⟨bs x, 0, none⟩) n (cp x))
  h0 : ∀ x, i < x → x < n → wr.cell? ⟨w0.heap.size, x, none⟩ = some (.slice none 0 0)
  cu : i < n → wr.cell? ⟨w0.heap.size, i, none⟩ = some v
  fz : ∀ x, x < n → wr.frozen? ⟨w0.heap.size, x, none⟩ = false
  en : ∀ x y, x < i → y < n → wr.cell? ⟨bs x, y, none⟩ = some (.int .i64 (f x y))
  os : ∀ x, x < i → w0.heap.size < bs x ∧ bs x < Bi
  ow : OI wr Bi v xs
  bi : w0.heap.size < Bi ∧ Bi ≤ wr.heap.size
  bel : Below w0.heap.size w0 wr
section
variable {w0 wr w' : World} {n i : Nat} {bs cp : Nat → Nat} {f : Nat → Nat → Int} {Bi : Nat} {v : Value} {xs : List Int}
theorem SyS.call (h : SyS w0 wr n i bs cp f Bi v xs) (hb : Below wr.heap.size wr w') : SyS w0 w' n i bs cp f Bi v xs := by
  have hl : w0.heap.size < wr.heap.size := Nat.lt_of_lt_of_le h.bi.1 h.bi.2
  have c : ∀ b o, b < wr.heap.size → w'.cell? ⟨b, o, none⟩ = wr.cell? ⟨b, o, none⟩ := fun b o hbl => World.cell?_of_block (a := ⟨b, o, none⟩) (hb.block b hbl)
  refine ⟨fun x hx => (c _ _ hl).trans (h.hd x hx), fun x hx hn => (c _ _ hl).trans (h.h0 x hx hn), fun hi => (c _ _ hl).trans (h.cu hi), fun x hx => (World.frozen?_of_block (a := ⟨w0.heap.size, x, none⟩) (hb.block _ hl)).trans (h.fz x hx), fun x y hx hy => (c _ _ ?_).trans (h.en x y hx hy), h.os, h.ow.below hb (Nat.le_refl _), ⟨h.bi.1, Nat.le_trans h.bi.2 hb.size⟩, h.bel.trans (hb.mono h.bel.size)⟩
  have := h.os x hx
  have := h.bi.2
  omega
theorem SyS.start (t : TypeId) (w0 : World) (n : Nat) (f : Nat → Nat → Int) : SyS w0 (w0.alloc (.cells (Array.replicate n (Value.slice none 0 0)) t)) n 0 (fun _ => 0) (fun _ => 0) f (w0.heap.size + 1) (.slice none 0 0) [] := by
  have hr : Array.replicate n (Value.slice none 0 0) = (List.replicate n (Value.slice none 0 0)).toArray := by simp
  refine ⟨fun x hx => by omega, fun x _ hn => by rw [hr]; exact (cell_rep hn).1, fun hi => by rw [hr]; exact (cell_rep hi).1, fun x hx => by rw [hr]; exact (cell_rep hx).2, fun x y hx => by omega, fun x hx => by omega, OR.nil _ _, ⟨Nat.lt_succ_self _, by simp⟩, (Below.refl _ _).alloc (Nat.le_refl _) _⟩
/-- one element more: append, and the header is stored -/
theorem SyS.push {v' : Value} {ys : List Int} (h : SyS w0 wr n i bs cp f Bi v xs) (_hi : i < n) (ho : OI w' Bi v' ys) (hg : wr.grownBy w' v.ownBlock) : SyS w0 (w'.setCell ⟨w0.heap.size, i, none⟩ v') n i bs cp f Bi v' ys := by
  have hl : w0.heap.size < wr.heap.size := Nat.lt_of_lt_of_le h.bi.1 h.bi.2
  have old : ∀ b, b < Bi → w'.heap[b]? = wr.heap[b]? := fun b hb => hg.block b (by have := h.bi.2; omega) (fun e => by have := (h.ow.lt b e.symm).1; omega)
  have c : ∀ b o, b < Bi → w'.cell? ⟨b, o, none⟩ = wr.cell? ⟨b, o, none⟩ := fun b o hb => World.cell?_of_block (a := ⟨b, o, none⟩) (old b hb)
  refine ⟨fun x hx => ?_, fun x hx hn => ?_, fun hi => ?_, fun x hx => ?_, fun x y hx hy => ?_, h.os, ?_, ⟨h.bi.1, ?_⟩, ?_⟩
  · rw [cell_ne' (by omega), c _ _ h.bi.1]; exact h.hd x hx
  · rw [cell_ne' (by omega), c _ _ h.bi.1]; exact h.h0 x hx hn
  · exact set_same ((c _ _ h.bi.1).trans (h.cu hi))
  · rw [World.frozen?_setCell]; exact (World.frozen?_of_block (a := ⟨w0.heap.size, x, none⟩) (old _ h.bi.1)).trans (h.fz x hx)
  · obtain ⟨h1, h2⟩ := h.os x hx
    rw [cell_ne (by omega), c _ _ h2]; exact h.en x y hx hy
  · exact ho.keep fun g hgo => Below.heap_setCell _ _ _ _ (by have := (ho.lt g hgo).1; have := h.bi.1; show g ≠ w0.heap.size; omega)
  · rw [World.size_setCell]; have := h.bi.2; have := hg.size; omega
  · exact (h.bel.grown hg (by omega) fun k hk => by have := (h.ow.lt k hk).1; have := h.bi.1; omega).setCell (Nat.le_refl _) _
theorem SyS.hd6 (h : SyS w0 wr n i bs cp f Bi v xs) (hi : i < n) (hg : wr.grownBy w' v.ownBlock) : w'.cell? ⟨w0.heap.size, i, none⟩ = some v ∧ w'.frozen? ⟨w0.heap.size, i, none⟩ = false := by
  have old : w'.heap[w0.heap.size]? = wr.heap[w0.heap.size]? := hg.block _ (by have := h.bi; omega) (fun e => by have := (h.ow.lt _ e.symm).1; have := h.bi.1; omega)
  exact ⟨(World.cell?_of_block (a := ⟨w0.heap.size, i, none⟩) old).trans (h.cu hi), (World.frozen?_of_block (a := ⟨w0.heap.size, i, none⟩) old).trans (h.fz i hi)⟩
/-- the row is done -/
theorem SyS.next (h : SyS w0 wr n i bs cp f Bi v xs) (hi : i < n) (hl : xs.length = n) (he : ∀ y, y < n → gi xs y = f i y) : ∃ bs' cp', SyS w0 wr n (i + 1) bs' cp' f wr.heap.size (.slice none 0 0) [] := by
  obtain ⟨g, c, e, g1, g2, -, -, g3, -⟩ := OR.ints h.ow (by omega)
  subst e
  have hx0 := h.cu hi
  refine ⟨up bs i g, up cp i c, fun x hx => ?_, fun x hx hn => h.h0 x (by omega) hn, fun hi2 => h.h0 _ (Nat.lt_succ_self _) hi2, h.fz, fun x y hx hy => ?_, fun x hx => ?_, OR.nil _ _, ⟨by have := h.bi; omega, Nat.le_refl _⟩, h.bel⟩
  · unfold up
    by_cases e : x = i
    · subst e; rw [if_pos rfl, if_pos rfl, ← hl]; exact hx0
    · rw [if_neg e, if_neg e]; exact h.hd x (by omega)
  · unfold up
    by_cases e : x = i
    · subst e; rw [if_pos rfl, ← he y hy]; exact g3 y (by omega)
    · rw [if_neg e]; exact h.en x y (by omega) hy
  · unfold up
    by_cases e : x = i
    · rw [if_pos e]; have := h.bi.1; omega
    · rw [if_neg e]; have := h.os x (by omega); have := h.bi.2; omega
theorem SyS.am (h : SyS w0 wr n n bs cp f Bi v xs) (hn : n ≤ maxLen) (hf : ∀ i j, i < n → j < n → -9223372036854775808 ≤ f i j ∧ f i j ≤ 9223372036854775807) : AM wr (some ⟨w0.heap.size, 0, none⟩) n (mkL n n f) := by
  refine ⟨fun _ => ⟨w0.heap.size, 0, rfl, Nat.lt_of_lt_of_le h.bi.1 h.bi.2, fun k hk => ?_⟩, mkL_len _ _ _, hn, fun i j hi hj => ?_⟩
  · rw [mkL_len] at hk
    rw [mkL_row hk]
    refine ⟨some ⟨bs k, 0, none⟩, cp k, by rw [Nat.zero_add]; simpa using h.hd k hk, fun _ => ⟨bs k, 0, rfl, by have := h.os k hk; have := h.bi.2; show bs k < _; omega, fun j hj => ?_⟩, by simpa using hn⟩
    have hj' : j < n := by simpa using hj
    rw [Nat.zero_add, h.en k j hk hj', gi_lt hj]
    simp
  · rw [mkL_rowL hi] at hj
    rw [mkL_eI hi hj]
    exact hf i j hi hj
end
/-- the error of Symmetrized; the sum -/
def syM (xss : List (List Int)) : List (List Int) := mkL xss.length xss.length fun i j => eI xss i j + eI xss j i
def syE (xss : List (List Int)) : Nat := if SqA xss then if SmC xss then if SmC (syM xss) then 0 else 9 else 9 else 1
def syL (xss : List (List Int)) : List (List Int) := if syE xss = 0 then syM xss else []
theorem syL_no {xss : List (List Int)} (h : syE xss ≠ 0) : syL xss = [] := by unfold syL; rw [if_neg h]
set_option maxHeartbeats 8000000 in
theorem symmetrized_any {w : World} {A : Option Addr} {n cap : Nat} {xss : List (List Int)} (h : AM w A n xss) (hn : n ≤ 1000000) :
    Calls Try.prog 22 #[.slice A n cap] w fun e w' => ∃ A' n' c', e = .returned (.tuple #[.slice A' n' c', .int .i64 (syE xss : Nat)]) ∧ AM w' A' n' (syL xss) ∧ Below w.heap.size w w' := by
  have HX := Lib.hid h
  have HN := Lib.hid h.ln
  have HSQ := Lib.hid (ssquare_any (cap := cap) h)
  have HSM := Lib.hid (ssmall_any (cap := cap) h)
  clear h
  go_enter Try.func22, Try.ntmps22
  go_wp2_with fail
  refine HSQ.out.mono ?_
  rintro e w1 ⟨rfl, rfl⟩
  by_cases hq : SqA xss
  · rw [decide_eq_true hq]
    go_wp2_with fail
    refine HSM.out.mono ?_
    rintro e w1 ⟨rfl, rfl⟩
    by_cases hs : SmC xss
    · rw [decide_eq_true hs]
      have HALL : Hid (∀ i, i < n → rowL xss i = n) := Lib.hid fun i hi => by have := hq i (by rw [HN.out]; exact hi); rw [HN.out] at this; exact this
      have HRG : Hid (∀ i j, i < n → j < n → -1125899906842624 ≤ eI xss i j ∧ eI xss i j ≤ 1125899906842624) := Lib.hid fun i j hi hj => hs i (by rw [HN.out]; exact hi) j (by rw [HALL.out i hi]; exact hj)
      have HE : Hid (syE xss = if SmC (syM xss) then 0 else 9) := Lib.hid (by unfold syE; rw [if_pos hq, if_pos hs])
      have hmk := make_introw n (by omega)
      have H0 := Lib.hid (SyS.start 33 w n fun i j => eI xss i j + eI xss j i)
      clear hq hs HSQ HSM
      go_wp2_with fail
      clear hmk
      go_loopw [18] (fun i' wr => ∃ (i : Nat) (bs cp : Nat → Nat) (Bi : Nat), i ≤ n ∧ i' = .int .i64 i ∧ Hid (SyS w wr n i bs cp (fun i j => eI xss i j + eI xss j i) Bi (.slice none 0 0) [])) (fun i _ => n - (intOf i).toNat)
      case atStart => exact ⟨0, _, _, _, Nat.zero_le _, rfl, H0⟩
      case round =>
        clear H0
        obtain ⟨i, bs, cp, Bi, hi, rfl, HU⟩ := hrel
        by_cases hlti : i < n
        · have HU0 : Hid (SyS w wr n i bs cp (fun i j => eI xss i j + eI xss j i) Bi (.slice none 0 0) ((List.range 0).map fun j => eI xss i j + eI xss j i)) := HU
          clear HU
          go_wp2_with fail
          go_loopw [23] (fun k' wq => ∃ (k : Nat) (v : Value), k ≤ n ∧ k' = .int .i64 k ∧ Hid (SyS w wq n i bs cp (fun i j => eI xss i j + eI xss j i) Bi v ((List.range k).map fun j => eI xss i j + eI xss j i))) (fun k _ => n - (intOf k).toNat)
          case atStart => exact ⟨0, _, Nat.zero_le _, rfl, HU0⟩
          case round =>
            clear HU0
            obtain ⟨k, v, hk, rfl, HU⟩ := hrel
            by_cases hltk : k < n
            · have HXr := Lib.hid (HX.out.call HU.out.bel)
              obtain ⟨b1, o1, Ai, ci, rfl, c1, hri⟩ := HXr.out.head hlti
              obtain ⟨b2, o2, Ak, ck, e2, c2, hrk⟩ := HXr.out.head hltk
              injection e2 with e2
              injection e2 with e2 e3 _
              subst e2 e3
              rw [HALL.out i hlti] at c1
              rw [HALL.out k hltk] at c2
              obtain ⟨b3, o3, rfl, hb3, hc3⟩ := hri.at_ (k := k) (by have := HALL.out i hlti; unfold rowL at this; omega)
              have c3 := hc3 k (by have := HALL.out i hlti; unfold rowL at this; omega)
              obtain ⟨b4, o4, rfl, hb4, hc4⟩ := hrk.at_ (k := i) (by have := HALL.out k hltk; unfold rowL at this; omega)
              have c4 := hc4 i (by have := HALL.out k hltk; unfold rowL at this; omega)
              have hb1 : b1 < wr.heap.size := World.block_lt_of_cell? _ _ c1
              obtain ⟨x, hx⟩ : ∃ x, gi (xss.getD i []) k = x := ⟨_, rfl⟩
              obtain ⟨y, hy⟩ : ∃ y, gi (xss.getD k []) i = y := ⟨_, rfl⟩
              have hxe : eI xss i k = x := hx
              have hye : eI xss k i = y := hy
              rw [hx] at c3
              rw [hy] at c4
              have r1 := HRG.out i k hlti hltk
              have r2 := HRG.out k i hltk hlti
              rw [hxe] at r1
              rw [hye] at r2
              have wxy : IntKind.i64.wrap (x + y) = x + y := by rw [IntKind.wrap_i64]; omega
              have c5 := HU.out.cu hlti
              have f5 := HU.out.fz i hlti
              have s5 : w.heap.size < wr.heap.size := Nat.lt_of_lt_of_le HU.out.bi.1 HU.out.bi.2
              obtain ⟨A5, k5, hv5, -, -, -⟩ := HU.out.ow.shape
              rw [List.length_map, List.length_range] at hv5
              subst hv5
              have HLN : Hid (((List.range k).map fun j => eI xss i j + eI xss j i).length < 1099511627776) := Lib.hid (by rw [List.length_map, List.length_range]; omega)
              have HXS : Hid (((List.range k).map fun j => eI xss i j + eI xss j i) ++ [x + y] = (List.range (k + 1)).map fun j => eI xss i j + eI xss j i) := Lib.hid (by rw [List.range_succ, List.map_append, ← hxe, ← hye]; rfl)
              obtain ⟨xs, hxs⟩ : ∃ xs, ((List.range k).map fun j => eI xss i j + eI xss j i) = xs := ⟨_, rfl⟩
              have HUd := Lib.hid (HU.out.call (Below.refl _ _).drew)
              rw [hxs] at HUd HLN HXS
              clear hx hy hxe hye r1 r2 hri hrk hc3 hc4 HXr hxs HU
              go_upto_region 12 with fail
              apply share
              case h =>
                intro key
                go_region_law ((refine step_app_row (w := wr.drew) int_info rfl (by decide) rfl HUd.out.ow HLN.out HUd.out.bi.2 rfl rfl Try.underlying33 rfl rfl ?_; intro v6 w6 ho6 hg6 hob6; obtain ⟨c6, f6⟩ := (HUd.out.call ((Below.refl _ _).alloc (Nat.le_refl _) _)).hd6 hlti hg6; have hp6 := Lib.hid ((HUd.out.call ((Below.refl _ _).alloc (Nat.le_refl _) _)).push hlti ho6 hg6); obtain ⟨A6, k6, hv6, -, -, -⟩ := ho6.shape; clear ho6 hg6 hob6; (generalize List.length _ = n6 at hv6); subst hv6))
                all_goals
                  rw [HXS.out] at hp6
                  generalize w6.setCell ⟨w.heap.size, i, none⟩ (.slice A6 n6 k6) = w7 at hp6 ⊢
                  clear c6 f6
                  clear w6
                  revert w7 A6 n6 k6
                  exact key
              case g =>
                intro w7 A6 n6 k6 hp6
                have HP6 := Lib.hid hp6
                clear hp6 c1 c2 c3 c4 c5 f5 s5 hb1 hb3 hb4 wxy HUd HXS HLN
                go_wp2_with fail
                go_roundw
                case rel => exact ⟨k + 1, _, by omega, by go_num, HP6.out⟩
                case measure => simp [intOf]; omega
            · obtain rfl : k = n := by omega
              obtain ⟨bs', cp', hnx⟩ := HU.out.next hlti (by simp) (fun y hy => by rw [gi_lt (by simpa using hy)]; simp)
              have HNX := Lib.hid hnx
              clear HU hnx
              go_wp2_with fail
              go_roundw
              case rel => exact ⟨i + 1, bs', cp', _, by omega, by go_num, HNX⟩
              case measure => simp [intOf]; omega
        · obtain rfl : i = n := by omega
          have ham := HU.out.am (by unfold maxLen; omega) fun a b ha hb => by
            have := HRG.out a b ha hb
            have := HRG.out b a hb ha
            omega
          have e0 : syM xss = mkL i i fun a b => eI xss a b + eI xss b a := by unfold syM; rw [HN.out]
          rw [← e0] at ham
          have HAM := Lib.hid ham
          have HBW := Lib.hid HU.out.bel
          have HSM := Lib.hid (ssmall_any (cap := i) ham)
          clear HU ham e0
          go_wp2_with fail
          refine HSM.out.mono ?_
          rintro e w1 ⟨rfl, rfl⟩
          by_cases hs : SmC (syM xss)
          · have HE0 : Hid (syE xss = 0) := Lib.hid (by rw [HE.out, if_pos hs])
            rw [decide_eq_true hs]
            go_wp2_with fail
            go_ret2
            exact ⟨_, _, _, by rw [HE0.out]; rfl, by unfold syL; rw [if_pos HE0.out]; exact HAM.out, HBW.out⟩
          · have HE0 : Hid (syE xss = 9) := Lib.hid (by rw [HE.out, if_neg hs])
            rw [decide_eq_false hs]
            go_wp2_with fail
            go_ret2
            exact ⟨_, _, _, by rw [HE0.out]; rfl, by rw [syL_no (by rw [HE0.out]; decide)]; exact AM.nil0 _, HBW.out⟩
    · have HE : Hid (syE xss = 9) := Lib.hid (by unfold syE; rw [if_pos hq, if_neg hs])
      rw [decide_eq_false hs]
      go_wp2_with fail
      go_ret2
      exact ⟨_, _, _, by rw [HE.out]; rfl, by rw [syL_no (by rw [HE.out]; decide)]; exact AM.nil0 _, Below.refl _ _⟩
  · have HE : Hid (syE xss = 1) := Lib.hid (by unfold syE; rw [if_neg hq])
    rw [decide_eq_false hq]
    go_wp2_with fail
    go_ret2
    exact ⟨_, _, _, by rw [HE.out]; rfl, by rw [syL_no (by rw [HE.out]; decide)]; exact AM.nil0 _, Below.refl _ _⟩
end Go.Proofs.Yteanhbldhaiekaa
