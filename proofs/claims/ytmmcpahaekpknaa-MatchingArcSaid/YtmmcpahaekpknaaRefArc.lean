/-
  The contract of the reference's Arc.
-/
import Derived.Test.YtmmcpahaekpknaaArcT
import Derived.Test.YtmmcpahaekpknaaAwake
namespace Go.Proofs.Ytmmcpahaekpknaa
open Go.RowKit

def cnt (p i : Nat) : Nat := if i ≤ p then i else i + 2

theorem arcL_mid {xs : List Int} {p : Nat} (hp : p ≤ xs.length) : (arcL xs p).take p ++ [(p : Int) + 1, (p : Int)] = (arcL xs p).take (p + 2) := by
  have hl := arcL_length xs p
  have e1 := gi_arcL (xs := xs) (p := p) (i := p) (by omega)
  have e2 := gi_arcL (xs := xs) (p := p) (i := p + 1) (by omega)
  rw [if_pos rfl] at e1
  rw [if_neg (by omega), if_pos rfl] at e2
  rw [show p + 2 = (p + 1) + 1 from rfl, List.take_succ_eq_append_getElem (by omega), List.take_succ_eq_append_getElem (by omega), ← gi_lt (by omega), ← gi_lt (by omega), e1, e2]
  simp

theorem arcL_next {xs : List Int} {p i : Nat} (hp : p ≤ xs.length) (hi : i < xs.length) : (arcL xs p).take (emb p i) ++ [shA p (gi xs i)] = (arcL xs p).take (emb p i + 1) := by
  have hl := arcL_length xs p
  have he : emb p i < (arcL xs p).length := by rw [hl]; unfold emb; split <;> omega
  rw [List.take_succ_eq_append_getElem he, ← gi_lt he, gi_arcL_emb hp hi]

theorem cnt_emb {p i : Nat} (h : i ≠ p) : cnt p i = emb p i := by unfold cnt emb; split <;> split <;> omega
theorem cnt_next (p i : Nat) : cnt p (i + 1) = emb p i + 1 := by unfold cnt emb; split <;> split <;> omega
theorem emb_at (p : Nat) : emb p p = p + 2 := by unfold emb; rw [if_neg (by omega)]
theorem cnt_at (p : Nat) : cnt p p = p := by unfold cnt; rw [if_pos (Nat.le_refl _)]
theorem arcL_done {xs : List Int} {p k : Nat} (h : xs.length + 2 ≤ k) : (arcL xs p).take k = arcL xs p := List.take_of_length_le (by rw [arcL_length]; exact h)

set_option maxHeartbeats 4000000 in
theorem refarc_ok (A : Option Addr) (c : Nat) (xs : List Int) (p : Nat) (w : World) (hx : RI w (· < w.heap.size) A xs) (h : IsM xs) (hp : p ≤ xs.length) :
    Calls Try.prog 22 #[.slice A xs.length c, .int .i64 p] w fun e w' => ∃ v, e = .returned v ∧ OI w' w.heap.size v (arcL xs p) ∧ Below w.heap.size w w' := by
  have h48 : xs.length ≤ 48 := h.2.1
  have H1 := Lib.hid h
  clear h
  go_enter Try.func22, Try.ntmps22
  go_wp2_with fail
  go_loopw [5, 6] (fun v i wr => ∃ (k : Nat), k ≤ xs.length + 1 ∧ i = .int .i64 k ∧ Hid (OI wr w.heap.size v ((arcL xs p).take (cnt p k))) ∧ Below w.heap.size w wr) (fun _ i _ => xs.length + 1 - (intOf i).toNat)
  case atStart => exact ⟨0, by omega, rfl, by rw [show cnt p 0 = 0 from if_pos (Nat.zero_le _), List.take_zero]; exact OR.nil _ _, Below.refl _ _⟩
  case round =>
    obtain ⟨k, hk, rfl, HO, hbel⟩ := hrel
    have hsz := hbel.size
    by_cases hle : k ≤ xs.length
    · have hol : ((arcL xs p).take (cnt p k)).length ≤ 50 := by rw [List.length_take, arcL_length]; omega
      by_cases hip : k = p
      · subst hip
        have e5 : ((k : Int) == (k : Int)) = true := by rw [beq_iff_eq]
        rw [cnt_at] at HO hol
        have HMID := Lib.hid (arcL_mid hp)
        by_cases hlt : k < xs.length
        · obtain ⟨x1, x2, -, -⟩ := H1.out.2.2.1 k hlt
          have HN := Lib.hid (arcL_next hp hlt)
          have HC := Lib.hid (cnt_next k k)
          have HE := Lib.hid (emb_at k)
          have hol1 : ((arcL xs k).take (emb k k)).length ≤ 50 := by rw [List.length_take, arcL_length]; omega
          obtain ⟨b, off, rfl, hb', hcx0⟩ := hx.at_ hlt
          have hcx : ∀ {w' : World}, Below w.heap.size w w' → w'.cell? ⟨b, off + k, none⟩ = some (.int .i64 (gi xs k)) := fun h => (World.cell?_of_block (a := ⟨b, off + k, none⟩) (h.block b hb')).trans (hcx0 k hlt)
          clear hcx0
          by_cases hge : (k : Int) ≤ gi xs k
          · have HS := Lib.hid (show shA k (gi xs k) = gi xs k + 2 from if_pos hge)
            go_wp2_with (first
              | (at_builtin; refine appN (s := .tmp 16) (xs := (arcL xs k).take k) (ys := [(k : Int) + 1, (k : Int)]) (HO.out.alloc _) (lit_RI wr [(k : Int) + 1, (k : Int)] (fun _ => True) trivial _ rfl) (by simp; omega) (by simp; omega) rfl rfl Try.underlying22 rfl rfl ?_
                 intro v1 w1 ho1 hg1 hob1
                 have hbel1 := HO.out.grown_below hbel hsz _ hg1
                 have hsz1 := hbel1.size
                 rw [HMID.out, ← HE.out] at ho1
                 have HO1 := Lib.hid ho1
                 have c5 := (hcx (w' := w1) hbel1)
                 clear hg1 hob1 ho1)
              | (at_builtin; refine app1 HO1.out (by omega) hsz1 rfl rfl Try.underlying22 rfl rfl ?_; intro v' w' ho hg hob))
            go_roundw
            case rel => exact ⟨k + 1, by omega, by go_num, by rw [HC.out, ← HN.out, HS.out]; exact ho, HO1.out.grown_below hbel1 hsz1 _ hg⟩
            case measure => simp [intOf]; omega
          · have HS := Lib.hid (show shA k (gi xs k) = gi xs k from if_neg hge)
            go_wp2_with (first
              | (at_builtin; refine appN (s := .tmp 16) (xs := (arcL xs k).take k) (ys := [(k : Int) + 1, (k : Int)]) (HO.out.alloc _) (lit_RI wr [(k : Int) + 1, (k : Int)] (fun _ => True) trivial _ rfl) (by simp; omega) (by simp; omega) rfl rfl Try.underlying22 rfl rfl ?_
                 intro v1 w1 ho1 hg1 hob1
                 have hbel1 := HO.out.grown_below hbel hsz _ hg1
                 have hsz1 := hbel1.size
                 rw [HMID.out, ← HE.out] at ho1
                 have HO1 := Lib.hid ho1
                 have c5 := (hcx (w' := w1) hbel1)
                 clear hg1 hob1 ho1)
              | (at_builtin; refine app1 HO1.out (by omega) hsz1 rfl rfl Try.underlying22 rfl rfl ?_; intro v' w' ho hg hob))
            go_roundw
            case rel => exact ⟨k + 1, by omega, by go_num, by rw [HC.out, ← HN.out, HS.out]; exact ho, HO1.out.grown_below hbel1 hsz1 _ hg⟩
            case measure => simp [intOf]; omega
        · have HE := Lib.hid (show (arcL xs k).take (k + 2) = (arcL xs k).take (cnt k (k + 1)) by rw [arcL_done (by omega), arcL_done (by rw [cnt_next, emb_at]; omega)])
          go_wp2_with (at_builtin; refine appN (xs := (arcL xs k).take k) (ys := [(k : Int) + 1, (k : Int)]) (HO.out.alloc _) (lit_RI wr [(k : Int) + 1, (k : Int)] (fun _ => True) trivial _ rfl) (by simp; omega) (by simp; omega) rfl rfl Try.underlying22 rfl rfl ?_; intro v1 w1 ho1 hg1 hob1)
          go_roundw
          case rel => exact ⟨k + 1, by omega, by go_num, by rw [← HE.out, ← HMID.out]; exact ho1, HO.out.grown_below hbel hsz _ hg1⟩
          case measure => simp [intOf]; omega
      · have e5 : ((k : Int) == (p : Int)) = false := by rw [beq_eq_false_iff_ne]; omega
        rw [cnt_emb hip] at HO hol
        by_cases hlt : k < xs.length
        · obtain ⟨b, off, rfl, -, hcx⟩ := (hx.below hbel).at_ hlt
          have c5 := hcx k hlt
          obtain ⟨x1, x2, -, -⟩ := H1.out.2.2.1 k hlt
          have HN := Lib.hid (arcL_next hp hlt)
          have HC := Lib.hid (cnt_next p k)
          clear hcx hip
          by_cases hge : (p : Int) ≤ gi xs k
          · have HS := Lib.hid (show shA p (gi xs k) = gi xs k + 2 from if_pos hge)
            go_wp2_with (at_builtin; refine app1 HO.out (by omega) hsz rfl rfl Try.underlying22 rfl rfl ?_; intro v' w' ho hg hob)
            go_roundw
            case rel => exact ⟨k + 1, by omega, by go_num, by rw [HC.out, ← HN.out, HS.out]; exact ho, HO.out.grown_below hbel hsz _ hg⟩
            case measure => simp [intOf]; omega
          · have HS := Lib.hid (show shA p (gi xs k) = gi xs k from if_neg hge)
            go_wp2_with (at_builtin; refine app1 HO.out (by omega) hsz rfl rfl Try.underlying22 rfl rfl ?_; intro v' w' ho hg hob)
            go_roundw
            case rel => exact ⟨k + 1, by omega, by go_num, by rw [HC.out, ← HN.out, HS.out]; exact ho, HO.out.grown_below hbel hsz _ hg⟩
            case measure => simp [intOf]; omega
        · have HO' : Hid (OI wr w.heap.size u5 ((arcL xs p).take (cnt p (k + 1)))) := by
            have := HO.out
            have e : xs.length + 2 ≤ emb p k := by unfold emb; rw [if_neg (by omega)]; omega
            rw [arcL_done e] at this
            rw [cnt_next, arcL_done (by omega)]
            exact this
          clear HO
          go_wp2_with fail
          go_roundw
          case rel => exact ⟨k + 1, by omega, by go_num, HO', hbel⟩
          case measure => simp [intOf]; omega
    · have HO' : Hid (OI wr w.heap.size u5 (arcL xs p)) := by
        have := HO.out
        rw [arcL_done (by unfold cnt; rw [if_neg (by omega)]; omega)] at this
        exact this
      go_wp2_with fail
      go_ret
      exact ⟨_, rfl, HO'.out, hbel⟩
end Go.Proofs.Ytmmcpahaekpknaa
