/-
  The contracts of matching.Valid and of the reference's Valid: each tells whether the list is a valid matching.
-/
import Derived.Test.YtmmcpahaekpknaaMatM
namespace Go.Proofs.Ytmmcpahaekpknaa
open Go.RowKit

set_option maxHeartbeats 1000000 in
theorem valid_any (A : Option Addr) (c : Nat) (xs : List Int) (w : World) (S : Nat → Prop) (hx : RI w S A xs) (hS : ∀ b, S b → b < w.heap.size) (hm : xs.length ≤ maxLen) :
    Calls Try.prog 12 #[.slice A xs.length c] w fun e w' => e = .returned (.bool (decide (IsM xs))) ∧ Below w.heap.size w w' := by
  unfold maxLen at hm
  have hx := hx.imp (T := (· < w.heap.size)) hS
  clear hS
  by_cases h0 : xs.length % 2 = 0
  case neg =>
    have hI : decide (IsM xs) = false := by simp [IsM, h0]
    have H := Lib.hid hI
    clear hI hx
    have h1 : ((xs.length : Int) % 2 != 0) = true := by rw [bne_iff_ne]; omega
    clear h0
    go_enter Try.func12, Try.ntmps12
    go_wp2
    go_ret
    exact ⟨ret_bool H.out.symm, Below.refl _ _⟩
  case pos =>
  have h1 : ((xs.length : Int) % 2 != 0) = false := by rw [bne_eq_false_iff_eq]; omega
  by_cases h2 : xs.length ≤ 48
  case neg =>
    have hI : decide (IsM xs) = false := by simp [IsM, h2]
    have H := Lib.hid hI
    clear hI hx h0
    have h3 : (48 : Int) < xs.length := by omega
    clear h2
    go_enter Try.func12, Try.ntmps12
    go_wp2
    go_ret
    exact ⟨ret_bool H.out.symm, Below.refl _ _⟩
  case pos =>
  have H0 := Lib.hid h0
  clear h0
  have h3 : ¬ (48 : Int) < xs.length := by omega
  go_enter Try.func12, Try.ntmps12
  go_wp2
  go_loopw [19] (fun i wr => ∃ k : Nat, k ≤ xs.length ∧ i = .int .i64 k ∧ w = wr ∧ Hid (Inv xs k)) (fun i _ => xs.length - (intOf i).toNat)
  case atStart => exact ⟨0, Nat.zero_le _, rfl, rfl, by intro i hi; omega⟩
  case round =>
    obtain ⟨k, hk, rfl, rfl, HI⟩ := hrel
    by_cases hlt : k < xs.length
    · obtain ⟨b, off, rfl, hb, hc⟩ := hx.at_ hlt
      have c1 := hc k hlt
      by_cases g1 : gi xs k < 0
      · have hI : decide (IsM xs) = false := decide_eq_false (not_isM_inv hlt (.inl g1))
        have H := Lib.hid hI
        clear hI hc
        go_wp2
        go_ret
        exact ⟨ret_bool H.out.symm, Below.refl _ _⟩
      by_cases g2 : gi xs k < xs.length
      case neg =>
        have hI : decide (IsM xs) = false := decide_eq_false (not_isM_inv hlt (.inr (.inl (by omega))))
        have H := Lib.hid hI
        clear hI hc
        go_wp2
        go_ret
        exact ⟨ret_bool H.out.symm, Below.refl _ _⟩
      by_cases g3 : gi xs k = k
      · have hI : decide (IsM xs) = false := decide_eq_false (not_isM_inv hlt (.inr (.inr (.inl g3))))
        have g3' : (gi xs k == (k : Int)) = true := by rw [beq_iff_eq]; exact g3
        have H := Lib.hid hI
        clear hI hc g3
        go_wp2
        go_ret
        exact ⟨ret_bool H.out.symm, Below.refl _ _⟩
      have g3' : (gi xs k == (k : Int)) = false := by rw [beq_eq_false_iff_ne]; exact g3
      have c2 := hc (gi xs k).toNat (by omega)
      by_cases g4 : gi xs (gi xs k).toNat = k
      · have g4' : (gi xs (gi xs k).toNat != (k : Int)) = false := by rw [bne_eq_false_iff_eq]; exact g4
        have HI' := Lib.hid (inv_step HI.out (by omega) g2 g3 g4)
        clear hc g4 g3
        go_wp2
        go_roundw
        case rel => exact ⟨k + 1, by omega, by go_num, by trivial, HI'⟩
        case measure => simp [intOf]; omega
      · have g4' : (gi xs (gi xs k).toNat != (k : Int)) = true := by rw [bne_iff_ne]; exact g4
        have hI : decide (IsM xs) = false := decide_eq_false (not_isM_inv hlt (.inr (.inr (.inr g4))))
        have H := Lib.hid hI
        clear hI hc g4 g3
        go_wp2
        go_ret
        exact ⟨ret_bool H.out.symm, Below.refl _ _⟩
    · have hkl : k = xs.length := by omega
      have HI : Hid (Inv xs xs.length) := by rw [← hkl]; exact HI
      clear hkl
      go_wp2
      go_loopw [5, 48] (fun o i wr => ∃ (p : Nat) (st : List Nat), p ≤ xs.length ∧ i = .int .i64 p ∧ Hid (OI wr w.heap.size o (st.map Int.ofNat)) ∧ Hid (Stk xs p st) ∧ Hid (NCr xs p) ∧ Below w.heap.size w wr) (fun _ i _ => xs.length - (intOf i).toNat)
      case atStart => exact ⟨0, [], Nat.zero_le _, rfl, OR.nil _ _, stk_zero xs, by intro q hq; omega, Below.refl _ _⟩
      case round =>
        obtain ⟨p, st, hp, rfl, HO, HS, HN, hbel⟩ := hrel
        by_cases hlt : p < xs.length
        · obtain ⟨b, off, rfl, hb, hc⟩ := (hx.below hbel).at_ hlt
          have c1 := hc p hlt
          clear hc hx
          by_cases hgt : (p : Int) < gi xs p
          · have hlen := stk_len HS.out
            have hsz := hbel.size
            go_wp2_with (at_builtin; refine app1 HO.out (by rw [List.length_map]; omega) hsz rfl rfl Try.underlying22 rfl rfl ?_; intro v' w' ho hg hob)
            go_roundw
            case rel => exact ⟨p + 1, st ++ [p], by omega, by go_num, by rw [List.map_append]; exact ho, stk_push HI.out hlt HS.out hgt, ncr_push HN.out hgt, HO.out.grown_below hbel hsz _ hg⟩
            case measure => simp [intOf]; omega
          · have hmem := stk_mem HI.out hlt HS.out hgt
            obtain ⟨st', top, rfl⟩ : ∃ st' top, st = st' ++ [top] := by
              rcases List.eq_nil_or_concat st with rfl | ⟨st', top, h⟩
              · simp at hmem
              · exact ⟨st', top, by simpa using h⟩
            clear hmem
            have hlen := stk_len HS.out
            obtain ⟨g, cc, rfl, hBg, hgs, hlc, hcm, hcell, _⟩ := HO.out.ints (by simp)
            have hcell' := hcell st'.length (by simp)
            have e1 : gi (List.map Int.ofNat (st' ++ [top])) st'.length = top := by simp [gi]
            rw [e1] at hcell'
            simp only [List.length_map, List.length_append, List.length_singleton] at hlen hlc
            clear hcell e1
            have e2 : (List.map Int.ofNat (st' ++ [top])).length = st'.length + 1 := by simp
            rw [e2]
            go_wp2
            · have hne : (top : Int) ≠ gi xs p := by
                have h : ((top : Int) != gi xs p) = true := by assumption
                rwa [bne_iff_ne] at h
              have hI : decide (IsM xs) = false := decide_eq_false fun h => ncr_bad HI.out hlt HS.out (by omega) hne h.2.2.2
              go_ret
              exact ⟨ret_bool hI.symm, hbel⟩
            · have heq : (top : Int) = gi xs p := by
                have h : ((top : Int) != gi xs p) = false := by assumption
                rwa [bne_eq_false_iff_eq] at h
              go_roundw
              case rel =>
                refine ⟨p + 1, st', by omega, by go_num, ?_, stk_pop HI.out hlt HS.out (by omega) heq, ncr_pop HS.out HN.out heq, hbel⟩
                have := HO.out
                rw [List.map_append] at this
                have := this.pop
                rwa [List.length_map] at this
              case measure => simp [intOf]; omega
        · have hpl : p = xs.length := by omega
          have hI : decide (IsM xs) = true := decide_eq_true ⟨H0.out, h2, HI.out, by rw [← hpl]; exact HN.out⟩
          have H := Lib.hid hI
          clear hI hpl
          go_wp2
          go_ret
          exact ⟨ret_bool H.out.symm, hbel⟩

end Go.Proofs.Ytmmcpahaekpknaa
