/-
  The contract of the reference's Valid: it tells whether the list is a valid matching.
-/
import Derived.Test.YtmmcpahaekpknaaMatM
namespace Go.Proofs.Ytmmcpahaekpknaa
open Go.RowKit

theorem refnc_step {xs : List Int} {i j : Nat} (h : RefNC xs i) (hj : gi xs i ≤ j) (hin : ∀ j', i < j' → j' < j → gi xs j' ≤ gi xs i ∧ (i : Int) ≤ gi xs j') : RefNC xs (i + 1) := by
  intro q hq j' h1 h2
  rcases Nat.lt_or_eq_of_le (Nat.le_of_lt_succ hq) with h5 | rfl
  · exact h q h5 j' h1 h2
  · exact hin j' h1 (by omega)

set_option maxHeartbeats 1000000 in
theorem refvalid_any (A : Option Addr) (c : Nat) (xs : List Int) (w : World) (S : Nat → Prop) (hx : RI w S A xs) (hm : xs.length ≤ maxLen) :
    Calls Try.prog 13 #[.slice A xs.length c] w fun e w' => e = .returned (.bool (decide (IsM xs))) ∧ ∃ n, w' = w.drewN n := by
  unfold maxLen at hm
  by_cases h0 : xs.length % 2 = 0
  case neg =>
    have hI : decide (IsM xs) = false := by simp [IsM, h0]
    have H := Lib.hid hI
    clear hI hx
    have h1 : ((xs.length : Int) % 2 != 0) = true := by rw [bne_iff_ne]; omega
    clear h0
    go_enter Try.func13, Try.ntmps13
    go_wp2
    go_ret
    exact ⟨ret_bool H.out.symm, 0, rfl⟩
  case pos =>
  have h1 : ((xs.length : Int) % 2 != 0) = false := by rw [bne_eq_false_iff_eq]; omega
  by_cases h2 : xs.length ≤ 48
  case neg =>
    have hI : decide (IsM xs) = false := by simp [IsM, h2]
    have H := Lib.hid hI
    clear hI hx h0
    have h3 : (48 : Int) < xs.length := by omega
    clear h2
    go_enter Try.func13, Try.ntmps13
    go_wp2
    go_ret
    exact ⟨ret_bool H.out.symm, 0, rfl⟩
  case pos =>
  have H0 := Lib.hid h0
  clear h0
  have h3 : ¬ (48 : Int) < xs.length := by omega
  go_enter Try.func13, Try.ntmps13
  go_wp2
  go_loopw [4] (fun i wr => ∃ k : Nat, k ≤ xs.length ∧ i = .int .i64 k ∧ w = wr ∧ Hid (Inv xs k)) (fun i _ => xs.length - (intOf i).toNat)
  case atStart => exact ⟨0, Nat.zero_le _, rfl, rfl, by intro i hi; omega⟩
  case round =>
    obtain ⟨k, hk, rfl, rfl, HI⟩ := hrel
    by_cases hlt : k < xs.length
    · obtain ⟨b, off, rfl, hb, hc⟩ := hx.at_ hlt
      have c1 := hc k hlt
      by_cases g1 : gi xs k < 0
      · have hI : decide (IsM xs) = false := decide_eq_false (not_isM_inv hlt (.inl g1))
        have H := Lib.hid hI
        clear hI hc
        go_wp2
        go_ret
        exact ⟨ret_bool H.out.symm, 0, rfl⟩
      by_cases g2 : gi xs k < xs.length
      case neg =>
        have hI : decide (IsM xs) = false := decide_eq_false (not_isM_inv hlt (.inr (.inl (by omega))))
        have H := Lib.hid hI
        clear hI hc
        go_wp2
        go_ret
        exact ⟨ret_bool H.out.symm, 0, rfl⟩
      by_cases g3 : gi xs k = k
      · have hI : decide (IsM xs) = false := decide_eq_false (not_isM_inv hlt (.inr (.inr (.inl g3))))
        have g3' : (gi xs k == (k : Int)) = true := by rw [beq_iff_eq]; exact g3
        have H := Lib.hid hI
        clear hI hc g3
        go_wp2
        go_ret
        exact ⟨ret_bool H.out.symm, 0, rfl⟩
      have g3' : (gi xs k == (k : Int)) = false := by rw [beq_eq_false_iff_ne]; exact g3
      have c2 := hc (gi xs k).toNat (by omega)
      by_cases g4 : gi xs (gi xs k).toNat = k
      · have g4' : (gi xs (gi xs k).toNat != (k : Int)) = false := by rw [bne_eq_false_iff_eq]; exact g4
        have HI' := Lib.hid (inv_step HI.out (by omega) g2 g3 g4)
        clear hc g4 g3
        go_wp2
        go_roundw
        case rel => exact ⟨k + 1, by omega, by go_num, by trivial, HI'⟩
        case measure => simp [intOf]; omega
      · have g4' : (gi xs (gi xs k).toNat != (k : Int)) = true := by rw [bne_iff_ne]; exact g4
        have hI : decide (IsM xs) = false := decide_eq_false (not_isM_inv hlt (.inr (.inr (.inr g4))))
        have H := Lib.hid hI
        clear hI hc g4 g3
        go_wp2
        go_ret
        exact ⟨ret_bool H.out.symm, 0, rfl⟩
    · have hkl : k = xs.length := by omega
      have HI : Hid (Inv xs xs.length) := by rw [← hkl]; exact HI
      clear hkl
      go_wp2
      go_loopw [5] (fun i wr => ∃ p n : Nat, p ≤ xs.length ∧ i = .int .i64 p ∧ wr = w.drewN n ∧ Hid (RefNC xs p)) (fun i _ => xs.length - (intOf i).toNat)
      case atStart => exact ⟨0, 0, Nat.zero_le _, rfl, rfl, by intro q hq; omega⟩
      case round =>
        obtain ⟨p, n, hp, rfl, rfl, HN⟩ := hrel
        by_cases hlt : p < xs.length
        · obtain ⟨b, off, rfl, hb, hc⟩ := hx.at_ hlt
          have c1 := hc p hlt
          have HC := Lib.hid hc
          clear hc
          have hup := (HI.out p hlt).2.1
          go_wp2
          go_loopw [6] (fun j wr => ∃ q n : Nat, q ≤ xs.length ∧ p < q ∧ j = .int .i64 q ∧ wr = w.drewN n ∧ Hid (∀ j', p < j' → j' < q → gi xs j' ≤ gi xs p ∧ (p : Int) ≤ gi xs j')) (fun j _ => xs.length - (intOf j).toNat)
          case atStart => exact ⟨p + 1, n, by omega, by omega, by go_num, rfl, by intro j h1 h2; omega⟩
          case round =>
            obtain ⟨q, n', hq, hpq, rfl, rfl, HQ⟩ := hrel
            by_cases hjl : (q : Int) < gi xs p
            · have hql : q < xs.length := by omega
              have c2 := HC.out q hql
              by_cases g1 : gi xs p < gi xs q
              · have g1' : decide (gi xs p < gi xs q) = true := by simp [g1]
                have hI : decide (IsM xs) = false := decide_eq_false fun h => by have := (refnc_of HI.out h.2.2.2 p hlt q hpq hjl).1; omega
                have H := Lib.hid hI
                clear hI
                go_wp2
                go_quiet (fail)
                go_wp2
                go_ret
                exact ⟨ret_bool H.out.symm, _, drewN2 _ _ _⟩
              · have g1' : decide (gi xs p < gi xs q) = false := by simp; omega
                by_cases g2 : gi xs q < p
                · have hI : decide (IsM xs) = false := decide_eq_false fun h => by have := (refnc_of HI.out h.2.2.2 p hlt q hpq hjl).2; omega
                  have H := Lib.hid hI
                  clear hI
                  go_wp2
                  go_quiet (fail)
                  go_wp2
                  go_ret
                  exact ⟨ret_bool H.out.symm, _, drewN2 _ _ _⟩
                · have HQ' : Hid (∀ j', p < j' → j' < q + 1 → gi xs j' ≤ gi xs p ∧ (p : Int) ≤ gi xs j') := by
                    intro j' h1 h2
                    rcases Nat.lt_or_eq_of_le (Nat.le_of_lt_succ h2) with h5 | rfl
                    · exact HQ.out j' h1 h5
                    · omega
                  go_wp2
                  go_quiet (fail)
                  go_wp2
                  go_roundw
                  case rel => exact ⟨q + 1, _, by omega, by omega, by go_num, rfl, HQ'⟩
                  case measure => simp [intOf]; omega
            · have HR := Lib.hid (refnc_step HN.out (by omega) HQ.out)
              go_wp2
              go_roundw
              case rel => exact ⟨p + 1, _, by omega, by go_num, rfl, HR⟩
              case measure => simp [intOf]; omega
        · have hpl : p = xs.length := by omega
          have hI : decide (IsM xs) = true := decide_eq_true ⟨H0.out, h2, HI.out, ncr_of_ref HI.out (by rw [← hpl]; exact HN.out)⟩
          have H := Lib.hid hI
          clear hI hpl
          go_wp2
          go_ret
          exact ⟨ret_bool H.out.symm, _, rfl⟩

end Go.Proofs.Ytmmcpahaekpknaa
