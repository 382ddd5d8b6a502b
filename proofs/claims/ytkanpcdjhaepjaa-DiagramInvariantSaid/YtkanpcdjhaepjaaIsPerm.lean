/-
  The contracts of the reference's In and IsPerm.
-/
import Derived.Test.YtkanpcdjhaepjaaRenM
import Derived.Test.YtkanpcdjhaepjaaLawBase
namespace Go.Proofs.Ytkanpcdjhaepjaa
open Go.RowKit

theorem inK_less {xs : List Int} {x : Int} {k : Nat} (h : ¬ inK xs x k) (hk : gi xs k ≠ x) : ¬ inK xs x (k + 1) := by
  rintro ⟨i, hi, e⟩
  rcases Nat.lt_or_eq_of_le (Nat.le_of_lt_succ hi) with h1 | rfl
  · exact h ⟨i, h1, e⟩
  · exact hk e

set_option maxHeartbeats 1000000 in
theorem rin_no (A : Option Addr) (c : Nat) (xs : List Int) (x : Int) (w : World) (S : Nat → Prop) (hx : RI w S A xs) (hm : xs.length ≤ 1099511627776) (hno : ¬ inK xs x xs.length) :
    Calls Try.prog 56 #[.slice A xs.length c, .int .i64 x] w fun e w' => e = .returned (.bool false) ∧ w' = w := by
  have HX := Lib.hid hx
  have HNO := Lib.hid hno
  clear hx hno
  go_enter Try.func56, Try.ntmps56
  go_wp2_with fail
  go_loop [5] (fun i => ∃ k : Nat, k ≤ xs.length ∧ i = .int .i64 k) (fun i => xs.length - (intOf i).toNat)
  case atStart => exact ⟨0, Nat.zero_le _, rfl⟩
  case round =>
    obtain ⟨k, hk, rfl⟩ := hrel
    by_cases hlt : k < xs.length
    · obtain ⟨b, off, rfl, -, hc⟩ := HX.out.at_ hlt
      have k3 := hc k hlt
      obtain ⟨v, hv⟩ : ∃ v, gi xs k = v := ⟨_, rfl⟩
      rw [hv] at k3
      have q : (v == x) = false := by
        rw [beq_eq_false_iff_ne]
        intro e
        exact HNO.out ⟨k, hlt, hv.trans e⟩
      clear hc hv
      go_wp2_with fail
      go_round
      case rel => exact ⟨k + 1, by omega, by go_num⟩
      case measure => simp [intOf]; omega
    · go_wp2_with fail
      go_ret
      exact ⟨rfl, rfl⟩
set_option maxHeartbeats 1000000 in
theorem rin_yes (A : Option Addr) (c : Nat) (xs : List Int) (x : Int) (w : World) (S : Nat → Prop) (hx : RI w S A xs) (hm : xs.length ≤ 1099511627776) (hyes : inK xs x xs.length) :
    Calls Try.prog 56 #[.slice A xs.length c, .int .i64 x] w fun e w' => e = .returned (.bool true) ∧ w' = w := by
  have HX := Lib.hid hx
  have HY := Lib.hid hyes
  clear hx hyes
  go_enter Try.func56, Try.ntmps56
  go_wp2_with fail
  go_loop [5] (fun i => ∃ k : Nat, k ≤ xs.length ∧ i = .int .i64 k ∧ Hid (¬ inK xs x k)) (fun i => xs.length - (intOf i).toNat)
  case atStart => exact ⟨0, Nat.zero_le _, rfl, Lib.hid fun ⟨i, hi, _⟩ => by omega⟩
  case round =>
    obtain ⟨k, hk, rfl, HK⟩ := hrel
    have hlt : k < xs.length := by
      rcases Nat.lt_or_eq_of_le hk with h | h
      · exact h
      · exact absurd (h ▸ HY.out) HK.out
    obtain ⟨b, off, rfl, -, hc⟩ := HX.out.at_ hlt
    have k3 := hc k hlt
    obtain ⟨v, hv⟩ : ∃ v, gi xs k = v := ⟨_, rfl⟩
    rw [hv] at k3
    by_cases hvx : v = x
    · have q : (v == x) = true := by rw [beq_iff_eq]; exact hvx
      clear hc hv hvx
      go_wp2_with fail
      go_ret
      exact ⟨rfl, rfl⟩
    · have q : (v == x) = false := by rw [beq_eq_false_iff_ne]; exact hvx
      have HK' := Lib.hid (inK_less HK.out (by rw [hv]; exact hvx))
      clear hc hv hvx HK
      go_wp2_with fail
      go_round
      case rel => exact ⟨k + 1, by omega, by go_num, HK'⟩
      case measure => simp [intOf]; omega

set_option maxHeartbeats 1000000 in
theorem isperm_no (A : Option Addr) (c n : Nat) (xs : List Int) (w : World) (S : Nat → Prop) (hx : RI w S A xs) (hm : xs.length ≤ 1099511627776) (hno : ¬ PermI xs n) :
    Calls Try.prog 37 #[.slice A xs.length c, .int .i64 (n : Int)] w fun e w' => e = .returned (.bool false) ∧ w' = w := by
  have HX := Lib.hid hx
  by_cases hl : xs.length = n
  · subst hl
    have q0 : ((xs.length : Int) != (xs.length : Int)) = false := by simp
    have HNO := Lib.hid hno
    clear hx hno
    go_enter Try.func37, Try.ntmps37
    go_wp2_with fail
    go_loop [5] (fun i => ∃ k : Nat, k ≤ xs.length ∧ i = .int .i64 k ∧ Hid (∀ i : Nat, i < k → inK xs (i : Int) xs.length)) (fun i => xs.length - (intOf i).toNat)
    case atStart => exact ⟨0, Nat.zero_le _, rfl, Lib.hid fun i h => by omega⟩
    case round =>
      obtain ⟨k, hk, rfl, HK⟩ := hrel
      have hlt : k < xs.length := by
        rcases Nat.lt_or_eq_of_le hk with h | h
        · exact h
        · exact absurd (perm_of_all rfl (h ▸ HK.out)) HNO.out
      by_cases hin : inK xs (k : Int) xs.length
      · have HK' : Hid (∀ i : Nat, i < k + 1 → inK xs (i : Int) xs.length) := Lib.hid fun i hi => by
          rcases Nat.lt_or_eq_of_le (Nat.le_of_lt_succ hi) with h | rfl
          · exact HK.out i h
          · exact hin
        have HI := Lib.hid hin
        clear hin HK
        go_wp2_with fail
        refine (rin_yes A c xs _ _ S HX.out hm HI.out).mono ?_
        rintro e w1 ⟨rfl, rfl⟩
        go_wp2_with fail
        go_round
        case rel => exact ⟨k + 1, by omega, by go_num, HK'⟩
        case measure => simp [intOf]; omega
      · have HI := Lib.hid hin
        clear hin HK
        go_wp2_with fail
        refine (rin_no A c xs _ _ S HX.out hm HI.out).mono ?_
        rintro e w1 ⟨rfl, rfl⟩
        go_wp2_with fail
        go_ret
        exact ⟨rfl, rfl⟩
  · have q0 : ((xs.length : Int) != (n : Int)) = true := by rw [bne_iff_ne]; omega
    clear hx hno hl
    go_enter Try.func37, Try.ntmps37
    go_wp2_with fail
    go_ret
    exact ⟨rfl, rfl⟩
set_option maxHeartbeats 1000000 in
theorem isperm_yes (A : Option Addr) (c n : Nat) (xs : List Int) (w : World) (S : Nat → Prop) (hx : RI w S A xs) (hm : xs.length ≤ 1099511627776) (hP : PermI xs n) :
    Calls Try.prog 37 #[.slice A xs.length c, .int .i64 (n : Int)] w fun e w' => e = .returned (.bool true) ∧ w' = w := by
  have HX := Lib.hid hx
  obtain rfl := hP.1.symm
  have q0 : ((xs.length : Int) != (xs.length : Int)) = false := by simp
  have HP := Lib.hid hP
  clear hx hP
  go_enter Try.func37, Try.ntmps37
  go_wp2_with fail
  go_loop [5] (fun i => ∃ k : Nat, k ≤ xs.length ∧ i = .int .i64 k) (fun i => xs.length - (intOf i).toNat)
  case atStart => exact ⟨0, Nat.zero_le _, rfl⟩
  case round =>
    obtain ⟨k, hk, rfl⟩ := hrel
    by_cases hlt : k < xs.length
    · have HI := Lib.hid (all_of_perm HP.out hlt)
      go_wp2_with fail
      refine (rin_yes A c xs _ _ S HX.out hm HI.out).mono ?_
      rintro e w1 ⟨rfl, rfl⟩
      go_wp2_with fail
      go_round
      case rel => exact ⟨k + 1, by omega, by go_num⟩
      case measure => simp [intOf]; omega
    · go_wp2_with fail
      go_ret
      exact ⟨rfl, rfl⟩
end Go.Proofs.Ytkanpcdjhaepjaa
