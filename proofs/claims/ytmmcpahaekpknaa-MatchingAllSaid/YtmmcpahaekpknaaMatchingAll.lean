/-
  The law MatchingAll, walked.
-/
import Derived.Test.YtmmcpahaekpknaaAwake
import Derived.Test.YtmmcpahaekpknaaRefAll
import Derived.Test.YtmmcpahaekpknaaRefCat
import Derived.Test.YtmmcpahaekpknaaArg
namespace Go.Proofs.Ytmmcpahaekpknaa
open Go.RowKit

theorem seg_cat : ∀ n, n < 10 → segF (n + 1) n = catN n := by decide +kernel
theorem allN_cat {n : Nat} (h : n < 10) : (allN n).length = catN n := by rw [all_count (n + 1) n (by omega)]; exact seg_cat n h

set_option maxHeartbeats 1000000 in
theorem matchingAll_out (n : Int) (w : World) (h : n < 0 ∨ 9 < n) :
    Calls Try.prog 4 #[.int .i64 n] w fun e w' => e = .returned (.bool true) ∧ Below w.heap.size w w' := by
  rcases h with h | h
  · go_enter Try.func4, Try.ntmps4
    go_wp2_with fail
    refine (awake_any _).mono ?_
    rintro e w1 ⟨rfl, hb1⟩
    go_wp2_with fail
    refine (all_range _ _ (by omega)).mono ?_
    rintro e w2 ⟨rfl, rfl⟩
    go_wp2_with fail
    go_ret
    exact ⟨rfl, hb1⟩
  · have h0 : ¬ n < 0 := by omega
    go_enter Try.func4, Try.ntmps4
    go_wp2_with fail
    refine (awake_any _).mono ?_
    rintro e w1 ⟨rfl, hb1⟩
    go_wp2_with fail
    all_goals
      refine (all_range _ _ (by omega)).mono ?_
      rintro e w2 ⟨rfl, rfl⟩
      go_wp2_with fail
      go_ret
      exact ⟨rfl, hb1⟩

set_option maxHeartbeats 2000000 in
theorem matchingAll_in (n : Nat) (w : World) (h : n ≤ 9) :
    Calls Try.prog 4 #[.int .i64 n] w fun e w' => e = .returned (.bool true) ∧ Below w.heap.size w w' := by
  have h0 : ¬ (n : Int) < 0 := by omega
  have h9 : ¬ (9 : Int) < n := by omega
  have hsm := allN_small (n := n) (by omega)
  have HCAT := Lib.hid (allN_cat (n := n) (by omega))
  have hmin : min (n : Int) 10 = n := by omega
  have HM := Lib.hid hmin
  clear hmin
  go_enter Try.func4, Try.ntmps4
  go_wp2_with fail
  refine (awake_any _).mono ?_
  rintro e w1 ⟨rfl, hb1⟩
  have hs1 := hb1.size
  go_wp2_with fail
  refine (all_ok n _ h (by omega)).mono ?_
  rintro e w2 ⟨v, rfl, hr2, hb2⟩
  obtain ⟨A, c, rfl, -, -, -⟩ := hr2.shape
  have hs2 := hb2.size
  have hbA := hb1.trans (hb2.mono hs1)
  have HR2 := Lib.hid hr2
  have hcl : ((allN n).length : Int) = (catN n : Int) := by rw [HCAT.out]
  have hne : (((allN n).length : Int) != (catN n : Int)) = false := by rw [bne_eq_false_iff_eq]; exact hcl
  clear hr2 hb2 hb1 hcl
  go_wp2_with fail
  refine (refcat_any n _ (by omega)).mono ?_
  rintro e w3 ⟨rfl, hb3⟩
  have hs3 := hb3.size
  have HR3 : Hid (RR 34 w3 w1.heap.size (fun _ => False) (.slice A (allN n).length c) (allN n)) := HR2.out.below hb3 (Nat.le_refl _)
  have hbB := hbA.trans (hb3.mono (by omega))
  clear HR2 hb3 hbA
  by_cases h7 : (7 : Int) < n
  · go_wp2_with fail
    go_ret
    exact ⟨rfl, hbB⟩
  · go_wp2_with fail
    refine (refall_any (n + 1) n _ (by omega) h).mono ?_
    rintro e w4 ⟨u, rfl, hr4, hb4⟩
    obtain ⟨A', c', rfl, -, -, -⟩ := hr4.shape
    have hs4 := hb4.size
    have HR4 := Lib.hid hr4
    have HR5 : Hid (RR 34 w4 w1.heap.size (fun _ => False) (.slice A (allN n).length c) (allN n)) := HR3.out.below hb4 (Nat.le_refl _)
    have hbC := hbB.trans (hb4.mono (by omega))
    clear HR3 hb4 hbB hr4 hne
    go_wp2_with fail
    go_loopw [6] (fun i wr => ∃ (k d : Nat), k ≤ (allN n).length ∧ i = .int .i64 k ∧ wr = w4.drewN d) (fun i _ => (allN n).length - (intOf i).toNat)
    case atStart => exact ⟨0, 0, Nat.zero_le _, rfl, rfl⟩
    case round =>
      obtain ⟨k, d, hk, rfl, hwr⟩ := hrel
      have HW := Lib.hid hwr
      have hbD : Below w.heap.size w wr := by rw [hwr]; exact below_drewN hbC d
      have HR6 : Hid (RR 34 wr w1.heap.size (fun _ => False) (.slice A (allN n).length c) (allN n)) := by rw [hwr]; exact HR5
      have HR7 : Hid (RR 22 wr w3.heap.size (fun _ => False) (.slice A' (allN n).length c') (allN n)) := by rw [hwr]; exact HR4
      clear hwr
      by_cases hkl : k < (allN n).length
      · obtain ⟨g, rfl, -, -, B, e, hcell, hri⟩ := HR6.out.at_slice hkl
        obtain ⟨g', rfl, -, -, B', e', hcell', hri'⟩ := HR7.out.at_slice hkl
        have i1 : (0 : Int) ≤ k ∧ (k : Int) < (allN n).length := by omega
        have hml := allN_len (getD_mem hkl)
        have hl48 : ((allN n).getD k []).length ≤ maxLen := by rw [hml]; unfold maxLen; omega
        have HRI := Lib.hid hri
        have HRI' := Lib.hid hri'
        have HL := Lib.hid hml
        clear hri hri' hml
        obtain ⟨x, hx⟩ : ∃ x, x = (allN n).getD k [] := ⟨_, rfl⟩
        rw [← hx] at hcell hcell' HRI HRI' HL hl48
        have HX := Lib.hid hx
        clear hx
        go_wp2_with fail
        go_quiet ((go_at_call 17; exact Calls.quiet_of (ints_is _ _ true (by exact HRI.out) (by exact HRI'.out) rfl rfl hl48 hl48 (by simp))))
        go_wp2_with fail
        go_roundw
        case rel => exact ⟨k + 1, _, by omega, by go_num, by rw [HW.out]; exact drewN2 _ _ _⟩
        case measure => simp [intOf]; omega
      · go_wp2_with fail
        go_ret
        exact ⟨rfl, hbD⟩

theorem matchingAll_walk (n : Int) (w : World) (_hw : (Lit.int .i64 n).wf = true) :
    Calls Try.prog 4 #[.int .i64 n] w fun e w' => e = .returned (.bool true) ∧ Below w.heap.size w w' := by
  by_cases h : n < 0 ∨ 9 < n
  · exact matchingAll_out n w h
  · obtain ⟨m, rfl⟩ := Int.eq_ofNat_of_zero_le (show 0 ≤ n by omega)
    exact matchingAll_in m w (by omega)
end Go.Proofs.Ytmmcpahaekpknaa
