/-
  The contract of the closure inside matching.Rank.
-/
import Derived.Test.YtmmcpahaekpknaaRankM
import Derived.Test.YtmmcpahaekpknaaValid
import Derived.Test.YtmmcpahaekpknaaRR
import Derived.Test.YtmmcpahaekpknaaAllE
namespace Go.Proofs.Ytmmcpahaekpknaa
open Go.RowKit

/-- the variables m and rank of Rank, and what they hold -/
structure RkSt (w : World) (bm be : Nat) (A : Option Addr) (xs : List Int) (c : Nat) : Prop where
  hm : w.heap[bm]? = some (.cells #[.slice A xs.length c] 34 (0, 0))
  he : w.heap[be]? = some (.cells #[.func (.func 32) #[] #[.pointer (some ⟨bm, 0, none⟩), .pointer (some ⟨be, 0, none⟩)]] 55 (0, 0))
  ro : RI w (fun _ => True) A xs

theorem catalan_at {a : Int} (n : Nat) (w : World) (hn : n ≤ 30) (ha : a = (n : Int)) :
    Calls Try.prog 27 #[.int .i64 a] w fun e w' => e = .returned (.int .i64 (catN n)) ∧ w' = w := by
  subst ha
  exact (catalan_any n w hn).mono fun e w' ⟨h, h'⟩ => ⟨h, h'.symm⟩

theorem RkSt.drewN {w : World} {bm be : Nat} {A : Option Addr} {xs : List Int} {c : Nat} (h : RkSt w bm be A xs c) (n : Nat) : RkSt (w.drewN n) bm be A xs c := ⟨h.hm, h.he, h.ro⟩

set_option maxHeartbeats 4000000 in
theorem rank1_any (bm be : Nat) (A : Option Addr) (xs : List Int) (c : Nat) : ∀ (f lo n : Nat) (a b : Int) (w : World), n < f → RkSt w bm be A xs c → a = lo → b = (lo : Int) + 2 * (n : Int) → lo + 2 * n ≤ xs.length → xs.length ≤ 48 → IsM (segL xs lo (2 * n)) →
    Calls Try.prog 32 #[.int .i64 a, .int .i64 b, .pointer (some ⟨bm, 0, none⟩), .pointer (some ⟨be, 0, none⟩)] w fun e w' => e = .returned (.int .i64 (rk (segL xs lo (2 * n)))) ∧ ∃ n, w' = w.drewN n := by
  intro f
  induction f with
  | zero => intro lo n a b w h; omega
  | succ f ih =>
    intro lo n a b w hf hS ha hb hl h48 hM
    subst ha hb
    have IH := Lib.hid ih
    clear ih
    by_cases h0 : n = 0
    · subst h0
      have hr := Lib.hid (rk_nil (xs := segL xs lo (2 * 0)) (segL_length _ _ _))
      go_enter Try.func32, Try.ntmps32
      go_wp2_with fail
      go_ret
      exact ⟨ret_int (by rw [hr.out]; rfl), 0, rfl⟩
    · have hb0 : ((lo : Int) == (lo : Int) + 2 * (n : Int)) = false := by rw [beq_eq_false_iff_ne]; omega
      have hpos : 0 < (segL xs lo (2 * n)).length := by rw [segL_length]; omega
      obtain ⟨k, hk, hk2⟩ := first_arc hM hpos
      rw [segL_length] at hk2
      have hkn : k + 1 ≤ n := by omega
      have hgk : gi xs lo = (lo : Int) + 2 * (k : Int) + 1 := by
        have h1 := (isM_gn hM hpos).2.2.2
        rw [hk, gi_segL (by omega), Nat.zero_add] at h1
        omega
      obtain ⟨b, off, rfl, -, hc⟩ := hS.ro.at_ (show lo < xs.length by omega)
      have c1 := hc lo (by omega)
      rw [hgk] at c1
      obtain ⟨b1, -, -⟩ := one_cell hS.hm
      obtain ⟨b2, -, -⟩ := one_cell hS.he
      have i1 : (0 : Int) ≤ lo ∧ (lo : Int) < xs.length := by omega
      have e1 : IntKind.i64.wrap ((lo : Int) + 2 * (n : Int) - (lo : Int)) = 2 * (n : Int) := by rw [IntWalk.i64_in _ (by omega)]; omega
      have e2 : IntKind.i64.wrap ((lo : Int) + 2 * (k : Int) + 1 - (lo : Int)) = 2 * (k : Int) + 1 := by rw [IntWalk.i64_in _ (by omega)]; omega
      have n24 : n ≤ 24 := by omega
      have k24 : k ≤ 24 := by omega
      have q1 : 2 * (n : Int) / 2 = n := by omega
      have q2 : 2 * (k : Int) / 2 = k := by omega
      have HGK := Lib.hid hgk
      have HC := Lib.hid hc
      have HSS := Lib.hid hS
      have HK := Lib.hid hk
      have HM := Lib.hid hM
      clear hc hgk hS hk hM
      go_enter Try.func32, Try.ntmps32
      go_wp2_with fail
      go_quiet (fail)
      clear e1 e2 q1 q2
      go_wp2_with fail
      have hcb := (cat_bounds (show n < 31 by omega)).2.1
      have hfull := conv_full n (by omega) (by omega)
      go_loopw [9, 10, 27] (fun bf _ j wr => ∃ (t d : Nat), t ≤ k ∧ j = .int .i64 t ∧ bf = .int .i64 (convC n t) ∧ wr = w.drewN d) (fun _ _ j _ => k - (intOf j).toNat)
      case atStart => exact ⟨0, nq, Nat.zero_le _, rfl, rfl, rfl⟩
      case round =>
        obtain ⟨t, d, ht, rfl, rfl, hwr⟩ := hrel
        by_cases hlt : t < k
        · have hn1 : (n : Int) - 1 - (t : Int) = ((n - 1 - t : Nat) : Int) := by omega
          subst hwr
          have hcl : convC n (t + 1) ≤ convC n n := conv_le (by omega)
          have hcs : convC n (t + 1) = convC n t + catN t * catN (n - 1 - t) := rfl
          have HN1 := Lib.hid hn1
          have p1 : (0 : Int) ≤ (catN t : Int) * (catN (n - 1 - t) : Int) := Int.mul_nonneg (by omega) (by omega)
          have p2 : (convC n (t + 1) : Int) = (convC n t : Int) + (catN t : Int) * (catN (n - 1 - t) : Int) := by rw [hcs]; simp
          have p3 : (convC n t : Int) + (catN t : Int) * (catN (n - 1 - t) : Int) ≤ 4611686018427387904 := by omega
          have P2 := Lib.hid p2
          clear hn1 hcs p2
          go_wp2_with fail
          refine (catalan_any t _ (by omega)).mono ?_
          rintro e w1 ⟨rfl, rfl⟩
          go_wp2_with fail
          rw [HN1.out]
          refine (catalan_any (n - 1 - t) _ (by omega)).mono ?_
          rintro e w1 ⟨rfl, rfl⟩
          go_wp2_with fail
          go_roundw
          case rel => exact ⟨t + 1, d, by omega, by go_num, by rw [P2.out], rfl⟩
          case measure => simp [intOf]; omega
        · have htk : t = k := by omega
          subst htk
          have HW := Lib.hid hwr
          have HSR : Hid (RkSt wr bm be (some ⟨b, off, none⟩) xs c) := by rw [hwr]; exact HSS.out.drewN d
          have b1' : wr.cell? ⟨bm, 0, none⟩ = some (.slice (some ⟨b, off, none⟩) xs.length c) := by rw [hwr]; exact b1
          have b2' : wr.cell? ⟨be, 0, none⟩ = some (.func (.func 32) #[] #[.pointer (some ⟨bm, 0, none⟩), .pointer (some ⟨be, 0, none⟩)]) := by rw [hwr]; exact b2
          have c1' : wr.cell? ⟨b, off + lo, none⟩ = some (.int .i64 ((lo : Int) + 2 * (t : Int) + 1)) := by rw [hwr]; exact c1
          obtain ⟨d1, d2, -⟩ := decomp HM.out hpos HK.out
          have hrk := rk_eq HM.out hpos HK.out
          have hlt2 := rk_lt _ _ HM.out (Nat.lt_succ_self _)
          have e2 : 2 * n - (2 * t + 2) = 2 * (n - 1 - t) := by omega
          have e3 : 2 * n / 2 = n := by omega
          have e4 : lo + (2 * t + 2) = lo + 2 * t + 2 := by omega
          rw [segL_length, e3] at hlt2
          rw [segL_length, e3, e2, segL_segL (by omega), segL_segL (by omega), e4] at hrk
          rw [segL_segL (by omega)] at d1
          rw [segL_length, e2, segL_segL (by omega), e4] at d2
          have hz : (rk (segL xs lo (2 * n)) : Int) = (convC n t : Int) + (rk (segL xs (lo + 1) (2 * t)) : Int) * (catN (n - 1 - t) : Int) + (rk (segL xs (lo + 2 * t + 2) (2 * (n - 1 - t))) : Int) := by rw [hrk]; simp
          have p1 : (0 : Int) ≤ (rk (segL xs (lo + 1) (2 * t)) : Int) * (catN (n - 1 - t) : Int) := Int.mul_nonneg (by omega) (by omega)
          have p3 : (convC n t : Int) + (rk (segL xs (lo + 1) (2 * t)) : Int) * (catN (n - 1 - t) : Int) ≤ 4611686018427387904 := by omega
          have p4 : (convC n t : Int) + (rk (segL xs (lo + 1) (2 * t)) : Int) * (catN (n - 1 - t) : Int) + (rk (segL xs (lo + 2 * t + 2) (2 * (n - 1 - t))) : Int) ≤ 4611686018427387904 := by omega
          have HZ := Lib.hid hz
          have D1 := Lib.hid d1
          have D2 := Lib.hid d2
          clear hz hrk hlt2 e2 e3 e4 d1 d2 hwr b1 b2 c1
          go_wp2_with fail
          go_quiet (first
            | (go_at_call 27; exact Calls.quiet_of_same (catalan_at (n - 1 - t) _ (by omega) (by omega)))
            | (go_at_call 32; exact Calls.quiet_of (IH.out (lo + 1) t _ _ _ (by omega) (by exact HSR.out.drewN _) (by omega) (by omega) (by omega) h48 D1.out))
            | (go_at_call 32; exact Calls.quiet_of (IH.out (lo + 2 * t + 2) (n - 1 - t) _ _ _ (by omega) (by exact HSR.out.drewN _) (by omega) (by omega) (by omega) h48 D2.out)))
          go_wp2_with fail
          go_ret
          exact ⟨ret_int HZ.out.symm, _, by rw [HW.out]; exact drewN2 _ _ _⟩

end Go.Proofs.Ytmmcpahaekpknaa
