/-
  The law MatchingAt, walked: the call returns true and writes nothing that was there.
-/
import Derived.Test.YtmmcpahaekpknaaAwake
import Derived.Test.YtmmcpahaekpknaaRefCat
import Derived.Test.YtmmcpahaekpknaaRankF
import Derived.Test.YtmmcpahaekpknaaAt
namespace Go.Proofs.Ytmmcpahaekpknaa
open Go.RowKit

theorem lex_ne {xs ys : List Int} (h : LexLt xs ys) (hl : xs.length = ys.length) : xs ≠ ys := by
  obtain ⟨i, _, _, h3⟩ := h
  intro e
  subst e
  omega

set_option maxHeartbeats 1000000 in
theorem matchingAt_no (a b : Int) (w : World) (h : a < 0 ∨ 24 < a ∨ b < 0 ∨ (catN a.toNat : Int) ≤ b) :
    Calls Try.prog 10 #[.int .i64 a, .int .i64 b] w fun e w' => e = .returned (.bool true) ∧ Below w.heap.size w w' := by
  have H := Lib.hid h
  by_cases h1 : a < 0
  · clear h
    go_enter Try.func10, Try.ntmps10
    go_wp2_with fail
    refine (awake_any _).mono ?_
    rintro e w1 ⟨rfl, hb1⟩
    go_wp2_with fail
    refine (at_no a b _ H.out).mono ?_
    rintro e w2 ⟨rfl, rfl⟩
    go_wp2_with fail
    go_ret
    exact ⟨rfl, hb1⟩
  by_cases h2 : 24 < a
  · clear h
    go_enter Try.func10, Try.ntmps10
    go_wp2_with fail
    refine (awake_any _).mono ?_
    rintro e w1 ⟨rfl, hb1⟩
    go_wp2_with fail
    refine (at_no a b _ H.out).mono ?_
    rintro e w2 ⟨rfl, rfl⟩
    go_wp2_with fail
    go_ret
    exact ⟨rfl, hb1⟩
  by_cases h3 : b < 0
  · clear h
    go_enter Try.func10, Try.ntmps10
    go_wp2_with fail
    refine (awake_any _).mono ?_
    rintro e w1 ⟨rfl, hb1⟩
    go_wp2_with fail
    refine (at_no a b _ H.out).mono ?_
    rintro e w2 ⟨rfl, rfl⟩
    go_wp2_with fail
    go_ret
    exact ⟨rfl, hb1⟩
  obtain ⟨n, rfl⟩ : ∃ n : Nat, a = n := ⟨a.toNat, by omega⟩
  have h4 : (catN n : Int) ≤ b := by simpa using (show (catN (n : Int).toNat : Int) ≤ b by omega)
  have H4 := Lib.hid h4
  clear h
  go_enter Try.func10, Try.ntmps10
  go_wp2_with fail
  refine (awake_any _).mono ?_
  rintro e w1 ⟨rfl, hb1⟩
  have hs1 := hb1.size
  go_wp2_with fail
  refine (at_no n b _ H.out).mono ?_
  rintro e w2 ⟨rfl, rfl⟩
  go_wp2_with fail
  refine (refcat_any n _ (by omega)).mono ?_
  rintro e w3 ⟨rfl, hb3⟩
  have hb13 := hb1.trans (hb3.mono hs1)
  clear hb3 hb1
  go_wp2_with fail
  go_ret
  exact ⟨rfl, hb13⟩

set_option maxRecDepth 100000 in
set_option maxHeartbeats 2000000 in
theorem matchingAt_yes (n r : Nat) (w : World) (hn : n ≤ 24) (hr : r < catN n) :
    Calls Try.prog 10 #[.int .i64 n, .int .i64 r] w fun e w' => e = .returned (.bool true) ∧ Below w.heap.size w w' := by
  have hcb := cat_pos hn
  have H := Lib.hid hr
  obtain ⟨hM, hrk⟩ := unr_spec (n + 1) n r (by omega) hn hr
  have hul := unr_len (n + 1) n r (by omega) (by omega) hr
  have HM := Lib.hid hM
  have HRK := Lib.hid hrk
  have HUL := Lib.hid hul
  have g1 : (r : Int) < (catN n : Int) := by omega
  have g2 : ¬ (catN n : Int) ≤ (r : Int) := by omega
  have g3 : (r : Int) ≤ 4611686018427387904 := by omega
  clear hM hrk hul hr
  obtain ⟨xs, hxs⟩ : ∃ xs, unr n r = xs := ⟨_, rfl⟩
  rw [hxs] at HM HRK HUL
  have HX := Lib.hid hxs
  clear hxs
  go_enter Try.func10, Try.ntmps10
  go_wp2_with fail
  refine (awake_any _).mono ?_
  rintro e w1 ⟨rfl, hb1⟩
  have hs1 := hb1.size
  go_wp2_with fail
  refine (at_ok n r _ _ _ rfl rfl hn H.out).mono ?_
  rintro e w2 ⟨v, rfl, ho, hb2⟩
  rw [HX.out] at ho
  have hb12 := hb1.trans (hb2.mono hs1)
  have hs2 := hb12.size
  obtain ⟨Av, cv, rfl, -, -, hr0⟩ := ho.reads
  have hml := Lib.hid ho.len
  have hri : RI w2 (· < w2.heap.size) Av xs := hr0.imp fun b hb => hb.2
  have HR := Lib.hid hri
  clear ho hb2 hb1 hri hr0
  go_wp2_with fail
  refine (refcat_any n _ (by omega)).mono ?_
  rintro e w3 ⟨rfl, hb3⟩
  have hb13 := hb12.trans (hb3.mono hs2)
  have hs3 := hb13.size
  have HR3 : Hid (RI w3 (· < w3.heap.size) Av xs) := (HR.out.below hb3).imp fun b hb => by have := hb3.size; omega
  clear HR hb3 hb12
  go_wp2_with fail
  refine (rank_ok Av cv xs _ HR3.out HM.out).mono ?_
  rintro e w4 ⟨he, hb4⟩
  rw [HRK.out] at he
  subst he
  have hb14 := hb13.trans (hb4.mono hs3)
  have hs4 := hb14.size
  have HR4 : Hid (RI w4 (· < w4.heap.size) Av xs) := (HR3.out.below hb4).imp fun b hb => by have := hb4.size; omega
  clear HR3 hb4 hb13
  go_wp2_with fail
  refine (valid_yes (· < w4.heap.size) HR4.out (fun _ h => h) HM.out).mono ?_
  rintro e w5 ⟨rfl, hb5⟩
  have hb15 := hb14.trans (hb5.mono hs4)
  have hs5 := hb15.size
  have HR5 : Hid (RI w5 (· < w5.heap.size) Av xs) := (HR4.out.below hb5).imp fun b hb => by have := hb5.size; omega
  clear HR4 hb5 hb14
  have hl2 : ((xs.length : Int) != 2 * (n : Int)) = false := by rw [bne_eq_false_iff_eq]; have := HUL.out; omega
  have hbr : ((r : Int) != (r : Int)) = false := by simp
  by_cases hlast : r + 1 = catN n
  · have hout : (catN (n : Int).toNat : Int) ≤ (r : Int) + 1 := by
      have : (n : Int).toNat = n := by omega
      rw [this]; omega
    have HO := Lib.hid hout
    have hlast' : (((r : Int) + 1) == (catN n : Int)) = true := by rw [beq_iff_eq]; omega
    clear hout hlast
    go_wp2_with fail
    refine (at_no n ((r : Int) + 1) _ (.inr (.inr (.inr HO.out)))).mono ?_
    rintro e w6 ⟨rfl, rfl⟩
    go_wp2_with fail
    refine (refcat_any n _ (by omega)).mono ?_
    rintro e w7 ⟨rfl, hb7⟩
    have hb17 := hb15.trans (hb7.mono hs5)
    go_wp2_with fail
    go_ret
    exact ⟨rfl, hb17⟩
  · have hr1 : r + 1 < catN n := by have := H.out; omega
    have hlex := unr_asc (n + 1) n r (r + 1) (by omega) hn (by omega) hr1
    have hul' := unr_len (n + 1) n (r + 1) (by omega) (by omega) hr1
    obtain ⟨ys, hys⟩ : ∃ ys, unr n (r + 1) = ys := ⟨_, rfl⟩
    rw [hys] at hul' hlex
    rw [HX.out] at hlex
    have HY := Lib.hid hys
    have HL := Lib.hid hlex
    have HUL' := Lib.hid hul'
    have HR1 := Lib.hid hr1
    clear hys hlex hul' hr1 hlast
    go_wp2_with fail
    refine (at_ok n (r + 1) _ _ _ rfl (by omega) hn HR1.out).mono ?_
    rintro e w6 ⟨v, rfl, ho, hb6⟩
    rw [HY.out] at ho
    have hb16 := hb15.trans (hb6.mono hs5)
    have hs6 := hb16.size
    obtain ⟨Ay, cy, rfl, -, -, hr0⟩ := ho.reads
    have hmy := Lib.hid ho.len
    have HRY : Hid (RI w6 (· < w6.heap.size) Ay ys) := hr0.imp fun b hb => hb.2
    have HR6 : Hid (RI w6 (· < w6.heap.size) Av xs) := (HR5.out.below hb6).imp fun b hb => by have := hb6.size; omega
    have hll : ys.length = xs.length := by rw [HUL.out, HUL'.out]
    have hl3 : ys.length ≤ xs.length := by omega
    have hl4 : xs.length ≤ ys.length := by omega
    clear ho hb6 hb15 hr0 HR5 hll
    go_wp2_with fail
    obtain ⟨i, hi1, hi2, hi3⟩ := HL.out
    have HI2 := Lib.hid hi2
    clear hi2
    clear hl2 hbr g1 g2
    have hsz : xs.length ≤ 48 := by have := HUL.out; omega
    go_loopw [11] (fun s wr => ∃ k d : Nat, k ≤ i ∧ s = .int .i64 k ∧ wr = w6.drewN d) (fun s _ => i + 1 - (intOf s).toNat)
    case atStart => exact ⟨0, 0, Nat.zero_le _, rfl, rfl⟩
    case round =>
      obtain ⟨k, d, hk, rfl, hwr⟩ := hrel
      have HW := Lib.hid hwr
      have hlx : k < xs.length := by omega
      have hly : k < ys.length := by omega
      obtain ⟨b, off, rfl, -, hc⟩ := HR6.out.at_ hlx
      obtain ⟨b', off', rfl, -, hc'⟩ := HRY.out.at_ hly
      have c1 : wr.cell? ⟨b, off + k, none⟩ = some (.int .i64 (gi xs k)) := by rw [hwr]; exact hc k hlx
      have c2 : wr.cell? ⟨b', off' + k, none⟩ = some (.int .i64 (gi ys k)) := by rw [hwr]; exact hc' k hly
      have e1 : (0:Int) ≤ k ∧ (k:Int) < xs.length := by omega
      have e2 : (0:Int) ≤ k ∧ (k:Int) < ys.length := by omega
      clear hc hc' hwr
      by_cases hne : k = i
      · subst hne
        have e3 : (gi xs k != gi ys k) = true := by rw [bne_iff_ne]; omega
        go_wp2
        go_quiet (fail)
        go_wp2
        go_quiet (fail)
        go_wp2
        go_ret
        exact ⟨rfl, by rw [HW.out]; exact below_drewN (below_drewN (below_drewN hb16 _) _) _⟩
      · have e3 : (gi xs k != gi ys k) = false := by rw [bne_eq_false_iff_eq]; exact HI2.out k (by omega)
        clear hi3
        go_wp2
        go_quiet (fail)
        go_wp2
        go_roundw
        case rel => exact ⟨k + 1, _, by omega, by go_num, by rw [HW.out]; exact drewN2 _ _ _⟩
        case measure => simp [intOf]; omega

theorem matchingAt_walk (a b : Int) (w : World) (_ha : (Lit.int .i64 a).wf = true) (_hb : (Lit.int .i64 b).wf = true) :
    Calls Try.prog 10 #[.int .i64 a, .int .i64 b] w fun e w' => e = .returned (.bool true) ∧ Below w.heap.size w w' := by
  by_cases h : a < 0 ∨ 24 < a ∨ b < 0 ∨ (catN a.toNat : Int) ≤ b
  · exact matchingAt_no a b w h
  · obtain ⟨n, rfl⟩ : ∃ n : Nat, a = n := ⟨a.toNat, by omega⟩
    obtain ⟨r, rfl⟩ : ∃ r : Nat, b = r := ⟨b.toNat, by omega⟩
    have e : (n : Int).toNat = n := by omega
    rw [e] at h
    exact matchingAt_yes n r w (by omega) (by omega)
end Go.Proofs.Ytmmcpahaekpknaa
