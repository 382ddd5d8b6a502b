/-
  The law DiagramTurns, walked: the call returns true and writes nothing that was there.
-/
import Derived.Test.YtkanpcdjhaepjaaLawBase
namespace Go.Proofs.Ytkanpcdjhaepjaa
open Go.RowKit

/-- the half-edge behind i turns, where the number is negative -/
def NegX (h x : Int) (i : Nat) : Prop := x < 0 ∧ (0 < i → x = -1) ∧ (i = 0 → x = h)

theorem turn_round (h k : Nat) : turnN h (4 * k) = h := by unfold turnN; omega

section
variable (A1 A2 : Option Addr) (c1 c2 : Nat) (sg mt : List Int) (L : Int) (w : World) (hd : DArg w A1 A2 sg mt L)
include hd

set_option maxHeartbeats 2000000 in
theorem turns_great (h b : Int) (hg : (70 < sg.length ∨ 300 < mt.length) ∨ 1099511627776 < h) :
    Calls Try.prog 3 #[.agg #[.slice A1 sg.length c1, .slice A2 mt.length c2, .int .i64 L], .int .i64 h, .int .i64 b] w fun e w' => e = .returned (.bool true) ∧ Below w.heap.size w w' := by
  have HD := Lib.hid (DBox.start (c1 := c1) (c2 := c2) (L := L) (· < w.heap.size) hd.rs hd.rm (fun _ h => h))
  clear hd
  by_cases hgr : 70 < sg.length ∨ 300 < mt.length
  · have HG := Lib.hid hgr
    clear hg hgr
    go_enter Try.func3, Try.ntmps3
    go_wp2_with fail
    refine (awake_any _).mono ?_
    rintro e w1 ⟨rfl, hb1⟩
    have HD1 := Lib.hid (HD.out.below hb1)
    have k0 := HD1.out.c0
    have k1 := HD1.out.c1
    have k2 := HD1.out.c2
    have HB1 := Lib.hid (below_box (o := .cells #[.slice A1 sg.length c1, .slice A2 mt.length c2, .int .i64 L] 24) (by simpa using hb1))
    clear hb1
    go_wp2_with fail
    refine (great_yes A1 A2 c1 c2 sg mt L w1 HG.out).mono ?_
    rintro e w2 ⟨rfl, hb2⟩
    have HB2 := Lib.hid (HB1.out.trans (hb2.mono HB1.out.size))
    clear hb2 k0 k1 k2
    go_wp2_with fail
    go_ret
    exact ⟨rfl, HB2.out⟩
  · have hh : 1099511627776 < h := hg.resolve_left hgr
    have hg1 : ¬ 70 < sg.length := by omega
    have hg2 : ¬ 300 < mt.length := by omega
    have HG1 := Lib.hid hg1
    have HG2 := Lib.hid hg2
    clear hg hgr hg1 hg2
    go_enter Try.func3, Try.ntmps3
    go_wp2_with fail
    refine (awake_any _).mono ?_
    rintro e w1 ⟨rfl, hb1⟩
    have HD1 := Lib.hid (HD.out.below hb1)
    have k0 := HD1.out.c0
    have k1 := HD1.out.c1
    have k2 := HD1.out.c2
    have HB1 := Lib.hid (below_box (o := .cells #[.slice A1 sg.length c1, .slice A2 mt.length c2, .int .i64 L] 24) (by simpa using hb1))
    clear hb1
    go_wp2_with fail
    refine (great_no A1 A2 c1 c2 sg mt L w1 HG1.out HG2.out).mono ?_
    rintro e w2 ⟨rfl, hb2⟩
    have HB2 := Lib.hid (HB1.out.trans (hb2.mono HB1.out.size))
    clear hb2 k0 k1 k2
    go_wp2_with fail
    go_ret
    exact ⟨rfl, HB2.out⟩

set_option maxHeartbeats 4000000 in
theorem turns_neg (h b : Int) (hg1 : ¬ 70 < sg.length) (hg2 : ¬ 300 < mt.length) (hh : h < 0) :
    Calls Try.prog 3 #[.agg #[.slice A1 sg.length c1, .slice A2 mt.length c2, .int .i64 L], .int .i64 h, .int .i64 b] w fun e w' => e = .returned (.bool true) ∧ Below w.heap.size w w' := by
  have HD := Lib.hid (DBox.start (c1 := c1) (c2 := c2) (L := L) (· < w.heap.size) hd.rs hd.rm (fun _ h => h))
  have HL1 := Lib.hid hd.ls
  have HL2 := Lib.hid hd.lm
  have hh2 : ¬ (1099511627776 : Int) < h := by omega
  have HG1 := Lib.hid hg1
  have HG2 := Lib.hid hg2
  obtain ⟨r, hr⟩ : ∃ r, decide (IsD sg mt L) = r := ⟨_, rfl⟩
  have HR := Lib.hid hr
  have hmax : max h (-1) = -1 := by omega
  have HMAX := Lib.hid hmax
  clear hd hr hg1 hg2 hmax
  go_enter Try.func3, Try.ntmps3
  go_wp2_with fail
  refine (awake_any _).mono ?_
  rintro e w1 ⟨rfl, hb1⟩
  have HD1 := Lib.hid (HD.out.below hb1)
  have k0 := HD1.out.c0
  have k1 := HD1.out.c1
  have k2 := HD1.out.c2
  have HB1 := Lib.hid (below_box (o := .cells #[.slice A1 sg.length c1, .slice A2 mt.length c2, .int .i64 L] 24) (by simpa using hb1))
  clear hb1
  go_wp2_with fail
  refine (great_no A1 A2 c1 c2 sg mt L w1 HG1.out HG2.out).mono ?_
  rintro e w2 ⟨rfl, hb2⟩
  have HB2 := Lib.hid (HB1.out.trans (hb2.mono HB1.out.size))
  have HD2 := Lib.hid (HD1.out.below hb2)
  clear hb2 k0 k1 k2 HD HD1 HB1
  have k0 := HD2.out.c0
  have k1 := HD2.out.c1
  have k2 := HD2.out.c2
  go_wp2_with fail
  refine (rvalid_is (· < w2.heap.size) r HD2.out.rs HD2.out.rm (fun _ h => h) HL1.out HL2.out HR.out).mono ?_
  rintro e w3 ⟨rfl, hb3⟩
  have HB3 := Lib.hid (HB2.out.trans (hb3.mono HB2.out.size))
  have HD3 := Lib.hid (HD2.out.below hb3)
  clear hb3 k0 k1 k2 HD2 HB2
  have k0 := HD3.out.c0
  have k1 := HD3.out.c1
  have k2 := HD3.out.c2
  cases r
  all_goals
    go_wp2_with fail
    refine (turn_neg h b _ hh).mono ?_
    rintro e w' ⟨rfl, rfl⟩
    go_wp2_with fail
    refine (rturn_neg h b _ hh).mono ?_
    rintro e w' ⟨rfl, rfl⟩
    go_wp2_with fail
    refine (opp_neg h _ hh).mono ?_
    rintro e w' ⟨rfl, rfl⟩
    go_wp2_with fail
    refine (rturn_neg h 2 _ hh).mono ?_
    rintro e w' ⟨rfl, rfl⟩
    go_wp2_with fail
    refine (dout_no A1 A2 c1 c2 sg mt L w3 (· < w3.heap.size) HD3.out.rs HD3.out.rm (fun _ h => h) h HL1.out HL2.out (.inl hh)).mono ?_
    rintro e w4 ⟨rfl, hb4⟩
    have HB4 := Lib.hid (HB3.out.trans (hb4.mono HB3.out.size))
    clear hb4 k0 k1 k2
    go_wp2_with fail
    go_loop [8, 59] (fun s i => ∃ (x : Int) (k : Nat), k ≤ 4 ∧ i = .int .i64 k ∧ s = .int .i64 x ∧ Hid (NegX h x k)) (fun _ i => 4 - (intOf i).toNat)
    case atStart => exact ⟨h, 0, by omega, rfl, rfl, hh, by omega, fun _ => rfl⟩
    case round =>
      obtain ⟨x, k, hk, rfl, rfl, HX⟩ := hrel
      by_cases hlt : k < 4
      · have hx := HX.out.1
        go_wp2_with fail
        refine (turn_neg x b _ hx).mono ?_
        rintro e w' ⟨rfl, rfl⟩
        go_wp2_with fail
        go_round
        case rel => exact ⟨-1, k + 1, by omega, by go_num, rfl, by omega, fun _ => rfl, by omega⟩
        case measure => simp [intOf]; omega
      · have hx : x = -1 := HX.out.2.1 (by omega)
        subst hx
        obtain rfl : k = 4 := by omega
        by_cases h1 : h = -1
        · subst h1
          go_wp2_with fail
          go_ret
          exact ⟨rfl, HB4.out⟩
        · have h2 : h < -1 := by omega
          clear h1
          go_wp2_with fail
          go_ret
          exact ⟨rfl, HB4.out⟩
set_option maxHeartbeats 4000000 in
theorem turns_in (h : Nat) (b : Int) (hg1 : ¬ 70 < sg.length) (hg2 : ¬ 300 < mt.length) (hh : h ≤ 1099511627776) (hlim : ∀ g, g / 4 = h / 4 → g ≤ 1099511627779) (hlt0 : h < mt.length) (hI : IsD sg mt L) :
    Calls Try.prog 3 #[.agg #[.slice A1 sg.length c1, .slice A2 mt.length c2, .int .i64 L], .int .i64 h, .int .i64 b] w fun e w' => e = .returned (.bool true) ∧ Below w.heap.size w w' := by
  have HD := Lib.hid (DBox.start (c1 := c1) (c2 := c2) (L := L) (· < w.heap.size) hd.rs hd.rm (fun _ h => h))
  have HL1 := Lib.hid hd.ls
  have HL2 := Lib.hid hd.lm
  have HG1 := Lib.hid hg1
  have HG2 := Lib.hid hg2
  have hh3 : (h : Int) ≤ 1099511627776 := by omega
  obtain ⟨k, hk⟩ : ∃ k, (b % 4).toNat = k := ⟨_, rfl⟩
  have HK := Lib.hid hk
  have HR := Lib.hid (decide_eq_true hI)
  have HI := Lib.hid hI
  have HLT := Lib.hid hlt0
  have hlt1 : (h : Int) < mt.length := by omega
  obtain ⟨x, hx⟩ : ∃ x, outB sg h = x := ⟨_, rfl⟩
  have HX := Lib.hid hx
  clear hd hg1 hg2 hk hI hlt0 hx
  go_enter Try.func3, Try.ntmps3
  go_wp2_with fail
  refine (awake_any _).mono ?_
  rintro e w1 ⟨rfl, hb1⟩
  have HD1 := Lib.hid (HD.out.below hb1)
  have k0 := HD1.out.c0
  have k1 := HD1.out.c1
  have k2 := HD1.out.c2
  have HB1 := Lib.hid (below_box (o := .cells #[.slice A1 sg.length c1, .slice A2 mt.length c2, .int .i64 L] 24) (by simpa using hb1))
  clear hb1
  go_wp2_with fail
  refine (great_no A1 A2 c1 c2 sg mt L w1 HG1.out HG2.out).mono ?_
  rintro e w2 ⟨rfl, hb2⟩
  have HB2 := Lib.hid (HB1.out.trans (hb2.mono HB1.out.size))
  have HD2 := Lib.hid (HD1.out.below hb2)
  clear hb2 k0 k1 k2 HD HD1 HB1
  have k0 := HD2.out.c0
  have k1 := HD2.out.c1
  have k2 := HD2.out.c2
  go_wp2_with fail
  refine (rvalid_is (· < w2.heap.size) true HD2.out.rs HD2.out.rm (fun _ h => h) HL1.out HL2.out HR.out).mono ?_
  rintro e w3 ⟨rfl, hb3⟩
  have HB3 := Lib.hid (HB2.out.trans (hb3.mono HB2.out.size))
  have HD3 := Lib.hid (HD2.out.below hb3)
  clear hb3 k0 k1 k2 HD2 HB2
  have k0 := HD3.out.c0
  have k1 := HD3.out.c1
  have k2 := HD3.out.c2
  cases x
  all_goals
    go_wp2_with fail
    refine (turn_at h k _ rfl hh HK.out).mono ?_
    rintro e w' ⟨rfl, rfl⟩
    go_wp2_with fail
    refine (rturn_at h k _ rfl hh HK.out).mono ?_
    rintro e w' ⟨rfl, rfl⟩
    go_wp2_with fail
    refine (opp_any h _ rfl hh).mono ?_
    rintro e w' ⟨rfl, rfl⟩
    go_wp2_with fail
    refine (rturn_at h 2 _ rfl hh (by decide)).mono ?_
    rintro e w' ⟨rfl, rfl⟩
    go_wp2_with fail
    refine (dout_yes A1 A2 c1 c2 sg mt L w3 (· < w3.heap.size) HD3.out.rs HD3.out.rm (fun _ h => h) h HLT.out HI.out).mono ?_
    rintro e w4 ⟨he, hb4⟩
    rw [HX.out] at he
    subst he
    have HB4 := Lib.hid (HB3.out.trans (hb4.mono HB3.out.size))
    have HD4 := Lib.hid (HD3.out.below hb4)
    have m0 := HD4.out.c0
    clear hb4 k0 k1 k2
    go_wp2_with fail
    refine (rout_is (c := c1) (h := h) (· < w4.heap.size) _ HD4.out.rs (by have := HI.out.1; omega) rfl (by have := HI.out.2.1; have := HLT.out; omega) HX.out).mono ?_
    rintro e w' ⟨rfl, rfl⟩
    go_wp2_with fail
    go_loop [8, 59] (fun s i => ∃ j : Nat, j ≤ 4 ∧ i = .int .i64 j ∧ s = .int .i64 (turnN h (j * k))) (fun _ i => 4 - (intOf i).toNat)
    case atStart => exact ⟨0, by omega, rfl, by rw [Nat.zero_mul, turnN_zero]⟩
    case round =>
      obtain ⟨j, hj, rfl, rfl⟩ := hrel
      by_cases hlt : j < 4
      · have htn : turnN h (j * k) ≤ 1099511627779 := by unfold turnN; omega
        obtain ⟨g, hg⟩ : ∃ g, turnN h (j * k) = g := ⟨_, rfl⟩
        have HG := Lib.hid hg
        have hgd : g / 4 = h / 4 := by rw [← hg]; exact turnN_div h _
        have hgb : g ≤ 1099511627779 := hlim g hgd
        have HGB := Lib.hid hgb
        rw [hg]
        clear hg htn hgd hgb
        go_wp2_with fail
        refine (turn_wide g k _ rfl HGB.out HK.out).mono ?_
        rintro e w' ⟨rfl, rfl⟩
        go_wp2_with fail
        go_round
        case rel => exact ⟨j + 1, by omega, by go_num, by rw [← HG.out, turnN_add, Nat.succ_mul]⟩
        case measure => simp [intOf]; omega
      · obtain rfl : j = 4 := by omega
        rw [turn_round]
        clear hlt
        go_wp2_with fail
        go_ret
        exact ⟨rfl, HB4.out⟩

set_option maxHeartbeats 4000000 in
theorem turns_out (h : Nat) (b : Int) (hg1 : ¬ 70 < sg.length) (hg2 : ¬ 300 < mt.length) (hh : h ≤ 1099511627776) (hlim : ∀ g, g / 4 = h / 4 → g ≤ 1099511627779) (r : Bool) (hr : decide (IsD sg mt L) = r) (hno : mt.length ≤ h ∨ r = false) :
    Calls Try.prog 3 #[.agg #[.slice A1 sg.length c1, .slice A2 mt.length c2, .int .i64 L], .int .i64 h, .int .i64 b] w fun e w' => e = .returned (.bool true) ∧ Below w.heap.size w w' := by
  have HD := Lib.hid (DBox.start (c1 := c1) (c2 := c2) (L := L) (· < w.heap.size) hd.rs hd.rm (fun _ h => h))
  have HL1 := Lib.hid hd.ls
  have HL2 := Lib.hid hd.lm
  have HG1 := Lib.hid hg1
  have HG2 := Lib.hid hg2
  have hh3 : (h : Int) ≤ 1099511627776 := by omega
  obtain ⟨k, hk⟩ : ∃ k, (b % 4).toNat = k := ⟨_, rfl⟩
  have HK := Lib.hid hk
  have HR := Lib.hid hr
  have HNO : Hid ((h : Int) < 0 ∨ (mt.length : Int) ≤ h ∨ ¬ IsD sg mt L) := by
    rcases hno with h1 | h1
    · exact .inr (.inl (by omega))
    · refine .inr (.inr fun hi => ?_)
      rw [decide_eq_true hi, h1] at hr
      cases hr
  clear hd hg1 hg2 hk hr
  go_enter Try.func3, Try.ntmps3
  go_wp2_with fail
  refine (awake_any _).mono ?_
  rintro e w1 ⟨rfl, hb1⟩
  have HD1 := Lib.hid (HD.out.below hb1)
  have k0 := HD1.out.c0
  have k1 := HD1.out.c1
  have k2 := HD1.out.c2
  have HB1 := Lib.hid (below_box (o := .cells #[.slice A1 sg.length c1, .slice A2 mt.length c2, .int .i64 L] 24) (by simpa using hb1))
  clear hb1
  go_wp2_with fail
  refine (great_no A1 A2 c1 c2 sg mt L w1 HG1.out HG2.out).mono ?_
  rintro e w2 ⟨rfl, hb2⟩
  have HB2 := Lib.hid (HB1.out.trans (hb2.mono HB1.out.size))
  have HD2 := Lib.hid (HD1.out.below hb2)
  clear hb2 k0 k1 k2 HD HD1 HB1
  have k0 := HD2.out.c0
  have k1 := HD2.out.c1
  have k2 := HD2.out.c2
  go_wp2_with fail
  refine (rvalid_is (· < w2.heap.size) r HD2.out.rs HD2.out.rm (fun _ h => h) HL1.out HL2.out HR.out).mono ?_
  rintro e w3 ⟨rfl, hb3⟩
  have HB3 := Lib.hid (HB2.out.trans (hb3.mono HB2.out.size))
  have HD3 := Lib.hid (HD2.out.below hb3)
  clear hb3 k0 k1 k2 HD2 HB2
  have k0 := HD3.out.c0
  have k1 := HD3.out.c1
  have k2 := HD3.out.c2
  rcases Bool.eq_false_or_eq_true r with hr1 | hr1
  case' inl =>
    have hlen : ¬ (h : Int) < mt.length := by
      rcases hno with h1 | h1
      · omega
      · rw [h1] at hr1; cases hr1
  all_goals
    subst hr1
    clear hno
    go_wp2_with fail
    refine (turn_at h k _ rfl hh HK.out).mono ?_
    rintro e w' ⟨rfl, rfl⟩
    go_wp2_with fail
    refine (rturn_at h k _ rfl hh HK.out).mono ?_
    rintro e w' ⟨rfl, rfl⟩
    go_wp2_with fail
    refine (opp_any h _ rfl hh).mono ?_
    rintro e w' ⟨rfl, rfl⟩
    go_wp2_with fail
    refine (rturn_at h 2 _ rfl hh (by decide)).mono ?_
    rintro e w' ⟨rfl, rfl⟩
    go_wp2_with fail
    refine (dout_no A1 A2 c1 c2 sg mt L w3 (· < w3.heap.size) HD3.out.rs HD3.out.rm (fun _ h => h) h HL1.out HL2.out HNO.out).mono ?_
    rintro e w4 ⟨rfl, hb4⟩
    have HB4 := Lib.hid (HB3.out.trans (hb4.mono HB3.out.size))
    clear hb4 k0 k1 k2
    go_wp2_with fail
    go_loop [8, 59] (fun s i => ∃ j : Nat, j ≤ 4 ∧ i = .int .i64 j ∧ s = .int .i64 (turnN h (j * k))) (fun _ i => 4 - (intOf i).toNat)
    case atStart => exact ⟨0, by omega, rfl, by rw [Nat.zero_mul, turnN_zero]⟩
    case round =>
      obtain ⟨j, hj, rfl, rfl⟩ := hrel
      by_cases hlt : j < 4
      · have htn : turnN h (j * k) ≤ 1099511627779 := by unfold turnN; omega
        obtain ⟨g, hg⟩ : ∃ g, turnN h (j * k) = g := ⟨_, rfl⟩
        have HG := Lib.hid hg
        have hgd : g / 4 = h / 4 := by rw [← hg]; exact turnN_div h _
        have hgb : g ≤ 1099511627779 := hlim g hgd
        have HGB := Lib.hid hgb
        rw [hg]
        clear hg htn hgd hgb
        go_wp2_with fail
        refine (turn_wide g k _ rfl HGB.out HK.out).mono ?_
        rintro e w' ⟨rfl, rfl⟩
        go_wp2_with fail
        go_round
        case rel => exact ⟨j + 1, by omega, by go_num, by rw [← HG.out, turnN_add, Nat.succ_mul]⟩
        case measure => simp [intOf]; omega
      · obtain rfl : j = 4 := by omega
        rw [turn_round]
        clear hlt
        go_wp2_with fail
        go_ret
        exact ⟨rfl, HB4.out⟩
end

theorem diagramTurns_walk (A1 A2 : Option Addr) (c1 c2 : Nat) (sg mt : List Int) (L h b : Int) (w : World) (hd : DArg w A1 A2 sg mt L) (_hh : (Lit.int .i64 h).wf = true) (_hb : (Lit.int .i64 b).wf = true) :
    Calls Try.prog 3 #[.agg #[.slice A1 sg.length c1, .slice A2 mt.length c2, .int .i64 L], .int .i64 h, .int .i64 b] w fun e w' => e = .returned (.bool true) ∧ Below w.heap.size w w' := by
  by_cases hg : (70 < sg.length ∨ 300 < mt.length) ∨ 1099511627776 < h
  · exact turns_great A1 A2 c1 c2 sg mt L w hd h b hg
  by_cases h0 : h < 0
  · exact turns_neg A1 A2 c1 c2 sg mt L w hd h b (by omega) (by omega) h0
  obtain ⟨n, rfl⟩ : ∃ n : Nat, h = n := ⟨h.toNat, by omega⟩
  by_cases hI : n < mt.length ∧ IsD sg mt L
  · exact turns_in A1 A2 c1 c2 sg mt L w hd n b (by omega) (by omega) (by omega) (fun g _ => by omega) hI.1 hI.2
  · refine turns_out A1 A2 c1 c2 sg mt L w hd n b (by omega) (by omega) (by omega) (fun g _ => by omega) _ rfl ?_
    by_cases hn : n < mt.length
    · exact .inr (decide_eq_false fun h => hI ⟨hn, h⟩)
    · exact .inl (by omega)
end Go.Proofs.Ytkanpcdjhaepjaa
