/-
  The law MatchingCloses, walked.
-/
import Derived.Test.YtmmcpahaekpknaaAwake
import Derived.Test.YtmmcpahaekpknaaJoinT
import Derived.Test.YtmmcpahaekpknaaArg
namespace Go.Proofs.Ytmmcpahaekpknaa
open Go.RowKit

open Classical in
theorem pairN_le {a b : List Int} (ha : IsM a) (hb : IsM b) (hl : a.length = b.length) : pairN a b ≤ a.length := by
  rw [pairN_reps ha hb hl]
  have : (reps a b).length ≤ (List.range' 0 a.length).length := List.length_filter_le _ _
  simpa using this

theorem valid_is {A : Option Addr} {c : Nat} {xs : List Int} {w : World} (S : Nat → Prop) (r : Bool) (hx : RI w S A xs) (hS : ∀ b, S b → b < w.heap.size) (hm : xs.length ≤ maxLen) (hr : decide (IsM xs) = r) :
    Calls Try.prog 12 #[.slice A xs.length c] w fun e w' => e = .returned (.bool r) ∧ Below w.heap.size w w' := by
  subst hr
  exact valid_any A c xs w S hx hS hm

/-- what the loop of MatchingCloses keeps -/
structure Clo (w wr : World) (xs ys : List Int) (x y : List Int) (q : Int) (A B : Option Addr) : Prop where
  hx : IsM x
  hy : IsM y
  hl : x.length = y.length
  sum : q + pairN x y = pairN xs ys
  q0 : 0 ≤ q
  rx : RI wr (· < wr.heap.size) A x
  ry : RI wr (· < wr.heap.size) B y
  below : Below w.heap.size w wr

set_option maxRecDepth 100000 in
set_option maxHeartbeats 4000000 in
theorem matchingCloses_walk (A : Option Addr) (c : Nat) (xs : List Int) (B : Option Addr) (d : Nat) (ys : List Int) (w : World) (hx : RI w (· < w.heap.size) A xs) (hm : xs.length ≤ maxLen) (_hw : ∀ k, -9223372036854775808 ≤ gi xs k ∧ gi xs k ≤ 9223372036854775807)
    (hy : RI w (· < w.heap.size) B ys) (hn : ys.length ≤ maxLen) (_hw' : ∀ k, -9223372036854775808 ≤ gi ys k ∧ gi ys k ≤ 9223372036854775807) :
    Calls Try.prog 6 #[.slice A xs.length c, .slice B ys.length d] w fun e w' => e = .returned (.bool true) ∧ Below w.heap.size w w' := by
  clear _hw _hw'
  by_cases hbig : (48 : Int) < xs.length
  · go_enter Try.func6, Try.ntmps6
    go_wp2_with fail
    refine (awake_any _).mono ?_
    rintro e w1 ⟨rfl, hb1⟩
    go_wp2_with fail
    go_ret
    exact ⟨rfl, hb1⟩
  by_cases hl : xs.length = ys.length
  case neg =>
    have hq : ((xs.length : Int) != ys.length) = true := by rw [bne_iff_ne]; omega
    clear hl
    go_enter Try.func6, Try.ntmps6
    go_wp2_with fail
    refine (awake_any _).mono ?_
    rintro e w1 ⟨rfl, hb1⟩
    go_wp2_with fail
    go_ret
    exact ⟨rfl, hb1⟩
  case pos =>
  have hq : ((xs.length : Int) != ys.length) = false := by rw [bne_eq_false_iff_eq]; omega
  have HL := Lib.hid hl
  by_cases h1 : IsM xs
  case neg =>
    have HR := Lib.hid (decide_eq_false h1)
    clear hl h1
    go_enter Try.func6, Try.ntmps6
    go_wp2_with fail
    refine (awake_any _).mono ?_
    rintro e w1 ⟨rfl, hb1⟩
    have hs1 := hb1.size
    go_wp2_with fail
    refine (valid_is (· < w.heap.size) false (hx.below hb1) (fun _ h => by omega) hm HR.out).mono ?_
    rintro e w2 ⟨rfl, hb2⟩
    go_wp2_with fail
    go_ret
    exact ⟨rfl, hb1.trans (hb2.mono hs1)⟩
  case pos =>
  by_cases h2 : IsM ys
  case neg =>
    have H1 := Lib.hid (decide_eq_true h1)
    have HR := Lib.hid (decide_eq_false h2)
    clear hl h1 h2
    go_enter Try.func6, Try.ntmps6
    go_wp2_with fail
    refine (awake_any _).mono ?_
    rintro e w1 ⟨rfl, hb1⟩
    have hs1 := hb1.size
    go_wp2_with fail
    refine (valid_is (· < w.heap.size) true (hx.below hb1) (fun _ h => by omega) hm H1.out).mono ?_
    rintro e w2 ⟨rfl, hb2⟩
    have hb := hb1.trans (hb2.mono hs1)
    have hs2 := hb2.size
    go_wp2_with fail
    refine (valid_is (· < w.heap.size) false (hy.below hb) (fun _ h => by omega) hn HR.out).mono ?_
    rintro e w3 ⟨rfl, hb3⟩
    go_wp2_with fail
    go_ret
    exact ⟨rfl, hb.trans (hb3.mono (by omega))⟩
  case pos =>
  have hpl := pairN_le h1 h2 hl
  have hy48 : ys.length ≤ 48 := h2.2.1
  have H1 := Lib.hid h1
  have H2 := Lib.hid h2
  clear h1 h2 hl
  go_enter Try.func6, Try.ntmps6
  go_wp2_with fail
  refine (awake_any _).mono ?_
  rintro e w1 ⟨rfl, hb1⟩
  have hs1 := hb1.size
  go_wp2_with fail
  refine (valid_is (· < w.heap.size) true (hx.below hb1) (fun _ h => by omega) hm (decide_eq_true H1.out)).mono ?_
  rintro e w2 ⟨rfl, hb2⟩
  have hb := hb1.trans (hb2.mono hs1)
  have hs2 := hb2.size
  go_wp2_with fail
  refine (valid_is (· < w.heap.size) true (hy.below hb) (fun _ h => by omega) hn (decide_eq_true H2.out)).mono ?_
  rintro e w3 ⟨rfl, hb3⟩
  have hb' := hb.trans (hb3.mono (by omega))
  have hs3 := hb3.size
  have x3 : RI w3 (· < w3.heap.size) A xs := (hx.below hb').imp fun b hb => by omega
  have y3 : RI w3 (· < w3.heap.size) B ys := (hy.below hb').imp fun b hb => by omega
  clear hb1 hb2 hb3 hb
  go_wp2_with fail
  refine (pair_ok A B c d xs ys _ x3 y3 H1.out H2.out HL.out).mono ?_
  rintro e w4 ⟨rfl, hb4⟩
  have hs4 := hb4.size
  have hbe := hb'.trans (hb4.mono (by omega))
  have x4 : RI (w4.alloc (.cells #[] 3)) (· < w4.heap.size) A xs := ((x3.below hb4).imp (T := (· < w4.heap.size)) fun b hb => by omega).keep fun b hb => Below.heap_alloc w4 _ b hb
  have y4 : RI w4 (· < w4.heap.size) B ys := (y3.below hb4).imp fun b hb => by omega
  have o1 : OI (w4.alloc (.cells #[] 3)) w4.heap.size (.slice (some ⟨w4.heap.size, 0, none⟩) 0 0) [] := by
    have := OR.made (e := 3) (f := Value.int .i64) (xs := []) w4 w4.heap.size #[] (Nat.le_refl _) (by simp) (by simp)
    simpa using this
  clear hb' hb4 x3 y3 hx hy
  go_wp2_with (first
    | (at_builtin
       refine appN (s := .tmp 45) (x := .tmp 46) o1 x4 (by simp; omega) (by simp) rfl rfl Try.underlying22 rfl rfl ?_
       intro vx w5 ox gx bx
       have hb45 : Below w4.heap.size w4 w5 := ((Below.refl _ _).alloc (Nat.le_refl _) _).grown gx (by simp) (by intro k hk; simp [Value.ownBlock] at hk; omega)
       have hs5 := hb45.size
       rw [List.nil_append] at ox
       obtain ⟨Ax, cx, rfl, -, -, rx⟩ := ox.reads
       have y5 : RI (w5.alloc (.cells #[] 3)) (· < w5.heap.size) B ys := ((y4.below hb45).imp (T := (· < w5.heap.size)) fun b hb => by omega).keep fun b hb => Below.heap_alloc w5 _ b hb
       have rx5 : RI w5 (· < w5.heap.size) Ax xs := rx.imp fun b hb => hb.2
       have o2 : OI (w5.alloc (.cells #[] 3)) w5.heap.size (.slice (some ⟨w5.heap.size, 0, none⟩) 0 0) [] := by
         have := OR.made (e := 3) (f := Value.int .i64) (xs := []) w5 w5.heap.size #[] (Nat.le_refl _) (by simp) (by simp)
         simpa using this
       clear ox gx bx o1 x4 rx y4)
    | (at_builtin
       refine appN (s := .tmp 48) (x := .tmp 49) o2 y5 (by simp; omega) (by simp) rfl rfl Try.underlying22 rfl rfl ?_
       intro vy w6 oy gy bby
       have hb56 : Below w5.heap.size w5 w6 := ((Below.refl _ _).alloc (Nat.le_refl _) _).grown gy (by simp) (by intro k hk; simp [Value.ownBlock] at hk; omega)
       have hs6 := hb56.size
       rw [List.nil_append] at oy
       obtain ⟨By, cy, rfl, -, -, ry⟩ := oy.reads
       have hclo : Clo w w6 xs ys xs ys 0 Ax By := ⟨H1.out, H2.out, HL.out, by omega, Int.le_refl _, (rx5.below hb56).imp fun b hb => by omega, ry.imp fun b hb => hb.2, (hbe.trans (hb45.mono (by omega))).trans (hb56.mono (by omega))⟩
       have HC := Lib.hid hclo
       clear oy gy bby o2 y5 ry rx5 hb45 hb56 hbe hclo))
  go_loopg [7, 8, 9] (ys.length) (fun k vx vy vq wr => ∃ (x y : List Int) (q : Int) (A' B' : Option Addr) (c' d' : Nat), y.length ≤ k ∧ vx = .slice A' x.length c' ∧ vy = .slice B' y.length d' ∧ vq = .int .i64 q ∧ Hid (Clo w wr xs ys x y q A' B'))
  case atStart => exact ⟨xs, ys, 0, Ax, By, _, _, Nat.le_refl _, rfl, rfl, rfl, HC⟩
  case round =>
    obtain ⟨x, y, q, A', B', c', d', hk, rfl, rfl, rfl, HC'⟩ := hrel
    have hyl : y.length ≤ 48 := HC'.out.hy.2.1
    have hxl : x.length ≤ 48 := HC'.out.hx.2.1
    have hqb : 0 ≤ q ∧ q ≤ 48 := by have := HC'.out.sum; have := HC'.out.q0; omega
    clear HC
    by_cases hpos : 0 < y.length
    · obtain ⟨p, hp1, hp2⟩ := inner_arc HC'.out.hy hpos
      have HP := Lib.hid hp2
      clear hp2
      go_wp2_with fail
      go_loop [10] (fun s => ∃ t : Nat, t ≤ p ∧ s = .int .i64 t ∧ Hid (∀ j, j < t → gi y j ≠ j + 1)) (fun s => y.length - (intOf s).toNat)
      case atStart => exact ⟨0, Nat.zero_le _, rfl, by intro j hj; omega⟩
      case round =>
        obtain ⟨t, ht, rfl, HT⟩ := hrel
        obtain ⟨b, off, rfl, -, hc⟩ := HC'.out.ry.at_ (show t < y.length by omega)
        have c1 := hc t (by omega)
        clear hc
        by_cases heq : gi y t = t + 1
        · have e1 : (gi y t != (t : Int) + 1) = false := by rw [bne_eq_false_iff_eq]; exact heq
          have HEQ := Lib.hid heq
          clear heq
          have hx2 : t + 2 ≤ x.length := by have := HC'.out.hl; omega
          go_wp2_with fail
          refine (join_ok A' c' x t _ HC'.out.rx HC'.out.hx hx2).mono ?_
          rintro e w7 ⟨u7, rfl, ho7, hb7⟩
          have hs7 := hb7.size
          obtain ⟨A7, c7, rfl, -, -, r7⟩ := ho7.reads
          go_wp2_with fail
          refine (join_ok _ d' y t _ ((HC'.out.ry.below hb7).imp fun b hb => by omega) HC'.out.hy (by omega)).mono ?_
          rintro e w8 ⟨u8, rfl, ho8, hb8⟩
          have hs8 := hb8.size
          obtain ⟨A8, c8, rfl, -, -, r8⟩ := ho8.reads
          have hci : circ y t = 1 := by unfold circ; rw [if_pos HEQ.out]
          rw [hci]
          have hcb : 0 ≤ circ x t ∧ circ x t ≤ 1 := by unfold circ; split <;> omega
          have e2 : ((((joinL x t).length : Nat) : Int) != (x.length : Int) - 2) = false := by rw [bne_eq_false_iff_eq, joinL_length]; omega
          have e3 : ((((joinL y t).length : Nat) : Int) != (y.length : Int) - 2) = false := by rw [bne_eq_false_iff_eq, joinL_length]; omega
          have hbp : gn y t = t + 1 := by have := (isM_gn HC'.out.hy (show t < y.length by omega)).2.2.2; have := HEQ.out; omega
          have hsum : q + circ x t + pairN (joinL x t) (joinL y t) = pairN xs ys := by
            have h1 := pair_join HC'.out.hx HC'.out.hy HC'.out.hl hx2 hbp
            have h2 := HC'.out.sum
            omega
          have hclo : Clo w w8 xs ys (joinL x t) (joinL y t) (q + circ x t) A7 A8 :=
            ⟨joinL_isM HC'.out.hx hx2, joinL_isM HC'.out.hy (by omega), by rw [joinL_length, joinL_length, HC'.out.hl], hsum, by omega, ((r7.imp fun b hb => hb.2).below hb8).imp fun b hb => by omega, r8.imp fun b hb => hb.2,
              (HC'.out.below.trans (hb7.mono HC'.out.below.size)).trans (hb8.mono (by have := HC'.out.below.size; omega))⟩
          have HC8 := Lib.hid hclo
          have hjl : (joinL y t).length < y.length := by rw [joinL_length]; omega
          have hcirc := Lib.hid hci
          clear hci hsum hclo ho7 ho8 r7 r8 hb7 hb8 hbp
          generalize circ x t = ci at *
          go_wp2_with fail
          go_roundg (joinL y t).length
          case measure => omega
          case rel => exact ⟨_, _, _, _, _, _, _, Nat.le_refl _, rfl, rfl, rfl, HC8⟩
        · have e1 : (gi y t != (t : Int) + 1) = true := by rw [bne_iff_ne]; exact heq
          have htp : t < p := by
            rcases Nat.lt_or_eq_of_le ht with h | h
            · exact h
            · rw [h] at heq
              exact absurd HP.out heq
          have HT' : Hid (∀ j, j < t + 1 → gi y j ≠ j + 1) := by
            intro j hj
            rcases Nat.lt_or_eq_of_le (Nat.le_of_lt_succ hj) with h | rfl
            · exact HT.out j h
            · exact heq
          clear heq
          go_wp2_with fail
          go_round
          case rel => exact ⟨t + 1, by omega, by go_num, HT'⟩
          case measure => simp [intOf]; omega
    · have hy0 : y = [] := List.eq_nil_of_length_eq_zero (by omega)
      have hx0 : x = [] := List.eq_nil_of_length_eq_zero (by rw [HC'.out.hl, hy0]; rfl)
      have hqq : (q == (pairN xs ys : Int)) = true := by
        have := HC'.out.sum
        rw [hx0, hy0] at this
        have h0 : pairN [] [] = 0 := rfl
        rw [beq_iff_eq]
        omega
      clear hx0 hy0
      go_wp2_with fail
      go_ret
      exact ⟨rfl, HC'.out.below⟩
end Go.Proofs.Ytmmcpahaekpknaa
