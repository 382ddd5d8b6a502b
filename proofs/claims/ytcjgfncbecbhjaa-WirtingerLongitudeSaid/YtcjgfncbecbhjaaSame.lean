/-
  The contracts of slices.Equal at words, of the closure of same, of slices.EqualFunc at equal lists, of same; of the reference's Reduced.
-/
import Derived.Test.YtcjgfncbecbhjaaOf
import Derived.Test.YtcjgfncbecbhjaaInts
namespace Go.Proofs.Ytcjgfncbecbhjaa
open Go.RowKit

set_option maxHeartbeats 400000 in
theorem wequal_any (A B : Option Addr) (c d : Nat) (xs ys : List Int) (w : World) (S T : Nat → Prop) (hx : RI w S A xs) (hy : RI w T B ys) (hm : xs.length ≤ maxLen) (_hn : ys.length ≤ maxLen) :
    Calls Try.prog 32 #[.slice A xs.length c, .slice B ys.length d] w fun e w' => e = .returned (.bool (decide (xs = ys))) ∧ ∃ n, w' = w.drewN n := by
  unfold maxLen at hm _hn
  by_cases hl : xs.length = ys.length
  · have hl1 : ((xs.length : Int) != ys.length) = false := by rw [bne_eq_false_iff_eq]; omega
    have hl' : xs.length ≤ ys.length := by omega
    have hl2 : ys.length ≤ xs.length := by omega
    have HL := Lib.hid hl
    clear hl
    go_enter Try.func32, Try.ntmps32
    go_wp2
    go_loopw [13] (fun i wr => ∃ k n : Nat, k ≤ xs.length ∧ i = .int .i64 k ∧ wr = w.drewN n ∧ Hid (∀ j, j < k → gi xs j = gi ys j)) (fun i _ => xs.length - (intOf i).toNat)
    case atStart => exact ⟨0, 0, Nat.zero_le _, rfl, rfl, by intro j hj; omega⟩
    case round =>
      obtain ⟨k, n, hk, rfl, rfl, HA⟩ := hrel
      by_cases hlt : k < xs.length
      · obtain ⟨b, off, rfl, -, hc⟩ := hx.at_ hlt
        obtain ⟨b', off', rfl, -, hc'⟩ := hy.at_ (show k < ys.length by omega)
        have c1 := hc k hlt
        have c2 := hc' k (by omega)
        clear hc hc'
        have e1 : (0:Int) ≤ k ∧ (k:Int) < xs.length := by omega
        have e2 : (0:Int) ≤ k ∧ (k:Int) < ys.length := by omega
        by_cases hne : gi xs k = gi ys k
        · have e3 : (gi xs k != gi ys k) = false := by rw [bne_eq_false_iff_eq]; exact hne
          have HA' : Hid (∀ j, j < k + 1 → gi xs j = gi ys j) := by
            intro j hj
            rcases Nat.lt_or_eq_of_le (Nat.le_of_lt_succ hj) with h | rfl
            · exact HA.out j h
            · exact hne
          clear hne
          go_wp2
          go_quiet (fail)
          go_wp2
          go_roundw
          case rel => exact ⟨k + 1, _, by omega, by go_num, rfl, HA'⟩
          case measure => simp [intOf]; omega
        · have e3 : (gi xs k != gi ys k) = true := by rw [bne_iff_ne]; exact hne
          have hd : decide (xs = ys) = false := decide_eq_false fun e => hne (by rw [e])
          have H := Lib.hid hd
          clear hne hd
          go_wp2
          go_quiet (fail)
          go_wp2
          go_ret
          exact ⟨ret_bool H.out.symm, _, drewN2 _ _ _⟩
      · have hd : decide (xs = ys) = true := decide_eq_true (ext_gi HL.out fun j hj => HA.out j (by omega))
        have H := Lib.hid hd
        clear hd
        go_wp2
        go_ret
        exact ⟨ret_bool H.out.symm, _, rfl⟩
  · have hl1 : ((xs.length : Int) != ys.length) = true := by rw [bne_iff_ne]; omega
    have hd : decide (xs = ys) = false := decide_eq_false fun e => hl (by rw [e])
    have H := Lib.hid hd
    clear hl hd
    go_enter Try.func32, Try.ntmps32
    go_wp2
    go_ret
    exact ⟨ret_bool H.out.symm, 0, rfl⟩

theorem wequal_is {A B : Option Addr} {c d n m : Nat} {xs ys : List Int} {w : World} (S T : Nat → Prop) (r : Bool) (hx : RI w S A xs) (hy : RI w T B ys) (hxl : xs.length = n) (hyl : ys.length = m) (hm : n ≤ maxLen) (hn : m ≤ maxLen) (hr : decide (xs = ys) = r) :
    Calls Try.prog 32 #[.slice A n c, .slice B m d] w fun e w' => e = .returned (.bool r) ∧ ∃ n, w' = w.drewN n := by
  subst hxl hyl hr
  exact wequal_any A B c d xs ys w S T hx hy hm hn

theorem same1_is {A B : Option Addr} {c d n m : Nat} {xs ys : List Int} {w : World} (S T : Nat → Prop) (r : Bool) (hx : RI w S A xs) (hy : RI w T B ys) (hxl : xs.length = n) (hyl : ys.length = m) (hm : n ≤ maxLen) (hn : m ≤ maxLen) (hr : decide (xs = ys) = r) :
    Calls Try.prog 51 #[.slice A n c, .slice B m d] w fun e w' => e = .returned (.bool r) ∧ ∃ n, w' = w.drewN n := by
  have HC := Lib.hid (wequal_is (c := c) (d := d) S T r hx hy hxl hyl hm hn hr)
  clear hx hy hxl hyl hm hn hr
  go_enter Try.func51, Try.ntmps51
  go_wp2_with fail
  refine HC.out.mono ?_
  rintro e w1 ⟨rfl, k, rfl⟩
  go_wp2_with fail
  go_ret
  exact ⟨rfl, k, rfl⟩

set_option maxHeartbeats 1000000 in
theorem eqf_true {A B : Option Addr} {c d : Nat} {xss : List (List Int)} {w : World} (S T : Nat → Prop) (hx : RL w S A xss) (hy : RL w T B xss) (hm : xss.length ≤ maxLen) :
    Calls Try.prog 50 #[.slice A xss.length c, .slice B xss.length d, .func (.func 51) #[] #[]] w fun e w' => e = .returned (.bool true) ∧ ∃ n, w' = w.drewN n := by
  unfold maxLen at hm
  have HX := Lib.hid hx
  have HY := Lib.hid hy
  clear hx hy
  obtain ⟨q, hq⟩ : ∃ q, xss.length = q := ⟨_, rfl⟩
  rw [hq] at hm ⊢
  have HQ := Lib.hid hq
  clear hq
  go_enter Try.func50, Try.ntmps50
  go_wp2_with fail
  go_loopw [17] (fun i wr => ∃ k n : Nat, k ≤ q ∧ i = .int .i64 k ∧ wr = w.drewN n) (fun i _ => q - (intOf i).toNat)
  case atStart => exact ⟨0, 0, Nat.zero_le _, rfl, rfl⟩
  case round =>
    obtain ⟨k, n, hk, rfl, rfl⟩ := hrel
    by_cases hlt : k < q
    · obtain ⟨b, off, rfl, -, hc⟩ := (HX.out.drewN n).at_ (k := k) (by rw [HQ.out]; exact hlt)
      obtain ⟨b', off', rfl, -, hc'⟩ := (HY.out.drewN n).at_ (k := k) (by rw [HQ.out]; exact hlt)
      obtain ⟨Ak, ck, k3, r3, l3⟩ := hc k (by rw [HQ.out]; exact hlt)
      obtain ⟨Bk, dk, k4, r4, -⟩ := hc' k (by rw [HQ.out]; exact hlt)
      obtain ⟨xs, hxs⟩ : ∃ xs, xss.getD k [] = xs := ⟨_, rfl⟩
      rw [hxs] at k3 k4 r3 r4 l3
      obtain ⟨l, hl⟩ : ∃ l, xs.length = l := ⟨_, rfl⟩
      have HC := Lib.hid (same1_is (c := ck) (d := dk) (w := w.drewN n) S T true r3 r4 rfl rfl l3 l3 (decide_eq_true rfl))
      rw [hl] at k3 k4 HC
      clear hc hc' r3 r4 l3 hxs hl
      go_wp2_with fail
      refine HC.out.mono ?_
      rintro e w1 ⟨rfl, k1, rfl⟩
      go_wp2_with fail
      go_roundw
      case rel => exact ⟨k + 1, _, by omega, by go_num, rfl⟩
      case measure => simp [intOf]; omega
    · obtain rfl : q = k := by omega
      go_wp2_with fail
      go_ret
      exact ⟨rfl, _, rfl⟩

theorem same_true {A B : Option Addr} {c d n m : Nat} {xss : List (List Int)} {w : World} (S T : Nat → Prop) (hx : RL w S A xss) (hy : RL w T B xss) (hn : xss.length = n) (hmm : n = m) (hm : n ≤ maxLen) :
    Calls Try.prog 20 #[.slice A n c, .slice B m d] w fun e w' => e = .returned (.bool true) ∧ ∃ n, w' = w.drewN n := by
  subst hmm hn
  have HC := Lib.hid (eqf_true (c := c) (d := d) S T hx hy hm)
  clear hx hy hm
  go_enter Try.func20, Try.ntmps20
  go_wp2_with fail
  refine HC.out.mono ?_
  rintro e w1 ⟨rfl, k, rfl⟩
  go_wp2_with fail
  go_ret
  exact ⟨rfl, k, rfl⟩

set_option maxHeartbeats 2000000 in
theorem rreduced_any (A : Option Addr) (c : Nat) (ys : List Int) (w : World) (S : Nat → Prop) (hx : RI w S A ys) (hS : ∀ b, S b → b < w.heap.size) (hl : ys.length < 1099511627776) (hb : Bd ys) :
    Calls Try.prog 52 #[.slice A ys.length c] w fun e w' => ∃ v', e = .returned v' ∧ OI w' w.heap.size v' (redL ys) ∧ Below w.heap.size w w' := by
  have hv0 : OI w w.heap.size (.slice none 0 0) (redF [] (ys.take 0)) := by simpa [redF] using OR.nil w w.heap.size
  have HV := Lib.hid hv0
  have HX := Lib.hid hx
  have HS := Lib.hid hS
  have HB := Lib.hid hb
  clear hv0 hx hS hb
  go_enter Try.func52, Try.ntmps52
  go_wp2_with fail
  go_loopw [3, 4] (fun u i wr => ∃ k : Nat, k ≤ ys.length ∧ i = .int .i64 k ∧ Hid (OI wr w.heap.size u (redF [] (ys.take k))) ∧ Hid (Below w.heap.size w wr)) (fun _ i _ => ys.length - (intOf i).toNat)
  case atStart => exact ⟨0, Nat.zero_le _, rfl, HV, Below.refl _ _⟩
  case round =>
    clear HV
    obtain ⟨k, hk, rfl, HO, HBL⟩ := hrel
    by_cases hlt : k < ys.length
    · have hr := HX.out.keep (w' := wr) (fun b hb => HBL.out.block b (HS.out b hb))
      obtain ⟨b, off, rfl, -, hc⟩ := hr.at_ hlt
      have c1 := hc k hlt
      obtain ⟨b1, b2⟩ := HB.out k hlt
      have hstep := redF_take (st := []) hlt
      obtain ⟨y, hy⟩ : ∃ y, gi ys k = y := ⟨_, rfl⟩
      have hlen : (redF [] (ys.take k)).length < 1099511627776 := by
        have := redF_len [] (ys.take k)
        rw [List.length_take] at this
        simp only [List.length_nil] at this
        omega
      obtain ⟨st, hst⟩ : ∃ st, redF [] (ys.take k) = st := ⟨_, rfl⟩
      rw [hy] at c1 b1 b2 hstep
      rw [hst] at HO hlen hstep
      have hsz : w.heap.size ≤ wr.heap.size := HBL.out.size
      have wn : IntKind.i64.wrap (-y) = -y := IntWalk.i64_in _ (by omega)
      have wn2 : IntKind.i64.wrap (0 - y) = -y := by rw [Int.zero_sub]; exact wn
      have j1 : (0 : Int) ≤ (k : Int) ∧ (k : Int) < (ys.length : Int) := by omega
      have HST := Lib.hid hstep
      clear hr hc hy hst hstep
      rcases List.eq_nil_or_concat st with rfl | ⟨st', top, h⟩
      · obtain ⟨A2, cc, rfl, h3, h4, -⟩ := HO.out.shape
        rw [pushL_nil] at HST
        simp only [List.length_nil] at h3 ⊢
        have hlz : (([] : List Int).length) < 1099511627776 := by simp
        go_wp2_with fail
        go_quiet (fail)
        obtain ⟨wq, hwq⟩ : ∃ wq, wr.drewN nq = wq := ⟨_, rfl⟩
        rw [hwq]
        have HOq : Hid (OI wq w.heap.size (.slice A2 0 cc) []) := by rw [← hwq]; exact HO.out.drewN nq
        have HBq : Hid (Below w.heap.size w wq) := by rw [← hwq]; exact below_drewN HBL.out nq
        have hszq := HBq.out.size
        have c1q : wq.cell? ⟨b, off + k, none⟩ = some (.int .i64 y) := by rw [← hwq]; exact c1
        clear hwq HO HBL c1
        go_wp2_with (at_builtin; refine app1 HOq.out hlz hszq rfl rfl Try.underlying22 rfl rfl ?_; intro v' w' ho hg hob)
        have HO' : Hid (OI w' w.heap.size v' (redF [] (ys.take (k + 1)))) := by rw [HST.out]; exact ho
        have HB' := Lib.hid (HBq.out.trans (HOq.out.grown_below (Below.refl _ _) hszq _ hg))
        clear ho hg hob
        go_roundw
        case rel => exact ⟨k + 1, by omega, by go_num, HO', HB'⟩
        case measure => simp [intOf]; omega
      · rw [List.concat_eq_append] at h
        subst h
        obtain ⟨g, cc, rfl, hBg, hgs, hlc, hcm, hcell, -⟩ := HO.out.ints (by simp)
        have hcell' := hcell st'.length (by simp)
        have e1 : gi (st' ++ [top]) st'.length = top := by simp [gi]
        rw [e1] at hcell'
        have HL := Lib.hid hlen
        have e2 : (st' ++ [top]).length = st'.length + 1 := by simp
        rw [e2] at hlc hlen
        have HO2 := HO
        rw [e2] at HO2 ⊢
        clear hcell e1 e2 HO
        obtain ⟨n', hn'⟩ : ∃ n, st'.length = n := ⟨_, rfl⟩
        have HN := Lib.hid hn'
        rw [hn'] at hcell' hlc hlen HO2 ⊢
        clear hn'
        have s1 : IntKind.i64.wrap ((n' : Int) + 1 - 1) = (n' : Int) := by rw [show (n' : Int) + 1 - 1 = n' by omega]; exact IntWalk.i64_in _ (by omega)
        have s2 : (0 : Int) < (n' : Int) + 1 := by omega
        have s3 : (0 : Int) ≤ (n' : Int) ∧ (n' : Int) < (n' : Int) + 1 := by omega
        by_cases hq : top = -y
        · have hq' : (top == -y) = true := by rw [beq_iff_eq]; exact hq
          have HQ : Hid (OI wr w.heap.size (.slice (some ⟨g, 0, none⟩) n' cc) (redF [] (ys.take (k + 1)))) := by
            rw [HST.out, pushL_eq hq, ← HN.out]
            exact OR.pop (y := top) (by rw [List.length_append]; have := HO2.out; rw [← HN.out] at this; exact this)
          clear HO2 hq
          go_wp2_with fail
          go_quiet (fail)
          obtain ⟨wq, hwq⟩ : ∃ wq, wr.drewN nq = wq := ⟨_, rfl⟩
          rw [hwq]
          have HOq : Hid (OI wq w.heap.size (.slice (some ⟨g, 0, none⟩) n' cc) (redF [] (ys.take (k + 1)))) := by rw [← hwq]; exact HQ.out.drewN nq
          have HBq : Hid (Below w.heap.size w wq) := by rw [← hwq]; exact below_drewN HBL.out nq
          clear hwq HQ HBL
          go_wp2_with fail
          go_roundw
          case rel => exact ⟨k + 1, by omega, by go_num, HOq, HBq⟩
          case measure => simp [intOf]; omega
        · have hq' : (top == -y) = false := by rw [beq_eq_false_iff_ne]; exact hq
          rw [pushL_ne hq] at HST
          clear hq
          go_wp2_with fail
          go_quiet (fail)
          obtain ⟨wq, hwq⟩ : ∃ wq, wr.drewN nq = wq := ⟨_, rfl⟩
          rw [hwq]
          have HOq : Hid (OI wq w.heap.size (.slice (some ⟨g, 0, none⟩) (n' + 1) cc) (st' ++ [top])) := by rw [← hwq]; exact HO2.out.drewN nq
          have HBq : Hid (Below w.heap.size w wq) := by rw [← hwq]; exact below_drewN HBL.out nq
          have hszq := HBq.out.size
          have c1q : wq.cell? ⟨b, off + k, none⟩ = some (.int .i64 y) := by rw [← hwq]; exact c1
          clear hwq HO2 HBL c1 hcell'
          go_wp2_with (at_builtin; refine app1 HOq.out HL.out hszq rfl rfl Try.underlying22 rfl rfl ?_; intro v' w' ho hg hob)
          have HO' : Hid (OI w' w.heap.size v' (redF [] (ys.take (k + 1)))) := by rw [HST.out]; exact ho
          have HB' := Lib.hid (HBq.out.trans (HOq.out.grown_below (Below.refl _ _) hszq _ hg))
          clear ho hg hob
          go_roundw
          case rel => exact ⟨k + 1, by omega, by go_num, HO', HB'⟩
          case measure => simp [intOf]; omega
    · obtain rfl : ys.length = k := by omega
      rw [List.take_length] at HO
      go_wp2_with fail
      go_ret
      exact ⟨_, rfl, HO.out, HBL.out⟩
end Go.Proofs.Ytcjgfncbecbhjaa

