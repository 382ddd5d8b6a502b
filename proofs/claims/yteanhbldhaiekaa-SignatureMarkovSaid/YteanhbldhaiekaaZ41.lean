/-
  The contract of markov.applicable: Destabilize, Commute, Triple, Delete.
-/
import Derived.Test.YteanhbldhaiekaaZ40
namespace Go.Proofs.Yteanhbldhaiekaa
open Go.RowKit

theorem size_q {x : Int} {r : Int} (h : -1000000 ≤ x ∧ x ≤ 1000000) (hr : (x.natAbs : Int) = r) (w : World) : Calls Try.prog 73 #[.int .i64 x] w fun e w' => e = .returned (.int .i64 r) ∧ w' = w := by
  subst hr
  exact (size_any x h w).mono fun _ _ h => ⟨h.1, h.2.symm⟩
section
variable (A : Option Addr) (c : Nat) (ws : List Int) (S g : Int) (hS : 1 ≤ S ∧ S ≤ 10) (hn : ws.length ≤ 200) (hx : ∀ k, -100000 ≤ gi ws k ∧ gi ws k ≤ 100000) (w : World) (P : Nat → Prop) (hr : RI w P A ws) (hP : ∀ b, P b → b < w.heap.size)
include hn hx hr hP in
set_option maxRecDepth 100000 in
set_option maxHeartbeats 8000000 in
theorem app_k7 (j : Nat) (hj : j < ws.length) :
    Calls Try.prog 54 #[.agg #[.int .i64 S, .slice A ws.length c], .agg #[.int .i64 7, .int .i64 g, .int .i64 j]] w (Tells (ApP S ws 7 g j) w) := by
  have HB : Hid (∀ d, Below w.heap.size w (((w.alloc (.cells #[.int .i64 S, .slice A ws.length c] 37)).alloc (.cells #[.int .i64 7, .int .i64 g, .int .i64 j] 52)).drewN d)) := Lib.hid fun d => below_drew d (((Below.refl _ _).alloc (Nat.le_refl _) _).alloc (by simp) _)
  have HB0 : Hid (Below w.heap.size w ((w.alloc (.cells #[.int .i64 S, .slice A ws.length c] 37)).alloc (.cells #[.int .i64 7, .int .i64 g, .int .i64 j] 52))) := Lib.hid (((Below.refl _ _).alloc (Nat.le_refl _) _).alloc (by simp) _)
  have HR : Hid (RI ((w.alloc (.cells #[.int .i64 S, .slice A ws.length c] 37)).alloc (.cells #[.int .i64 7, .int .i64 g, .int .i64 j] 52)) P A ws) := Lib.hid (hr.keep fun b hb => by
    rw [Below.heap_alloc _ _ _ (by have := hP b hb; simp; omega), Below.heap_alloc _ _ _ (hP b hb)])
  have HX := Lib.hid hx
  clear hr hP hx
  have KF : Hid (∀ w', Below w.heap.size w w' → Tells (ApP S ws 7 g j) w (.returned (.bool false)) w') := Lib.hid fun _ h => .false h
  have KT : ApP S ws 7 g j → Hid (∀ w', Below w.heap.size w w' → Tells (ApP S ws 7 g j) w (.returned (.bool true)) w') := fun hh => Lib.hid fun _ h => .true hh h
  obtain ⟨j1, hj1⟩ : ∃ m, j + 1 = m := ⟨_, rfl⟩
  have wj1 : IntKind.i64.wrap ((j : Int) + 1) = (j1 : Int) := by rw [IntWalk.i64_in _ (by omega)]; omega
  by_cases h1 : j1 < ws.length
  · have d1 : decide ((j1 : Int) < (ws.length : Int)) = true := decide_eq_true (by omega)
    have f0 : (0 : Int) ≤ (j : Int) ∧ (j : Int) < (ws.length : Int) := by omega
    have f1 : (0 : Int) ≤ (j1 : Int) ∧ (j1 : Int) < (ws.length : Int) := by omega
    obtain ⟨b, off, rfl, -, hcc⟩ := HR.out.at_ (k := 0) (by omega)
    have c1 := hcc j hj
    have c2 := hcc j1 h1
    have hb1 := HX.out j
    have QX : gi ws j1 = -gi ws j → ApP S ws 7 g j := fun e => ⟨fun h => by omega, fun h => by omega, fun h => by omega, fun h => by omega, fun _ i hi => by
      obtain rfl : j = i := by omega
      rw [hj1]; exact ⟨h1, e⟩⟩
    obtain ⟨x, hx⟩ : ∃ x, gi ws j = x := ⟨_, rfl⟩
    obtain ⟨y, hy⟩ : ∃ y, gi ws j1 = y := ⟨_, rfl⟩
    rw [hx] at c1 QX hb1
    rw [hy] at c2 QX
    have wn : IntKind.i64.wrap (-x) = -x := IntWalk.i64_in _ (by omega)
    have KT := fun e => KT (QX e)
    clear hcc hx hy hj1 h1 hj HR QX hb1 HX
    by_cases he : y = -x
    · have z1 : (y == -x) = true := by rw [beq_iff_eq]; exact he
      have KT := KT he
      clear he
      go_enter Try.func54, Try.ntmps54
      go_wp2_with fail
      go_big_quiet (fail)
      go_wp2_with fail
      go_ret
      exact KT.out _ (HB.out _)
    · have z1 : (y == -x) = false := by rw [beq_eq_false_iff_ne]; exact he
      clear he KT
      go_enter Try.func54, Try.ntmps54
      go_wp2_with fail
      go_big_quiet (fail)
      go_wp2_with fail
      go_ret
      exact KF.out _ (HB.out _)
  · have d0 : ¬ (j1 : Int) < (ws.length : Int) := by omega
    have d1 : decide ((j1 : Int) < (ws.length : Int)) = false := decide_eq_false d0
    have d2 : decide (j1 < ws.length) = false := decide_eq_false h1
    clear h1 hj1 HR KT HX
    go_enter Try.func54, Try.ntmps54
    go_wp2_with fail
    go_big_quiet (fail)
    go_wp2_with fail
    go_ret
    exact KF.out _ (HB.out _)
include hn hx hr hP in
set_option maxRecDepth 100000 in
set_option maxHeartbeats 8000000 in
theorem app_k4 (j : Nat) (hj : j < ws.length) :
    Calls Try.prog 54 #[.agg #[.int .i64 S, .slice A ws.length c], .agg #[.int .i64 4, .int .i64 g, .int .i64 j]] w (Tells (ApP S ws 4 g j) w) := by
  have HB : Hid (∀ d, Below w.heap.size w (((w.alloc (.cells #[.int .i64 S, .slice A ws.length c] 37)).alloc (.cells #[.int .i64 4, .int .i64 g, .int .i64 j] 52)).drewN d)) := Lib.hid fun d => below_drew d (((Below.refl _ _).alloc (Nat.le_refl _) _).alloc (by simp) _)
  have HB0 : Hid (Below w.heap.size w ((w.alloc (.cells #[.int .i64 S, .slice A ws.length c] 37)).alloc (.cells #[.int .i64 4, .int .i64 g, .int .i64 j] 52))) := Lib.hid (((Below.refl _ _).alloc (Nat.le_refl _) _).alloc (by simp) _)
  have HR : Hid (RI ((w.alloc (.cells #[.int .i64 S, .slice A ws.length c] 37)).alloc (.cells #[.int .i64 4, .int .i64 g, .int .i64 j] 52)) P A ws) := Lib.hid (hr.keep fun b hb => by
    rw [Below.heap_alloc _ _ _ (by have := hP b hb; simp; omega), Below.heap_alloc _ _ _ (hP b hb)])
  have HX := Lib.hid hx
  clear hr hP hx
  have KF : Hid (∀ w', Below w.heap.size w w' → Tells (ApP S ws 4 g j) w (.returned (.bool false)) w') := Lib.hid fun _ h => .false h
  have KT : ApP S ws 4 g j → Hid (∀ w', Below w.heap.size w w' → Tells (ApP S ws 4 g j) w (.returned (.bool true)) w') := fun hh => Lib.hid fun _ h => .true hh h
  obtain ⟨j1, hj1⟩ : ∃ m, j + 1 = m := ⟨_, rfl⟩
  have wj1 : IntKind.i64.wrap ((j : Int) + 1) = (j1 : Int) := by rw [IntWalk.i64_in _ (by omega)]; omega
  by_cases h1 : j1 < ws.length
  · have d1 : decide ((j1 : Int) < (ws.length : Int)) = true := decide_eq_true (by omega)
    have f0 : (0 : Int) ≤ (j : Int) ∧ (j : Int) < (ws.length : Int) := by omega
    have f1 : (0 : Int) ≤ (j1 : Int) ∧ (j1 : Int) < (ws.length : Int) := by omega
    obtain ⟨b, off, rfl, -, hcc⟩ := HR.out.at_ (k := 0) (by omega)
    have c1 := hcc j hj
    have c2 := hcc j1 h1
    have hb1 := HX.out j
    have hb2 := HX.out j1
    have QX : 2 ≤ (((gi ws j).natAbs : Int) - (gi ws j1).natAbs).natAbs → ApP S ws 4 g j := fun e => ⟨fun h => by omega, fun h => by omega, fun _ i hi => by
      obtain rfl : j = i := by omega
      rw [hj1]; exact ⟨h1, e⟩, fun h => by omega, fun h => by omega⟩
    obtain ⟨x, hx⟩ : ∃ x, gi ws j = x := ⟨_, rfl⟩
    obtain ⟨y, hy⟩ : ∃ y, gi ws j1 = y := ⟨_, rfl⟩
    rw [hx] at c1 QX hb1
    rw [hy] at c2 QX hb2
    obtain ⟨u, hu⟩ : ∃ u : Int, (x.natAbs : Int) = u := ⟨_, rfl⟩
    obtain ⟨v, hv⟩ : ∃ v : Int, (y.natAbs : Int) = v := ⟨_, rfl⟩
    obtain ⟨t, ht⟩ : ∃ t : Int, u - v = t := ⟨_, rfl⟩
    obtain ⟨r, hr⟩ : ∃ r : Int, (t.natAbs : Int) = r := ⟨_, rfl⟩
    have wn : IntKind.i64.wrap (u - v) = t := by rw [IntWalk.i64_in _ (by omega), ht]
    have CX := Lib.hid (size_q (x := x) (by omega) hu)
    have CY := Lib.hid (size_q (x := y) (by omega) hv)
    have CZ := Lib.hid (size_q (x := t) (by omega) hr)
    rw [hu, hv, ht] at QX
    have KT := fun (e : 2 ≤ t.natAbs) => KT (QX e)
    clear hcc hx hy hj1 h1 hj HR QX HX
    by_cases he : 2 ≤ r
    · have z1 : decide (2 ≤ r) = true := decide_eq_true he
      have KT := KT (by omega)
      clear he hu hv ht hr hb1 hb2
      go_enter Try.func54, Try.ntmps54
      go_wp2_with fail
      go_big_quiet (first
      | (go_at_call 73; exact Calls.quiet_of_same (CX.out _))
      | (go_at_call 73; exact Calls.quiet_of_same (CY.out _))
      | (go_at_call 73; exact Calls.quiet_of_same (CZ.out _)))
      go_wp2_with fail
      go_ret
      exact KT.out _ (HB.out _)
    · have z1 : decide (2 ≤ r) = false := decide_eq_false he
      clear he hu hv ht hr hb1 hb2 KT
      go_enter Try.func54, Try.ntmps54
      go_wp2_with fail
      go_big_quiet (first
      | (go_at_call 73; exact Calls.quiet_of_same (CX.out _))
      | (go_at_call 73; exact Calls.quiet_of_same (CY.out _))
      | (go_at_call 73; exact Calls.quiet_of_same (CZ.out _)))
      go_wp2_with fail
      go_ret
      exact KF.out _ (HB.out _)
  · have d0 : ¬ (j1 : Int) < (ws.length : Int) := by omega
    have d1 : decide ((j1 : Int) < (ws.length : Int)) = false := decide_eq_false d0
    have d2 : decide (j1 < ws.length) = false := decide_eq_false h1
    clear h1 hj1 HR KT HX
    go_enter Try.func54, Try.ntmps54
    go_wp2_with fail
    go_big_quiet (fail)
    go_wp2_with fail
    go_ret
    exact KF.out _ (HB.out _)
include hn hx hr hP in
set_option maxRecDepth 100000 in
set_option maxHeartbeats 8000000 in
theorem app_k5 (j : Nat) (hj : j < ws.length) :
    Calls Try.prog 54 #[.agg #[.int .i64 S, .slice A ws.length c], .agg #[.int .i64 5, .int .i64 g, .int .i64 j]] w (Tells (ApP S ws 5 g j) w) := by
  have HB : Hid (∀ d, Below w.heap.size w (((w.alloc (.cells #[.int .i64 S, .slice A ws.length c] 37)).alloc (.cells #[.int .i64 5, .int .i64 g, .int .i64 j] 52)).drewN d)) := Lib.hid fun d => below_drew d (((Below.refl _ _).alloc (Nat.le_refl _) _).alloc (by simp) _)
  have HB0 : Hid (Below w.heap.size w ((w.alloc (.cells #[.int .i64 S, .slice A ws.length c] 37)).alloc (.cells #[.int .i64 5, .int .i64 g, .int .i64 j] 52))) := Lib.hid (((Below.refl _ _).alloc (Nat.le_refl _) _).alloc (by simp) _)
  have HR : Hid (RI ((w.alloc (.cells #[.int .i64 S, .slice A ws.length c] 37)).alloc (.cells #[.int .i64 5, .int .i64 g, .int .i64 j] 52)) P A ws) := Lib.hid (hr.keep fun b hb => by
    rw [Below.heap_alloc _ _ _ (by have := hP b hb; simp; omega), Below.heap_alloc _ _ _ (hP b hb)])
  have HX := Lib.hid hx
  clear hr hP hx
  have KF : Hid (∀ w', Below w.heap.size w w' → Tells (ApP S ws 5 g j) w (.returned (.bool false)) w') := Lib.hid fun _ h => .false h
  have KT : ApP S ws 5 g j → Hid (∀ w', Below w.heap.size w w' → Tells (ApP S ws 5 g j) w (.returned (.bool true)) w') := fun hh => Lib.hid fun _ h => .true hh h
  obtain ⟨j1, hj1⟩ : ∃ m, j + 1 = m := ⟨_, rfl⟩
  have wj1 : IntKind.i64.wrap ((j : Int) + 1) = (j1 : Int) := by rw [IntWalk.i64_in _ (by omega)]; omega
  obtain ⟨j2, hj2⟩ : ∃ m, j + 2 = m := ⟨_, rfl⟩
  have wj2 : IntKind.i64.wrap ((j : Int) + 2) = (j2 : Int) := by rw [IntWalk.i64_in _ (by omega)]; omega
  by_cases h1 : j2 < ws.length
  · have d1 : ¬ (ws.length : Int) ≤ (j2 : Int) := by omega
    have f0 : (0 : Int) ≤ (j : Int) ∧ (j : Int) < (ws.length : Int) := by omega
    have f1 : (0 : Int) ≤ (j1 : Int) ∧ (j1 : Int) < (ws.length : Int) := by omega
    have f2 : (0 : Int) ≤ (j2 : Int) ∧ (j2 : Int) < (ws.length : Int) := by omega
    obtain ⟨b, off, rfl, -, hcc⟩ := HR.out.at_ (k := 0) (by omega)
    have c1 := hcc j hj
    have c2 := hcc j1 (by omega)
    have c3 := hcc j2 h1
    have hb1 := HX.out j
    have hb2 := HX.out j1
    have QX : gi ws j2 = gi ws j → (0 < gi ws j ↔ 0 < gi ws j1) → (gi ws j - gi ws j1).natAbs = 1 → ApP S ws 5 g j := fun e e2 e3 => ⟨fun h => by omega, fun h => by omega, fun h => by omega, fun _ i hi => by
      obtain rfl : j = i := by omega
      rw [hj1, hj2]; exact ⟨h1, e, e2, e3⟩, fun h => by omega⟩
    obtain ⟨x, hx⟩ : ∃ x, gi ws j = x := ⟨_, rfl⟩
    obtain ⟨y, hy⟩ : ∃ y, gi ws j1 = y := ⟨_, rfl⟩
    obtain ⟨z, hz⟩ : ∃ z, gi ws j2 = z := ⟨_, rfl⟩
    rw [hx] at c1 QX hb1
    rw [hy] at c2 QX hb2
    rw [hz] at c3 QX
    obtain ⟨t, ht⟩ : ∃ t : Int, x - y = t := ⟨_, rfl⟩
    obtain ⟨r, hr⟩ : ∃ r : Int, (t.natAbs : Int) = r := ⟨_, rfl⟩
    have wn : IntKind.i64.wrap (x - y) = t := by rw [IntWalk.i64_in _ (by omega), ht]
    have CZ := Lib.hid (size_q (x := t) (by omega) hr)
    rw [ht] at QX
    have KT := fun e e2 (e3 : r = 1) => KT (QX e e2 (by omega))
    clear hcc hx hy hz hj1 hj2 h1 hj HR QX HX ht hr hb1 hb2
    by_cases he : z = x
    · have z1 : (z == x) = true := by rw [beq_iff_eq]; exact he
      have KT := KT he
      clear he
      by_cases hp : 0 < x
      · have z2 : decide (0 < x) = true := decide_eq_true hp
        by_cases hq : 0 < y
        · have z3 : decide (0 < y) = true := decide_eq_true hq
          have KT := KT ⟨fun _ => hq, fun _ => hp⟩
          clear hp hq
          by_cases h1 : r = 1
          · have z4 : (r == 1) = true := by rw [beq_iff_eq]; exact h1
            have KT := KT h1
            clear h1
            go_enter Try.func54, Try.ntmps54
            go_wp2_with fail
            go_big_quiet (fail)
            go_wp2_with fail
            refine (CZ.out _).mono ?_
            rintro e w1 ⟨rfl, rfl⟩
            go_wp2_with fail
            go_ret
            exact KT.out _ (HB.out _)
          · have z4 : (r == 1) = false := by rw [beq_eq_false_iff_ne]; exact h1
            clear h1 KT
            go_enter Try.func54, Try.ntmps54
            go_wp2_with fail
            go_big_quiet (fail)
            go_wp2_with fail
            refine (CZ.out _).mono ?_
            rintro e w1 ⟨rfl, rfl⟩
            go_wp2_with fail
            go_ret
            exact KF.out _ (HB.out _)
        · have z3 : decide (0 < y) = false := decide_eq_false hq
          clear hp hq KT
          go_enter Try.func54, Try.ntmps54
          go_wp2_with fail
          go_big_quiet (fail)
          go_wp2_with fail
          go_ret
          exact KF.out _ (HB.out _)
      · have z2 : decide (0 < x) = false := decide_eq_false hp
        by_cases hq : 0 < y
        · have z3 : decide (0 < y) = true := decide_eq_true hq
          clear hp hq KT
          go_enter Try.func54, Try.ntmps54
          go_wp2_with fail
          go_big_quiet (fail)
          go_wp2_with fail
          go_ret
          exact KF.out _ (HB.out _)
        · have z3 : decide (0 < y) = false := decide_eq_false hq
          have KT := KT ⟨fun h => absurd h hp, fun h => absurd h hq⟩
          clear hp hq
          by_cases h1 : r = 1
          · have z4 : (r == 1) = true := by rw [beq_iff_eq]; exact h1
            have KT := KT h1
            clear h1
            go_enter Try.func54, Try.ntmps54
            go_wp2_with fail
            go_big_quiet (fail)
            go_wp2_with fail
            refine (CZ.out _).mono ?_
            rintro e w1 ⟨rfl, rfl⟩
            go_wp2_with fail
            go_ret
            exact KT.out _ (HB.out _)
          · have z4 : (r == 1) = false := by rw [beq_eq_false_iff_ne]; exact h1
            clear h1 KT
            go_enter Try.func54, Try.ntmps54
            go_wp2_with fail
            go_big_quiet (fail)
            go_wp2_with fail
            refine (CZ.out _).mono ?_
            rintro e w1 ⟨rfl, rfl⟩
            go_wp2_with fail
            go_ret
            exact KF.out _ (HB.out _)
    · have z1 : (z == x) = false := by rw [beq_eq_false_iff_ne]; exact he
      clear he KT
      go_enter Try.func54, Try.ntmps54
      go_wp2_with fail
      go_big_quiet (fail)
      go_wp2_with fail
      go_ret
      exact KF.out _ (HB.out _)
  · have d1 : (ws.length : Int) ≤ (j2 : Int) := by omega
    clear h1 hj1 hj2 HR KT HX wj1
    go_enter Try.func54, Try.ntmps54
    go_wp2_with fail
    go_ret
    exact KF.out _ HB0.out
include hS hn hx hr hP in
set_option maxRecDepth 100000 in
set_option maxHeartbeats 8000000 in
theorem app_k3 (a : Int) :
    Calls Try.prog 54 #[.agg #[.int .i64 S, .slice A ws.length c], .agg #[.int .i64 3, .int .i64 g, .int .i64 a]] w (Tells (ApP S ws 3 g a) w) := by
  have hmf : ∀ (fn : Fn) (first cap : Array Value) (w : World), (Instr.makeFunc fn first cap).run Try.prog w = .ok (.func fn first cap) w := fun _ _ _ _ => rfl
  have HB : Hid (∀ d, Below w.heap.size w (((w.alloc (.cells #[.int .i64 S, .slice A ws.length c] 37)).alloc (.cells #[.int .i64 3, .int .i64 g, .int .i64 a] 52)).drewN d)) := Lib.hid fun d => below_drew d (((Below.refl _ _).alloc (Nat.le_refl _) _).alloc (by simp) _)
  have HB0 : Hid (Below w.heap.size w ((w.alloc (.cells #[.int .i64 S, .slice A ws.length c] 37)).alloc (.cells #[.int .i64 3, .int .i64 g, .int .i64 a] 52))) := Lib.hid (((Below.refl _ _).alloc (Nat.le_refl _) _).alloc (by simp) _)
  have HR : Hid (RI ((w.alloc (.cells #[.int .i64 S, .slice A ws.length c] 37)).alloc (.cells #[.int .i64 3, .int .i64 g, .int .i64 a] 52)) P A ws) := Lib.hid (hr.keep fun b hb => by
    rw [Below.heap_alloc _ _ _ (by have := hP b hb; simp; omega), Below.heap_alloc _ _ _ (hP b hb)])
  have HX := Lib.hid hx
  clear hr hP hx
  have KF : Hid (∀ w', Below w.heap.size w w' → Tells (ApP S ws 3 g a) w (.returned (.bool false)) w') := Lib.hid fun _ h => .false h
  have KT : ApP S ws 3 g a → Hid (∀ w', Below w.heap.size w w' → Tells (ApP S ws 3 g a) w (.returned (.bool true)) w') := fun hh => Lib.hid fun _ h => .true hh h
  by_cases h1 : 2 ≤ S
  · have d1 : decide (2 ≤ S) = true := decide_eq_true h1
    by_cases h2 : 1 ≤ ws.length
    · have d2 : decide ((1 : Int) ≤ (ws.length : Int)) = true := decide_eq_true (by omega)
      obtain ⟨m, hm⟩ : ∃ m, ws.length - 1 = m := ⟨_, rfl⟩
      have wl : IntKind.i64.wrap ((ws.length : Int) - 1) = (m : Int) := by rw [IntWalk.i64_in _ (by omega)]; omega
      have QX : ((gi ws m).natAbs : Int) = S - 1 → (∀ j, j < m → ((gi ws j).natAbs : Int) ≠ S - 1) → ApP S ws 3 g a := fun e e2 => ⟨fun h => by omega, fun _ => ⟨h1, h2, by rw [hm]; exact e, by rw [hm]; exact e2⟩, fun h => by omega, fun h => by omega, fun h => by omega⟩
      have CI := fun W h (hR : RI W P A ws) => Lib.hid (ixlast_any w.heap.size S A c ws W P hR hn h hS fun k => by have := HX.out k; omega)
      have CI := fun h => CI _ h HR.out
      clear h1 h2 hm HR HX
      go_enter Try.func54, Try.ntmps54
      go_wp2_with fail
      refine (CI ?g1).out.mono ?_
      case g1 => simp [go_sem]
      rintro e w1 ⟨i, rfl, hi, hi0, d, rfl⟩
      by_cases he : i = m
      · have z1 : (i == (m : Int)) = true := by rw [beq_iff_eq]; exact he
        obtain ⟨-, e1, e2⟩ := hi m he
        have KT := KT (QX e1 e2)
        clear he hi QX e1 e2
        go_wp2_with fail
        go_ret
        exact KT.out _ (HB.out _)
      · have z1 : (i == (m : Int)) = false := by rw [beq_eq_false_iff_ne]; exact he
        clear he hi QX KT
        go_wp2_with fail
        go_ret
        exact KF.out _ (HB.out _)
    · have d2 : decide ((1 : Int) ≤ (ws.length : Int)) = false := decide_eq_false (by omega)
      clear h1 h2 HR KT HX
      go_enter Try.func54, Try.ntmps54
      go_wp2_with fail
      go_ret
      exact KF.out _ HB0.out
  · have d1 : decide (2 ≤ S) = false := decide_eq_false h1
    clear h1 HR KT HX
    go_enter Try.func54, Try.ntmps54
    go_wp2_with fail
    go_ret
    exact KF.out _ HB0.out
end
end Go.Proofs.Yteanhbldhaiekaa
