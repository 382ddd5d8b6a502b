/-
  The contract of markov.size; what a walk that tells something hands back.
  The contract of slices.IndexFunc at the closure of markov.applicable.
  The contract of markov.applicable.
-/
import Derived.Test.YteanhbldhaiekaaZ39
import Derived.BigQuiet
import Derived.Deep.QuietTactic
import Derived.IntWalk
namespace Go.Proofs.Yteanhbldhaiekaa
open Go.RowKit

theorem size_any (x : Int) (h : -1000000 ≤ x ∧ x ≤ 1000000) (w : World) : Calls Try.prog 73 #[.int .i64 x] w fun e w' => e = .returned (.int .i64 (x.natAbs : Int)) ∧ w = w' := by
  obtain ⟨h1, h2⟩ := h
  have z1 : IntKind.i64.wrap (-x) = -x := IntWalk.i64_in _ (by omega)
  by_cases hx : x < 0
  · have e : (x.natAbs : Int) = -x := by omega
    have HE := Lib.hid e
    have hx2 : x < -x := by omega
    have hx3 : ¬ -x < x := by omega
    clear e
    go_enter Try.func73, Try.ntmps73
    go_wp2_with fail
    go_ret
    exact ⟨ret_int HE.out.symm, rfl⟩
  · have e : (x.natAbs : Int) = x := by omega
    have HE := Lib.hid e
    have hx3 : ¬ x < -x := by omega
    clear e
    go_enter Try.func73, Try.ntmps73
    go_wp2_with fail
    go_ret
    exact ⟨ret_int HE.out.symm, rfl⟩
/-- the step's numbers are in the table -/
def ItP (S N k g a : Int) : Prop :=
  (k = 1 → (g ≠ 0 ∧ -S < g ∧ g < S) ∧ (a = 0 ∨ a = 1)) ∧ (k = 2 → (g = 1 ∨ g = -1) ∧ a = 0) ∧ (k = 3 → g = 0 ∧ a = 0) ∧ (k = 6 → (g ≠ 0 ∧ -S < g ∧ g < S) ∧ 0 ≤ a ∧ a ≤ N) ∧ (k = 4 ∨ k = 5 ∨ k = 7 → g = 0 ∧ 0 ≤ a ∧ a < N)
/-- a bool that is true only if P -/
def Tells (P : Prop) (w : World) (e : Ending) (w' : World) : Prop := ∃ r : Bool, e = .returned (.bool r) ∧ (r = true → P) ∧ Below w.heap.size w w'
theorem step_box (w : World) (k g a : Int) (t : TypeId) : (w.alloc (.cells #[.int .i64 k, .int .i64 g, .int .i64 a] t)).cell? ⟨w.heap.size, 0, none⟩ = some (.int .i64 k) ∧ (w.alloc (.cells #[.int .i64 k, .int .i64 g, .int .i64 a] t)).cell? ⟨w.heap.size, 1, none⟩ = some (.int .i64 g) ∧ (w.alloc (.cells #[.int .i64 k, .int .i64 g, .int .i64 a] t)).cell? ⟨w.heap.size, 2, none⟩ = some (.int .i64 a) :=
  ⟨by rw [World.cell?_alloc_new]; rfl, by rw [World.cell?_alloc_new]; rfl, by rw [World.cell?_alloc_new]; rfl⟩
end Go.Proofs.Yteanhbldhaiekaa
namespace Go.Proofs.Yteanhbldhaiekaa
open Go.RowKit

theorem calls_k1 {K : Nat} {fn : Func} {c : Code} (hf : Try.prog.funcs[K]? = some fn) (hname : (fn.name == "runtime.NumGoroutine") = false) (hb : fn.body = some c) (args : Array Value) (w : World) : (callFunc K args).run Try.prog w = .ok (.enter K args) w := by
  have h1 : fn.name ≠ "runtime.NumGoroutine" := by simpa using hname
  simp [callFunc, hf, h1, hb]
/-- the closure of applicable -/
theorem islast_any (bd : Nat) (S x : Int) (W : World) (h0 : W.cell? ⟨bd, 0, none⟩ = some (.int .i64 S)) (hS : 1 ≤ S ∧ S ≤ 10) (hx : -1000000 ≤ x ∧ x ≤ 1000000) :
    Calls Try.prog 72 #[.int .i64 x, .pointer (some ⟨bd, 0, none⟩)] W fun e w' => e = .returned (.bool ((x.natAbs : Int) == S - 1)) ∧ ∃ d, w' = W.drewN d := by
  have wn : IntKind.i64.wrap (S - 1) = S - 1 := IntWalk.i64_in _ (by omega)
  have HX := Lib.hid hx
  cases hb : ((x.natAbs : Int) == S - 1)
  all_goals
    clear hx
    go_enter Try.func72, Try.ntmps72
    go_wp2_with fail
    go_quiet ((go_at_call 73; exact Calls.quiet_of_same ((size_any x HX.out _).mono fun _ _ h => ⟨h.1, h.2.symm⟩)))
    go_wp2_with fail
    go_ret
    exact ⟨rfl, _, rfl⟩
set_option maxHeartbeats 1000000 in
theorem ixlast_any (bd : Nat) (S : Int) (A : Option Addr) (c : Nat) (xs : List Int) (w : World) (P : Nat → Prop) (hr : RI w P A xs) (hm : xs.length ≤ 200) (h0 : w.cell? ⟨bd, 0, none⟩ = some (.int .i64 S)) (hS : 1 ≤ S ∧ S ≤ 10) (hx : ∀ k, -1000000 ≤ gi xs k ∧ gi xs k ≤ 1000000) :
    Calls Try.prog 74 #[.slice A xs.length c, .func (.func 72) #[] #[.pointer (some ⟨bd, 0, none⟩)]] w fun e w' => ∃ i : Int, e = .returned (.int .i64 i) ∧ (∀ k : Nat, i = k → k < xs.length ∧ ((gi xs k).natAbs : Int) = S - 1 ∧ ∀ j, j < k → ((gi xs j).natAbs : Int) ≠ S - 1) ∧ -1 ≤ i ∧ ∃ d, w' = w.drewN d := by
  have HR := Lib.hid hr
  have HX := Lib.hid hx
  have hin := fun (args : Array Value) (w : World) => calls_k1 (K := 72) Try.func72 (by kernel_rfl) rfl args w
  clear hr hx
  go_enter Try.func74, Try.ntmps74
  go_wp2_with fail
  go_loopw [5, 8] (fun _ i wr => ∃ k d : Nat, k ≤ xs.length ∧ i = .int .i64 k ∧ wr = w.drewN d ∧ Hid (∀ j, j < k → ((gi xs j).natAbs : Int) ≠ S - 1)) (fun _ i _ => xs.length - (intOf i).toNat)
  case atStart => exact ⟨0, 0, Nat.zero_le _, rfl, rfl, fun j hj => by omega⟩
  case round =>
    obtain ⟨k, d, hk, rfl, rfl, HA⟩ := hrel
    by_cases hlt : k < xs.length
    · obtain ⟨b, off, rfl, -, hcc⟩ := HR.out.at_ hlt
      have c1 := hcc k hlt
      cases hq : (((gi xs k).natAbs : Int) == S - 1)
      · have HA' : Hid (∀ j, j < k + 1 → ((gi xs j).natAbs : Int) ≠ S - 1) := fun j hj => by
          rcases Nat.lt_or_eq_of_le (Nat.le_of_lt_succ hj) with h1 | rfl
          · exact HA.out j h1
          · exact beq_eq_false_iff_ne.1 hq
        have HC := fun W h => Lib.hid (islast_any bd S (gi xs k) W h hS (HX.out k))
        rw [hq] at HC
        clear hcc hq HA
        go_wp2_with fail
        refine (HC _ ?g1).out.mono ?_
        case g1 => exact h0
        rintro e w1 ⟨rfl, d2, rfl⟩
        go_wp2_with fail
        go_roundw
        case rel => exact ⟨k + 1, _, by omega, by go_num, rfl, HA'⟩
        case measure => simp [intOf]; omega
      · have HC := fun W h => Lib.hid (islast_any bd S (gi xs k) W h hS (HX.out k))
        rw [hq] at HC
        have HQ := Lib.hid (beq_iff_eq.1 hq)
        clear hcc hq
        go_wp2_with fail
        refine (HC _ ?g1).out.mono ?_
        case g1 => exact h0
        rintro e w1 ⟨rfl, d2, rfl⟩
        go_wp2_with fail
        go_ret
        exact ⟨_, rfl, fun j hj => by obtain rfl : k = j := by omega
                                      exact ⟨hlt, HQ.out, HA.out⟩, by omega, _, rfl⟩
    · go_wp2_with fail
      go_ret
      exact ⟨_, rfl, fun j hj => by omega, by omega, _, rfl⟩
end Go.Proofs.Yteanhbldhaiekaa
namespace Go.Proofs.Yteanhbldhaiekaa
open Go.RowKit

/-- the step applies -/
def ApP (S : Int) (ws : List Int) (k g a : Int) : Prop :=
  (k = 1 → a = 0 ∨ (2 ≤ ws.length ∧ gi ws 0 = -g ∧ gi ws (ws.length - 1) = g)) ∧
  (k = 3 → 2 ≤ S ∧ 1 ≤ ws.length ∧ ((gi ws (ws.length - 1)).natAbs : Int) = S - 1 ∧ ∀ j, j < ws.length - 1 → ((gi ws j).natAbs : Int) ≠ S - 1) ∧
  (k = 4 → ∀ j : Nat, a = j → j + 1 < ws.length ∧ 2 ≤ (((gi ws j).natAbs : Int) - (gi ws (j + 1)).natAbs).natAbs) ∧
  (k = 5 → ∀ j : Nat, a = j → j + 2 < ws.length ∧ gi ws (j + 2) = gi ws j ∧ (0 < gi ws j ↔ 0 < gi ws (j + 1)) ∧ (gi ws j - gi ws (j + 1)).natAbs = 1) ∧
  (k = 7 → ∀ j : Nat, a = j → j + 1 < ws.length ∧ gi ws (j + 1) = -gi ws j)
theorem Tells.false {P : Prop} {w w' : World} (hb : Below w.heap.size w w') : Tells P w (.returned (.bool false)) w' := ⟨Bool.false, rfl, (fun h => by cases h), hb⟩
theorem Tells.true {P : Prop} {w w' : World} (h : P) (hb : Below w.heap.size w w') : Tells P w (.returned (.bool true)) w' := ⟨Bool.true, rfl, (fun _ => h), hb⟩
theorem below_drew {B : Nat} {w w' : World} (d : Nat) (h : Below B w w') : Below B w (w'.drewN d) := ⟨h.os, h.tape, h.output, h.size, h.block⟩
section
variable (A : Option Addr) (c : Nat) (ws : List Int) (S g a : Int) (hS : 1 ≤ S ∧ S ≤ 10) (hn : ws.length ≤ 200) (hg : -10 ≤ g ∧ g ≤ 10) (w : World) (P : Nat → Prop) (hr : RI w P A ws) (hP : ∀ b, P b → b < w.heap.size)
set_option maxRecDepth 100000 in
set_option maxHeartbeats 8000000 in
theorem app_k2 :
    Calls Try.prog 54 #[.agg #[.int .i64 S, .slice A ws.length c], .agg #[.int .i64 2, .int .i64 g, .int .i64 a]] w (Tells (ApP S ws 2 g a) w) := by
  have HB : Hid (∀ d, Below w.heap.size w (((w.alloc (.cells #[.int .i64 S, .slice A ws.length c] 37)).alloc (.cells #[.int .i64 2, .int .i64 g, .int .i64 a] 52)).drewN d)) := Lib.hid fun d => below_drew d (((Below.refl _ _).alloc (Nat.le_refl _) _).alloc (by simp) _)
  have HB0 : Hid (Below w.heap.size w ((w.alloc (.cells #[.int .i64 S, .slice A ws.length c] 37)).alloc (.cells #[.int .i64 2, .int .i64 g, .int .i64 a] 52))) := Lib.hid (((Below.refl _ _).alloc (Nat.le_refl _) _).alloc (by simp) _)
  go_enter Try.func54, Try.ntmps54
  go_wp2_with fail
  go_ret
  exact Tells.true ⟨fun h => by omega, fun h => by omega, fun h => by omega, fun h => by omega, fun h => by omega⟩ HB0.out
set_option maxRecDepth 100000 in
set_option maxHeartbeats 8000000 in
theorem app_k6 :
    Calls Try.prog 54 #[.agg #[.int .i64 S, .slice A ws.length c], .agg #[.int .i64 6, .int .i64 g, .int .i64 a]] w (Tells (ApP S ws 6 g a) w) := by
  have HB : Hid (∀ d, Below w.heap.size w (((w.alloc (.cells #[.int .i64 S, .slice A ws.length c] 37)).alloc (.cells #[.int .i64 6, .int .i64 g, .int .i64 a] 52)).drewN d)) := Lib.hid fun d => below_drew d (((Below.refl _ _).alloc (Nat.le_refl _) _).alloc (by simp) _)
  have HB0 : Hid (Below w.heap.size w ((w.alloc (.cells #[.int .i64 S, .slice A ws.length c] 37)).alloc (.cells #[.int .i64 6, .int .i64 g, .int .i64 a] 52))) := Lib.hid (((Below.refl _ _).alloc (Nat.le_refl _) _).alloc (by simp) _)
  go_enter Try.func54, Try.ntmps54
  go_wp2_with fail
  go_ret
  exact Tells.true ⟨fun h => by omega, fun h => by omega, fun h => by omega, fun h => by omega, fun h => by omega⟩ HB0.out
include hn hg hr hP in
set_option maxRecDepth 100000 in
set_option maxHeartbeats 8000000 in
theorem app_k1 :
    Calls Try.prog 54 #[.agg #[.int .i64 S, .slice A ws.length c], .agg #[.int .i64 1, .int .i64 g, .int .i64 a]] w (Tells (ApP S ws 1 g a) w) := by
  have HB : Hid (∀ d, Below w.heap.size w (((w.alloc (.cells #[.int .i64 S, .slice A ws.length c] 37)).alloc (.cells #[.int .i64 1, .int .i64 g, .int .i64 a] 52)).drewN d)) := Lib.hid fun d => below_drew d (((Below.refl _ _).alloc (Nat.le_refl _) _).alloc (by simp) _)
  have HB0 : Hid (Below w.heap.size w ((w.alloc (.cells #[.int .i64 S, .slice A ws.length c] 37)).alloc (.cells #[.int .i64 1, .int .i64 g, .int .i64 a] 52))) := Lib.hid (((Below.refl _ _).alloc (Nat.le_refl _) _).alloc (by simp) _)
  have HR : Hid (RI ((w.alloc (.cells #[.int .i64 S, .slice A ws.length c] 37)).alloc (.cells #[.int .i64 1, .int .i64 g, .int .i64 a] 52)) P A ws) := Lib.hid (hr.keep fun b hb => by
    rw [Below.heap_alloc _ _ _ (by have := hP b hb; simp; omega), Below.heap_alloc _ _ _ (hP b hb)])
  have wn : IntKind.i64.wrap (-g) = -g := IntWalk.i64_in _ (by omega)
  have KF : Hid (∀ w', Below w.heap.size w w' → Tells (ApP S ws 1 g a) w (.returned (.bool false)) w') := Lib.hid fun _ h => .false h
  have KT : (a = 0 ∨ (2 ≤ ws.length ∧ gi ws 0 = -g ∧ gi ws (ws.length - 1) = g)) → Hid (∀ w', Below w.heap.size w w' → Tells (ApP S ws 1 g a) w (.returned (.bool true)) w') := fun hh => Lib.hid fun _ h => .true ⟨fun _ => hh, fun h => by omega, fun h => by omega, fun h => by omega, fun h => by omega⟩ h
  clear hr hP hg
  by_cases h0 : a = 0
  · have KT := KT (.inl h0)
    have z0 : (a == 0) = true := by rw [beq_iff_eq]; exact h0
    clear h0 HR
    go_enter Try.func54, Try.ntmps54
    go_wp2_with fail
    go_big_quiet (fail)
    go_wp2_with fail
    go_ret
    exact KT.out _ (HB.out _)
  · have z0 : (a == 0) = false := by rw [beq_eq_false_iff_ne]; exact h0
    clear h0
    by_cases h2 : 2 ≤ ws.length
    · have e1 : (2 : Int) ≤ (ws.length : Int) := by omega
      have e2 : (0 : Int) < (ws.length : Int) := by omega
      have e4 : 0 < ws.length := by omega
      have wl : IntKind.i64.wrap ((ws.length : Int) - 1) = ((ws.length - 1 : Nat) : Int) := by rw [IntWalk.i64_in _ (by omega)]; omega
      have e3 : (0 : Int) ≤ ((ws.length - 1 : Nat) : Int) ∧ ((ws.length - 1 : Nat) : Int) < (ws.length : Int) := by omega
      obtain ⟨b, off, rfl, -, hcc⟩ := HR.out.at_ (k := 0) (by omega)
      have c1 := hcc 0 (by omega)
      have c2 := hcc (ws.length - 1) (by omega)
      obtain ⟨x, hx⟩ : ∃ x, gi ws 0 = x := ⟨_, rfl⟩
      obtain ⟨y, hy⟩ : ∃ y, gi ws (ws.length - 1) = y := ⟨_, rfl⟩
      rw [hx] at c1 KT
      rw [Nat.add_zero] at c1
      rw [hy] at c2 KT
      obtain ⟨m, hm⟩ : ∃ m, ws.length - 1 = m := ⟨_, rfl⟩
      rw [hm] at c2 wl e3
      clear hcc hx hy hm HR
      by_cases hx : x = -g
      · have z1 : (x == -g) = true := by rw [beq_iff_eq]; exact hx
        by_cases hy : y = g
        · have z2 : (y == g) = true := by rw [beq_iff_eq]; exact hy
          have KT := KT (.inr ⟨h2, hx, hy⟩)
          clear hx hy
          go_enter Try.func54, Try.ntmps54
          go_wp2_with fail
          go_big_quiet (fail)
          go_wp2_with fail
          go_ret
          exact KT.out _ (HB.out _)
        · have z2 : (y == g) = false := by rw [beq_eq_false_iff_ne]; exact hy
          clear hx hy KT
          go_enter Try.func54, Try.ntmps54
          go_wp2_with fail
          go_big_quiet (fail)
          go_wp2_with fail
          go_ret
          exact KF.out _ (HB.out _)
      · have z1 : (x == -g) = false := by rw [beq_eq_false_iff_ne]; exact hx
        clear hx KT
        go_enter Try.func54, Try.ntmps54
        go_wp2_with fail
        go_big_quiet (fail)
        go_wp2_with fail
        go_ret
        exact KF.out _ (HB.out _)
    · have e1 : ¬ (2 : Int) ≤ (ws.length : Int) := by omega
      have e2 : decide ((2 : Int) ≤ (ws.length : Int)) = false := decide_eq_false e1
      clear KT HR
      go_enter Try.func54, Try.ntmps54
      go_wp2_with fail
      go_big_quiet (fail)
      go_wp2_with fail
      go_ret
      exact KF.out _ (HB.out _)
end
end Go.Proofs.Yteanhbldhaiekaa
