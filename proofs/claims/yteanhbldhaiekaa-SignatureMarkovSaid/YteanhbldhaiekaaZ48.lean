/-
  The contract of markov.inTable.
-/
import Derived.Test.YteanhbldhaiekaaZ40
namespace Go.Proofs.Yteanhbldhaiekaa
open Go.RowKit

set_option maxRecDepth 100000 in
set_option maxHeartbeats 8000000 in
theorem inTable_k1 (A : Option Addr) (n c : Nat) (S g a : Int) (hS : 1 ≤ S ∧ S ≤ 10) (w : World) :
    Calls Try.prog 53 #[.agg #[.int .i64 S, .slice A n c], .agg #[.int .i64 1, .int .i64 g, .int .i64 a]] w (Tells (ItP S n 1 g a) w) := by
  have wn : IntKind.i64.wrap (-S) = -S := IntWalk.i64_in _ (by omega)
  have HB : Hid (Below w.heap.size w ((w.alloc (.cells #[.int .i64 S, .slice A n c] 37)).alloc (.cells #[.int .i64 1, .int .i64 g, .int .i64 a] 52))) := Lib.hid (((Below.refl _ _).alloc (Nat.le_refl _) _).alloc (by simp) _)
  have key : ∀ r : Bool, (r = true → (ItP S n 1 g a)) → Hid (Tells (ItP S n 1 g a) w (.returned (.bool r)) ((w.alloc (.cells #[.int .i64 S, .slice A n c] 37)).alloc (.cells #[.int .i64 1, .int .i64 g, .int .i64 a] 52))) := fun r h => Lib.hid ⟨r, rfl, h, HB.out⟩
  have HF := key false (fun h => by cases h)
  by_cases hP : (ItP S n 1 g a)
  all_goals have hP2 := hP
  all_goals unfold ItP at hP2
  all_goals by_cases h0 : g = 0
  all_goals by_cases h1 : -S < g
  all_goals by_cases h2 : g < S
  all_goals by_cases h3 : a = 0
  all_goals by_cases h4 : a = 1
  all_goals
    try (exfalso; omega)
  all_goals
    clear hP2
    (first | (have HT := key true (fun _ => hP)) | skip)
    clear key hP
    (first | (have z0 : (g != 0) = false := by rw [bne_eq_false_iff_eq]; exact h0) | (have z0 : (g != 0) = true := by rw [bne_iff_ne]; exact h0))
    (first | (have z1 : decide (-S < g) = true := decide_eq_true h1) | (have z1 : decide (-S < g) = false := decide_eq_false h1))
    (first | (have z2 : decide (g < S) = true := decide_eq_true h2) | (have z2 : decide (g < S) = false := decide_eq_false h2))
    (first | (have z3 : (a == 0) = true := by rw [beq_iff_eq]; exact h3) | (have z3 : (a == 0) = false := by rw [beq_eq_false_iff_ne]; exact h3))
    (first | (have z4 : (a == 1) = true := by rw [beq_iff_eq]; exact h4) | (have z4 : (a == 1) = false := by rw [beq_eq_false_iff_ne]; exact h4))
    clear h0 h1 h2 h3 h4
    go_enter Try.func53, Try.ntmps53
    go_wp2_with fail
    go_ret
    first
      | exact HF.out
      | exact HT.out
set_option maxRecDepth 100000 in
set_option maxHeartbeats 8000000 in
theorem inTable_k2 (A : Option Addr) (n c : Nat) (S g a : Int) (hS : 1 ≤ S ∧ S ≤ 10) (w : World) :
    Calls Try.prog 53 #[.agg #[.int .i64 S, .slice A n c], .agg #[.int .i64 2, .int .i64 g, .int .i64 a]] w (Tells (ItP S n 2 g a) w) := by
  have wn : IntKind.i64.wrap (-S) = -S := IntWalk.i64_in _ (by omega)
  have HB : Hid (Below w.heap.size w ((w.alloc (.cells #[.int .i64 S, .slice A n c] 37)).alloc (.cells #[.int .i64 2, .int .i64 g, .int .i64 a] 52))) := Lib.hid (((Below.refl _ _).alloc (Nat.le_refl _) _).alloc (by simp) _)
  have key : ∀ r : Bool, (r = true → (ItP S n 2 g a)) → Hid (Tells (ItP S n 2 g a) w (.returned (.bool r)) ((w.alloc (.cells #[.int .i64 S, .slice A n c] 37)).alloc (.cells #[.int .i64 2, .int .i64 g, .int .i64 a] 52))) := fun r h => Lib.hid ⟨r, rfl, h, HB.out⟩
  have HF := key false (fun h => by cases h)
  by_cases hP : (ItP S n 2 g a)
  all_goals have hP2 := hP
  all_goals unfold ItP at hP2
  all_goals by_cases h0 : g = 0
  all_goals by_cases h1 : -S < g
  all_goals by_cases h2 : g < S
  all_goals by_cases h3 : g = 1
  all_goals by_cases h4 : g = -1
  all_goals by_cases h5 : a = 0
  all_goals
    try (exfalso; omega)
  all_goals
    clear hP2
    (first | (have HT := key true (fun _ => hP)) | skip)
    clear key hP
    (first | (have z0 : (g != 0) = false := by rw [bne_eq_false_iff_eq]; exact h0) | (have z0 : (g != 0) = true := by rw [bne_iff_ne]; exact h0))
    (first | (have z1 : decide (-S < g) = true := decide_eq_true h1) | (have z1 : decide (-S < g) = false := decide_eq_false h1))
    (first | (have z2 : decide (g < S) = true := decide_eq_true h2) | (have z2 : decide (g < S) = false := decide_eq_false h2))
    (first | (have z3 : (g == 1) = true := by rw [beq_iff_eq]; exact h3) | (have z3 : (g == 1) = false := by rw [beq_eq_false_iff_ne]; exact h3))
    (first | (have z4 : (g == -1) = true := by rw [beq_iff_eq]; exact h4) | (have z4 : (g == -1) = false := by rw [beq_eq_false_iff_ne]; exact h4))
    (first | (have z5 : (a == 0) = true := by rw [beq_iff_eq]; exact h5) | (have z5 : (a == 0) = false := by rw [beq_eq_false_iff_ne]; exact h5))
    clear h0 h1 h2 h3 h4 h5
    go_enter Try.func53, Try.ntmps53
    go_wp2_with fail
    go_ret
    first
      | exact HF.out
      | exact HT.out
set_option maxRecDepth 100000 in
set_option maxHeartbeats 8000000 in
theorem inTable_k3 (A : Option Addr) (n c : Nat) (S g a : Int) (hS : 1 ≤ S ∧ S ≤ 10) (w : World) :
    Calls Try.prog 53 #[.agg #[.int .i64 S, .slice A n c], .agg #[.int .i64 3, .int .i64 g, .int .i64 a]] w (Tells (ItP S n 3 g a) w) := by
  have wn : IntKind.i64.wrap (-S) = -S := IntWalk.i64_in _ (by omega)
  have HB : Hid (Below w.heap.size w ((w.alloc (.cells #[.int .i64 S, .slice A n c] 37)).alloc (.cells #[.int .i64 3, .int .i64 g, .int .i64 a] 52))) := Lib.hid (((Below.refl _ _).alloc (Nat.le_refl _) _).alloc (by simp) _)
  have key : ∀ r : Bool, (r = true → (ItP S n 3 g a)) → Hid (Tells (ItP S n 3 g a) w (.returned (.bool r)) ((w.alloc (.cells #[.int .i64 S, .slice A n c] 37)).alloc (.cells #[.int .i64 3, .int .i64 g, .int .i64 a] 52))) := fun r h => Lib.hid ⟨r, rfl, h, HB.out⟩
  have HF := key false (fun h => by cases h)
  by_cases hP : (ItP S n 3 g a)
  all_goals have hP2 := hP
  all_goals unfold ItP at hP2
  all_goals by_cases h0 : g = 0
  all_goals by_cases h1 : -S < g
  all_goals by_cases h2 : g < S
  all_goals by_cases h3 : a = 0
  all_goals
    try (exfalso; omega)
  all_goals
    clear hP2
    (first | (have HT := key true (fun _ => hP)) | skip)
    clear key hP
    (first | (have z0 : (g != 0) = false := by rw [bne_eq_false_iff_eq]; exact h0) | (have z0 : (g != 0) = true := by rw [bne_iff_ne]; exact h0))
    (first | (have z1 : decide (-S < g) = true := decide_eq_true h1) | (have z1 : decide (-S < g) = false := decide_eq_false h1))
    (first | (have z2 : decide (g < S) = true := decide_eq_true h2) | (have z2 : decide (g < S) = false := decide_eq_false h2))
    (first | (have z3 : (a == 0) = true := by rw [beq_iff_eq]; exact h3) | (have z3 : (a == 0) = false := by rw [beq_eq_false_iff_ne]; exact h3))
    (first | (have z4 : (g == 0) = true := by rw [beq_iff_eq]; exact h0) | (have z4 : (g == 0) = false := by rw [beq_eq_false_iff_ne]; exact h0))
    clear h0 h1 h2 h3
    go_enter Try.func53, Try.ntmps53
    go_wp2_with fail
    go_ret
    first
      | exact HF.out
      | exact HT.out
set_option maxRecDepth 100000 in
set_option maxHeartbeats 8000000 in
theorem inTable_k4 (A : Option Addr) (n c : Nat) (S g a : Int) (hS : 1 ≤ S ∧ S ≤ 10) (w : World) :
    Calls Try.prog 53 #[.agg #[.int .i64 S, .slice A n c], .agg #[.int .i64 4, .int .i64 g, .int .i64 a]] w (Tells (ItP S n 4 g a) w) := by
  have wn : IntKind.i64.wrap (-S) = -S := IntWalk.i64_in _ (by omega)
  have HB : Hid (Below w.heap.size w ((w.alloc (.cells #[.int .i64 S, .slice A n c] 37)).alloc (.cells #[.int .i64 4, .int .i64 g, .int .i64 a] 52))) := Lib.hid (((Below.refl _ _).alloc (Nat.le_refl _) _).alloc (by simp) _)
  have key : ∀ r : Bool, (r = true → (ItP S n 4 g a)) → Hid (Tells (ItP S n 4 g a) w (.returned (.bool r)) ((w.alloc (.cells #[.int .i64 S, .slice A n c] 37)).alloc (.cells #[.int .i64 4, .int .i64 g, .int .i64 a] 52))) := fun r h => Lib.hid ⟨r, rfl, h, HB.out⟩
  have HF := key false (fun h => by cases h)
  by_cases hP : (ItP S n 4 g a)
  all_goals have hP2 := hP
  all_goals unfold ItP at hP2
  all_goals by_cases h0 : g = 0
  all_goals by_cases h1 : -S < g
  all_goals by_cases h2 : g < S
  all_goals by_cases h3 : 0 ≤ a
  all_goals by_cases h4 : a < (n : Int)
  all_goals
    try (exfalso; omega)
  all_goals
    clear hP2
    (first | (have HT := key true (fun _ => hP)) | skip)
    clear key hP
    (first | (have z0 : (g != 0) = false := by rw [bne_eq_false_iff_eq]; exact h0) | (have z0 : (g != 0) = true := by rw [bne_iff_ne]; exact h0))
    (first | (have z1 : decide (-S < g) = true := decide_eq_true h1) | (have z1 : decide (-S < g) = false := decide_eq_false h1))
    (first | (have z2 : decide (g < S) = true := decide_eq_true h2) | (have z2 : decide (g < S) = false := decide_eq_false h2))
    (first | (have z3 : decide (0 ≤ a) = true := decide_eq_true h3) | (have z3 : decide (0 ≤ a) = false := decide_eq_false h3))
    (first | (have z4 : decide (a < (n : Int)) = true := decide_eq_true h4) | (have z4 : decide (a < (n : Int)) = false := decide_eq_false h4))
    (first | (have z5 : (g == 0) = true := by rw [beq_iff_eq]; exact h0) | (have z5 : (g == 0) = false := by rw [beq_eq_false_iff_ne]; exact h0))
    clear h0 h1 h2 h3 h4
    go_enter Try.func53, Try.ntmps53
    go_wp2_with fail
    go_ret
    first
      | exact HF.out
      | exact HT.out
set_option maxRecDepth 100000 in
set_option maxHeartbeats 8000000 in
theorem inTable_k5 (A : Option Addr) (n c : Nat) (S g a : Int) (hS : 1 ≤ S ∧ S ≤ 10) (w : World) :
    Calls Try.prog 53 #[.agg #[.int .i64 S, .slice A n c], .agg #[.int .i64 5, .int .i64 g, .int .i64 a]] w (Tells (ItP S n 5 g a) w) := by
  have wn : IntKind.i64.wrap (-S) = -S := IntWalk.i64_in _ (by omega)
  have HB : Hid (Below w.heap.size w ((w.alloc (.cells #[.int .i64 S, .slice A n c] 37)).alloc (.cells #[.int .i64 5, .int .i64 g, .int .i64 a] 52))) := Lib.hid (((Below.refl _ _).alloc (Nat.le_refl _) _).alloc (by simp) _)
  have key : ∀ r : Bool, (r = true → (ItP S n 5 g a)) → Hid (Tells (ItP S n 5 g a) w (.returned (.bool r)) ((w.alloc (.cells #[.int .i64 S, .slice A n c] 37)).alloc (.cells #[.int .i64 5, .int .i64 g, .int .i64 a] 52))) := fun r h => Lib.hid ⟨r, rfl, h, HB.out⟩
  have HF := key false (fun h => by cases h)
  by_cases hP : (ItP S n 5 g a)
  all_goals have hP2 := hP
  all_goals unfold ItP at hP2
  all_goals by_cases h0 : g = 0
  all_goals by_cases h1 : -S < g
  all_goals by_cases h2 : g < S
  all_goals by_cases h3 : 0 ≤ a
  all_goals by_cases h4 : a < (n : Int)
  all_goals
    try (exfalso; omega)
  all_goals
    clear hP2
    (first | (have HT := key true (fun _ => hP)) | skip)
    clear key hP
    (first | (have z0 : (g != 0) = false := by rw [bne_eq_false_iff_eq]; exact h0) | (have z0 : (g != 0) = true := by rw [bne_iff_ne]; exact h0))
    (first | (have z1 : decide (-S < g) = true := decide_eq_true h1) | (have z1 : decide (-S < g) = false := decide_eq_false h1))
    (first | (have z2 : decide (g < S) = true := decide_eq_true h2) | (have z2 : decide (g < S) = false := decide_eq_false h2))
    (first | (have z3 : decide (0 ≤ a) = true := decide_eq_true h3) | (have z3 : decide (0 ≤ a) = false := decide_eq_false h3))
    (first | (have z4 : decide (a < (n : Int)) = true := decide_eq_true h4) | (have z4 : decide (a < (n : Int)) = false := decide_eq_false h4))
    (first | (have z5 : (g == 0) = true := by rw [beq_iff_eq]; exact h0) | (have z5 : (g == 0) = false := by rw [beq_eq_false_iff_ne]; exact h0))
    clear h0 h1 h2 h3 h4
    go_enter Try.func53, Try.ntmps53
    go_wp2_with fail
    go_ret
    first
      | exact HF.out
      | exact HT.out
set_option maxRecDepth 100000 in
set_option maxHeartbeats 8000000 in
theorem inTable_k6 (A : Option Addr) (n c : Nat) (S g a : Int) (hS : 1 ≤ S ∧ S ≤ 10) (w : World) :
    Calls Try.prog 53 #[.agg #[.int .i64 S, .slice A n c], .agg #[.int .i64 6, .int .i64 g, .int .i64 a]] w (Tells (ItP S n 6 g a) w) := by
  have wn : IntKind.i64.wrap (-S) = -S := IntWalk.i64_in _ (by omega)
  have HB : Hid (Below w.heap.size w ((w.alloc (.cells #[.int .i64 S, .slice A n c] 37)).alloc (.cells #[.int .i64 6, .int .i64 g, .int .i64 a] 52))) := Lib.hid (((Below.refl _ _).alloc (Nat.le_refl _) _).alloc (by simp) _)
  have key : ∀ r : Bool, (r = true → (ItP S n 6 g a)) → Hid (Tells (ItP S n 6 g a) w (.returned (.bool r)) ((w.alloc (.cells #[.int .i64 S, .slice A n c] 37)).alloc (.cells #[.int .i64 6, .int .i64 g, .int .i64 a] 52))) := fun r h => Lib.hid ⟨r, rfl, h, HB.out⟩
  have HF := key false (fun h => by cases h)
  by_cases hP : (ItP S n 6 g a)
  all_goals have hP2 := hP
  all_goals unfold ItP at hP2
  all_goals by_cases h0 : g = 0
  all_goals by_cases h1 : -S < g
  all_goals by_cases h2 : g < S
  all_goals by_cases h3 : 0 ≤ a
  all_goals by_cases h4 : a ≤ (n : Int)
  all_goals
    try (exfalso; omega)
  all_goals
    clear hP2
    (first | (have HT := key true (fun _ => hP)) | skip)
    clear key hP
    (first | (have z0 : (g != 0) = false := by rw [bne_eq_false_iff_eq]; exact h0) | (have z0 : (g != 0) = true := by rw [bne_iff_ne]; exact h0))
    (first | (have z1 : decide (-S < g) = true := decide_eq_true h1) | (have z1 : decide (-S < g) = false := decide_eq_false h1))
    (first | (have z2 : decide (g < S) = true := decide_eq_true h2) | (have z2 : decide (g < S) = false := decide_eq_false h2))
    (first | (have z3 : decide (0 ≤ a) = true := decide_eq_true h3) | (have z3 : decide (0 ≤ a) = false := decide_eq_false h3))
    (first | (have z4 : decide (a ≤ (n : Int)) = true := decide_eq_true h4) | (have z4 : decide (a ≤ (n : Int)) = false := decide_eq_false h4))
    clear h0 h1 h2 h3 h4
    go_enter Try.func53, Try.ntmps53
    go_wp2_with fail
    go_ret
    first
      | exact HF.out
      | exact HT.out
set_option maxRecDepth 100000 in
set_option maxHeartbeats 8000000 in
theorem inTable_k7 (A : Option Addr) (n c : Nat) (S g a : Int) (hS : 1 ≤ S ∧ S ≤ 10) (w : World) :
    Calls Try.prog 53 #[.agg #[.int .i64 S, .slice A n c], .agg #[.int .i64 7, .int .i64 g, .int .i64 a]] w (Tells (ItP S n 7 g a) w) := by
  have wn : IntKind.i64.wrap (-S) = -S := IntWalk.i64_in _ (by omega)
  have HB : Hid (Below w.heap.size w ((w.alloc (.cells #[.int .i64 S, .slice A n c] 37)).alloc (.cells #[.int .i64 7, .int .i64 g, .int .i64 a] 52))) := Lib.hid (((Below.refl _ _).alloc (Nat.le_refl _) _).alloc (by simp) _)
  have key : ∀ r : Bool, (r = true → (ItP S n 7 g a)) → Hid (Tells (ItP S n 7 g a) w (.returned (.bool r)) ((w.alloc (.cells #[.int .i64 S, .slice A n c] 37)).alloc (.cells #[.int .i64 7, .int .i64 g, .int .i64 a] 52))) := fun r h => Lib.hid ⟨r, rfl, h, HB.out⟩
  have HF := key false (fun h => by cases h)
  by_cases hP : (ItP S n 7 g a)
  all_goals have hP2 := hP
  all_goals unfold ItP at hP2
  all_goals by_cases h0 : g = 0
  all_goals by_cases h1 : -S < g
  all_goals by_cases h2 : g < S
  all_goals by_cases h3 : 0 ≤ a
  all_goals by_cases h4 : a < (n : Int)
  all_goals
    try (exfalso; omega)
  all_goals
    clear hP2
    (first | (have HT := key true (fun _ => hP)) | skip)
    clear key hP
    (first | (have z0 : (g != 0) = false := by rw [bne_eq_false_iff_eq]; exact h0) | (have z0 : (g != 0) = true := by rw [bne_iff_ne]; exact h0))
    (first | (have z1 : decide (-S < g) = true := decide_eq_true h1) | (have z1 : decide (-S < g) = false := decide_eq_false h1))
    (first | (have z2 : decide (g < S) = true := decide_eq_true h2) | (have z2 : decide (g < S) = false := decide_eq_false h2))
    (first | (have z3 : decide (0 ≤ a) = true := decide_eq_true h3) | (have z3 : decide (0 ≤ a) = false := decide_eq_false h3))
    (first | (have z4 : decide (a < (n : Int)) = true := decide_eq_true h4) | (have z4 : decide (a < (n : Int)) = false := decide_eq_false h4))
    (first | (have z5 : (g == 0) = true := by rw [beq_iff_eq]; exact h0) | (have z5 : (g == 0) = false := by rw [beq_eq_false_iff_ne]; exact h0))
    clear h0 h1 h2 h3 h4
    go_enter Try.func53, Try.ntmps53
    go_wp2_with fail
    go_ret
    first
      | exact HF.out
      | exact HT.out
theorem inTable_any (A : Option Addr) (n c : Nat) (S k g a : Int) (hS : 1 ≤ S ∧ S ≤ 10) (_hn : n ≤ 200) (hk : 1 ≤ k ∧ k ≤ 7) (w : World) :
    Calls Try.prog 53 #[.agg #[.int .i64 S, .slice A n c], .agg #[.int .i64 k, .int .i64 g, .int .i64 a]] w (Tells (ItP S n k g a) w) := by
  have hkk : k = 1 ∨ k = 2 ∨ k = 3 ∨ k = 4 ∨ k = 5 ∨ k = 6 ∨ k = 7 := by omega
  rcases hkk with rfl | rfl | rfl | rfl | rfl | rfl | rfl
  · exact inTable_k1 A n c S g a hS w
  · exact inTable_k2 A n c S g a hS w
  · exact inTable_k3 A n c S g a hS w
  · exact inTable_k4 A n c S g a hS w
  · exact inTable_k5 A n c S g a hS w
  · exact inTable_k6 A n c S g a hS w
  · exact inTable_k7 A n c S g a hS w
end Go.Proofs.Yteanhbldhaiekaa
