/-
  The contracts of Det and Rank.
  Matrices that were just written down: two rows, three rows.
-/
import Derived.Test.YteanhbldhaiekaaZ18
import Derived.Test.YteanhbldhaiekaaZ19
namespace Go.Proofs.Yteanhbldhaiekaa
open Go.RowKit

/-- a matrix that a function is given: a list of lists in memory, its numbers in range -/
structure AM (w : World) (A : Option Addr) (n : Nat) (xss : List (List Int)) : Prop where
  rd : RL w (· < w.heap.size) A xss
  ln : xss.length = n
  nl : n ≤ maxLen
  rg : ∀ i j, i < n → j < rowL xss i → -9223372036854775808 ≤ eI xss i j ∧ eI xss i j ≤ 9223372036854775807
theorem AM.call {w w' : World} {A : Option Addr} {n : Nat} {xss : List (List Int)} (h : AM w A n xss) (hb : Below w.heap.size w w') : AM w' A n xss :=
  ⟨(h.rd.below hb).imp fun _ hl => Nat.lt_of_lt_of_le hl hb.size, h.ln, h.nl, h.rg⟩
/-- the bound is kept -/
def Sml (xss : List (List Int)) : Prop := bndM xss.length (rowL xss 0) (eI xss) ≤ 1125899906842624
instance (xss : List (List Int)) : Decidable (Sml xss) := by unfold Sml; infer_instance
section
variable {w : World} {A : Option Addr} {n cap : Nat} {xss : List (List Int)}
theorem AM.ism (h : AM w A n xss) (b : Bool) (hb : decide (IsM xss) = b) : Calls Try.prog 44 #[.slice A n cap] w fun e w' => e = .returned (.bool b) ∧ w = w' := by
  subst hb
  exact ismatrix_any A cap xss n w _ h.rd h.ln h.nl
theorem AM.cols (h : AM w A n xss) : Calls Try.prog 47 #[.slice A n cap] w fun e w' => e = .returned (.int .i64 (rowL xss 0 : Nat)) ∧ w = w' :=
  columns_any A cap xss n w _ h.rd h.ln
theorem AM.sml (h : AM w A n xss) (hm : IsM xss) (b : Bool) (hb : decide (Sml xss) = b) : Calls Try.prog 45 #[.slice A n cap] w fun e w' => e = .returned (.bool b) ∧ w = w' := by
  subst hb
  have hl := h.ln
  have := issmall_any A cap xss n (rowL xss 0) w _ h.rd h.ln (fun i hi => hm.1 i (by omega)) (by have := hm.2.1; omega) hm.2.2 (fun i j hi hj => h.rg i j hi (by rw [hm.1 i (by omega)]; exact hj))
  rw [show decide (Sml xss) = decide (bndM n (rowL xss 0) (eI xss) ≤ 1125899906842624) from decide_eq_decide.2 (by unfold Sml; rw [hl])]
  exact this
theorem AM.elim (h : AM w A n xss) (hm : IsM xss) (hs : Sml xss) :
    Calls Try.prog 46 #[.slice A n cap] w fun e w' => ∃ (r : Nat) (v : Int), e = .returned (.tuple #[.int .i64 r, .int .i64 v]) ∧ Below w.heap.size w w' ∧ ElR n (rowL xss 0) (eI xss) r v := by
  have hl := h.ln
  unfold Sml at hs
  rw [hl] at hs
  exact eliminate_any A cap xss n (rowL xss 0) w _ h.rd (fun _ h => h) h.ln (fun i hi => hm.1 i (by omega)) (by have := hm.2.1; omega) hm.2.2 (fun i j hi hj => by
    have := bnd_ent (m := eI xss) hi hj
    omega) hs
end
/-- the error of Rank and Smith; of Det -/
def rkE (xss : List (List Int)) : Nat := if IsM xss then if Sml xss then 0 else 9 else 1
def dtE (xss : List (List Int)) : Nat := if IsM xss ∧ xss.length = rowL xss 0 then if Sml xss then 0 else 9 else 1
def dtV (xss : List (List Int)) : Int := if dtE xss = 0 then det xss.length (eI xss) else 0
/-- r is the rank -/
structure RkP (n c : Nat) (m : Mx) (r : Nat) : Prop where
  rn : r ≤ n
  rc : r ≤ c
  up : Dv n c (r + 1) m 0
  mn : ∃ is js : Nat → Nat, (∀ x, x < r → is x < n) ∧ (∀ y, y < r → js y < c) ∧ (det r fun x y => m (is x) (js y)) ≠ 0
theorem ElR.rk {n c r : Nat} {m : Mx} {v : Int} (h : ElR n c m r v) : RkP n c m r := by
  obtain ⟨is, js, s, h1, h2, h3, h4⟩ := h.mn
  refine ⟨h.rn, h.rc, h.up, is, js, h1, h2, fun e => h.nz ?_⟩
  rw [h4, e, Int.mul_zero]
theorem RkP.uniq {n c r s : Nat} {m : Mx} (h : RkP n c m r) (k : RkP n c m s) : r = s := by
  have lt : ∀ {r s : Nat}, RkP n c m r → RkP n c m s → ¬ r < s := fun {r s} h k hlt => by
    obtain ⟨is, js, h1, h2, h3⟩ := k.mn
    have := (h.up.ups (s - (r + 1)))
    rw [show r + 1 + (s - (r + 1)) = s by omega] at this
    exact h3 (Int.zero_dvd.1 (this is js h1 h2))
  have := lt h k
  have := lt k h
  omega
theorem ElR.det0 {n r : Nat} {m : Mx} {v : Int} (h : ElR n n m r v) (hr : r < n) : det n m = 0 := by
  have := h.up.ups (n - (r + 1))
  rw [show r + 1 + (n - (r + 1)) = n by omega] at this
  exact Int.zero_dvd.1 (this id id (fun _ h => h) fun _ h => h)
def rkR (xss : List (List Int)) (r : Nat) : Prop := if rkE xss = 0 then RkP xss.length (rowL xss 0) (eI xss) r else r = 0
set_option maxHeartbeats 2000000 in
theorem rank_any {w : World} {A : Option Addr} {n cap : Nat} {xss : List (List Int)} (h : AM w A n xss) :
    Calls Try.prog 23 #[.slice A n cap] w fun e w' => ∃ r : Nat, e = .returned (.tuple #[.int .i64 r, .int .i64 (rkE xss : Nat)]) ∧ rkR xss r ∧ Below w.heap.size w w' := by
  have H := Lib.hid h
  clear h
  by_cases hm : IsM xss
  · have H1 := Lib.hid (H.out.ism (cap := cap) true (decide_eq_true hm))
    by_cases hs : Sml xss
    · have H2 := Lib.hid (H.out.sml (cap := cap) hm true (decide_eq_true hs))
      have H3 := Lib.hid (H.out.elim (cap := cap) hm hs)
      have HE := Lib.hid (show rkE xss = 0 by unfold rkE; rw [if_pos hm, if_pos hs])
      clear hm hs
      go_enter Try.func23, Try.ntmps23
      go_wp2_with fail
      refine H1.out.mono ?_
      rintro e w1 ⟨rfl, rfl⟩
      go_wp2_with fail
      refine H2.out.mono ?_
      rintro e w1 ⟨rfl, rfl⟩
      go_wp2_with fail
      refine H3.out.mono ?_
      rintro e w1 ⟨r, v, rfl, hb, hr⟩
      have HR := Lib.hid hr.rk
      have HB := Lib.hid hb
      clear hr hb
      go_wp2_with fail
      go_ret2
      refine ⟨r, by rw [HE.out]; rfl, ?_, HB.out⟩
      unfold rkR
      rw [if_pos HE.out, H.out.ln]
      exact HR.out
    · have H2 := Lib.hid (H.out.sml (cap := cap) hm false (decide_eq_false hs))
      have HE := Lib.hid (show rkE xss = 9 by unfold rkE; rw [if_pos hm, if_neg hs])
      clear hm hs
      go_enter Try.func23, Try.ntmps23
      go_wp2_with fail
      refine H1.out.mono ?_
      rintro e w1 ⟨rfl, rfl⟩
      go_wp2_with fail
      refine H2.out.mono ?_
      rintro e w1 ⟨rfl, rfl⟩
      go_wp2_with fail
      go_ret2
      refine ⟨0, by rw [HE.out]; rfl, ?_, Below.refl _ _⟩
      unfold rkR
      rw [HE.out, if_neg (by decide)]
  · have H1 := Lib.hid (H.out.ism (cap := cap) false (decide_eq_false hm))
    have HE := Lib.hid (show rkE xss = 1 by unfold rkE; rw [if_neg hm])
    clear hm
    go_enter Try.func23, Try.ntmps23
    go_wp2_with fail
    refine H1.out.mono ?_
    rintro e w1 ⟨rfl, rfl⟩
    go_wp2_with fail
    go_ret2
    refine ⟨0, by rw [HE.out]; rfl, ?_, Below.refl _ _⟩
    unfold rkR
    rw [HE.out, if_neg (by decide)]
set_option maxHeartbeats 2000000 in
theorem det_any {w : World} {A : Option Addr} {n cap : Nat} {xss : List (List Int)} (h : AM w A n xss) :
    Calls Try.prog 24 #[.slice A n cap] w fun e w' => e = .returned (.tuple #[.int .i64 (dtV xss), .int .i64 (dtE xss : Nat)]) ∧ Below w.heap.size w w' := by
  have H := Lib.hid h
  clear h
  have hln := H.out.ln
  by_cases hm : IsM xss
  · have H1 := Lib.hid (H.out.ism (cap := cap) true (decide_eq_true hm))
    have H4 := Lib.hid (H.out.cols (cap := cap))
    by_cases hq : n = rowL xss 0
    · have hq' : ((n : Int) != (rowL xss 0 : Nat)) = false := by rw [bne_eq_false_iff_eq]; omega
      by_cases hs : Sml xss
      · have H2 := Lib.hid (H.out.sml (cap := cap) hm true (decide_eq_true hs))
        have H3 := Lib.hid (H.out.elim (cap := cap) hm hs)
        have hE : dtE xss = 0 := by unfold dtE; rw [if_pos ⟨hm, by omega⟩, if_pos hs]
        have HE := Lib.hid hE
        have HV := Lib.hid (show dtV xss = det n (eI xss) by unfold dtV; rw [if_pos hE, hln])
        have HQ := Lib.hid hq
        clear hm hs hE hln hq
        go_enter Try.func24, Try.ntmps24
        go_wp2_with fail
        refine H1.out.mono ?_
        rintro e w1 ⟨rfl, rfl⟩
        go_wp2_with fail
        refine H4.out.mono ?_
        rintro e w1 ⟨rfl, rfl⟩
        go_wp2_with fail
        refine H2.out.mono ?_
        rintro e w1 ⟨rfl, rfl⟩
        go_wp2_with fail
        refine H3.out.mono ?_
        rintro e w1 ⟨r, v, rfl, hb, hr⟩
        have HR := Lib.hid hr
        have HB := Lib.hid hb
        rw [← HQ.out] at HR
        have hrn : r ≤ n := hr.rn
        clear hr hb
        by_cases hlt : r < n
        · have HD := Lib.hid (HR.out.det0 hlt)
          go_wp2_with fail
          go_ret2
          exact ⟨by rw [HE.out, HV.out, HD.out]; rfl, HB.out⟩
        · have HD := Lib.hid (HR.out.dt rfl (by omega))
          go_wp2_with fail
          go_ret2
          exact ⟨by rw [HE.out, HV.out, ← HD.out]; rfl, HB.out⟩
      · have H2 := Lib.hid (H.out.sml (cap := cap) hm false (decide_eq_false hs))
        have hE : dtE xss = 9 := by unfold dtE; rw [if_pos ⟨hm, by omega⟩, if_neg hs]
        have HE := Lib.hid hE
        have HV := Lib.hid (show dtV xss = 0 by unfold dtV; rw [if_neg (by rw [hE]; decide)])
        clear hm hs hE hln hq
        go_enter Try.func24, Try.ntmps24
        go_wp2_with fail
        refine H1.out.mono ?_
        rintro e w1 ⟨rfl, rfl⟩
        go_wp2_with fail
        refine H4.out.mono ?_
        rintro e w1 ⟨rfl, rfl⟩
        go_wp2_with fail
        refine H2.out.mono ?_
        rintro e w1 ⟨rfl, rfl⟩
        go_wp2_with fail
        go_ret2
        exact ⟨by rw [HE.out, HV.out]; rfl, Below.refl _ _⟩
    · have hq' : ((n : Int) != (rowL xss 0 : Nat)) = true := by rw [bne_iff_ne]; omega
      have hE : dtE xss = 1 := by unfold dtE; rw [if_neg (fun h => hq (by omega))]
      have HE := Lib.hid hE
      have HV := Lib.hid (show dtV xss = 0 by unfold dtV; rw [if_neg (by rw [hE]; decide)])
      clear hm hE hln hq
      go_enter Try.func24, Try.ntmps24
      go_wp2_with fail
      refine H1.out.mono ?_
      rintro e w1 ⟨rfl, rfl⟩
      go_wp2_with fail
      refine H4.out.mono ?_
      rintro e w1 ⟨rfl, rfl⟩
      go_wp2_with fail
      go_ret2
      exact ⟨by rw [HE.out, HV.out]; rfl, Below.refl _ _⟩
  · have H1 := Lib.hid (H.out.ism (cap := cap) false (decide_eq_false hm))
    have hE : dtE xss = 1 := by unfold dtE; rw [if_neg (fun h => hm h.1)]
    have HE := Lib.hid hE
    have HV := Lib.hid (show dtV xss = 0 by unfold dtV; rw [if_neg (by rw [hE]; decide)])
    clear hm hE hln
    go_enter Try.func24, Try.ntmps24
    go_wp2_with fail
    refine H1.out.mono ?_
    rintro e w1 ⟨rfl, rfl⟩
    go_wp2_with fail
    go_ret2
    exact ⟨by rw [HE.out, HV.out]; rfl, Below.refl _ _⟩
end Go.Proofs.Yteanhbldhaiekaa
namespace Go.Proofs.Yteanhbldhaiekaa
open Go.RowKit

theorem below_drewN {B : Nat} {w w' : World} (h : Below B w w') (n : Nat) : Below B w (w'.drewN n) := ⟨h.os, h.tape, h.output, h.size, h.block⟩
theorem lit_RI (w : World) (xs : List Int) (S : Nat → Prop) (hS : S w.heap.size) (cs : Array Value) (hcs : cs = (xs.map (Value.int .i64)).toArray) : RI (w.alloc (.cells cs 3)) S (some ⟨w.heap.size, 0, none⟩) xs := fun _ => by
  subst hcs
  refine ⟨w.heap.size, 0, rfl, hS, fun k hk => ?_⟩
  rw [cell_of_row _ _ _ _ _ _ (heap_alloc_new w _), Nat.zero_add]
  have := map_gi hk
  simpa using this
theorem RI.alloc {w : World} {S : Nat → Prop} {A : Option Addr} {xs : List Int} (h : RI w S A xs) (hS : ∀ b, S b → b < w.heap.size) (o : Obj) : RI (w.alloc o) S A xs := h.keep fun b hb => Below.heap_alloc w o b (hS b hb)
theorem gi_rg {r : List Int} (h : ∀ x ∈ r, -9223372036854775808 ≤ x ∧ x ≤ 9223372036854775807) (j : Nat) : -9223372036854775808 ≤ gi r j ∧ gi r j ≤ 9223372036854775807 := by
  by_cases hj : j < r.length
  · rw [gi_lt hj]; exact h _ (List.getElem_mem _)
  · unfold gi
    rw [List.getD_eq_getElem?_getD, List.getElem?_eq_none (by omega)]
    exact ⟨by decide, by decide⟩
/-- rows of which each reads -/
theorem AM.mk_rows {w : World} {g : Nat} {xss : List (List Int)} (hg : g < w.heap.size) (hl : xss.length ≤ maxLen)
    (h : ∀ k, k < xss.length → (∃ Ak ck, w.cell? ⟨g, k, none⟩ = some (.slice Ak (xss.getD k []).length ck) ∧ RI w (· < w.heap.size) Ak (xss.getD k []) ∧ (xss.getD k []).length ≤ maxLen) ∧ ∀ j, -9223372036854775808 ≤ eI xss k j ∧ eI xss k j ≤ 9223372036854775807) :
    AM w (some ⟨g, 0, none⟩) xss.length xss :=
  ⟨fun _ => ⟨g, 0, rfl, hg, fun k hk => by rw [Nat.zero_add]; exact (h k hk).1⟩, rfl, hl, fun i j hi _ => (h i hi).2 j⟩
section
variable (w : World) (r0 r1 r2 : List Int) (c0 c1 c2 : Array Value) (h0 : c0 = (r0.map (Value.int .i64)).toArray) (h1 : c1 = (r1.map (Value.int .i64)).toArray) (h2 : c2 = (r2.map (Value.int .i64)).toArray)
  (l0 : r0.length ≤ maxLen) (l1 : r1.length ≤ maxLen) (l2 : r2.length ≤ maxLen)
  (b0 : ∀ x ∈ r0, -9223372036854775808 ≤ x ∧ x ≤ 9223372036854775807) (b1 : ∀ x ∈ r1, -9223372036854775808 ≤ x ∧ x ≤ 9223372036854775807) (b2 : ∀ x ∈ r2, -9223372036854775808 ≤ x ∧ x ≤ 9223372036854775807)
include h0 h1 l0 l1 b0 b1 in
theorem AM.lit2 : AM (((w.alloc (.cells c0 3)).alloc (.cells c1 3)).alloc (.cells #[.slice (some ⟨w.heap.size, 0, none⟩) r0.length r0.length, .slice (some ⟨w.heap.size + 1, 0, none⟩) r1.length r1.length] 33)) (some ⟨w.heap.size + 1 + 1, 0, none⟩) 2 [r0, r1] := by
  obtain ⟨W, hW⟩ : ∃ W, (w.alloc (.cells c0 3)).alloc (.cells c1 3) = W := ⟨_, rfl⟩
  have hs : W.heap.size = w.heap.size + 1 + 1 := by rw [← hW]; simp
  have e0 : RI W (· < W.heap.size) (some ⟨w.heap.size, 0, none⟩) r0 := by
    rw [← hW]
    exact ((lit_RI w r0 (· < w.heap.size + 1) (by omega) c0 h0).alloc (fun b hb => by simpa using hb) _).imp fun b hb => by simp; omega
  have e1 : RI W (· < W.heap.size) (some ⟨w.heap.size + 1, 0, none⟩) r1 := by
    rw [← hW]
    have := lit_RI (w.alloc (.cells c0 3)) r1 (· < w.heap.size + 1 + 1) (by simp) c1 h1
    simpa using this
  rw [hW, ← hs]
  have hn : ∀ k v, (#[Value.slice (some ⟨w.heap.size, 0, none⟩) r0.length r0.length, .slice (some ⟨w.heap.size + 1, 0, none⟩) r1.length r1.length] : Array Value)[k]? = some v → (W.alloc (.cells #[.slice (some ⟨w.heap.size, 0, none⟩) r0.length r0.length, .slice (some ⟨w.heap.size + 1, 0, none⟩) r1.length r1.length] 33)).cell? ⟨W.heap.size, k, none⟩ = some v := fun k v h => by
    rw [cell_of_row _ _ _ _ _ _ (heap_alloc_new W _)]; exact h
  refine AM.mk_rows (xss := [r0, r1]) (by simp) (by unfold maxLen; simp) fun k hk => ?_
  have hk' : k = 0 ∨ k = 1 := by simp at hk; omega
  rcases hk' with rfl | rfl
  · exact ⟨⟨_, _, hn 0 _ rfl, (e0.alloc (fun _ h => h) _).imp fun b hb => by simp; omega, l0⟩, gi_rg b0⟩
  · exact ⟨⟨_, _, hn 1 _ rfl, (e1.alloc (fun _ h => h) _).imp fun b hb => by simp; omega, l1⟩, gi_rg b1⟩
include h0 h1 h2 l0 l1 l2 b0 b1 b2 in
theorem AM.lit3 : AM ((((w.alloc (.cells c0 3)).alloc (.cells c1 3)).alloc (.cells c2 3)).alloc (.cells #[.slice (some ⟨w.heap.size, 0, none⟩) r0.length r0.length, .slice (some ⟨w.heap.size + 1, 0, none⟩) r1.length r1.length, .slice (some ⟨w.heap.size + 1 + 1, 0, none⟩) r2.length r2.length] 33)) (some ⟨w.heap.size + 1 + 1 + 1, 0, none⟩) 3 [r0, r1, r2] := by
  obtain ⟨W, hW⟩ : ∃ W, ((w.alloc (.cells c0 3)).alloc (.cells c1 3)).alloc (.cells c2 3) = W := ⟨_, rfl⟩
  have hs : W.heap.size = w.heap.size + 1 + 1 + 1 := by rw [← hW]; simp
  have e0 : RI W (· < W.heap.size) (some ⟨w.heap.size, 0, none⟩) r0 := by
    rw [← hW]
    exact (((lit_RI w r0 (· < w.heap.size + 1) (by omega) c0 h0).alloc (fun b hb => by simpa using hb) _).alloc (fun b hb => by simp; omega) _).imp fun b hb => by simp; omega
  have e1 : RI W (· < W.heap.size) (some ⟨w.heap.size + 1, 0, none⟩) r1 := by
    rw [← hW]
    have := (lit_RI (w.alloc (.cells c0 3)) r1 (· < w.heap.size + 1 + 1) (by simp) c1 h1).alloc (fun b hb => by simp; omega) (.cells c2 3)
    have := this.imp (T := (· < w.heap.size + 1 + 1 + 1)) fun b hb => by omega
    simpa using this
  have e2 : RI W (· < W.heap.size) (some ⟨w.heap.size + 1 + 1, 0, none⟩) r2 := by
    rw [← hW]
    have := lit_RI ((w.alloc (.cells c0 3)).alloc (.cells c1 3)) r2 (· < w.heap.size + 1 + 1 + 1) (by simp) c2 h2
    simpa using this
  rw [hW, ← hs]
  have hn : ∀ k v, (#[Value.slice (some ⟨w.heap.size, 0, none⟩) r0.length r0.length, .slice (some ⟨w.heap.size + 1, 0, none⟩) r1.length r1.length, .slice (some ⟨w.heap.size + 1 + 1, 0, none⟩) r2.length r2.length] : Array Value)[k]? = some v → (W.alloc (.cells #[.slice (some ⟨w.heap.size, 0, none⟩) r0.length r0.length, .slice (some ⟨w.heap.size + 1, 0, none⟩) r1.length r1.length, .slice (some ⟨w.heap.size + 1 + 1, 0, none⟩) r2.length r2.length] 33)).cell? ⟨W.heap.size, k, none⟩ = some v := fun k v h => by
    rw [cell_of_row _ _ _ _ _ _ (heap_alloc_new W _)]; exact h
  refine AM.mk_rows (xss := [r0, r1, r2]) (by simp) (by unfold maxLen; simp) fun k hk => ?_
  have hk' : k = 0 ∨ k = 1 ∨ k = 2 := by simp at hk; omega
  rcases hk' with rfl | rfl | rfl
  · exact ⟨⟨_, _, hn 0 _ rfl, (e0.alloc (fun _ h => h) _).imp fun b hb => by simp; omega, l0⟩, gi_rg b0⟩
  · exact ⟨⟨_, _, hn 1 _ rfl, (e1.alloc (fun _ h => h) _).imp fun b hb => by simp; omega, l1⟩, gi_rg b1⟩
  · exact ⟨⟨_, _, hn 2 _ rfl, (e2.alloc (fun _ h => h) _).imp fun b hb => by simp; omega, l2⟩, gi_rg b2⟩
end
end Go.Proofs.Yteanhbldhaiekaa
