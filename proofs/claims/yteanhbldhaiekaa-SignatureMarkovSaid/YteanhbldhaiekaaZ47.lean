/-
  The contract of markov.change, kind by kind.
  The contract of markov.change, kind by kind.
  The contract of markov.change at all kinds, and what it does to the word.
-/
import Derived.Test.YteanhbldhaiekaaZ44
import Derived.Test.YteanhbldhaiekaaZ41
import Derived.Test.YteanhbldhaiekaaZ39
import Derived.Test.YteanhbldhaiekaaZ43
import Derived.Test.YteanhbldhaiekaaZ46
namespace Go.Proofs.Yteanhbldhaiekaa
open Go.RowKit

section
variable (A : Option Addr) (c : Nat) (ws : List Int) (S g a : Int) (hS : 1 ≤ S ∧ S ≤ 10) (hn : ws.length ≤ 200) (hx : ∀ k, -100000 ≤ gi ws k ∧ gi ws k ≤ 100000) (w : World) (P : Nat → Prop) (hr : RI w P A ws) (hP : ∀ b, P b → b < w.heap.size)
include hn hx hr hP in
set_option maxRecDepth 100000 in
set_option maxHeartbeats 8000000 in
theorem ch_k1a (hg : -100 ≤ g ∧ g ≤ 100) :
    Calls Try.prog 55 #[.agg #[.int .i64 S, .slice A ws.length c], .agg #[.int .i64 1, .int .i64 g, .int .i64 0]] w (ChPost w (S) (g :: (ws ++ [-g]))) := by
  have HC : Hid (CBx w ((((w.alloc (.cells #[.int .i64 S, .slice A ws.length c] 37)).alloc (.cells #[.int .i64 1, .int .i64 g, .int .i64 0] 52)).alloc (.cells #[.int .i64 0, .slice none 0 0] 37)).alloc (.cells #[.int .i64 0, .int .i64 0, .int .i64 0] 52)) S 1 g 0 (.slice A ws.length c)) := Lib.hid (CBx.start w S 1 g 0 _)
  have HR : Hid (RI ((((w.alloc (.cells #[.int .i64 S, .slice A ws.length c] 37)).alloc (.cells #[.int .i64 1, .int .i64 g, .int .i64 0] 52)).alloc (.cells #[.int .i64 0, .slice none 0 0] 37)).alloc (.cells #[.int .i64 0, .int .i64 0, .int .i64 0] 52)) (· < ((((w.alloc (.cells #[.int .i64 S, .slice A ws.length c] 37)).alloc (.cells #[.int .i64 1, .int .i64 g, .int .i64 0] 52)).alloc (.cells #[.int .i64 0, .slice none 0 0] 37)).alloc (.cells #[.int .i64 0, .int .i64 0, .int .i64 0] 52)).heap.size) A ws) := Lib.hid ((hr.keep fun b hb => HC.out.bel.block b (hP b hb)).imp fun b hb => Nat.lt_of_lt_of_le (hP b hb) HC.out.bel.size)
  have HX := Lib.hid hx
  have HN := Lib.hid hn
  clear hr hP hx hn
  obtain ⟨W, hW⟩ : ∃ W, ((((w.alloc (.cells #[.int .i64 S, .slice A ws.length c] 37)).alloc (.cells #[.int .i64 1, .int .i64 g, .int .i64 0] 52)).alloc (.cells #[.int .i64 0, .slice none 0 0] 37)).alloc (.cells #[.int .i64 0, .int .i64 0, .int .i64 0] 52)) = W := ⟨_, rfl⟩
  rw [hW] at HC HR
  go_enter Try.func55, Try.ntmps55
  go_wp2_with fail
  clear hW
  have k0 := HC.out.b.c0
  have k1 := HC.out.b.c1
  go_cut [6, 7] (fun n v wx => n = .int .i64 ws.length ∧ ∃ A1 c1, v = .slice A1 ws.length c1 ∧ Hid (CBx w wx S 1 g 0 (.slice A ws.length c)) ∧ Hid (OI wx (w.heap.size + 4) (.slice A1 ws.length c1) ws))
  case first =>
    go_region_held3 (fun w' => Hid (CBx w w' S 1 g 0 (.slice A ws.length c)) ∧ w'.cell? ⟨w.heap.size, 1, none⟩ = some (.slice A ws.length c))
      (first | exact ⟨HC, k1⟩ | exact ⟨Lib.hid HC.out.drew, k1⟩ | exact ⟨HC9, HC9.out.b.c1⟩)
      ((refine (clone_any A c ws W.drew (· < W.drew.heap.size) (by exact HR.out) (fun _ h => h) (by have := HN.out; omega)).mono ?_; rintro e w1 ⟨v, rfl, ho, hb⟩; have HC9 := Lib.hid (HC.out.drew.below hb); have HO9 := Lib.hid (ho.mono (B' := w.heap.size + 4) (by have := HC.out.rs.lt; simp; omega)); obtain ⟨a9, d9, rfl, -, -, -⟩ := HO9.out.shape; clear hb ho))
    all_goals
      go_wp2_with fail
      go_meet
      case rel => exact ⟨rfl, _, _, rfl, HC9, HO9⟩
  case rest =>
    obtain ⟨rfl, A1, d1, rfl, HC1, HO1⟩ := hcut
    clear HC HR k0 k1
    have e0 := HC1.out.s.c0
    have e1 := HC1.out.s.c1
    have e2 := HC1.out.s.c2
    go_upto_region 3 with fail
    have HM := Lib.hid (Mid.start HC1.out HO1.out)
    clear e0 e1 e2 HC1 HO1
    generalize wc.alloc (.cells #[.int .i64 1, .int .i64 g, .int .i64 0] 52) = w2 at HM ⊢
    generalize wc.heap.size = t at HM ⊢
    have b0 := HM.out.cb.b.c0
    have e0 := HM.out.cb.s.c0
    have e1 := HM.out.cb.s.c1
    have e2 := HM.out.cb.s.c2
    have wn : IntKind.i64.wrap (-g) = -g := IntWalk.i64_in _ (by omega)
    obtain ⟨A9, c9, h9, -, hmx, hrr⟩ := HM.out.o.reads
    injection h9 with h9 _ h99
    subst h9; subst h99
    have HRL := Lib.hid (rl_three (d1 := d1) g (-g) (hrr.imp fun b hb => hb.2) HM.out.o.len)
    clear hmx hrr
    have e1' := fun o => (World.cell?_alloc_lt w2 o ⟨w.heap.size + 1, 1, none⟩ HM.out.cb.s.lt).trans e1
    go_wp2_with fail
    refine (concat_any (xss := [[g], ws, [-g]]) HRL.out (by simp) (by have := HN.out; simp; omega)).mono ?_
    rintro e w5 ⟨v, rfl, ho, hb⟩
    have hs7 := hb.size
    have hq : Below w2.heap.size w2 w5 := (((((Below.refl _ _).alloc (Nat.le_refl _) _).alloc (by simp) _).alloc (by simp; omega) _)).trans (hb.mono (by simp; omega))
    obtain ⟨a9, d9, rfl, -, -, -⟩ := ho.shape
    obtain ⟨A8, c8, h8, -, -, hr8⟩ := ho.reads
    injection h8 with h8 _ h88
    subst h8; subst h88
    have hxe : [[g], ws, [-g]].flatten = g :: (ws ++ [-g]) := by simp
    rw [hxe] at hr8
    obtain ⟨n9, h9⟩ : ∃ n, [[g], ws, [-g]].flatten.length = n := ⟨_, rfl⟩
    rw [h9]
    have HLT : Hid ((g :: (ws ++ [-g])).length = n9) := Lib.hid (by rw [← h9, hxe])
    have HC5 := Lib.hid (HM.out.cb.below hq)
    have HT5 := Lib.hid (HM.out.tb.below hq)
    have HTT := Lib.hid HM.out.ht
    have HR5 : Hid (RI w5 (fun b => w.heap.size + 4 ≤ b ∧ b < w5.heap.size ∧ b ≠ t) a9 (g :: (ws ++ [-g]))) := Lib.hid (hr8.imp fun b hb => by
      have h1 := HM.out.tb.lt
      have h2 := HM.out.ht
      have h3 := hb.1
      have h4 := hb.2
      simp only [World.size_alloc] at h3
      omega)
    clear ho hb hs7 hq hr8 hxe h9 HRL HM b0 e0 e1 e2 e1'
    have e1 := HC5.out.s.c1
    have e2 := HC5.out.s.c2
    have m0 := HT5.out.c0
    have m1 := HT5.out.c1
    have m2 := HT5.out.c2
    have m3 := HT5.out.f0
    have m4 := HT5.out.f1
    have m5 := HT5.out.f2
    go_upto_region 31 with fail
    have HF := Lib.hid (Fin4.of HC5.out HT5.out HTT.out HR5.out 1 (-g) 1)
    clear HC5 HT5 HR5 m0 m1 m2 m3 m4 m5 e1 e2
    generalize ((w5.setCell ⟨t, 0, none⟩ (.int .i64 1)).setCell ⟨t, 1, none⟩ (.int .i64 (-g))).setCell ⟨t, 2, none⟩ (.int .i64 1) = wF at HF ⊢
    have q0 := HF.out.tb.c0
    have q1 := HF.out.tb.c1
    have q2 := HF.out.tb.c2
    have r0 := HF.out.rb.c0
    have r1 := HF.out.rb.c1
    have r2 := HF.out.rb.f0
    have r3 := HF.out.rb.f1
    have s0 := HF.out.rs.c0
    have s1 := HF.out.rs.c1
    have s2 := HF.out.rs.c2
    have s3 := HF.out.rs.f0
    have s4 := HF.out.rs.f1
    have s5 := HF.out.rs.f2
    have n1 : ¬ t = w.heap.size + 1 + 1 := by have := HF.out.ht; omega
    have n2 : ¬ t = w.heap.size + 1 + 1 + 1 := by have := HF.out.ht; omega
    have n3 : ¬ w.heap.size + 1 + 1 = t := by have := HF.out.ht; omega
    have n4 : ¬ w.heap.size + 1 + 1 + 1 = t := by have := HF.out.ht; omega
    have HZ : Hid _ := Lib.hid (fun p0 p1 q0 q1 q2 => HF.out.drew.done p0 p1 q0 q1 q2)
    go_region
    all_goals
      clear n1 n2 n3 n4 q0 q1 q2
      go_wp2_with fail
      refine bodyPost_ret (v := .tuple #[.agg #[.int .i64 (S), .slice a9 n9 d9], .agg #[.int .i64 (1), .int .i64 (-g), .int .i64 (1)]]) (by simp [results, Try.results55, go_sem, r0, r1, s0, s1, s2]) rfl ?_
      exact ⟨a9, d9, 1, -g, 1, by rw [HLT.out], HZ.out _ _ _ _ _⟩
end
end Go.Proofs.Yteanhbldhaiekaa
namespace Go.Proofs.Yteanhbldhaiekaa
open Go.RowKit

section
variable (A : Option Addr) (c : Nat) (ws : List Int) (S g a : Int) (hS : 1 ≤ S ∧ S ≤ 10) (hn : ws.length ≤ 200) (hx : ∀ k, -100000 ≤ gi ws k ∧ gi ws k ≤ 100000) (w : World) (P : Nat → Prop) (hr : RI w P A ws) (hP : ∀ b, P b → b < w.heap.size)
include hn hx hr hP in
set_option maxRecDepth 100000 in
set_option maxHeartbeats 8000000 in
theorem ch_k1b (hg : -100 ≤ g ∧ g ≤ 100) (hl : 2 ≤ ws.length) :
    Calls Try.prog 55 #[.agg #[.int .i64 S, .slice A ws.length c], .agg #[.int .i64 1, .int .i64 g, .int .i64 1]] w (ChPost w (S) ((ws.take (ws.length - 1)).tail)) := by
  have HC : Hid (CBx w ((((w.alloc (.cells #[.int .i64 S, .slice A ws.length c] 37)).alloc (.cells #[.int .i64 1, .int .i64 g, .int .i64 1] 52)).alloc (.cells #[.int .i64 0, .slice none 0 0] 37)).alloc (.cells #[.int .i64 0, .int .i64 0, .int .i64 0] 52)) S 1 g 1 (.slice A ws.length c)) := Lib.hid (CBx.start w S 1 g 1 _)
  have HR : Hid (RI ((((w.alloc (.cells #[.int .i64 S, .slice A ws.length c] 37)).alloc (.cells #[.int .i64 1, .int .i64 g, .int .i64 1] 52)).alloc (.cells #[.int .i64 0, .slice none 0 0] 37)).alloc (.cells #[.int .i64 0, .int .i64 0, .int .i64 0] 52)) (· < ((((w.alloc (.cells #[.int .i64 S, .slice A ws.length c] 37)).alloc (.cells #[.int .i64 1, .int .i64 g, .int .i64 1] 52)).alloc (.cells #[.int .i64 0, .slice none 0 0] 37)).alloc (.cells #[.int .i64 0, .int .i64 0, .int .i64 0] 52)).heap.size) A ws) := Lib.hid ((hr.keep fun b hb => HC.out.bel.block b (hP b hb)).imp fun b hb => Nat.lt_of_lt_of_le (hP b hb) HC.out.bel.size)
  have HX := Lib.hid hx
  have HN := Lib.hid hn
  clear hr hP hx hn
  obtain ⟨W, hW⟩ : ∃ W, ((((w.alloc (.cells #[.int .i64 S, .slice A ws.length c] 37)).alloc (.cells #[.int .i64 1, .int .i64 g, .int .i64 1] 52)).alloc (.cells #[.int .i64 0, .slice none 0 0] 37)).alloc (.cells #[.int .i64 0, .int .i64 0, .int .i64 0] 52)) = W := ⟨_, rfl⟩
  rw [hW] at HC HR
  go_enter Try.func55, Try.ntmps55
  go_wp2_with fail
  clear hW
  have k0 := HC.out.b.c0
  have k1 := HC.out.b.c1
  go_cut [6, 7] (fun n v wx => n = .int .i64 ws.length ∧ ∃ A1 c1, v = .slice A1 ws.length c1 ∧ Hid (CBx w wx S 1 g 1 (.slice A ws.length c)) ∧ Hid (OI wx (w.heap.size + 4) (.slice A1 ws.length c1) ws))
  case first =>
    go_region_held3 (fun w' => Hid (CBx w w' S 1 g 1 (.slice A ws.length c)) ∧ w'.cell? ⟨w.heap.size, 1, none⟩ = some (.slice A ws.length c))
      (first | exact ⟨HC, k1⟩ | exact ⟨Lib.hid HC.out.drew, k1⟩ | exact ⟨HC9, HC9.out.b.c1⟩)
      ((refine (clone_any A c ws W.drew (· < W.drew.heap.size) (by exact HR.out) (fun _ h => h) (by have := HN.out; omega)).mono ?_; rintro e w1 ⟨v, rfl, ho, hb⟩; have HC9 := Lib.hid (HC.out.drew.below hb); have HO9 := Lib.hid (ho.mono (B' := w.heap.size + 4) (by have := HC.out.rs.lt; simp; omega)); obtain ⟨a9, d9, rfl, -, -, -⟩ := HO9.out.shape; clear hb ho))
    all_goals
      go_wp2_with fail
      go_meet
      case rel => exact ⟨rfl, _, _, rfl, HC9, HO9⟩
  case rest =>
    obtain ⟨rfl, A1, d1, rfl, HC1, HO1⟩ := hcut
    clear HC HR k0 k1
    have e0 := HC1.out.s.c0
    have e1 := HC1.out.s.c1
    have e2 := HC1.out.s.c2
    go_upto_region 3 with fail
    have HM := Lib.hid (Mid.start HC1.out HO1.out)
    clear e0 e1 e2 HC1 HO1
    generalize wc.alloc (.cells #[.int .i64 1, .int .i64 g, .int .i64 1] 52) = w2 at HM ⊢
    generalize wc.heap.size = t at HM ⊢
    have b0 := HM.out.cb.b.c0
    have e0 := HM.out.cb.s.c0
    have e1 := HM.out.cb.s.c1
    have e2 := HM.out.cb.s.c2
    obtain ⟨g1, d9, h5, hg1, hg2, hcap, -, hcc, hff⟩ := HM.out.o.ints (by omega)
    injection h5 with h5 _ h6
    subst h5; subst h6
    obtain ⟨m, hm⟩ : ∃ m, m = ws.length - 1 := ⟨_, rfl⟩
    have wl : IntKind.i64.wrap ((ws.length : Int) - 1) = (m : Int) := by rw [IntWalk.i64_in _ (by have := HN.out; omega)]; omega
    have wn : IntKind.i64.wrap (-g) = -g := IntWalk.i64_in _ (by omega)
    have f0 : (1 : Int) ≤ (m : Int) ∧ (m : Int) ≤ (d1 : Int) := by omega
    have f1 : 1 ≤ m ∧ m ≤ d1 := by omega
    have m0 := HM.out.tb.c0
    have m1 := HM.out.tb.c1
    have m2 := HM.out.tb.c2
    have m3 := HM.out.tb.f0
    have m4 := HM.out.tb.f1
    have m5 := HM.out.tb.f2
    have hf := (Fin4.of HM.out.cb HM.out.tb HM.out.ht (RI.dropk (off := 0) (RI.take (Mid.row HM.out.o HM.out.ne) (ws.length - 1)) 1) 1 (-g) 0)
    rw [List.drop_one] at hf
    have HR2 := Lib.hid hf
    have HLT : Hid (((ws.take (ws.length - 1)).tail).length = ws.length - 1 - 1) := Lib.hid (by rw [List.length_tail, List.length_take]; omega)
    clear hf
    clear hcc hff hg1 hl
    go_upto_region 31 with fail
    have HF : Hid (Fin4 w _ t 1 (-g) 0 (some ⟨g1, 1, none⟩) ((ws.take (ws.length - 1)).tail)) := HR2
    clear HR2 HM m0 m1 m2 m3 m4 m5 e0 e1 e2 b0 f0 f1 wl hm
    generalize ((w2.setCell ⟨t, 0, none⟩ (.int .i64 1)).setCell ⟨t, 1, none⟩ (.int .i64 (-g))).setCell ⟨t, 2, none⟩ (.int .i64 0) = wF at HF ⊢
    have q0 := HF.out.tb.c0
    have q1 := HF.out.tb.c1
    have q2 := HF.out.tb.c2
    have r0 := HF.out.rb.c0
    have r1 := HF.out.rb.c1
    have r2 := HF.out.rb.f0
    have r3 := HF.out.rb.f1
    have s0 := HF.out.rs.c0
    have s1 := HF.out.rs.c1
    have s2 := HF.out.rs.c2
    have s3 := HF.out.rs.f0
    have s4 := HF.out.rs.f1
    have s5 := HF.out.rs.f2
    have n1 : ¬ t = w.heap.size + 1 + 1 := by have := HF.out.ht; omega
    have n2 : ¬ t = w.heap.size + 1 + 1 + 1 := by have := HF.out.ht; omega
    have n3 : ¬ w.heap.size + 1 + 1 = t := by have := HF.out.ht; omega
    have n4 : ¬ w.heap.size + 1 + 1 + 1 = t := by have := HF.out.ht; omega
    have HZ : Hid _ := Lib.hid (fun p0 p1 q0 q1 q2 => HF.out.drew.done p0 p1 q0 q1 q2)
    go_region
    all_goals
      clear n1 n2 n3 n4 q0 q1 q2
      go_wp2_with fail
      refine bodyPost_ret (v := .tuple #[.agg #[.int .i64 (S), .slice (some ⟨g1, 1, none⟩) (ws.length - 1 - 1) (d1 - 1)], .agg #[.int .i64 (1), .int .i64 (-g), .int .i64 (0)]]) (by simp [results, Try.results55, go_sem, r0, r1, s0, s1, s2]) rfl ?_
      exact ⟨(some ⟨g1, 1, none⟩), (d1 - 1), 1, -g, 0, by rw [HLT.out], HZ.out _ _ _ _ _⟩
end
end Go.Proofs.Yteanhbldhaiekaa
namespace Go.Proofs.Yteanhbldhaiekaa
open Go.RowKit

/-! ### the word, cut -/
theorem cut_one {ws : List Int} {j : Nat} (h : j < ws.length) : ws.drop j = gi ws j :: ws.drop (j + 1) := by
  rw [List.drop_eq_getElem_cons h]
  simp [gi, h]
theorem cut_two {ws : List Int} {j : Nat} (h : j + 1 < ws.length) : ws = ws.take j ++ gi ws j :: gi ws (j + 1) :: ws.drop (j + 2) := by
  rw [← cut_one h, ← cut_one (by omega), List.take_append_drop]
theorem cut_three {ws : List Int} {j : Nat} (h : j + 2 < ws.length) : ws = ws.take j ++ gi ws j :: gi ws (j + 1) :: gi ws (j + 2) :: ws.drop (j + 3) := by
  rw [← cut_one h, ← cut_one (by omega), ← cut_one (by omega), List.take_append_drop]
theorem set_at : ∀ (a : List Int) (x y : Int) (b : List Int) (j : Nat), j = a.length → (a ++ x :: b).set j y = a ++ y :: b
  | [], _, _, _, _, h => by subst h; rfl
  | z :: a, x, y, b, j, h => by
    subst h
    show z :: (a ++ x :: b).set a.length y = _
    rw [set_at a x y b _ rfl]
    rfl
theorem set_two {ws : List Int} {j : Nat} (h : j + 1 < ws.length) (x y : Int) : (ws.set j x).set (j + 1) y = ws.take j ++ x :: y :: ws.drop (j + 2) := by
  conv => lhs; rw [cut_two h]
  rw [set_at _ _ _ _ _ (by rw [List.length_take]; omega), show ws.take j ++ x :: gi ws (j + 1) :: ws.drop (j + 2) = (ws.take j ++ [x]) ++ gi ws (j + 1) :: ws.drop (j + 2) by simp, set_at _ _ _ _ _ (by rw [List.length_append, List.length_take, List.length_singleton]; omega)]
  simp
theorem set_three {ws : List Int} {j : Nat} (h : j + 2 < ws.length) (x y z : Int) : ((ws.set j x).set (j + 1) y).set (j + 2) z = ws.take j ++ x :: y :: z :: ws.drop (j + 3) := by
  rw [set_two (ws := ws) (j := j) (by omega), cut_one (ws := ws) (j := j + 2) (by omega), show ws.take j ++ x :: y :: gi ws (j + 2) :: ws.drop (j + 3) = (ws.take j ++ [x, y]) ++ gi ws (j + 2) :: ws.drop (j + 3) by simp, set_at _ _ _ _ _ (by simp; omega)]
  simp
theorem cut_last {ws : List Int} (h : 1 ≤ ws.length) : ws = ws.take (ws.length - 1) ++ [gi ws (ws.length - 1)] := by
  have e := cut_one (ws := ws) (j := ws.length - 1) (by omega)
  rw [show ws.length - 1 + 1 = ws.length by omega, List.drop_length] at e
  rw [← e, List.take_append_drop]
theorem gi_take {ws : List Int} {k m : Nat} (h : k < m) : gi (ws.take m) k = gi ws k := by
  simp only [gi, List.getD_eq_getElem?_getD]
  rw [List.getElem?_take_of_lt h]
theorem cut_ends {ws : List Int} (h : 2 ≤ ws.length) : ws = gi ws 0 :: ((ws.take (ws.length - 1)).tail ++ [gi ws (ws.length - 1)]) := by
  have e := cut_last (ws := ws) (by omega)
  have e2 : ws.take (ws.length - 1) = gi ws 0 :: (ws.take (ws.length - 1)).tail := by
    have := cut_one (ws := ws.take (ws.length - 1)) (j := 0) (by rw [List.length_take]; omega)
    rw [List.drop_zero, gi_take (by omega)] at this
    rw [this]
    simp
  conv => lhs; rw [e, e2]
  rfl
theorem brv_mem {S : Int} {ws : List Int} (h : BrV S ws) : ∀ z ∈ ws, 1 ≤ z.natAbs ∧ z.natAbs < S.toNat := fun z hz => by
  obtain ⟨h1, h2, h3, h4⟩ := h
  obtain ⟨k, hk, rfl⟩ := List.getElem_of_mem hz
  have := h4 k hk
  have e : gi ws k = ws[k] := by simp [gi, hk]
  rw [e] at this
  omega
theorem gi_mem {ws : List Int} {k : Nat} (h : k < ws.length) : gi ws k ∈ ws := by
  have e : gi ws k = ws[k] := by simp [gi, h]
  rw [e]
  exact List.getElem_mem h
theorem brv_gi {S : Int} {ws : List Int} (h : BrV S ws) (k : Nat) : -100000 ≤ gi ws k ∧ gi ws k ≤ 100000 := by
  by_cases hk : k < ws.length
  · have := h.2.2.2 k hk
    have := h.2.1
    omega
  · have e : gi ws k = 0 := by unfold gi; rw [List.getD_eq_getElem?_getD, List.getElem?_eq_none (by omega)]; rfl
    omega
section
variable (A : Option Addr) (c : Nat) (ws : List Int) (S g a : Int) (hV : BrV S ws) (w : World) (P : Nat → Prop) (hr : RI w P A ws) (hP : ∀ b, P b → b < w.heap.size)
include hV hr hP
/-- applicable, at every kind -/
theorem applicable_any (k : Int) (hk : 1 ≤ k ∧ k ≤ 7) (hT : ItP S ws.length k g a) :
    Calls Try.prog 54 #[.agg #[.int .i64 S, .slice A ws.length c], .agg #[.int .i64 k, .int .i64 g, .int .i64 a]] w (Tells (ApP S ws k g a) w) := by
  have hS : 1 ≤ S ∧ S ≤ 10 := ⟨hV.1, hV.2.1⟩
  have hn := hV.2.2.1
  have hx := brv_gi hV
  have hkk : k = 1 ∨ k = 2 ∨ k = 3 ∨ k = 4 ∨ k = 5 ∨ k = 6 ∨ k = 7 := by omega
  obtain ⟨t1, t2, t3, t6, t4⟩ := hT
  rcases hkk with rfl | rfl | rfl | rfl | rfl | rfl | rfl
  · exact app_k1 A c ws S g a hn (by have := (t1 rfl).1; omega) w P hr hP
  · exact app_k2 A c ws S g a w
  · exact app_k3 A c ws S g hS hn hx w P hr hP a
  · obtain ⟨-, h1, h2⟩ := t4 (.inl rfl)
    obtain ⟨j, rfl⟩ : ∃ j : Nat, a = j := ⟨a.toNat, by omega⟩
    exact app_k4 A c ws S g hn hx w P hr hP j (by omega)
  · obtain ⟨-, h1, h2⟩ := t4 (.inr (.inl rfl))
    obtain ⟨j, rfl⟩ : ∃ j : Nat, a = j := ⟨a.toNat, by omega⟩
    exact app_k5 A c ws S g hn hx w P hr hP j (by omega)
  · exact app_k6 A c ws S g a w
  · obtain ⟨-, h1, h2⟩ := t4 (.inr (.inr rfl))
    obtain ⟨j, rfl⟩ : ∃ j : Nat, a = j := ⟨a.toNat, by omega⟩
    exact app_k7 A c ws S g hn hx w P hr hP j (by omega)
/-- change, at every kind -/
theorem change_any (k : Int) (hk : 1 ≤ k ∧ k ≤ 7) (hT : ItP S ws.length k g a) (hA : ApP S ws k g a) :
    Calls Try.prog 55 #[.agg #[.int .i64 S, .slice A ws.length c], .agg #[.int .i64 k, .int .i64 g, .int .i64 a]] w fun e w' => ∃ S' ws', ChPost w S' ws' e w' ∧ MkR S.toNat ws S'.toNat ws' ∧ 0 ≤ S' ∧ S' ≤ 11 ∧ ws'.length ≤ 300 := by
  have hS : 1 ≤ S ∧ S ≤ 10 := ⟨hV.1, hV.2.1⟩
  have hn := hV.2.2.1
  have hx := brv_gi hV
  have hm := brv_mem hV
  have hkk : k = 1 ∨ k = 2 ∨ k = 3 ∨ k = 4 ∨ k = 5 ∨ k = 6 ∨ k = 7 := by omega
  obtain ⟨t1, t2, t3, t6, t4⟩ := hT
  obtain ⟨a1, a3, a4, a5, a7⟩ := hA
  rcases hkk with rfl | rfl | rfl | rfl | rfl | rfl | rfl
  · obtain ⟨h1, h2⟩ := t1 rfl
    rcases h2 with rfl | rfl
    · refine (ch_k1a A c ws S g hn hx w P hr hP (by omega)).mono fun e w' h => ⟨_, _, h, .inl ⟨g, by omega, by omega, rfl, rfl⟩, by omega, by omega, by simp; omega⟩
    · obtain ⟨h3, h4, h5⟩ := (a1 rfl).resolve_left (by omega)
      refine (ch_k1b A c ws S g hn hx w P hr hP (by omega) (h3)).mono fun e w' h => ⟨_, _, h, .inr (.inl ⟨g, _, rfl, ?_, rfl⟩), by omega, by omega, by simp; omega⟩
      have := cut_ends h3
      rw [h4, h5] at this
      exact this
  · obtain ⟨h1, h2⟩ := t2 rfl
    refine (ch_k2 A c ws S g a hS hn hx w P hr hP (h1)).mono fun e w' h => ⟨_, _, h, .inr (.inr (.inl ⟨g * S, by omega, ?_, by omega, rfl⟩)), by omega, by omega, by simp; omega⟩
    rcases h1 with rfl | rfl <;> omega
  · obtain ⟨h1, h2, h3, h4⟩ := a3 rfl
    refine (ch_k3 A c ws S g a hS hn hx w P hr hP (h2)).mono fun e w' h => ⟨_, _, h, .inr (.inr (.inr (.inl ⟨_, _, by omega, ?_, by omega, cut_last h2, rfl, fun z hz => ?_⟩))), by omega, by omega, by simp; omega⟩
    · omega
    · obtain ⟨k, hk, rfl⟩ := List.getElem_of_mem hz
      rw [List.length_take] at hk
      have h5 := h4 k (by omega)
      have e : (ws.take (ws.length - 1))[k] = gi ws k := by
        rw [List.getElem_take]
        have : k < ws.length := by omega
        simp [gi, this]
      rw [e]
      have := hm _ (gi_mem (ws := ws) (k := k) (by omega))
      omega
  · obtain ⟨-, h1, h2⟩ := t4 (.inl rfl)
    obtain ⟨j, rfl⟩ : ∃ j : Nat, a = j := ⟨a.toNat, by omega⟩
    obtain ⟨h3, h4⟩ := a4 rfl j rfl
    refine (ch_k4 A c ws S g hn hx w P hr hP j (h3)).mono fun e w' h => ⟨_, _, h, .inr (.inr (.inr (.inr (.inl ⟨_, _, _, _, rfl, cut_two h3, set_two h3 _ _, by omega, by omega⟩)))), by omega, by omega, by simp; omega⟩
  · obtain ⟨-, h1, h2⟩ := t4 (.inr (.inl rfl))
    obtain ⟨j, rfl⟩ : ∃ j : Nat, a = j := ⟨a.toNat, by omega⟩
    obtain ⟨h3, h4, h5, h6⟩ := a5 rfl j rfl
    refine (ch_k5 A c ws S g hn hx w P hr hP j (h3)).mono fun e w' h => ⟨_, _, h, .inr (.inr (.inr (.inr (.inr (.inl ⟨ws.take j, ws.drop (j + 3), gi ws j, gi ws (j + 1), rfl, ?_, set_three h3 _ _ _, ?_, ?_⟩))))), by omega, by omega, by simp; omega⟩
    · have := cut_three h3
      rw [h4] at this
      exact this
    · have m1 := hm _ (gi_mem (ws := ws) (k := j) (by omega))
      have m2 := hm _ (gi_mem (ws := ws) (k := j + 1) (by omega))
      unfold sgl
      split <;> split <;> omega
    · have m1 := hm _ (gi_mem (ws := ws) (k := j) (by omega))
      have m2 := hm _ (gi_mem (ws := ws) (k := j + 1) (by omega))
      omega
  · obtain ⟨h1, h2, h3⟩ := t6 rfl
    obtain ⟨j, rfl⟩ : ∃ j : Nat, a = j := ⟨a.toNat, by omega⟩
    refine (ch_k6 A c ws S g hn hx w P hr hP (by omega) j (by omega)).mono fun e w' h => ⟨_, _, h, .inr (.inr (.inr (.inr (.inr (.inr (.inl ⟨ws.take j, ws.drop j, g, by omega, by omega, rfl, (List.take_append_drop j ws).symm, rfl⟩)))))), by omega, by omega, by simp; omega⟩
  · obtain ⟨-, h1, h2⟩ := t4 (.inr (.inr rfl))
    obtain ⟨j, rfl⟩ : ∃ j : Nat, a = j := ⟨a.toNat, by omega⟩
    obtain ⟨h3, h4⟩ := a7 rfl j rfl
    refine (ch_k7 A c ws S g hn hx w P hr hP j (h3)).mono fun e w' h => ⟨_, _, h, .inr (.inr (.inr (.inr (.inr (.inr (.inr ⟨ws.take j, ws.drop (j + 2), gi ws j, rfl, ?_, rfl⟩)))))), by omega, by omega, by simp; omega⟩
    have := cut_two h3
    rw [h4] at this
    exact this
end
end Go.Proofs.Yteanhbldhaiekaa
