/-
  The contract of markov.change, kind by kind.
  The contract of markov.change, kind by kind.
-/
import Derived.Test.YteanhbldhaiekaaZ45
import Derived.Test.YteanhbldhaiekaaZ44
namespace Go.Proofs.Yteanhbldhaiekaa
open Go.RowKit

section
variable (A : Option Addr) (c : Nat) (ws : List Int) (S g a : Int) (hS : 1 ≤ S ∧ S ≤ 10) (hn : ws.length ≤ 200) (hx : ∀ k, -100000 ≤ gi ws k ∧ gi ws k ≤ 100000) (w : World) (P : Nat → Prop) (hr : RI w P A ws) (hP : ∀ b, P b → b < w.heap.size)
include hn hx hr hP in
set_option maxRecDepth 100000 in
set_option maxHeartbeats 8000000 in
theorem ch_k6 (hg : -100 ≤ g ∧ g ≤ 100) (j : Nat) (hj : j ≤ ws.length) :
    Calls Try.prog 55 #[.agg #[.int .i64 S, .slice A ws.length c], .agg #[.int .i64 6, .int .i64 g, .int .i64 j]] w (ChPost w (S) (ws.take j ++ g :: (-g) :: ws.drop j)) := by
  have HC : Hid (CBx w ((((w.alloc (.cells #[.int .i64 S, .slice A ws.length c] 37)).alloc (.cells #[.int .i64 6, .int .i64 g, .int .i64 j] 52)).alloc (.cells #[.int .i64 0, .slice none 0 0] 37)).alloc (.cells #[.int .i64 0, .int .i64 0, .int .i64 0] 52)) S 6 g j (.slice A ws.length c)) := Lib.hid (CBx.start w S 6 g j _)
  have HR : Hid (RI ((((w.alloc (.cells #[.int .i64 S, .slice A ws.length c] 37)).alloc (.cells #[.int .i64 6, .int .i64 g, .int .i64 j] 52)).alloc (.cells #[.int .i64 0, .slice none 0 0] 37)).alloc (.cells #[.int .i64 0, .int .i64 0, .int .i64 0] 52)) (· < ((((w.alloc (.cells #[.int .i64 S, .slice A ws.length c] 37)).alloc (.cells #[.int .i64 6, .int .i64 g, .int .i64 j] 52)).alloc (.cells #[.int .i64 0, .slice none 0 0] 37)).alloc (.cells #[.int .i64 0, .int .i64 0, .int .i64 0] 52)).heap.size) A ws) := Lib.hid ((hr.keep fun b hb => HC.out.bel.block b (hP b hb)).imp fun b hb => Nat.lt_of_lt_of_le (hP b hb) HC.out.bel.size)
  have HX := Lib.hid hx
  have HN := Lib.hid hn
  clear hr hP hx hn
  obtain ⟨W, hW⟩ : ∃ W, ((((w.alloc (.cells #[.int .i64 S, .slice A ws.length c] 37)).alloc (.cells #[.int .i64 6, .int .i64 g, .int .i64 j] 52)).alloc (.cells #[.int .i64 0, .slice none 0 0] 37)).alloc (.cells #[.int .i64 0, .int .i64 0, .int .i64 0] 52)) = W := ⟨_, rfl⟩
  rw [hW] at HC HR
  go_enter Try.func55, Try.ntmps55
  go_wp2_with fail
  clear hW
  have k0 := HC.out.b.c0
  have k1 := HC.out.b.c1
  go_cut [6, 7] (fun n v wx => n = .int .i64 ws.length ∧ ∃ A1 c1, v = .slice A1 ws.length c1 ∧ Hid (CBx w wx S 6 g j (.slice A ws.length c)) ∧ Hid (OI wx (w.heap.size + 4) (.slice A1 ws.length c1) ws))
  case first =>
    go_region_held3 (fun w' => Hid (CBx w w' S 6 g j (.slice A ws.length c)) ∧ w'.cell? ⟨w.heap.size, 1, none⟩ = some (.slice A ws.length c))
      (first | exact ⟨HC, k1⟩ | exact ⟨Lib.hid HC.out.drew, k1⟩ | exact ⟨HC9, HC9.out.b.c1⟩)
      ((refine (clone_any A c ws W.drew (· < W.drew.heap.size) (by exact HR.out) (fun _ h => h) (by have := HN.out; omega)).mono ?_; rintro e w1 ⟨v, rfl, ho, hb⟩; have HC9 := Lib.hid (HC.out.drew.below hb); have HO9 := Lib.hid (ho.mono (B' := w.heap.size + 4) (by have := HC.out.rs.lt; simp; omega)); obtain ⟨a9, d9, rfl, -, -, -⟩ := HO9.out.shape; clear hb ho))
    all_goals
      go_wp2_with fail
      go_meet
      case rel => exact ⟨rfl, _, _, rfl, HC9, HO9⟩
  case rest =>
    obtain ⟨rfl, A1, d1, rfl, HC1, HO1⟩ := hcut
    clear HC HR k0 k1
    have e0 := HC1.out.s.c0
    have e1 := HC1.out.s.c1
    have e2 := HC1.out.s.c2
    go_upto_region 3 with fail
    have HM := Lib.hid (Mid.start HC1.out HO1.out)
    clear e0 e1 e2 HC1 HO1
    generalize wc.alloc (.cells #[.int .i64 6, .int .i64 g, .int .i64 j] 52) = w2 at HM ⊢
    generalize wc.heap.size = t at HM ⊢
    have b0 := HM.out.cb.b.c0
    have e0 := HM.out.cb.s.c0
    have e1 := HM.out.cb.s.c1
    have e2 := HM.out.cb.s.c2
    have wg : IntKind.i64.wrap (-g) = -g := IntWalk.i64_in _ (by omega)
    have HLT : Hid ((ws.take j ++ g :: (-g) :: ws.drop j).length = ws.length + 2) := Lib.hid (ins_len ws hj g (-g))
    have HJ := Lib.hid hj
    clear hj hg
    go_upto_region 26 with fail
    go_wp2_with fail
    have HT2 := Lib.hid HM.out.tb.lt
    have HO2 := Lib.hid (HM.out.o.alloc (.cells #[.int .i64 g, .int .i64 (-g)] 3))
    refine (ins_own HO2.out (by have := HM.out.cb.rs.lt; simp; omega) HJ.out (by have := HN.out; omega) (heap_alloc_new w2 _) (fun e => by have := (HM.out.o.lt _ e).2; omega)).mono ?_
    rintro e w5 hp
    obtain ⟨A2, c2, rfl, HC2, HT3, HR3⟩ := HM.out.ins hp
    have HH := Lib.hid HM.out.ht
    clear hp HO2 HT2 e0 e1 e2 b0 HM
    have e2 := HC2.s.c2
    have q0 := HT3.c0
    have q1 := HT3.c1
    have q2 := HT3.c2
    have r0 := HT3.f0
    have r1 := HT3.f1
    have r2 := HT3.f2
    go_upto_region 31 with fail
    have HF := Lib.hid (Fin4.of HC2 HT3 HH.out HR3 7 0 j)
    clear q0 q1 q2 r0 r1 r2 e2 HC2 HT3 HR3
    generalize ((w5.setCell ⟨t, 0, none⟩ (.int .i64 7)).setCell ⟨t, 1, none⟩ (.int .i64 0)).setCell ⟨t, 2, none⟩ (.int .i64 j) = wF at HF ⊢
    have q0 := HF.out.tb.c0
    have q1 := HF.out.tb.c1
    have q2 := HF.out.tb.c2
    have r0 := HF.out.rb.c0
    have r1 := HF.out.rb.c1
    have r2 := HF.out.rb.f0
    have r3 := HF.out.rb.f1
    have s0 := HF.out.rs.c0
    have s1 := HF.out.rs.c1
    have s2 := HF.out.rs.c2
    have s3 := HF.out.rs.f0
    have s4 := HF.out.rs.f1
    have s5 := HF.out.rs.f2
    have n1 : ¬ t = w.heap.size + 1 + 1 := by have := HF.out.ht; omega
    have n2 : ¬ t = w.heap.size + 1 + 1 + 1 := by have := HF.out.ht; omega
    have n3 : ¬ w.heap.size + 1 + 1 = t := by have := HF.out.ht; omega
    have n4 : ¬ w.heap.size + 1 + 1 + 1 = t := by have := HF.out.ht; omega
    have HZ : Hid _ := Lib.hid (fun p0 p1 q0 q1 q2 => HF.out.drew.done p0 p1 q0 q1 q2)
    go_region
    all_goals
      clear n1 n2 n3 n4 q0 q1 q2
      go_wp2_with fail
      refine bodyPost_ret (v := .tuple #[.agg #[.int .i64 (S), .slice A2 (ws.length + 2) c2], .agg #[.int .i64 (7), .int .i64 (0), .int .i64 (j)]]) (by simp [results, Try.results55, go_sem, r0, r1, s0, s1, s2]) rfl ?_
      exact ⟨A2, c2, 7, 0, j, by rw [HLT.out], HZ.out _ _ _ _ _⟩
end
end Go.Proofs.Yteanhbldhaiekaa
namespace Go.Proofs.Yteanhbldhaiekaa
open Go.RowKit

section
variable (A : Option Addr) (c : Nat) (ws : List Int) (S g a : Int) (hS : 1 ≤ S ∧ S ≤ 10) (hn : ws.length ≤ 200) (hx : ∀ k, -100000 ≤ gi ws k ∧ gi ws k ≤ 100000) (w : World) (P : Nat → Prop) (hr : RI w P A ws) (hP : ∀ b, P b → b < w.heap.size)
include hn hx hr hP in
set_option maxRecDepth 100000 in
set_option maxHeartbeats 8000000 in
theorem ch_k7 (j : Nat) (hj : j + 1 < ws.length) :
    Calls Try.prog 55 #[.agg #[.int .i64 S, .slice A ws.length c], .agg #[.int .i64 7, .int .i64 g, .int .i64 j]] w (ChPost w (S) (ws.take j ++ ws.drop (j + 2))) := by
  have HC : Hid (CBx w ((((w.alloc (.cells #[.int .i64 S, .slice A ws.length c] 37)).alloc (.cells #[.int .i64 7, .int .i64 g, .int .i64 j] 52)).alloc (.cells #[.int .i64 0, .slice none 0 0] 37)).alloc (.cells #[.int .i64 0, .int .i64 0, .int .i64 0] 52)) S 7 g j (.slice A ws.length c)) := Lib.hid (CBx.start w S 7 g j _)
  have HR : Hid (RI ((((w.alloc (.cells #[.int .i64 S, .slice A ws.length c] 37)).alloc (.cells #[.int .i64 7, .int .i64 g, .int .i64 j] 52)).alloc (.cells #[.int .i64 0, .slice none 0 0] 37)).alloc (.cells #[.int .i64 0, .int .i64 0, .int .i64 0] 52)) (· < ((((w.alloc (.cells #[.int .i64 S, .slice A ws.length c] 37)).alloc (.cells #[.int .i64 7, .int .i64 g, .int .i64 j] 52)).alloc (.cells #[.int .i64 0, .slice none 0 0] 37)).alloc (.cells #[.int .i64 0, .int .i64 0, .int .i64 0] 52)).heap.size) A ws) := Lib.hid ((hr.keep fun b hb => HC.out.bel.block b (hP b hb)).imp fun b hb => Nat.lt_of_lt_of_le (hP b hb) HC.out.bel.size)
  have HX := Lib.hid hx
  have HN := Lib.hid hn
  clear hr hP hx hn
  obtain ⟨W, hW⟩ : ∃ W, ((((w.alloc (.cells #[.int .i64 S, .slice A ws.length c] 37)).alloc (.cells #[.int .i64 7, .int .i64 g, .int .i64 j] 52)).alloc (.cells #[.int .i64 0, .slice none 0 0] 37)).alloc (.cells #[.int .i64 0, .int .i64 0, .int .i64 0] 52)) = W := ⟨_, rfl⟩
  rw [hW] at HC HR
  go_enter Try.func55, Try.ntmps55
  go_wp2_with fail
  clear hW
  have k0 := HC.out.b.c0
  have k1 := HC.out.b.c1
  go_cut [6, 7] (fun n v wx => n = .int .i64 ws.length ∧ ∃ A1 c1, v = .slice A1 ws.length c1 ∧ Hid (CBx w wx S 7 g j (.slice A ws.length c)) ∧ Hid (OI wx (w.heap.size + 4) (.slice A1 ws.length c1) ws))
  case first =>
    go_region_held3 (fun w' => Hid (CBx w w' S 7 g j (.slice A ws.length c)) ∧ w'.cell? ⟨w.heap.size, 1, none⟩ = some (.slice A ws.length c))
      (first | exact ⟨HC, k1⟩ | exact ⟨Lib.hid HC.out.drew, k1⟩ | exact ⟨HC9, HC9.out.b.c1⟩)
      ((refine (clone_any A c ws W.drew (· < W.drew.heap.size) (by exact HR.out) (fun _ h => h) (by have := HN.out; omega)).mono ?_; rintro e w1 ⟨v, rfl, ho, hb⟩; have HC9 := Lib.hid (HC.out.drew.below hb); have HO9 := Lib.hid (ho.mono (B' := w.heap.size + 4) (by have := HC.out.rs.lt; simp; omega)); obtain ⟨a9, d9, rfl, -, -, -⟩ := HO9.out.shape; clear hb ho))
    all_goals
      go_wp2_with fail
      go_meet
      case rel => exact ⟨rfl, _, _, rfl, HC9, HO9⟩
  case rest =>
    obtain ⟨rfl, A1, d1, rfl, HC1, HO1⟩ := hcut
    clear HC HR k0 k1
    have e0 := HC1.out.s.c0
    have e1 := HC1.out.s.c1
    have e2 := HC1.out.s.c2
    go_upto_region 3 with fail
    have HM := Lib.hid (Mid.start HC1.out HO1.out)
    clear e0 e1 e2 HC1 HO1
    generalize wc.alloc (.cells #[.int .i64 7, .int .i64 g, .int .i64 j] 52) = w2 at HM ⊢
    generalize wc.heap.size = t at HM ⊢
    have b0 := HM.out.cb.b.c0
    have e0 := HM.out.cb.s.c0
    have e1 := HM.out.cb.s.c1
    have e2 := HM.out.cb.s.c2
    obtain ⟨g1, d9, h5, hg1, hg2, hcap, -, hcc, hff⟩ := HM.out.o.ints (by omega)
    injection h5 with h5 _ h6
    subst h5; subst h6
    obtain ⟨j2, hj2⟩ : ∃ m, m = j + 2 := ⟨_, rfl⟩
    have wj2 : IntKind.i64.wrap ((j : Int) + 2) = (j2 : Int) := by rw [IntWalk.i64_in _ (by have := HN.out; omega)]; omega
    have f0 : (0 : Int) ≤ (j : Int) ∧ (j : Int) < (ws.length : Int) := by omega
    have c1 := hcc j (by omega)
    have m0 := HM.out.tb.c0
    have m1 := HM.out.tb.c1
    have m2 := HM.out.tb.c2
    have m3 := HM.out.tb.f0
    have m4 := HM.out.tb.f1
    have m5 := HM.out.tb.f2
    have n1 : ¬ t = w.heap.size + 1 := by have := HM.out.ht; omega
    have n2 : ¬ w.heap.size + 1 = t := by have := HM.out.ht; omega
    have n3 : ¬ g1 = t := fun e => HM.out.ne (by rw [e]; rfl)
    have n4 : ¬ t = g1 := fun e => HM.out.ne (by rw [e]; rfl)
    obtain ⟨x, hx⟩ : ∃ x, gi ws j = x := ⟨_, rfl⟩
    rw [hx] at c1
    have HLT : Hid ((ws.take j ++ ws.drop (j + 2)).length = ws.length - 2) := Lib.hid (by rw [List.length_append, List.length_take, List.length_drop]; omega)
    have HJ := Lib.hid (And.intro hj hj2)
    clear hcc hff hx hg1 hj hj2
    go_upto_region 29 with fail
    go_region
    all_goals
      have HM4 := Lib.hid ((HM.out.set3 6 x j).drew)
      clear HM c1 m0 m1 m2 m3 m4 m5 n1 n2 n3 n4 e0 e1 e2 b0
      generalize (((w2.setCell ⟨t, 0, none⟩ (.int .i64 6)).setCell ⟨t, 1, none⟩ (.int .i64 x)).setCell ⟨t, 2, none⟩ (.int .i64 j)).drew = w4 at HM4 ⊢
      have e2 := HM4.out.cb.s.c2
      go_wp2_with fail
      refine (delete_own HM4.out.o j j2 HJ.out.2 (by have := HJ.out.1; omega)).mono ?_
      rintro e w5 ⟨rfl, hr5, hk5, hs5, hb5⟩
      have HF := Lib.hid (HM4.out.own (fun b hb _ => hk5 b hb) (Nat.le_of_eq hs5.symm) hb5 hr5 (fun b hb => by subst hb; exact ⟨(HM4.out.o.lt _ rfl).1, by rw [hs5]; exact (HM4.out.o.lt _ rfl).2⟩))
      clear HM4 hr5 hk5 hs5 hb5 e2
      go_upto_region 31 with fail
      have q0 := HF.out.tb.c0
      have q1 := HF.out.tb.c1
      have q2 := HF.out.tb.c2
      have r0 := HF.out.rb.c0
      have r1 := HF.out.rb.c1
      have r2 := HF.out.rb.f0
      have r3 := HF.out.rb.f1
      have s0 := HF.out.rs.c0
      have s1 := HF.out.rs.c1
      have s2 := HF.out.rs.c2
      have s3 := HF.out.rs.f0
      have s4 := HF.out.rs.f1
      have s5 := HF.out.rs.f2
      have n1 : ¬ t = w.heap.size + 1 + 1 := by have := HF.out.ht; omega
      have n2 : ¬ t = w.heap.size + 1 + 1 + 1 := by have := HF.out.ht; omega
      have n3 : ¬ w.heap.size + 1 + 1 = t := by have := HF.out.ht; omega
      have n4 : ¬ w.heap.size + 1 + 1 + 1 = t := by have := HF.out.ht; omega
      have HZ : Hid _ := Lib.hid (fun p0 p1 q0 q1 q2 => HF.out.drew.done p0 p1 q0 q1 q2)
      go_region
      all_goals
        clear n1 n2 n3 n4 q0 q1 q2
        go_wp2_with fail
        refine bodyPost_ret (v := .tuple #[.agg #[.int .i64 (S), .slice (some ⟨g1, 0, none⟩) (ws.length - 2) d1], .agg #[.int .i64 (6), .int .i64 (x), .int .i64 (j)]]) (by simp [results, Try.results55, go_sem, r0, r1, s0, s1, s2]) rfl ?_
        exact ⟨(some ⟨g1, 0, none⟩), d1, 6, x, j, by rw [HLT.out], HZ.out _ _ _ _ _⟩
end
end Go.Proofs.Yteanhbldhaiekaa
