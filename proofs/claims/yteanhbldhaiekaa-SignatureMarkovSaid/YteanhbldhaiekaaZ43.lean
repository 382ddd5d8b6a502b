/-
  The contract of markov.change, kind by kind.
  The contract of markov.change, kind by kind.
  The contract of markov.change, kind by kind.
-/
import Derived.Test.YteanhbldhaiekaaZ42
namespace Go.Proofs.Yteanhbldhaiekaa
open Go.RowKit

section
variable (A : Option Addr) (c : Nat) (ws : List Int) (S g a : Int) (hS : 1 ≤ S ∧ S ≤ 10) (hn : ws.length ≤ 200) (hx : ∀ k, -100000 ≤ gi ws k ∧ gi ws k ≤ 100000) (w : World) (P : Nat → Prop) (hr : RI w P A ws) (hP : ∀ b, P b → b < w.heap.size)
include hS hn hx hr hP in
set_option maxRecDepth 100000 in
set_option maxHeartbeats 8000000 in
theorem ch_k2 (hg : g = 1 ∨ g = -1) :
    Calls Try.prog 55 #[.agg #[.int .i64 S, .slice A ws.length c], .agg #[.int .i64 2, .int .i64 g, .int .i64 a]] w (ChPost w (S + 1) (ws ++ [g * S])) := by
  have HC : Hid (CBx w ((((w.alloc (.cells #[.int .i64 S, .slice A ws.length c] 37)).alloc (.cells #[.int .i64 2, .int .i64 g, .int .i64 a] 52)).alloc (.cells #[.int .i64 0, .slice none 0 0] 37)).alloc (.cells #[.int .i64 0, .int .i64 0, .int .i64 0] 52)) S 2 g a (.slice A ws.length c)) := Lib.hid (CBx.start w S 2 g a _)
  have HR : Hid (RI ((((w.alloc (.cells #[.int .i64 S, .slice A ws.length c] 37)).alloc (.cells #[.int .i64 2, .int .i64 g, .int .i64 a] 52)).alloc (.cells #[.int .i64 0, .slice none 0 0] 37)).alloc (.cells #[.int .i64 0, .int .i64 0, .int .i64 0] 52)) (· < ((((w.alloc (.cells #[.int .i64 S, .slice A ws.length c] 37)).alloc (.cells #[.int .i64 2, .int .i64 g, .int .i64 a] 52)).alloc (.cells #[.int .i64 0, .slice none 0 0] 37)).alloc (.cells #[.int .i64 0, .int .i64 0, .int .i64 0] 52)).heap.size) A ws) := Lib.hid ((hr.keep fun b hb => HC.out.bel.block b (hP b hb)).imp fun b hb => Nat.lt_of_lt_of_le (hP b hb) HC.out.bel.size)
  have HX := Lib.hid hx
  have HN := Lib.hid hn
  clear hr hP hx hn
  obtain ⟨W, hW⟩ : ∃ W, ((((w.alloc (.cells #[.int .i64 S, .slice A ws.length c] 37)).alloc (.cells #[.int .i64 2, .int .i64 g, .int .i64 a] 52)).alloc (.cells #[.int .i64 0, .slice none 0 0] 37)).alloc (.cells #[.int .i64 0, .int .i64 0, .int .i64 0] 52)) = W := ⟨_, rfl⟩
  rw [hW] at HC HR
  go_enter Try.func55, Try.ntmps55
  go_wp2_with fail
  clear hW
  have k0 := HC.out.b.c0
  have k1 := HC.out.b.c1
  go_cut [6, 7] (fun n v wx => n = .int .i64 ws.length ∧ ∃ A1 c1, v = .slice A1 ws.length c1 ∧ Hid (CBx w wx S 2 g a (.slice A ws.length c)) ∧ Hid (OI wx (w.heap.size + 4) (.slice A1 ws.length c1) ws))
  case first =>
    go_region_held3 (fun w' => Hid (CBx w w' S 2 g a (.slice A ws.length c)) ∧ w'.cell? ⟨w.heap.size, 1, none⟩ = some (.slice A ws.length c))
      (first | exact ⟨HC, k1⟩ | exact ⟨Lib.hid HC.out.drew, k1⟩ | exact ⟨HC9, HC9.out.b.c1⟩)
      ((refine (clone_any A c ws W.drew (· < W.drew.heap.size) (by exact HR.out) (fun _ h => h) (by have := HN.out; omega)).mono ?_; rintro e w1 ⟨v, rfl, ho, hb⟩; have HC9 := Lib.hid (HC.out.drew.below hb); have HO9 := Lib.hid (ho.mono (B' := w.heap.size + 4) (by have := HC.out.rs.lt; simp; omega)); obtain ⟨a9, d9, rfl, -, -, -⟩ := HO9.out.shape; clear hb ho))
    all_goals
      go_wp2_with fail
      go_meet
      case rel => exact ⟨rfl, _, _, rfl, HC9, HO9⟩
  case rest =>
    obtain ⟨rfl, A1, d1, rfl, HC1, HO1⟩ := hcut
    clear HC HR k0 k1
    have e0 := HC1.out.s.c0
    have e1 := HC1.out.s.c1
    have e2 := HC1.out.s.c2
    go_upto_region 3 with fail
    have HM := Lib.hid (Mid.start HC1.out HO1.out)
    clear e0 e1 e2 HC1 HO1
    generalize wc.alloc (.cells #[.int .i64 2, .int .i64 g, .int .i64 a] 52) = w2 at HM ⊢
    generalize wc.heap.size = t at HM ⊢
    have b0 := HM.out.cb.b.c0
    have e0 := HM.out.cb.s.c0
    have e1 := HM.out.cb.s.c1
    have e2 := HM.out.cb.s.c2
    have wm : IntKind.i64.wrap (g * S) = g * S := IntWalk.i64_in _ (by rcases hg with rfl | rfl <;> omega)
    have wp : IntKind.i64.wrap (S + 1) = S + 1 := IntWalk.i64_in _ (by omega)
    have HGG := Lib.hid hg
    have HTS := Lib.hid HM.out.cb.bel.size
    clear hg
    go_upto_region 11 with fail
    go_cut [7] (fun v wx => ∃ A2 c2, v = .slice A2 (ws.length + 1) c2 ∧ Hid (CBx w wx S 2 g a (.slice A ws.length c)) ∧ Hid (TBx wx t 2 g a) ∧ Hid (OI wx (w.heap.size + 4) v (ws ++ [g * S])) ∧ Hid (v.ownBlock ≠ some t))
    case first =>
      go_wp2_with (at_builtin; refine app1 HM.out.o (by have := HN.out; omega) (by exact HM.out.cb.rs.lt) rfl rfl Try.underlying33 rfl rfl ?_; intro v' w' ho hg hob)
      have HG := Lib.hid (HM.out.grown hg)
      have HB := Lib.hid hob
      obtain ⟨a9, d9, rfl, -, -, -⟩ := ho.shape
      have HO := Lib.hid ho
      clear ho hg hob
      go_meet
      case rel => exact ⟨a9, d9, congrArg (fun n => Value.slice a9 n d9) (by simp), Lib.hid HG.out.1, Lib.hid HG.out.2.1, HO, Lib.hid fun e => by
        rcases HB.out with h | h
        · exact HM.out.ne (h.symm.trans e)
        · rw [h] at e
          injection e with e
          have := HM.out.tb.lt
          omega⟩
    case rest =>
      obtain ⟨A2, c2, rfl, HC2, HT2, HO2, HE2⟩ := hcut
      have HR2 := Lib.hid (Mid.row HO2.out HE2.out)
      clear e0 e1 e2 b0 wm HO2 HE2 HTS
      have q0 := HT2.out.c0
      have q1 := HT2.out.c1
      have q2 := HT2.out.c2
      have r0 := HT2.out.f0
      have r1 := HT2.out.f1
      have r2 := HT2.out.f2
      go_upto_region 31 with fail
      have HF := Lib.hid (Fin4.of HC2.out HT2.out HM.out.ht HR2.out 3 0 0)
      clear q0 q1 q2 r0 r1 r2 HC2 HT2 HR2 HM
      generalize ((wc.setCell ⟨t, 0, none⟩ (.int .i64 3)).setCell ⟨t, 1, none⟩ (.int .i64 0)).setCell ⟨t, 2, none⟩ (.int .i64 0) = wF at HF ⊢
      have q0 := HF.out.tb.c0
      have q1 := HF.out.tb.c1
      have q2 := HF.out.tb.c2
      have r0 := HF.out.rb.c0
      have r1 := HF.out.rb.c1
      have r2 := HF.out.rb.f0
      have r3 := HF.out.rb.f1
      have s0 := HF.out.rs.c0
      have s1 := HF.out.rs.c1
      have s2 := HF.out.rs.c2
      have s3 := HF.out.rs.f0
      have s4 := HF.out.rs.f1
      have s5 := HF.out.rs.f2
      have n1 : ¬ t = w.heap.size + 1 + 1 := by have := HF.out.ht; omega
      have n2 : ¬ t = w.heap.size + 1 + 1 + 1 := by have := HF.out.ht; omega
      have n3 : ¬ w.heap.size + 1 + 1 = t := by have := HF.out.ht; omega
      have n4 : ¬ w.heap.size + 1 + 1 + 1 = t := by have := HF.out.ht; omega
      have HZ : Hid _ := Lib.hid (fun p0 p1 q0 q1 q2 => HF.out.drew.done p0 p1 q0 q1 q2)
      go_region
      all_goals
        clear n1 n2 n3 n4 q0 q1 q2
        go_wp2_with fail
        refine bodyPost_ret (v := .tuple #[.agg #[.int .i64 (S + 1), .slice A2 (ws.length + 1) c2], .agg #[.int .i64 (3), .int .i64 (0), .int .i64 (0)]]) (by simp [results, Try.results55, go_sem, r0, r1, s0, s1, s2]) rfl ?_
        exact ⟨A2, c2, 3, 0, 0, by simp, HZ.out _ _ _ _ _⟩
end
end Go.Proofs.Yteanhbldhaiekaa
namespace Go.Proofs.Yteanhbldhaiekaa
open Go.RowKit

section
variable (A : Option Addr) (c : Nat) (ws : List Int) (S g a : Int) (hS : 1 ≤ S ∧ S ≤ 10) (hn : ws.length ≤ 200) (hx : ∀ k, -100000 ≤ gi ws k ∧ gi ws k ≤ 100000) (w : World) (P : Nat → Prop) (hr : RI w P A ws) (hP : ∀ b, P b → b < w.heap.size)
include hS hn hx hr hP in
set_option maxRecDepth 100000 in
set_option maxHeartbeats 8000000 in
theorem ch_k3 (hl : 1 ≤ ws.length) :
    Calls Try.prog 55 #[.agg #[.int .i64 S, .slice A ws.length c], .agg #[.int .i64 3, .int .i64 g, .int .i64 a]] w (ChPost w (S - 1) (ws.take (ws.length - 1))) := by
  have HC : Hid (CBx w ((((w.alloc (.cells #[.int .i64 S, .slice A ws.length c] 37)).alloc (.cells #[.int .i64 3, .int .i64 g, .int .i64 a] 52)).alloc (.cells #[.int .i64 0, .slice none 0 0] 37)).alloc (.cells #[.int .i64 0, .int .i64 0, .int .i64 0] 52)) S 3 g a (.slice A ws.length c)) := Lib.hid (CBx.start w S 3 g a _)
  have HR : Hid (RI ((((w.alloc (.cells #[.int .i64 S, .slice A ws.length c] 37)).alloc (.cells #[.int .i64 3, .int .i64 g, .int .i64 a] 52)).alloc (.cells #[.int .i64 0, .slice none 0 0] 37)).alloc (.cells #[.int .i64 0, .int .i64 0, .int .i64 0] 52)) (· < ((((w.alloc (.cells #[.int .i64 S, .slice A ws.length c] 37)).alloc (.cells #[.int .i64 3, .int .i64 g, .int .i64 a] 52)).alloc (.cells #[.int .i64 0, .slice none 0 0] 37)).alloc (.cells #[.int .i64 0, .int .i64 0, .int .i64 0] 52)).heap.size) A ws) := Lib.hid ((hr.keep fun b hb => HC.out.bel.block b (hP b hb)).imp fun b hb => Nat.lt_of_lt_of_le (hP b hb) HC.out.bel.size)
  have HX := Lib.hid hx
  have HN := Lib.hid hn
  clear hr hP hx hn
  obtain ⟨W, hW⟩ : ∃ W, ((((w.alloc (.cells #[.int .i64 S, .slice A ws.length c] 37)).alloc (.cells #[.int .i64 3, .int .i64 g, .int .i64 a] 52)).alloc (.cells #[.int .i64 0, .slice none 0 0] 37)).alloc (.cells #[.int .i64 0, .int .i64 0, .int .i64 0] 52)) = W := ⟨_, rfl⟩
  rw [hW] at HC HR
  go_enter Try.func55, Try.ntmps55
  go_wp2_with fail
  clear hW
  have k0 := HC.out.b.c0
  have k1 := HC.out.b.c1
  go_cut [6, 7] (fun n v wx => n = .int .i64 ws.length ∧ ∃ A1 c1, v = .slice A1 ws.length c1 ∧ Hid (CBx w wx S 3 g a (.slice A ws.length c)) ∧ Hid (OI wx (w.heap.size + 4) (.slice A1 ws.length c1) ws))
  case first =>
    go_region_held3 (fun w' => Hid (CBx w w' S 3 g a (.slice A ws.length c)) ∧ w'.cell? ⟨w.heap.size, 1, none⟩ = some (.slice A ws.length c))
      (first | exact ⟨HC, k1⟩ | exact ⟨Lib.hid HC.out.drew, k1⟩ | exact ⟨HC9, HC9.out.b.c1⟩)
      ((refine (clone_any A c ws W.drew (· < W.drew.heap.size) (by exact HR.out) (fun _ h => h) (by have := HN.out; omega)).mono ?_; rintro e w1 ⟨v, rfl, ho, hb⟩; have HC9 := Lib.hid (HC.out.drew.below hb); have HO9 := Lib.hid (ho.mono (B' := w.heap.size + 4) (by have := HC.out.rs.lt; simp; omega)); obtain ⟨a9, d9, rfl, -, -, -⟩ := HO9.out.shape; clear hb ho))
    all_goals
      go_wp2_with fail
      go_meet
      case rel => exact ⟨rfl, _, _, rfl, HC9, HO9⟩
  case rest =>
    obtain ⟨rfl, A1, d1, rfl, HC1, HO1⟩ := hcut
    clear HC HR k0 k1
    have e0 := HC1.out.s.c0
    have e1 := HC1.out.s.c1
    have e2 := HC1.out.s.c2
    go_upto_region 3 with fail
    have HM := Lib.hid (Mid.start HC1.out HO1.out)
    clear e0 e1 e2 HC1 HO1
    generalize wc.alloc (.cells #[.int .i64 3, .int .i64 g, .int .i64 a] 52) = w2 at HM ⊢
    generalize wc.heap.size = t at HM ⊢
    have b0 := HM.out.cb.b.c0
    have e0 := HM.out.cb.s.c0
    have e1 := HM.out.cb.s.c1
    have e2 := HM.out.cb.s.c2
    have wp : IntKind.i64.wrap (S - 1) = S - 1 := IntWalk.i64_in _ (by omega)
    have f0 := HM.out.tb.c0
    have f1 := HM.out.tb.c1
    have f2 := HM.out.tb.c2
    have f3 := HM.out.tb.f0
    have f4 := HM.out.tb.f1
    have f5 := HM.out.tb.f2
    go_upto_region 16 with fail
    have HM3 := Lib.hid (HM.out.set3 2 1 0)
    clear f0 f1 f2 f3 f4 f5 e0 e1 e2 b0 HM
    generalize ((w2.setCell ⟨t, 0, none⟩ (.int .i64 2)).setCell ⟨t, 1, none⟩ (.int .i64 1)).setCell ⟨t, 2, none⟩ (.int .i64 0) = w3 at HM3 ⊢
    obtain ⟨g1, d9, h5, -, -, hcap, -, hcc, -⟩ := HM3.out.o.ints hl
    injection h5 with h5 _ h6
    subst h5; subst h6
    obtain ⟨m, hm⟩ : ∃ m, ws.length - 1 = m := ⟨_, rfl⟩
    have c1 := hcc m (by omega)
    have wl : IntKind.i64.wrap ((ws.length : Int) - 1) = (m : Int) := by rw [IntWalk.i64_in _ (by have := HN.out; omega)]; omega
    have f3 : (0 : Int) ≤ (m : Int) ∧ (m : Int) < (ws.length : Int) := by omega
    have f4 : (m : Int) ≤ (d1 : Int) := by omega
    have f5 : m ≤ d1 := by omega
    have HRT := Lib.hid (RI.take (Mid.row HM3.out.o HM3.out.ne) m)
    obtain ⟨z, hz⟩ : ∃ z, gi ws m = z := ⟨_, rfl⟩
    rw [hz] at c1
    have HLT : Hid ((ws.take m).length = m) := Lib.hid (by rw [List.length_take]; omega)
    rw [hm]
    clear hcc hz hl
    have q1 := HM3.out.tb.c1
    have r1 := HM3.out.tb.f1
    by_cases hneg : z < 0
    · have zd : decide (z < 0) = true := decide_eq_true hneg
      clear hneg
      go_upto_region 31 with fail
      have HF := Lib.hid ((HM3.out.fin HRT.out).set1 HRT.out (-1))
      clear q1 r1 HM3 HRT c1 zd
      generalize w3.setCell ⟨t, 1, none⟩ (.int .i64 (-1)) = wF at HF ⊢
      have q0 := HF.out.tb.c0
      have q1 := HF.out.tb.c1
      have q2 := HF.out.tb.c2
      have r0 := HF.out.rb.c0
      have r1 := HF.out.rb.c1
      have r2 := HF.out.rb.f0
      have r3 := HF.out.rb.f1
      have s0 := HF.out.rs.c0
      have s1 := HF.out.rs.c1
      have s2 := HF.out.rs.c2
      have s3 := HF.out.rs.f0
      have s4 := HF.out.rs.f1
      have s5 := HF.out.rs.f2
      have n1 : ¬ t = w.heap.size + 1 + 1 := by have := HF.out.ht; omega
      have n2 : ¬ t = w.heap.size + 1 + 1 + 1 := by have := HF.out.ht; omega
      have n3 : ¬ w.heap.size + 1 + 1 = t := by have := HF.out.ht; omega
      have n4 : ¬ w.heap.size + 1 + 1 + 1 = t := by have := HF.out.ht; omega
      have HZ : Hid _ := Lib.hid (fun p0 p1 q0 q1 q2 => HF.out.drew.done p0 p1 q0 q1 q2)
      go_region
      all_goals
        clear n1 n2 n3 n4 q0 q1 q2
        go_wp2_with fail
        refine bodyPost_ret (v := .tuple #[.agg #[.int .i64 (S - 1), .slice (some ⟨g1, 0, none⟩) m d1], .agg #[.int .i64 (2), .int .i64 (-1), .int .i64 (0)]]) (by simp [results, Try.results55, go_sem, r0, r1, s0, s1, s2]) rfl ?_
        exact ⟨(some ⟨g1, 0, none⟩), d1, 2, -1, 0, by rw [HLT.out], HZ.out _ _ _ _ _⟩
    · have zd : decide (z < 0) = false := decide_eq_false hneg
      clear hneg
      go_upto_region 31 with fail
      have HF := Lib.hid (HM3.out.fin HRT.out)
      clear q1 r1 HM3 HRT c1 zd
      have q0 := HF.out.tb.c0
      have q1 := HF.out.tb.c1
      have q2 := HF.out.tb.c2
      have r0 := HF.out.rb.c0
      have r1 := HF.out.rb.c1
      have r2 := HF.out.rb.f0
      have r3 := HF.out.rb.f1
      have s0 := HF.out.rs.c0
      have s1 := HF.out.rs.c1
      have s2 := HF.out.rs.c2
      have s3 := HF.out.rs.f0
      have s4 := HF.out.rs.f1
      have s5 := HF.out.rs.f2
      have n1 : ¬ t = w.heap.size + 1 + 1 := by have := HF.out.ht; omega
      have n2 : ¬ t = w.heap.size + 1 + 1 + 1 := by have := HF.out.ht; omega
      have n3 : ¬ w.heap.size + 1 + 1 = t := by have := HF.out.ht; omega
      have n4 : ¬ w.heap.size + 1 + 1 + 1 = t := by have := HF.out.ht; omega
      have HZ : Hid _ := Lib.hid (fun p0 p1 q0 q1 q2 => HF.out.drew.done p0 p1 q0 q1 q2)
      go_region
      all_goals
        clear n1 n2 n3 n4 q0 q1 q2
        go_wp2_with fail
        refine bodyPost_ret (v := .tuple #[.agg #[.int .i64 (S - 1), .slice (some ⟨g1, 0, none⟩) m d1], .agg #[.int .i64 (2), .int .i64 (1), .int .i64 (0)]]) (by simp [results, Try.results55, go_sem, r0, r1, s0, s1, s2]) rfl ?_
        exact ⟨(some ⟨g1, 0, none⟩), d1, 2, 1, 0, by rw [HLT.out], HZ.out _ _ _ _ _⟩
end
end Go.Proofs.Yteanhbldhaiekaa
namespace Go.Proofs.Yteanhbldhaiekaa
open Go.RowKit

section
variable (A : Option Addr) (c : Nat) (ws : List Int) (S g a : Int) (hS : 1 ≤ S ∧ S ≤ 10) (hn : ws.length ≤ 200) (hx : ∀ k, -100000 ≤ gi ws k ∧ gi ws k ≤ 100000) (w : World) (P : Nat → Prop) (hr : RI w P A ws) (hP : ∀ b, P b → b < w.heap.size)
include hn hx hr hP in
set_option maxRecDepth 100000 in
set_option maxHeartbeats 8000000 in
theorem ch_k4 (j : Nat) (hj : j + 1 < ws.length) :
    Calls Try.prog 55 #[.agg #[.int .i64 S, .slice A ws.length c], .agg #[.int .i64 4, .int .i64 g, .int .i64 j]] w (ChPost w (S) ((ws.set j (gi ws (j + 1))).set (j + 1) (gi ws j))) := by
  have HC : Hid (CBx w ((((w.alloc (.cells #[.int .i64 S, .slice A ws.length c] 37)).alloc (.cells #[.int .i64 4, .int .i64 g, .int .i64 j] 52)).alloc (.cells #[.int .i64 0, .slice none 0 0] 37)).alloc (.cells #[.int .i64 0, .int .i64 0, .int .i64 0] 52)) S 4 g j (.slice A ws.length c)) := Lib.hid (CBx.start w S 4 g j _)
  have HR : Hid (RI ((((w.alloc (.cells #[.int .i64 S, .slice A ws.length c] 37)).alloc (.cells #[.int .i64 4, .int .i64 g, .int .i64 j] 52)).alloc (.cells #[.int .i64 0, .slice none 0 0] 37)).alloc (.cells #[.int .i64 0, .int .i64 0, .int .i64 0] 52)) (· < ((((w.alloc (.cells #[.int .i64 S, .slice A ws.length c] 37)).alloc (.cells #[.int .i64 4, .int .i64 g, .int .i64 j] 52)).alloc (.cells #[.int .i64 0, .slice none 0 0] 37)).alloc (.cells #[.int .i64 0, .int .i64 0, .int .i64 0] 52)).heap.size) A ws) := Lib.hid ((hr.keep fun b hb => HC.out.bel.block b (hP b hb)).imp fun b hb => Nat.lt_of_lt_of_le (hP b hb) HC.out.bel.size)
  have HX := Lib.hid hx
  have HN := Lib.hid hn
  clear hr hP hx hn
  obtain ⟨W, hW⟩ : ∃ W, ((((w.alloc (.cells #[.int .i64 S, .slice A ws.length c] 37)).alloc (.cells #[.int .i64 4, .int .i64 g, .int .i64 j] 52)).alloc (.cells #[.int .i64 0, .slice none 0 0] 37)).alloc (.cells #[.int .i64 0, .int .i64 0, .int .i64 0] 52)) = W := ⟨_, rfl⟩
  rw [hW] at HC HR
  go_enter Try.func55, Try.ntmps55
  go_wp2_with fail
  clear hW
  have k0 := HC.out.b.c0
  have k1 := HC.out.b.c1
  go_cut [6, 7] (fun n v wx => n = .int .i64 ws.length ∧ ∃ A1 c1, v = .slice A1 ws.length c1 ∧ Hid (CBx w wx S 4 g j (.slice A ws.length c)) ∧ Hid (OI wx (w.heap.size + 4) (.slice A1 ws.length c1) ws))
  case first =>
    go_region_held3 (fun w' => Hid (CBx w w' S 4 g j (.slice A ws.length c)) ∧ w'.cell? ⟨w.heap.size, 1, none⟩ = some (.slice A ws.length c))
      (first | exact ⟨HC, k1⟩ | exact ⟨Lib.hid HC.out.drew, k1⟩ | exact ⟨HC9, HC9.out.b.c1⟩)
      ((refine (clone_any A c ws W.drew (· < W.drew.heap.size) (by exact HR.out) (fun _ h => h) (by have := HN.out; omega)).mono ?_; rintro e w1 ⟨v, rfl, ho, hb⟩; have HC9 := Lib.hid (HC.out.drew.below hb); have HO9 := Lib.hid (ho.mono (B' := w.heap.size + 4) (by have := HC.out.rs.lt; simp; omega)); obtain ⟨a9, d9, rfl, -, -, -⟩ := HO9.out.shape; clear hb ho))
    all_goals
      go_wp2_with fail
      go_meet
      case rel => exact ⟨rfl, _, _, rfl, HC9, HO9⟩
  case rest =>
    obtain ⟨rfl, A1, d1, rfl, HC1, HO1⟩ := hcut
    clear HC HR k0 k1
    have e0 := HC1.out.s.c0
    have e1 := HC1.out.s.c1
    have e2 := HC1.out.s.c2
    go_upto_region 3 with fail
    have HM := Lib.hid (Mid.start HC1.out HO1.out)
    clear e0 e1 e2 HC1 HO1
    generalize wc.alloc (.cells #[.int .i64 4, .int .i64 g, .int .i64 j] 52) = w2 at HM ⊢
    generalize wc.heap.size = t at HM ⊢
    have b0 := HM.out.cb.b.c0
    have e0 := HM.out.cb.s.c0
    have e1 := HM.out.cb.s.c1
    have e2 := HM.out.cb.s.c2
    obtain ⟨g1, d9, h5, hg1, hg2, hcap, -, hcc, hff⟩ := HM.out.o.ints (by omega)
    injection h5 with h5 _ h6
    subst h5; subst h6
    obtain ⟨j1, hj1⟩ : ∃ m, j + 1 = m := ⟨_, rfl⟩
    have wj1 : IntKind.i64.wrap ((j : Int) + 1) = (j1 : Int) := by rw [IntWalk.i64_in _ (by have := HN.out; omega)]; omega
    have f0 : (0 : Int) ≤ (j : Int) ∧ (j : Int) < (ws.length : Int) := by omega
    have f1 : (0 : Int) ≤ (j1 : Int) ∧ (j1 : Int) < (ws.length : Int) := by omega
    have c1 := hcc j (by omega)
    have c2 := hcc j1 (by omega)
    have g2 := hff j
    have g3 := hff j1
    have n1 : ¬ j = j1 := by omega
    have n2 : ¬ j1 = j := by omega
    have n3 : ¬ w.heap.size + 1 = g1 := by omega
    have n4 : ¬ g1 = w.heap.size + 1 := by omega
    have HS2 := Lib.hid (fun x y => ((HM.out.putw rfl j x).putw (by simp) j1 y).drew)
    obtain ⟨x, hx⟩ : ∃ x, gi ws j = x := ⟨_, rfl⟩
    obtain ⟨y, hy⟩ : ∃ y, gi ws j1 = y := ⟨_, rfl⟩
    rw [hx] at c1
    rw [hy] at c2
    have HE : Hid ((ws.set j y).set j1 x = (ws.set j (gi ws (j + 1))).set (j + 1) (gi ws j)) := Lib.hid (by rw [hj1, hx, hy])
    clear hcc hff hx hy hj hj1 hg1
    go_upto_region 21 with fail
    go_region
    all_goals
      have hf := HS2.out y x
      rw [HE.out] at hf
      have HM4 := Lib.hid hf
      clear hf HS2 HM c1 c2 g2 g3 n1 n2 n3 n4 e0 e1 e2 b0
      generalize ((w2.setCell ⟨g1, j, none⟩ (.int .i64 y)).setCell ⟨g1, j1, none⟩ (.int .i64 x)).drew = w4 at HM4 ⊢
      go_upto_region 31 with fail
      have HF := Lib.hid (HM4.out.fin (Mid.row HM4.out.o HM4.out.ne))
      clear HM4
      have q0 := HF.out.tb.c0
      have q1 := HF.out.tb.c1
      have q2 := HF.out.tb.c2
      have r0 := HF.out.rb.c0
      have r1 := HF.out.rb.c1
      have r2 := HF.out.rb.f0
      have r3 := HF.out.rb.f1
      have s0 := HF.out.rs.c0
      have s1 := HF.out.rs.c1
      have s2 := HF.out.rs.c2
      have s3 := HF.out.rs.f0
      have s4 := HF.out.rs.f1
      have s5 := HF.out.rs.f2
      have n1 : ¬ t = w.heap.size + 1 + 1 := by have := HF.out.ht; omega
      have n2 : ¬ t = w.heap.size + 1 + 1 + 1 := by have := HF.out.ht; omega
      have n3 : ¬ w.heap.size + 1 + 1 = t := by have := HF.out.ht; omega
      have n4 : ¬ w.heap.size + 1 + 1 + 1 = t := by have := HF.out.ht; omega
      have HZ : Hid _ := Lib.hid (fun p0 p1 q0 q1 q2 => HF.out.drew.done p0 p1 q0 q1 q2)
      go_region
      all_goals
        clear n1 n2 n3 n4 q0 q1 q2
        go_wp2_with fail
        refine bodyPost_ret (v := .tuple #[.agg #[.int .i64 (S), .slice (some ⟨g1, 0, none⟩) ws.length d1], .agg #[.int .i64 (4), .int .i64 (g), .int .i64 (j)]]) (by simp [results, Try.results55, go_sem, r0, r1, s0, s1, s2]) rfl ?_
        exact ⟨(some ⟨g1, 0, none⟩), d1, 4, g, j, by simp, HZ.out _ _ _ _ _⟩
end
end Go.Proofs.Yteanhbldhaiekaa
