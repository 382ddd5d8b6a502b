/-
  The contract of markov.Apply.
-/
import Derived.Test.YteanhbldhaiekaaZ47
import Derived.Test.YteanhbldhaiekaaZ48
namespace Go.Proofs.Yteanhbldhaiekaa
open Go.RowKit

/-- what Apply hands back -/
def ApPost (w : World) (S : Int) (ws : List Int) (e : Ending) (w' : World) : Prop :=
  ∃ (A' : Option Addr) (c' : Nat) (S' : Int) (ws' : List Int) (x y z er : Int), e = .returned (.tuple #[.agg #[.int .i64 S', .slice A' ws'.length c'], .agg #[.int .i64 x, .int .i64 y, .int .i64 z], .int .i64 er]) ∧
    (er = 0 ∨ ¬ er = 0) ∧ (er = 0 → BrV S ws ∧ MkR S.toNat ws S'.toNat ws' ∧ RI w' (· < w'.heap.size) A' ws' ∧ 0 ≤ S' ∧ S' ≤ 11 ∧ ws'.length ≤ 300) ∧ Below w.heap.size w w'
theorem CBx.done {w w' : World} {S k g a : Int} {v : Value} (h : CBx w w' S k g a v) (p0 p1 q0 q1 q2 : Value) :
    Below w.heap.size w (((((w'.setCell ⟨w.heap.size + 1 + 1, 0, none⟩ p0).setCell ⟨w.heap.size + 1 + 1, 1, none⟩ p1).setCell ⟨w.heap.size + 1 + 1 + 1, 0, none⟩ q0).setCell ⟨w.heap.size + 1 + 1 + 1, 1, none⟩ q1).setCell ⟨w.heap.size + 1 + 1 + 1, 2, none⟩ q2) :=
  ((((h.bel.setCell (by simp; omega) _).setCell (by simp; omega) _).setCell (by simp; omega) _).setCell (by simp; omega) _).setCell (by simp; omega) _
theorem CBx.kept {w w' : World} {S k g a : Int} {v : Value} {A' : Option Addr} {ws' : List Int} {l n : Nat} (_ : CBx w w' S k g a v) (hr : RI w' (fun b => l ≤ b ∧ b < n) A' ws') (hl : w.heap.size + 3 < l) (p0 p1 q0 q1 q2 : Value) :
    RI (((((w'.drew.setCell ⟨w.heap.size + 1 + 1, 0, none⟩ p0).setCell ⟨w.heap.size + 1 + 1, 1, none⟩ p1).setCell ⟨w.heap.size + 1 + 1 + 1, 0, none⟩ q0).setCell ⟨w.heap.size + 1 + 1 + 1, 1, none⟩ q1).setCell ⟨w.heap.size + 1 + 1 + 1, 2, none⟩ q2)
      (· < (((((w'.drew.setCell ⟨w.heap.size + 1 + 1, 0, none⟩ p0).setCell ⟨w.heap.size + 1 + 1, 1, none⟩ p1).setCell ⟨w.heap.size + 1 + 1 + 1, 0, none⟩ q0).setCell ⟨w.heap.size + 1 + 1 + 1, 1, none⟩ q1).setCell ⟨w.heap.size + 1 + 1 + 1, 2, none⟩ q2).heap.size) A' ws' := by
  intro hne
  obtain ⟨b, off, e, hb, hc⟩ := (hr.keep (w' := (((((w'.drew.setCell ⟨w.heap.size + 1 + 1, 0, none⟩ p0).setCell ⟨w.heap.size + 1 + 1, 1, none⟩ p1).setCell ⟨w.heap.size + 1 + 1 + 1, 0, none⟩ q0).setCell ⟨w.heap.size + 1 + 1 + 1, 1, none⟩ q1).setCell ⟨w.heap.size + 1 + 1 + 1, 2, none⟩ q2)) fun b hb => by
    rw [Below.heap_setCell _ _ _ b (by simp; omega), Below.heap_setCell _ _ _ b (by simp; omega), Below.heap_setCell _ _ _ b (by simp; omega), Below.heap_setCell _ _ _ b (by simp; omega), Below.heap_setCell _ _ _ b (by simp; omega)]
    rfl) hne
  exact ⟨b, off, e, block_lt_of_cell (hc 0 (by cases ws' with | nil => exact absurd rfl hne | cons => simp)), hc⟩
theorem ApPost.err {w w' : World} {S : Int} {ws : List Int} {er : Int} (he : er ≠ 0) (hb : Below w.heap.size w w') : ApPost w S ws (.returned (.tuple #[.agg #[.int .i64 0, .slice none 0 0], .agg #[.int .i64 0, .int .i64 0, .int .i64 0], .int .i64 er])) w' :=
  ⟨none, 0, 0, [], 0, 0, 0, er, rfl, .inr he, fun h => absurd h he, hb⟩
section
variable (A : Option Addr) (c : Nat) (ws : List Int) (S k g a : Int) (hl : ws.length ≤ maxLen) (hS : -9223372036854775808 ≤ S ∧ S ≤ 9223372036854775807) (w : World) (P : Nat → Prop) (hr : RI w P A ws) (hP : ∀ b, P b → b < w.heap.size)
include hl hS hr hP
set_option maxRecDepth 100000 in
set_option maxHeartbeats 8000000 in
theorem apply_any :
    Calls Try.prog 30 #[.agg #[.int .i64 S, .slice A ws.length c], .agg #[.int .i64 k, .int .i64 g, .int .i64 a]] w (ApPost w S ws) := by
  have HC : Hid (CBx w ((((w.alloc (.cells #[.int .i64 S, .slice A ws.length c] 37)).alloc (.cells #[.int .i64 k, .int .i64 g, .int .i64 a] 52)).alloc (.cells #[.int .i64 0, .slice none 0 0] 37)).alloc (.cells #[.int .i64 0, .int .i64 0, .int .i64 0] 52)) S k g a (.slice A ws.length c)) := Lib.hid (CBx.start w S k g a _)
  have HR : Hid (RI w (· < w.heap.size) A ws) := Lib.hid (hr.imp hP)
  have HL := Lib.hid hl
  have HS := Lib.hid hS
  clear hr hP hl hS
  obtain ⟨W, hW⟩ : ∃ W, ((((w.alloc (.cells #[.int .i64 S, .slice A ws.length c] 37)).alloc (.cells #[.int .i64 k, .int .i64 g, .int .i64 a] 52)).alloc (.cells #[.int .i64 0, .slice none 0 0] 37)).alloc (.cells #[.int .i64 0, .int .i64 0, .int .i64 0] 52)) = W := ⟨_, rfl⟩
  rw [hW] at HC
  have k0 := HC.out.b.c0
  have k1 := HC.out.b.c1
  have s0 := HC.out.s.c0
  have s1 := HC.out.s.c1
  have s2 := HC.out.s.c2
  go_enter Try.func30, Try.ntmps30
  go_wp2_with fail
  clear hW
  refine (bvalid_any (HR.out.keep fun b hb => HC.out.bel.block b hb) (fun b hb => Nat.lt_of_lt_of_le hb HC.out.bel.size) HL.out HS.out.1 HS.out.2).mono ?_
  rintro e w1 ⟨rfl, hb⟩
  have HC1 := Lib.hid (HC.out.below hb)
  clear hb HC k0 k1 s0 s1 s2
  have k0 := HC1.out.b.c0
  have k1 := HC1.out.b.c1
  have s0 := HC1.out.s.c0
  have s1 := HC1.out.s.c1
  have s2 := HC1.out.s.c2
  by_cases hV : BrV S ws
  · have hVd : decide (BrV S ws) = true := decide_eq_true hV
    rw [hVd]
    clear hVd
    have HV := Lib.hid hV
    clear hV
    by_cases h1 : k < 1
    · have r0 := HC1.out.rb.c0
      have r1 := HC1.out.rb.c1
      have r2 := HC1.out.rb.f0
      have r3 := HC1.out.rb.f1
      have t0 := HC1.out.rs.c0
      have t1 := HC1.out.rs.c1
      have t2 := HC1.out.rs.c2
      have t3 := HC1.out.rs.f0
      have t4 := HC1.out.rs.f1
      have t5 := HC1.out.rs.f2
      have HZ : Hid _ := Lib.hid (fun p0 p1 q0 q1 q2 => HC1.out.done p0 p1 q0 q1 q2)
      go_wp2_with fail
      refine bodyPost_ret (v := .tuple #[.agg #[.int .i64 0, .slice none 0 0], .agg #[.int .i64 0, .int .i64 0, .int .i64 0], .int .i64 11]) (by simp [results, Try.results30, go_sem, r0, r1, t0, t1, t2]) rfl ?_
      exact ApPost.err (by decide) (HZ.out _ _ _ _ _)
    by_cases h2 : 7 < k
    · have r0 := HC1.out.rb.c0
      have r1 := HC1.out.rb.c1
      have r2 := HC1.out.rb.f0
      have r3 := HC1.out.rb.f1
      have t0 := HC1.out.rs.c0
      have t1 := HC1.out.rs.c1
      have t2 := HC1.out.rs.c2
      have t3 := HC1.out.rs.f0
      have t4 := HC1.out.rs.f1
      have t5 := HC1.out.rs.f2
      have HZ : Hid _ := Lib.hid (fun p0 p1 q0 q1 q2 => HC1.out.done p0 p1 q0 q1 q2)
      go_wp2_with fail
      refine bodyPost_ret (v := .tuple #[.agg #[.int .i64 0, .slice none 0 0], .agg #[.int .i64 0, .int .i64 0, .int .i64 0], .int .i64 11]) (by simp [results, Try.results30, go_sem, r0, r1, t0, t1, t2]) rfl ?_
      exact ApPost.err (by decide) (HZ.out _ _ _ _ _)
    have HK := Lib.hid (show 1 ≤ k ∧ k ≤ 7 by omega)
    go_wp2_with fail
    refine (inTable_any A ws.length c S k g a ⟨HV.out.1, HV.out.2.1⟩ HV.out.2.2.1 HK.out w1).mono ?_
    rintro e w2 ⟨r, rfl, hIT, hb⟩
    have HC2 := Lib.hid (HC1.out.below hb)
    clear hb HC1 k0 k1 s0 s1 s2
    have k0 := HC2.out.b.c0
    have k1 := HC2.out.b.c1
    have s0 := HC2.out.s.c0
    have s1 := HC2.out.s.c1
    have s2 := HC2.out.s.c2
    cases r
    · clear hIT
      have r0 := HC2.out.rb.c0
      have r1 := HC2.out.rb.c1
      have r2 := HC2.out.rb.f0
      have r3 := HC2.out.rb.f1
      have t0 := HC2.out.rs.c0
      have t1 := HC2.out.rs.c1
      have t2 := HC2.out.rs.c2
      have t3 := HC2.out.rs.f0
      have t4 := HC2.out.rs.f1
      have t5 := HC2.out.rs.f2
      have HZ : Hid _ := Lib.hid (fun p0 p1 q0 q1 q2 => HC2.out.done p0 p1 q0 q1 q2)
      go_wp2_with fail
      refine bodyPost_ret (v := .tuple #[.agg #[.int .i64 0, .slice none 0 0], .agg #[.int .i64 0, .int .i64 0, .int .i64 0], .int .i64 2]) (by simp [results, Try.results30, go_sem, r0, r1, t0, t1, t2]) rfl ?_
      exact ApPost.err (by decide) (HZ.out _ _ _ _ _)
    have HIT := Lib.hid (hIT rfl)
    clear hIT
    go_wp2_with fail
    refine (applicable_any A c ws S g a HV.out w2 _ (HR.out.keep fun b hb => HC2.out.bel.block b hb) (fun b hb => Nat.lt_of_lt_of_le hb HC2.out.bel.size) k HK.out HIT.out).mono ?_
    rintro e w3 ⟨r, rfl, hAP, hb⟩
    have HC3 := Lib.hid (HC2.out.below hb)
    clear hb HC2 k0 k1 s0 s1 s2
    have k0 := HC3.out.b.c0
    have k1 := HC3.out.b.c1
    have s0 := HC3.out.s.c0
    have s1 := HC3.out.s.c1
    have s2 := HC3.out.s.c2
    cases r
    · clear hAP
      have r0 := HC3.out.rb.c0
      have r1 := HC3.out.rb.c1
      have r2 := HC3.out.rb.f0
      have r3 := HC3.out.rb.f1
      have t0 := HC3.out.rs.c0
      have t1 := HC3.out.rs.c1
      have t2 := HC3.out.rs.c2
      have t3 := HC3.out.rs.f0
      have t4 := HC3.out.rs.f1
      have t5 := HC3.out.rs.f2
      have HZ : Hid _ := Lib.hid (fun p0 p1 q0 q1 q2 => HC3.out.done p0 p1 q0 q1 q2)
      go_wp2_with fail
      refine bodyPost_ret (v := .tuple #[.agg #[.int .i64 0, .slice none 0 0], .agg #[.int .i64 0, .int .i64 0, .int .i64 0], .int .i64 6]) (by simp [results, Try.results30, go_sem, r0, r1, t0, t1, t2]) rfl ?_
      exact ApPost.err (by decide) (HZ.out _ _ _ _ _)
    have HAP := Lib.hid (hAP rfl)
    clear hAP
    go_wp2_with fail
    refine (change_any A c ws S g a HV.out w3 _ (HR.out.keep fun b hb => HC3.out.bel.block b hb) (fun b hb => Nat.lt_of_lt_of_le hb HC3.out.bel.size) k HK.out HIT.out HAP.out).mono ?_
    rintro e w4 ⟨S', ws', ⟨A', c', x, y, z, rfl, hr', hb⟩, hM, hS0, hS1, hl'⟩
    have HC4 := Lib.hid (HC3.out.below hb)
    have HC3' := Lib.hid HC3.out.rs.lt
    have HR4 := Lib.hid hr'
    have HQ := Lib.hid (And.intro hM (And.intro hS0 (And.intro hS1 hl')))
    obtain ⟨n', hn'⟩ : ∃ n, ws'.length = n := ⟨_, rfl⟩
    rw [hn'] at hl' ⊢
    have HN' := Lib.hid hn'
    clear hb hr' hM HC3 k0 k1 s0 s1 s2 HIT HAP hn'
    go_upto_region 10 with fail
    have HB5 := Lib.hid ((BBx.new w4 S' (.slice A' n' c') 37).below ((Below.refl _ _).alloc (Nat.le_refl _) (.cells #[.int .i64 x, .int .i64 y, .int .i64 z] 52)))
    have HT5 := Lib.hid (TBx.new (w4.alloc (.cells #[.int .i64 S', .slice A' n' c'] 37)) x y z 52)
    have HC5 := Lib.hid ((HC4.out.below ((Below.refl _ _).alloc (Nat.le_refl _) (.cells #[.int .i64 S', .slice A' n' c'] 37))).below ((Below.refl _ _).alloc (Nat.le_refl _) (.cells #[.int .i64 x, .int .i64 y, .int .i64 z] 52)))
    have HR5 := Lib.hid (HR4.out.keep (w' := (w4.alloc (.cells #[.int .i64 S', .slice A' n' c'] 37)).alloc (.cells #[.int .i64 x, .int .i64 y, .int .i64 z] 52)) fun b hb => (Below.heap_alloc _ _ _ (by have := hb.2; simp; omega)).trans (Below.heap_alloc _ _ _ hb.2))
    have HG := Lib.hid HC4.out.rs.lt
    have HG3 := Lib.hid HC3'.out
    rw [show (w4.alloc (.cells #[.int .i64 S', .slice A' n' c'] 37)).heap.size = w4.heap.size + 1 by simp] at HT5
    generalize (w4.alloc (.cells #[.int .i64 S', .slice A' n' c'] 37)).alloc (.cells #[.int .i64 x, .int .i64 y, .int .i64 z] 52) = w5 at HB5 HT5 HC5 HR5 ⊢
    have b0 := HB5.out.c0
    have b1 := HB5.out.c1
    clear HC4 HR4
    by_cases g1 : 10 < S'
    · have r0 := HC5.out.rb.c0
      have r1 := HC5.out.rb.c1
      have r2 := HC5.out.rb.f0
      have r3 := HC5.out.rb.f1
      have t0 := HC5.out.rs.c0
      have t1 := HC5.out.rs.c1
      have t2 := HC5.out.rs.c2
      have t3 := HC5.out.rs.f0
      have t4 := HC5.out.rs.f1
      have t5 := HC5.out.rs.f2
      have HZ : Hid _ := Lib.hid (fun p0 p1 q0 q1 q2 => HC5.out.done p0 p1 q0 q1 q2)
      go_wp2_with fail
      refine bodyPost_ret (v := .tuple #[.agg #[.int .i64 0, .slice none 0 0], .agg #[.int .i64 0, .int .i64 0, .int .i64 0], .int .i64 5]) (by simp [results, Try.results30, go_sem, r0, r1, t0, t1, t2]) rfl ?_
      exact ApPost.err (by decide) (HZ.out _ _ _ _ _)
    by_cases g2 : (200 : Int) < (n' : Int)
    · have r0 := HC5.out.rb.c0
      have r1 := HC5.out.rb.c1
      have r2 := HC5.out.rb.f0
      have r3 := HC5.out.rb.f1
      have t0 := HC5.out.rs.c0
      have t1 := HC5.out.rs.c1
      have t2 := HC5.out.rs.c2
      have t3 := HC5.out.rs.f0
      have t4 := HC5.out.rs.f1
      have t5 := HC5.out.rs.f2
      have HZ : Hid _ := Lib.hid (fun p0 p1 q0 q1 q2 => HC5.out.done p0 p1 q0 q1 q2)
      go_wp2_with fail
      refine bodyPost_ret (v := .tuple #[.agg #[.int .i64 0, .slice none 0 0], .agg #[.int .i64 0, .int .i64 0, .int .i64 0], .int .i64 5]) (by simp [results, Try.results30, go_sem, r0, r1, t0, t1, t2]) rfl ?_
      exact ApPost.err (by decide) (HZ.out _ _ _ _ _)
    have v0 := HT5.out.c0
    have v1 := HT5.out.c1
    have v2 := HT5.out.c2
    have r0 := HC5.out.rb.c0
    have r1 := HC5.out.rb.c1
    have r2 := HC5.out.rb.f0
    have r3 := HC5.out.rb.f1
    have t0 := HC5.out.rs.c0
    have t1 := HC5.out.rs.c1
    have t2 := HC5.out.rs.c2
    have t3 := HC5.out.rs.f0
    have t4 := HC5.out.rs.f1
    have t5 := HC5.out.rs.f2
    have n1 : ¬ w4.heap.size = w.heap.size + 1 + 1 := by have := HG.out; omega
    have n2 : ¬ w4.heap.size = w.heap.size + 1 + 1 + 1 := by have := HG.out; omega
    have n3 : ¬ w4.heap.size + 1 = w.heap.size + 1 + 1 := by have := HG.out; omega
    have n4 : ¬ w4.heap.size + 1 = w.heap.size + 1 + 1 + 1 := by have := HG.out; omega
    have n5 : ¬ w.heap.size + 1 + 1 = w4.heap.size := by have := HG.out; omega
    have n6 : ¬ w.heap.size + 1 + 1 + 1 = w4.heap.size := by have := HG.out; omega
    have n7 : ¬ w.heap.size + 1 + 1 = w4.heap.size + 1 := by have := HG.out; omega
    have n8 : ¬ w.heap.size + 1 + 1 + 1 = w4.heap.size + 1 := by have := HG.out; omega
    go_upto_region 12 with fail
    have HZ : Hid _ := Lib.hid (fun p0 p1 q0 q1 q2 => HC5.out.drew.done p0 p1 q0 q1 q2)
    have HZR : Hid _ := Lib.hid (fun p0 p1 q0 q1 q2 => HC5.out.kept HR5.out HG3.out p0 p1 q0 q1 q2)
    clear g1 g2
    go_region
    all_goals
      clear n1 n2 n3 n4 n5 n6 n7 n8
      go_wp2_with fail
      refine bodyPost_ret (v := .tuple #[.agg #[.int .i64 S', .slice A' n' c'], .agg #[.int .i64 x, .int .i64 y, .int .i64 z], .int .i64 0]) (by simp [results, Try.results30, go_sem, r0, r1, t0, t1, t2]) rfl ?_
      exact ⟨A', c', S', ws', x, y, z, 0, by rw [HN'.out], .inl rfl, fun _ => ⟨HV.out, HQ.out.1, HZR.out _ _ _ _ _, HQ.out.2⟩, HZ.out _ _ _ _ _⟩
  · have r0 := HC1.out.rb.c0
    have r1 := HC1.out.rb.c1
    have r2 := HC1.out.rb.f0
    have r3 := HC1.out.rb.f1
    have t0 := HC1.out.rs.c0
    have t1 := HC1.out.rs.c1
    have t2 := HC1.out.rs.c2
    have t3 := HC1.out.rs.f0
    have t4 := HC1.out.rs.f1
    have t5 := HC1.out.rs.f2
    have hVd : decide (BrV S ws) = false := decide_eq_false hV
    have HZ : Hid _ := Lib.hid (fun p0 p1 q0 q1 q2 => HC1.out.done p0 p1 q0 q1 q2)
    rw [hVd]
    clear hVd hV
    go_wp2_with fail
    refine bodyPost_ret (v := .tuple #[.agg #[.int .i64 0, .slice none 0 0], .agg #[.int .i64 0, .int .i64 0, .int .i64 0], .int .i64 1]) (by simp [results, Try.results30, go_sem, r0, r1, t0, t1, t2]) rfl ?_
    exact ApPost.err (by decide) (HZ.out _ _ _ _ _)
end
end Go.Proofs.Yteanhbldhaiekaa
