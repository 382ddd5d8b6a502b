/-
  The contracts of word.Exponents and of the law's sums.
-/
import Derived.Test.YtcjgfncbecbhjaaBalM
namespace Go.Proofs.Ytcjgfncbecbhjaa
open Go.RowKit

theorem cps_new (w : World) (n : Nat) (hn : n ≤ maxLen) : CpS (w.alloc (.cells ((List.replicate n (Value.int .i64 0)).toArray) 3)) (w.alloc (.cells ((List.replicate n (Value.int .i64 0)).toArray) 3)) w.heap.size n (List.replicate n 0) :=
  ⟨Onl.refl _ _, OI.new w w.heap.size n (Nat.le_refl _) hn, by simp⟩
theorem ga_pos {y : Int} (h : 0 < y) : y - 1 = (ga y : Int) ∧ sgnI y = 1 := by
  constructor
  · unfold ga; omega
  · unfold sgnI; rw [if_pos h]
theorem ga_negv {y : Int} (h : y < 0) : -y - 1 = (ga y : Int) ∧ sgnI y = -1 := by
  constructor
  · unfold ga; omega
  · unfold sgnI; rw [if_neg (by omega), if_pos h]

set_option maxRecDepth 100000 in
set_option maxHeartbeats 2000000 in
theorem exps_any (A : Option Addr) (c n : Nat) (ys : List Int) (w : World) (S : Nat → Prop) (hx : RI w S A ys) (hS : ∀ b, S b → b < w.heap.size) (hm : ys.length ≤ maxLen) (hn0 : 0 < n) (hn : n ≤ 1000) (hv : WV (n : Int) ys) :
    Calls Try.prog 56 #[.slice A ys.length c, .int .i64 n] w fun e w' => ∃ v, e = .returned (.tuple #[v, .int .i64 0]) ∧ OI w' w.heap.size v (exL n ys) ∧ Below w.heap.size w w' := by
  have HX := Lib.hid hx
  have HV := Lib.hid hv
  have HS := Lib.hid hS
  have HC := Lib.hid (wvalid_any A c ys n w S hx hm (by omega))
  rw [decide_eq_true hv] at HC
  have hmk : ∀ w : World, (Instr.makeSlice 22 (.int .i64 (n : Int)) (.int .i64 (n : Int))).run Try.prog w = .ok (.slice (some ⟨w.heap.size, 0, none⟩) n n) (w.alloc (.cells (List.replicate n (Value.int .i64 0)).toArray 3)) :=
    make_ints 22 Try.underlying22 n (by omega)
  have h1 : decide ((67108864 : Int) < (n : Int)) = false := decide_eq_false (by omega)
  have h2 : ¬ (n : Int) < 0 := by omega
  have h4 : (0 : Int) < (n : Int) := by omega
  unfold maxLen at hm
  clear hx hS hv
  go_enter Try.func56, Try.ntmps56
  go_wp2_with fail
  refine HC.out.mono ?_
  rintro e w1 ⟨rfl, rfl⟩
  have HN := Lib.hid (cps_new w n (by unfold maxLen; omega))
  have HB := Lib.hid ((Below.refl w.heap.size w).alloc (Nat.le_refl _) (.cells (List.replicate n (Value.int .i64 0)).toArray 3))
  go_wp2_with fail
  have HN0 : Hid (CpS (w.alloc (.cells (List.replicate n (Value.int .i64 0)).toArray 3)) (w.alloc (.cells (List.replicate n (Value.int .i64 0)).toArray 3)) w.heap.size n (exL n (ys.take 0))) := HN.out
  clear HN
  go_loopw [22] (fun i wr => ∃ k : Nat, k ≤ ys.length ∧ i = .int .i64 k ∧ Hid (CpS (w.alloc (.cells (List.replicate n (Value.int .i64 0)).toArray 3)) wr w.heap.size n (exL n (ys.take k)))) (fun i _ => ys.length - (intOf i).toNat)
  case atStart => exact ⟨0, Nat.zero_le _, rfl, HN0⟩
  case round =>
    clear HN0
    obtain ⟨k, hk, rfl, HR⟩ := hrel
    by_cases hlt : k < ys.length
    · have hr := HX.out.keep (w' := wr) (fun b hb => (HR.out.onl.keep b (by have := HS.out b hb; omega)).trans (HB.out.block b (HS.out b hb)))
      obtain ⟨b, off, rfl, -, hc⟩ := hr.at_ hlt
      have c1 := hc k hlt
      obtain ⟨-, v1, v2, v3⟩ := HV.out k hlt
      have hst := exL_take (n := n) hlt
      obtain ⟨b1, b2⟩ := exL_bd n (ys.take k) (ga (gi ys k))
      rw [List.length_take] at b1 b2
      obtain ⟨y, hy⟩ : ∃ y, gi ys k = y := ⟨_, rfl⟩
      rw [hy] at c1 v1 v2 v3 hst b1 b2
      have hg : ga y < n := by unfold ga; omega
      obtain ⟨c5, f5⟩ := HR.out.at_ hg
      have HR' := Lib.hid (HR.out.store (ga y) (gi (exL n (ys.take k)) (ga y) + sgnI y))
      unfold exS at hst
      rw [← hst] at HR'
      obtain ⟨u, hu⟩ : ∃ u, gi (exL n (ys.take k)) (ga y) = u := ⟨_, rfl⟩
      rw [hu] at c5 b1 b2 HR'
      rcases Int.lt_or_gt_of_ne v1 with hp | hp
      · obtain ⟨g1, g2⟩ := ga_negv hp
        obtain ⟨z, hz⟩ : ∃ z, ga y = z := ⟨_, rfl⟩
        rw [hz] at g1 hg c5 f5 HR'
        rw [g2] at HR'
        have hp' : ¬ 0 < y := by omega
        have n1 : IntKind.i64.wrap (-y) = (z : Int) + 1 := by rw [IntWalk.i64_in _ (by omega)]; omega
        have n2 : IntKind.i64.wrap ((z : Int) + 1 - 1) = (z : Int) := by rw [show (z : Int) + 1 - 1 = z by omega]; exact IntWalk.i64_in _ (by omega)
        have n3 : IntKind.i64.wrap (u - 1) = u + -1 := by rw [show u + -1 = u - 1 by omega]; exact IntWalk.i64_in _ (by omega)
        clear hr hc hst hy hu hz HR v2 v3 v1 g1 g2 b1 b2 hp
        go_wp2_with fail
        go_roundw
        case rel => exact ⟨k + 1, by omega, by go_num, HR'⟩
        case measure => simp [intOf]; omega
      · obtain ⟨g1, g2⟩ := ga_pos hp
        obtain ⟨z, hz⟩ : ∃ z, ga y = z := ⟨_, rfl⟩
        rw [hz] at g1 hg c5 f5 HR'
        rw [g2] at HR'
        have n2 : IntKind.i64.wrap (y - 1) = (z : Int) := by rw [g1]; exact IntWalk.i64_in _ (by omega)
        have n3 : IntKind.i64.wrap (u + 1) = u + 1 := IntWalk.i64_in _ (by omega)
        clear hr hc hst hy hu hz HR v2 v3 v1 g1 g2 b1 b2
        go_wp2_with fail
        go_roundw
        case rel => exact ⟨k + 1, by omega, by go_num, HR'⟩
        case measure => simp [intOf]; omega
    · obtain rfl : ys.length = k := by omega
      rw [List.take_length] at HR
      have HB2 := Lib.hid (HB.out.trans HR.out.onl.bel)
      go_wp2_with fail
      go_ret2
      exact ⟨_, rfl, HR.out.row, HB2.out⟩

/-- each component's number is below p -/
def CmB (cs : List Int) (p : Nat) : Prop := ∀ a, a < cs.length → ∃ i : Nat, i < p ∧ gi cs a = (i : Int)
set_option maxRecDepth 100000 in
set_option maxHeartbeats 4000000 in
theorem sums_any (A Ac : Option Addr) (c cc p : Nat) (ys cs : List Int) (w : World) (S T : Nat → Prop) (hx : RI w S A ys) (hS : ∀ b, S b → b < w.heap.size) (hy : RI w T Ac cs) (hT : ∀ b, T b → b < w.heap.size)
    (hm : ys.length ≤ 1000000) (hn0 : 0 < cs.length) (hn : cs.length ≤ 1000) (hp : p ≤ 1000) (hv : WV (cs.length : Int) ys) (hc : CmB cs p) :
    Calls Try.prog 24 #[.slice A ys.length c, .slice Ac cs.length cc, .int .i64 p] w fun e w' => ∃ v, e = .returned (.tuple #[v, .bool true]) ∧ OI w' w.heap.size v (smL cs (exL cs.length ys) p cs.length) ∧ Below w.heap.size w w' := by
  have HX := Lib.hid (exps_any A c cs.length ys w S hx hS (by unfold maxLen; omega) hn0 hn hv)
  have HY := Lib.hid hy
  have HT := Lib.hid hT
  have HC := Lib.hid hc
  have HEB := Lib.hid (exL_bd cs.length ys)
  have HEL := Lib.hid (exL_len cs.length ys)
  obtain ⟨ex, hex⟩ : ∃ ex, exL cs.length ys = ex := ⟨_, rfl⟩
  rw [hex] at HX HEB HEL ⊢
  obtain ⟨n, hnn⟩ : ∃ n, cs.length = n := ⟨_, rfl⟩
  rw [hnn] at hn hn0 HX HEL ⊢
  have HCN := Lib.hid hnn
  have hmk : ∀ w : World, (Instr.makeSlice 22 (.int .i64 (p : Int)) (.int .i64 (p : Int))).run Try.prog w = .ok (.slice (some ⟨w.heap.size, 0, none⟩) p p) (w.alloc (.cells (List.replicate p (Value.int .i64 0)).toArray 3)) :=
    make_ints 22 Try.underlying22 p (by omega)
  have he : ((n : Int) != (n : Int)) = false := by rw [bne_eq_false_iff_eq]
  have hp0 : ¬ (p : Int) < 0 := by omega
  clear hx hS hv hy hT hc hex hnn
  go_enter Try.func24, Try.ntmps24
  go_wp2_with fail
  refine HX.out.mono ?_
  rintro e w1 ⟨ve, rfl, ho, hb⟩
  obtain ⟨Ae, ce, hve, -, -, hre⟩ := ho.reads
  rw [HEL.out] at hve
  subst hve
  have HRE := Lib.hid hre
  have HB1 := Lib.hid hb
  have hs1 := hb.size
  have HY1 := Lib.hid (HY.out.keep (w' := w1) fun b h => hb.block b (HT.out b h))
  clear ho hre hb HX HY
  have HN := Lib.hid (cps_new w1 p (by unfold maxLen; omega))
  have HX2 := Lib.hid ((Below.refl w1.heap.size w1).alloc (Nat.le_refl _) (.cells (List.replicate p (Value.int .i64 0)).toArray 3))
  have HY2 := Lib.hid (HY1.out.keep (w' := (w1.alloc (.cells (List.replicate p (Value.int .i64 0)).toArray 3))) fun b h => HX2.out.block b (by have := HT.out b h; omega))
  have HR2 := Lib.hid (HRE.out.keep (w' := (w1.alloc (.cells (List.replicate p (Value.int .i64 0)).toArray 3))) fun b h => HX2.out.block b h.2)
  have HB2 := Lib.hid (HB1.out.trans (HX2.out.mono hs1))
  clear HY1 HRE HB1 HX2
  have HN0 : Hid (CpS (w1.alloc (.cells (List.replicate p (Value.int .i64 0)).toArray 3)) (w1.alloc (.cells (List.replicate p (Value.int .i64 0)).toArray 3)) w1.heap.size p (smL cs ex p 0)) := HN.out
  clear HN
  go_wp2_with fail
  go_loopw [33] (fun i wr => ∃ k : Nat, k ≤ n ∧ i = .int .i64 k ∧ Hid (CpS (w1.alloc (.cells (List.replicate p (Value.int .i64 0)).toArray 3)) wr w1.heap.size p (smL cs ex p k))) (fun i _ => n - (intOf i).toNat)
  case atStart => exact ⟨0, Nat.zero_le _, rfl, HN0⟩
  case round =>
    clear HN0
    obtain ⟨k, hk, rfl, HR⟩ := hrel
    by_cases hlt : k < n
    · have hr1 := HY2.out.keep (w' := wr) (fun b hb => HR.out.onl.keep b (by have := HT.out b hb; omega))
      have hr2 := HR2.out.keep (w' := wr) (fun b hb => HR.out.onl.keep b (by omega))
      obtain ⟨b, off, rfl, -, hc⟩ := hr1.at_ (k := k) (by rw [HCN.out]; exact hlt)
      obtain ⟨b2, off2, rfl, -, hc2⟩ := hr2.at_ (k := k) (by rw [HEL.out]; exact hlt)
      have c1 := hc k (by rw [HCN.out]; exact hlt)
      have c2 := hc2 k (by rw [HEL.out]; exact hlt)
      obtain ⟨i, hi, hgi⟩ := HC.out k (by rw [HCN.out]; exact hlt)
      have hgn : gn cs k = i := by unfold gn; rw [hgi]; rfl
      have hst := smL_succ cs ex p k
      obtain ⟨e1, e2⟩ := HEB.out k
      have hsb := smL_bd (cs := cs) (c := p) HEB.out k i
      rw [hgn] at hst
      rw [hgi] at c1
      have HR' := Lib.hid (HR.out.store i (gi (smL cs ex p k) i + gi ex k))
      rw [← hst] at HR'
      obtain ⟨c5, f5⟩ := HR.out.at_ hi
      obtain ⟨u, hu⟩ : ∃ u, gi (smL cs ex p k) i = u := ⟨_, rfl⟩
      obtain ⟨x, hx⟩ : ∃ x, gi ex k = x := ⟨_, rfl⟩
      rw [hu, hx] at HR'
      rw [hu] at c5 hsb
      rw [hx] at c2 e1 e2
      have n1 : IntKind.i64.wrap (u + x) = u + x := by
        have h1 : (k : Int) * ys.length ≤ 1000 * ys.length := Int.mul_le_mul_of_nonneg_right (by omega) (by omega)
        exact IntWalk.i64_in _ (by omega)
      have i1 : ¬ (i : Int) < 0 := by omega
      have i2 : ¬ (p : Int) ≤ (i : Int) := by omega
      have i3 : (i : Int) < (p : Int) := by omega
      have i4 : (0 : Int) ≤ (i : Int) := by omega
      clear hr1 hr2 hc hc2 hgi hgn hst hsb hu hx e1 e2 HR
      go_wp2_with fail
      go_roundw
      case rel => exact ⟨k + 1, by omega, by go_num, HR'⟩
      case measure => simp [intOf]; omega
    · obtain rfl : n = k := by omega
      have HB3 := Lib.hid (HB2.out.trans (HR.out.onl.bel.mono hs1))
      have HRR := Lib.hid (HR.out.row.mono hs1)
      go_wp2_with fail
      go_ret2
      exact ⟨_, rfl, HRR.out, HB3.out⟩
end Go.Proofs.Ytcjgfncbecbhjaa

