/-
  The law WirtingerValid, walked: the call returns true and writes nothing that was there.
-/
import Derived.Test.YtcjgfncbecbhjaaWVal
import Derived.Test.YtcjgfncbecbhjaaAw22
import Derived.Deep.DeepCutAuto
namespace Go.Proofs.Ytcjgfncbecbhjaa
open Go.RowKit

def PA (g : Int) (cs : List Int) (k : Nat) : Prop := (0 ≤ g ∧ g ≤ 1000 ∧ (cs.length : Int) = g) ∧ ∀ j, j < k → 0 ≤ gi cs j ∧ gi cs j < g
def LW (g x : Int) : Prop := x ≠ 0 ∧ x ≤ g ∧ -g ≤ x
def PB (g : Int) (cs : List Int) (wss : List (List Int)) (k j : Nat) : Prop := PA g cs cs.length ∧ (∀ i, i < k → WV g (wss.getD i [])) ∧ ∀ t, t < j → LW g (gi (wss.getD k []) t)
instance (g : Int) (cs : List Int) (k : Nat) : Decidable (PA g cs k) := by unfold PA; infer_instance
instance (g x : Int) : Decidable (LW g x) := by unfold LW; infer_instance
instance (g : Int) (cs : List Int) (wss : List (List Int)) (k j : Nat) : Decidable (PB g cs wss k j) := by unfold PB; infer_instance
theorem PA.step {g : Int} {cs : List Int} {k : Nat} : PA g cs (k + 1) ↔ PA g cs k ∧ 0 ≤ gi cs k ∧ gi cs k < g :=
  ⟨fun h => ⟨⟨h.1, fun j hj => h.2 j (by omega)⟩, h.2 k (by omega)⟩, fun h => ⟨h.1.1, fun j hj => by
    rcases Nat.lt_or_eq_of_le (Nat.le_of_lt_succ hj) with h1 | rfl
    · exact h.1.2 j h1
    · exact h.2⟩⟩
theorem PB.step {g : Int} {cs : List Int} {wss : List (List Int)} {k j : Nat} : PB g cs wss k (j + 1) ↔ PB g cs wss k j ∧ LW g (gi (wss.getD k []) j) :=
  ⟨fun h => ⟨⟨h.1, h.2.1, fun t ht => h.2.2 t (by omega)⟩, h.2.2 j (by omega)⟩, fun h => ⟨h.1.1, h.1.2.1, fun t ht => by
    rcases Nat.lt_or_eq_of_le (Nat.le_of_lt_succ ht) with h1 | rfl
    · exact h.1.2.2 t h1
    · exact h.2⟩⟩
theorem PB.next {g : Int} {cs : List Int} {wss : List (List Int)} {k : Nat} : PB g cs wss (k + 1) 0 ↔ PB g cs wss k (wss.getD k []).length := by
  constructor
  · intro h
    exact ⟨h.1, fun i hi => h.2.1 i (by omega), fun t ht => ⟨(h.2.1 k (by omega) t ht).2.1, (h.2.1 k (by omega) t ht).2.2⟩⟩
  · intro h
    refine ⟨h.1, fun i hi => ?_, fun t ht => by omega⟩
    rcases Nat.lt_or_eq_of_le (Nat.le_of_lt_succ hi) with h1 | rfl
    · exact h.2.1 i h1
    · intro t ht
      obtain ⟨l1, l2, l3⟩ := h.2.2 t ht
      exact ⟨by omega, l1, l2, l3⟩
theorem PB.zero {g : Int} {cs : List Int} {wss : List (List Int)} : PB g cs wss 0 0 ↔ PA g cs cs.length := ⟨fun h => h.1, fun h => ⟨h, fun i hi => by omega, fun t ht => by omega⟩⟩
theorem PB.all {g : Int} {cs : List Int} {wss : List (List Int)} : PB g cs wss wss.length 0 ↔ GV g cs wss :=
  ⟨fun h => ⟨h.1.1.1, h.1.1.2.1, h.1.1.2.2, h.1.2, h.2.1⟩, fun h => ⟨⟨⟨h.1, h.2.1, h.2.2.1⟩, h.2.2.2.1⟩, h.2.2.2.2, fun t ht => by omega⟩⟩

section
variable (Ac Aw : Option Addr) (cc cw : Nat) (g : Int) (cs : List Int) (wss : List (List Int)) (w : World) (hc : RI w (· < w.heap.size) Ac cs) (hw : RL w (· < w.heap.size) Aw wss) (hm : cs.length ≤ maxLen) (hn : wss.length ≤ maxLen)
include hc hw hm hn
set_option maxHeartbeats 2000000 in
theorem wvl_great (hg : 48 < cs.length ∨ 48 < wss.length) :
    Calls Try.prog 5 #[.agg #[.int .i64 g, .slice Ac cs.length cc, .slice Aw wss.length cw]] w fun e w' => e = .returned (.bool true) ∧ Below w.heap.size w w' := by
  have HC := Lib.hid (hc.keep (w' := w.alloc (.cells #[.int .i64 g, .slice Ac cs.length cc, .slice Aw wss.length cw] 35)) fun b hb => Below.heap_alloc w _ b hb)
  have HW := Lib.hid (hw.keep (w' := w.alloc (.cells #[.int .i64 g, .slice Ac cs.length cc, .slice Aw wss.length cw] 35)) fun b hb => Below.heap_alloc w _ b hb)
  have HG : Hid (GBox (w.alloc (.cells #[.int .i64 g, .slice Ac cs.length cc, .slice Aw wss.length cw] 35)) w.heap.size g (.slice Ac cs.length cc) (.slice Aw wss.length cw)) := heap_alloc_new _ _
  have HLC := Lib.hid hm
  have HLW := Lib.hid hn
  clear hc hw
  by_cases h1 : (48 : Int) < cs.length
  · clear hg
    go_enter Try.func5, Try.ntmps5
    go_wp2_with fail
    refine (awake22 _).mono ?_
    rintro e w1 ⟨rfl, hb⟩
    have HG1 := Lib.hid (HG.out.keep (hb.block _ (by simp)))
    have HC1 := Lib.hid (HC.out.keep (w' := w1) fun b hb2 => hb.block b (by simp; omega))
    have HW1 := Lib.hid (HW.out.keep (w' := w1) fun b hb2 => hb.block b (by simp; omega))
    have HB1 := Lib.hid (below_box (o := (.cells #[.int .i64 g, .slice Ac cs.length cc, .slice Aw wss.length cw] 35)) (by simpa using hb))
    have hs1 := HB1.out.size
    obtain ⟨g0, g1, g2⟩ := HG1.out.cells
    clear hb HG HC HW
    go_wp2_with fail
    refine (awake22 _).mono ?_
    rintro e w2 ⟨rfl, hb⟩
    have HB2 := Lib.hid (HB1.out.trans (hb.mono hs1))
    clear hb
    go_wp2_with fail
    go_ret
    exact ⟨rfl, HB2.out⟩
  · have h2 : (48 : Int) < wss.length := by omega
    clear hg
    go_enter Try.func5, Try.ntmps5
    go_wp2_with fail
    refine (awake22 _).mono ?_
    rintro e w1 ⟨rfl, hb⟩
    have HG1 := Lib.hid (HG.out.keep (hb.block _ (by simp)))
    have HC1 := Lib.hid (HC.out.keep (w' := w1) fun b hb2 => hb.block b (by simp; omega))
    have HW1 := Lib.hid (HW.out.keep (w' := w1) fun b hb2 => hb.block b (by simp; omega))
    have HB1 := Lib.hid (below_box (o := (.cells #[.int .i64 g, .slice Ac cs.length cc, .slice Aw wss.length cw] 35)) (by simpa using hb))
    have hs1 := HB1.out.size
    obtain ⟨g0, g1, g2⟩ := HG1.out.cells
    clear hb HG HC HW
    go_wp2_with fail
    refine (awake22 _).mono ?_
    rintro e w2 ⟨rfl, hb⟩
    have HB2 := Lib.hid (HB1.out.trans (hb.mono hs1))
    clear hb
    go_wp2_with fail
    go_ret
    exact ⟨rfl, HB2.out⟩
set_option maxRecDepth 100000 in
set_option maxHeartbeats 8000000 in
theorem wvl_ok (hg1 : ¬ 48 < cs.length) (hg2 : ¬ 48 < wss.length) :
    Calls Try.prog 5 #[.agg #[.int .i64 g, .slice Ac cs.length cc, .slice Aw wss.length cw]] w fun e w' => e = .returned (.bool true) ∧ Below w.heap.size w w' := by
  have HC := Lib.hid (hc.keep (w' := w.alloc (.cells #[.int .i64 g, .slice Ac cs.length cc, .slice Aw wss.length cw] 35)) fun b hb => Below.heap_alloc w _ b hb)
  have HW := Lib.hid (hw.keep (w' := w.alloc (.cells #[.int .i64 g, .slice Ac cs.length cc, .slice Aw wss.length cw] 35)) fun b hb => Below.heap_alloc w _ b hb)
  have HG : Hid (GBox (w.alloc (.cells #[.int .i64 g, .slice Ac cs.length cc, .slice Aw wss.length cw] 35)) w.heap.size g (.slice Ac cs.length cc) (.slice Aw wss.length cw)) := heap_alloc_new _ _
  have HLC := Lib.hid hm
  have HLW := Lib.hid hn
  clear hc hw hm hn
  have h1 : ¬ (48 : Int) < cs.length := by omega
  have h2 : ¬ (48 : Int) < wss.length := by omega
  go_enter Try.func5, Try.ntmps5
  go_wp2_with fail
  refine (awake22 _).mono ?_
  rintro e w1 ⟨rfl, hb⟩
  have HG1 := Lib.hid (HG.out.keep (hb.block _ (by simp)))
  have HC1 := Lib.hid (HC.out.keep (w' := w1) fun b hb2 => hb.block b (by simp; omega))
  have HW1 := Lib.hid (HW.out.keep (w' := w1) fun b hb2 => hb.block b (by simp; omega))
  have HB1 := Lib.hid (below_box (o := (.cells #[.int .i64 g, .slice Ac cs.length cc, .slice Aw wss.length cw] 35)) (by simpa using hb))
  have hs1 := HB1.out.size
  obtain ⟨g0, g1, g2⟩ := HG1.out.cells
  clear hb HG HC HW
  go_upto_region 3 with fail
  go_cut [3] (fun v wx => v = .bool (decide (PA g cs 0)) ∧ wx = w1)
  case first =>
    by_cases p1 : 0 ≤ g
    · by_cases p2 : g ≤ 1000
      · by_cases p3 : (cs.length : Int) = g
        · have p3' : ((cs.length : Int) == g) = true := by rw [beq_iff_eq]; exact p3
          have hd := Lib.hid (decide_eq_true (show PA g cs 0 from ⟨⟨p1, p2, p3⟩, fun j hj => by omega⟩))
          clear p3
          go_wp2_with fail
          go_meet
          case rel => exact ⟨by rw [hd.out], rfl⟩
        · have p3' : ((cs.length : Int) == g) = false := by rw [beq_eq_false_iff_ne]; exact p3
          have hd := Lib.hid (decide_eq_false (show ¬ PA g cs 0 from fun h => p3 h.1.2.2))
          clear p3
          go_wp2_with fail
          go_meet
          case rel => exact ⟨by rw [hd.out], rfl⟩
      · have hd := Lib.hid (decide_eq_false (show ¬ PA g cs 0 from fun h => p2 h.1.2.1))
        go_wp2_with fail
        go_meet
        case rel => exact ⟨by rw [hd.out], rfl⟩
    · have hd := Lib.hid (decide_eq_false (show ¬ PA g cs 0 from fun h => p1 h.1.1))
      go_wp2_with fail
      go_meet
      case rel => exact ⟨by rw [hd.out], rfl⟩
  case rest =>
    obtain ⟨rfl, rfl⟩ := hcut
    go_wp2_with fail
    go_loopw [3, 44] (fun v i wr => ∃ k : Nat, k ≤ cs.length ∧ i = .int .i64 k ∧ v = .bool (decide (PA g cs k)) ∧ wc = wr) (fun _ i _ => cs.length - (intOf i).toNat)
    case atStart => exact ⟨0, Nat.zero_le _, rfl, rfl, rfl⟩
    case round =>
      obtain ⟨k, hk, rfl, rfl, rfl⟩ := hrel
      by_cases hlt : k < cs.length
      · obtain ⟨b, off, rfl, -, hcc⟩ := HC1.out.at_ hlt
        have c1 := hcc k hlt
        have HST := Lib.hid (PA.step (g := g) (cs := cs) (k := k))
        obtain ⟨y, hy⟩ : ∃ y, gi cs k = y := ⟨_, rfl⟩
        rw [hy] at c1 HST
        clear hcc hy
        by_cases hp : PA g cs k
        · rw [decide_eq_true hp]
          by_cases y1 : 0 ≤ y
          · by_cases y2 : y < g
            · have hd := Lib.hid (decide_eq_true (HST.out.2 ⟨hp, y1, y2⟩))
              clear hp
              go_wp2_with fail
              go_roundw
              case rel => exact ⟨k + 1, by omega, by go_num, by rw [hd.out], by trivial⟩
              case measure => simp [intOf]; omega
            · have hd := Lib.hid (decide_eq_false (fun h => y2 (HST.out.1 h).2.2))
              clear hp
              go_wp2_with fail
              go_roundw
              case rel => exact ⟨k + 1, by omega, by go_num, by rw [hd.out], by trivial⟩
              case measure => simp [intOf]; omega
          · have hd := Lib.hid (decide_eq_false (fun h => y1 (HST.out.1 h).2.1))
            clear hp
            go_wp2_with fail
            go_roundw
            case rel => exact ⟨k + 1, by omega, by go_num, by rw [hd.out], by trivial⟩
            case measure => simp [intOf]; omega
        · rw [decide_eq_false hp]
          have hd := Lib.hid (decide_eq_false (fun h => hp (HST.out.1 h).1))
          clear hp
          go_wp2_with fail
          go_roundw
          case rel => exact ⟨k + 1, by omega, by go_num, by rw [hd.out], by trivial⟩
          case measure => simp [intOf]; omega
      · obtain rfl : cs.length = k := by omega
        rw [show decide (PA g cs cs.length) = decide (PB g cs wss 0 0) from decide_eq_decide.2 PB.zero.symm]
        clear hlt
        go_wp2_with fail
        go_loopw [3, 63] (fun v i wr => ∃ k : Nat, k ≤ wss.length ∧ i = .int .i64 k ∧ v = .bool (decide (PB g cs wss k 0)) ∧ wc = wr) (fun _ i _ => wss.length - (intOf i).toNat)
        case atStart => exact ⟨0, Nat.zero_le _, rfl, rfl, rfl⟩
        case round =>
          obtain ⟨k, hk2, rfl, rfl, rfl⟩ := hrel
          by_cases hlt : k < wss.length
          · obtain ⟨b, off, rfl, -, hcc⟩ := HW1.out.at_ hlt
            obtain ⟨Ak, ck, k3, r3, -⟩ := hcc k hlt
            have HNX := Lib.hid (PB.next (g := g) (cs := cs) (wss := wss) (k := k))
            have HSTP := Lib.hid (fun j => PB.step (g := g) (cs := cs) (wss := wss) (k := k) (j := j))
            obtain ⟨xs, hxs⟩ : ∃ xs, wss.getD k [] = xs := ⟨_, rfl⟩
            rw [hxs] at k3 r3 HNX HSTP
            have HR3 := Lib.hid r3
            clear hcc hxs r3
            by_cases hlong : (200 : Int) < xs.length
            · go_wp2_with fail
              go_ret
              exact ⟨rfl, HB1.out⟩
            · go_wp2_with fail
              go_loopw [3, 72] (fun v i wr => ∃ j : Nat, j ≤ xs.length ∧ i = .int .i64 j ∧ v = .bool (decide (PB g cs wss k j)) ∧ wc = wr) (fun _ i _ => xs.length - (intOf i).toNat)
              case atStart => exact ⟨0, Nat.zero_le _, rfl, rfl, rfl⟩
              case round =>
                obtain ⟨j, hj, rfl, rfl, rfl⟩ := hrel
                by_cases hjl : j < xs.length
                · obtain ⟨b2, off2, rfl, -, hc2⟩ := HR3.out.at_ hjl
                  have c2 := hc2 j hjl
                  have HST := Lib.hid (HSTP.out j)
                  obtain ⟨y, hy⟩ : ∃ y, gi xs j = y := ⟨_, rfl⟩
                  rw [hy] at c2 HST
                  clear hc2 hy
                  by_cases hp : PB g cs wss k j
                  · rw [decide_eq_true hp]
                    have hgb := hp.1.1
                    have wn : IntKind.i64.wrap (-g) = -g := IntWalk.i64_in _ (by omega)
                    clear hgb
                    by_cases y1 : y = 0
                    · have y1' : (y != 0) = false := by rw [bne_eq_false_iff_eq]; exact y1
                      have hd := Lib.hid (decide_eq_false (fun h => (HST.out.1 h).2.1 y1)); clear y1
                      clear hp
                      go_wp2_with fail
                      go_roundw
                      case rel => exact ⟨j + 1, by omega, by go_num, by rw [hd.out], by trivial⟩
                      case measure => simp [intOf]; omega
                    · have y1' : (y != 0) = true := by rw [bne_iff_ne]; exact y1
                      by_cases y2 : y ≤ g
                      · by_cases y3 : -g ≤ y
                        · have hd := Lib.hid (decide_eq_true (HST.out.2 ⟨hp, y1, y2, y3⟩)); clear y1
                          clear hp
                          go_wp2_with fail
                          go_roundw
                          case rel => exact ⟨j + 1, by omega, by go_num, by rw [hd.out], by trivial⟩
                          case measure => simp [intOf]; omega
                        · have hd := Lib.hid (decide_eq_false (fun h => y3 (HST.out.1 h).2.2.2)); clear y1
                          clear hp
                          go_wp2_with fail
                          go_roundw
                          case rel => exact ⟨j + 1, by omega, by go_num, by rw [hd.out], by trivial⟩
                          case measure => simp [intOf]; omega
                      · have hd := Lib.hid (decide_eq_false (fun h => y2 (HST.out.1 h).2.2.1)); clear y1
                        clear hp
                        go_wp2_with fail
                        go_roundw
                        case rel => exact ⟨j + 1, by omega, by go_num, by rw [hd.out], by trivial⟩
                        case measure => simp [intOf]; omega
                  · rw [decide_eq_false hp]
                    have hd := Lib.hid (decide_eq_false (fun h => hp (HST.out.1 h).1))
                    clear hp
                    go_wp2_with fail
                    go_roundw
                    case rel => exact ⟨j + 1, by omega, by go_num, by rw [hd.out], by trivial⟩
                    case measure => simp [intOf]; omega
                · obtain rfl : xs.length = j := by omega
                  rw [show decide (PB g cs wss k xs.length) = decide (PB g cs wss (k + 1) 0) from decide_eq_decide.2 HNX.out.symm]
                  clear hjl
                  go_wp2_with fail
                  go_roundw
                  case rel => exact ⟨k + 1, by omega, by go_num, rfl, by trivial⟩
                  case measure => simp [intOf]; omega
          · obtain rfl : wss.length = k := by omega
            rw [show decide (PB g cs wss wss.length 0) = decide (GV g cs wss) from decide_eq_decide.2 PB.all]
            clear hlt
            obtain ⟨bb, hbb⟩ : ∃ bb, decide (GV g cs wss) = bb := ⟨_, rfl⟩
            rw [hbb]
            have HBB := Lib.hid hbb
            clear hbb
            go_wp2_with fail
            refine (gvalid_any Ac Aw cc cw g cs wss wc (· < w.heap.size) (· < w.heap.size) HC1.out (fun b hb => by omega) HW1.out (fun b hb => by omega) HLC.out HLW.out).mono ?_
            rintro e w2 ⟨rfl, hb⟩
            rw [HBB.out]
            have HB2 := Lib.hid (HB1.out.trans (hb.mono hs1))
            clear hb
            have hbe : (bb == bb) = true := by cases bb <;> rfl
            cases bb
            · go_wp2_with fail
              go_ret
              exact ⟨rfl, HB2.out⟩
            · go_wp2_with fail
              go_ret
              exact ⟨rfl, HB2.out⟩

theorem wirtingerValid_walk :
    Calls Try.prog 5 #[.agg #[.int .i64 g, .slice Ac cs.length cc, .slice Aw wss.length cw]] w fun e w' => e = .returned (.bool true) ∧ Below w.heap.size w w' := by
  by_cases hg : 48 < cs.length ∨ 48 < wss.length
  · exact wvl_great Ac Aw cc cw g cs wss w hc hw hm hn hg
  · exact wvl_ok Ac Aw cc cw g cs wss w hc hw hm hn (by omega) (by omega)
end
end Go.Proofs.Ytcjgfncbecbhjaa

