/-
  The contracts of word.push and word.Reduce.
-/
import Derived.Test.YtcjgfncbecbhjaaArcs
namespace Go.Proofs.Ytcjgfncbecbhjaa
open Go.RowKit

def pushL (st : List Int) (x : Int) : List Int := if st ≠ [] ∧ gi st (st.length - 1) = -x then st.dropLast else st ++ [x]
def redF (st ys : List Int) : List Int := ys.foldl pushL st
/-- the reduced word -/
def redL (ys : List Int) : List Int := redF [] ys
theorem redF_take {st ys : List Int} {k : Nat} (h : k < ys.length) : redF st (ys.take (k + 1)) = pushL (redF st (ys.take k)) (gi ys k) := by
  unfold redF
  rw [List.take_succ_eq_append_getElem h, List.foldl_append]
  simp [gi, h]
theorem pushL_nil (x : Int) : pushL [] x = [x] := by simp [pushL]
theorem pushL_eq {st : List Int} {t x : Int} (h : t = -x) : pushL (st ++ [t]) x = st := by
  unfold pushL
  rw [if_pos ⟨by simp, by simp [gi]; exact h⟩]
  simp
theorem pushL_ne {st : List Int} {t x : Int} (h : t ≠ -x) : pushL (st ++ [t]) x = st ++ [t] ++ [x] := by
  unfold pushL
  rw [if_neg]
  rintro ⟨-, h2⟩
  exact h (by simpa [gi] using h2)
theorem pushL_len (st : List Int) (x : Int) : (pushL st x).length ≤ st.length + 1 := by
  unfold pushL
  split
  · simp; omega
  · simp
theorem redF_len (st ys : List Int) : (redF st ys).length ≤ st.length + ys.length := by
  induction ys generalizing st with
  | nil => simp [redF]
  | cons y ys ih =>
    show (redF (pushL st y) ys).length ≤ _
    have h1 := ih (pushL st y)
    have h2 := pushL_len st y
    simp only [List.length_cons]
    omega
def Bd (ys : List Int) : Prop := ∀ k, k < ys.length → -1099511627776 ≤ gi ys k ∧ gi ys k ≤ 1099511627776

set_option maxHeartbeats 2000000 in
theorem push_any (B : Nat) (v : Value) (xs : List Int) (A : Option Addr) (c : Nat) (ys : List Int) (w : World) (S : Nat → Prop) (hv : OI w B v xs) (hB : B ≤ w.heap.size) (hx : RI w S A ys) (hS : ∀ b, S b → b < B)
    (hl : xs.length + ys.length < 1099511627776) (hb : Bd ys) :
    Calls Try.prog 72 #[v, .slice A ys.length c] w fun e w' => ∃ v', e = .returned v' ∧ OI w' B v' (redF xs ys) ∧ Below B w w' := by
  have hv0 : OI w B v (redF xs (ys.take 0)) := by simpa [redF] using hv
  have HV := Lib.hid hv0
  have HX := Lib.hid hx
  have HS := Lib.hid hS
  have HB := Lib.hid hb
  clear hv hv0 hx hS hb
  go_enter Try.func72, Try.ntmps72
  go_wp2_with fail
  go_loopw [0, 10] (fun u i wr => ∃ k : Nat, k ≤ ys.length ∧ i = .int .i64 k ∧ Hid (OI wr B u (redF xs (ys.take k))) ∧ Hid (Below B w wr)) (fun _ i _ => ys.length - (intOf i).toNat)
  case atStart => exact ⟨0, Nat.zero_le _, rfl, HV, Below.refl _ _⟩
  case round =>
    clear HV
    obtain ⟨k, hk, rfl, HO, HBL⟩ := hrel
    by_cases hlt : k < ys.length
    · have hr := HX.out.keep (w' := wr) (fun b hb => HBL.out.block b (HS.out b hb))
      obtain ⟨b, off, rfl, -, hc⟩ := hr.at_ hlt
      have c1 := hc k hlt
      obtain ⟨b1, b2⟩ := HB.out k hlt
      have hstep := redF_take (st := xs) hlt
      obtain ⟨y, hy⟩ : ∃ y, gi ys k = y := ⟨_, rfl⟩
      have hlen : (redF xs (ys.take k)).length < 1099511627776 := by
        have := redF_len xs (ys.take k)
        rw [List.length_take] at this
        omega
      obtain ⟨st, hst⟩ : ∃ st, redF xs (ys.take k) = st := ⟨_, rfl⟩
      rw [hy] at c1 b1 b2 hstep
      rw [hst] at HO hlen hstep
      have hsz : B ≤ wr.heap.size := by have := HBL.out.size; omega
      have wn : IntKind.i64.wrap (-y) = -y := IntWalk.i64_in _ (by omega)
      have HST := Lib.hid hstep
      clear hr hc hy hst hstep
      rcases List.eq_nil_or_concat st with rfl | ⟨st', top, h⟩
      · obtain ⟨A2, cc, rfl, h3, h4, -⟩ := HO.out.shape
        rw [pushL_nil] at HST
        simp only [List.length_nil] at h3 ⊢
        have hlz : (([] : List Int).length) < 1099511627776 := by simp
        go_wp2_with (at_builtin; refine app1 HO.out hlz hsz rfl rfl Try.underlying42 rfl rfl ?_; intro v' w' ho hg hob)
        have HO' : Hid (OI w' B v' (redF xs (ys.take (k + 1)))) := by rw [HST.out]; exact ho
        have HB' := Lib.hid (HBL.out.trans (HO.out.grown_below (Below.refl _ _) hsz _ hg))
        clear ho hg hob
        go_roundw
        case rel => exact ⟨k + 1, by omega, by go_num, HO', HB'⟩
        case measure => simp [intOf]; omega
      · rw [List.concat_eq_append] at h
        subst h
        obtain ⟨g, cc, rfl, hBg, hgs, hlc, hcm, hcell, -⟩ := HO.out.ints (by simp)
        have hcell' := hcell st'.length (by simp)
        have e1 : gi (st' ++ [top]) st'.length = top := by simp [gi]
        rw [e1] at hcell'
        have HL := Lib.hid hlen
        have e2 : (st' ++ [top]).length = st'.length + 1 := by simp
        rw [e2] at hlc hlen
        have HO2 := HO
        rw [e2] at HO2 ⊢
        clear hcell e1 e2 HO
        by_cases hq : top = -y
        · have hq' : (top == -y) = true := by rw [beq_iff_eq]; exact hq
          have HQ : Hid (OI wr B (.slice (some ⟨g, 0, none⟩) st'.length cc) (redF xs (ys.take (k + 1)))) := by
            rw [HST.out, pushL_eq hq]
            exact OR.pop (y := top) (by rw [List.length_append]; exact HO2.out)
          clear HO2 hq
          go_wp2_with fail
          go_roundw
          case rel => exact ⟨k + 1, by omega, by go_num, HQ, HBL⟩
          case measure => simp [intOf]; omega
        · have hq' : (top == -y) = false := by rw [beq_eq_false_iff_ne]; exact hq
          rw [pushL_ne hq] at HST
          clear hq
          go_wp2_with (at_builtin; refine app1 HO2.out HL.out hsz rfl rfl Try.underlying42 rfl rfl ?_; intro v' w' ho hg hob)
          have HO' : Hid (OI w' B v' (redF xs (ys.take (k + 1)))) := by rw [HST.out]; exact ho
          have HB' := Lib.hid (HBL.out.trans (HO2.out.grown_below (Below.refl _ _) hsz _ hg))
          clear ho hg hob
          go_roundw
          case rel => exact ⟨k + 1, by omega, by go_num, HO', HB'⟩
          case measure => simp [intOf]; omega
    · obtain rfl : ys.length = k := by omega
      rw [List.take_length] at HO
      go_wp2_with fail
      go_ret
      exact ⟨_, rfl, HO.out, HBL.out⟩

theorem OI.room (w : World) (B n : Nat) (hB : B ≤ w.heap.size) (hn : n ≤ maxLen) : OI (w.alloc (.cells (List.replicate n (Value.int .i64 0)).toArray 3)) B (.slice (some ⟨w.heap.size, 0, none⟩) 0 n) [] := by
  refine ⟨by simp, .inr ⟨w.heap.size, n, (List.replicate n (Value.int .i64 0)).toArray, rfl, hB, heap_alloc_new w _, by simp, hn, by simp, by simp⟩⟩
theorem reduce_any (A : Option Addr) (c : Nat) (ys : List Int) (w : World) (S : Nat → Prop) (hx : RI w S A ys) (hS : ∀ b, S b → b < w.heap.size) (hl : ys.length < 1099511627776) (hb : Bd ys) :
    Calls Try.prog 48 #[.slice A ys.length c] w fun e w' => ∃ v', e = .returned v' ∧ OI w' w.heap.size v' (redL ys) ∧ Below w.heap.size w w' := by
  have hmk : ∀ w : World, (Instr.makeSlice 42 (.int .i64 0) (.int .i64 (ys.length : Int))).run Try.prog w = .ok (.slice (some ⟨w.heap.size, 0, none⟩) 0 ys.length) (w.alloc (.cells (List.replicate ys.length (Value.int .i64 0)).toArray 3)) := by
    intro w
    obtain ⟨i0, hi, hz0, hz1, hz2⟩ := info_parts int_info
    have h := run_make (P := Try.prog) w 42 3 i0 (.int .i64 0) Try.underlying42 hi hz0 .i64 .i64 0 ys.length (by omega) (by omega) (by rw [hz2]; omega) (by omega)
    simp only [Int.toNat_natCast, Int.toNat_zero] at h
    rw [h, hz1]
    have e : madeCells (Value.int .i64 0).cells (ys.length * 1) = (List.replicate ys.length (Value.int .i64 0)).toArray := by
      apply Array.toList_inj.1
      rw [Nat.mul_one, show (Value.int .i64 0).cells = #[Value.int .i64 0] from rfl, toList_madeCells_one]
    rw [e]
  have HX := Lib.hid hx
  have HS := Lib.hid hS
  have HB := Lib.hid hb
  have HR := Lib.hid (OI.room w w.heap.size ys.length (Nat.le_refl _) (by unfold maxLen; omega))
  clear hx hS hb
  go_enter Try.func48, Try.ntmps48
  go_wp2_with fail
  refine (push_any w.heap.size _ [] A c ys _ S (by simpa using HR.out) (by simp) (HX.out.keep fun b hb => Below.heap_alloc w _ b (HS.out b hb)) HS.out (by simpa using hl) HB.out).mono ?_
  rintro e w1 ⟨v1, rfl, ho, hb⟩
  have HO := Lib.hid ho
  have HBB := Lib.hid (((Below.refl w.heap.size w).alloc (Nat.le_refl _) _).trans hb)
  clear ho hb
  go_wp2_with fail
  go_ret
  exact ⟨_, rfl, HO.out, HBB.out⟩
end Go.Proofs.Ytcjgfncbecbhjaa

