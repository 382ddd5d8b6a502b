/-
  The contract of cycle, for whatever successor function.
-/
import Derived.Test.YtaghemilihaiaaaSphM
namespace Go.Proofs.Ytaghemilihaiaaa
open Go.RowKit

/-- a call of K enters its body -/
def Enters (K : Nat) : Prop := ∀ (args : Array Value) (w : World), (callFunc K args).run Try.prog w = .ok (.enter K args) w
theorem enters_of {K : Nat} {fn : Func} {c : Code} (hf : Try.prog.funcs[K]? = some fn) (hname : (fn.name == "runtime.NumGoroutine") = false) (hb : fn.body = some c) : Enters K := by
  intro args w
  have h1 : fn.name ≠ "runtime.NumGoroutine" := by simpa using hname
  simp [callFunc, hf, h1, hb]

/-- a closure over one pointer computes f below N, in every world that keeps what lies below C -/
def NextOk (K bd N : Nat) (f : Nat → Nat) (w : World) : Prop := ∀ (g : Nat) (W : World), g < N → Below w.heap.size w W →
  Calls Try.prog K #[.int .i64 g, .pointer (some ⟨bd, 0, none⟩)] W fun e w' => e = .returned (.int .i64 (f g)) ∧ W = w'

theorem NextOk.later {K bd N : Nat} {f : Nat → Nat} {w w' : World} (h : NextOk K bd N f w) (hb : Below w.heap.size w w') : NextOk K bd N f w' := fun g W hg hW =>
  h g W hg (hb.trans (hW.mono hb.size))

def ints (l : List Nat) : List Int := l.map Int.ofNat
theorem ints_length (l : List Nat) : (ints l).length = l.length := by simp [ints]
theorem ints_append (l m : List Nat) : ints (l ++ m) = ints l ++ ints m := by simp [ints]
theorem gi_ints {l : List Nat} {k : Nat} (h : k < l.length) : gi (ints l) k = (gN l k : Int) := gN_map h

set_option maxHeartbeats 2000000 in
theorem cycle_any (K bd N h : Nat) (f : Nat → Nat) (w : World) (hP : PermB f N) (hh : h < N) (hN : N ≤ 400000) (hK : Enters K) (hnx : NextOk K bd N f w) :
    Calls Try.prog 79 #[.int .i64 h, .func (.func K) #[] #[.pointer (some ⟨bd, 0, none⟩)]] w fun e w' => ∃ v, e = .returned v ∧ OI w' w.heap.size v (ints (cyc f N h)) ∧ Below w.heap.size w w' := by
  obtain ⟨p0, p1, p2, p3⟩ := per_spec hP hh
  have H3 := Lib.hid p3
  have H2 := Lib.hid p2
  have HX := Lib.hid hnx
  have HP := Lib.hid hP
  have hin : ∀ (args : Array Value) (w : World), (callFunc K args).run Try.prog w = .ok (.enter K args) w := hK
  clear p2 p3 hnx hP hK
  go_enter Try.func79, Try.ntmps79
  go_wp2_with fail
  have hb1 : Below w.heap.size w (w.alloc (.cells #[.int .i64 h] 3)) := (Below.refl _ _).alloc (Nat.le_refl _) _
  have ho : OI (w.alloc (.cells #[.int .i64 h] 3)) w.heap.size (.slice (some ⟨w.heap.size, 0, none⟩) 1 1) (ints ((cyc f N h).take 1)) := by
    have h1 := OR.made (e := 3) (f := Value.int .i64) (xs := [(h : Int)]) w w.heap.size #[.int .i64 h] (Nat.le_refl _) (by simp [maxLen]) (by simp)
    have e : (cyc f N h).take 1 = [h] := by
      have := cyc_take_succ (f := f) (N := N) (h := h) (k := 0) p0
      simpa [it] using this.symm
    rw [e]
    exact h1
  have HO := Lib.hid ho
  clear ho
  refine (HX.out h _ hh hb1).mono ?_
  rintro e w1 ⟨rfl, rfl⟩
  go_wp2_with fail
  go_loopg [5, 6] (per f N h) (fun F v g wr => ∃ j : Nat, 1 ≤ j ∧ j ≤ per f N h ∧ g = .int .i64 (it f j h) ∧ Hid (OI wr w.heap.size v (ints ((cyc f N h).take j))) ∧ Hid (Below w.heap.size w wr) ∧ Hid (per f N h - j < F))
  case atStart => exact ⟨1, by omega, by omega, rfl, HO, hb1, by show _ - _ < _; omega⟩
  case round =>
    clear HO hb1
    obtain ⟨j, hj1, hj, rfl, HO, HB, HF⟩ := hrel
    by_cases hjp : j < per f N h
    · have hne : it f j h ≠ h := H3.out j (by omega) hjp
      have hne' : (((it f j h : Nat) : Int) != (h : Int)) = true := by rw [bne_iff_ne]; omega
      have hgl : it f j h < N := HP.out.it_lt j hh
      have HT := Lib.hid (cyc_take_succ (f := f) (N := N) (h := h) hjp)
      have hlen : (ints ((cyc f N h).take j)).length < 1099511627776 := by rw [ints_length, List.length_take]; omega
      have HL := Lib.hid hlen
      have hsz := HB.out.size
      clear hne hlen
      go_wp2_with (at_builtin; refine app1 HO.out HL.out hsz rfl rfl Try.underlying22 rfl rfl ?_; intro v' w' ho hg hob)
      have hbn := HO.out.grown_below HB.out hsz _ hg
      have HBN := Lib.hid hbn
      have ho' : OI w' w.heap.size v' (ints ((cyc f N h).take (j + 1))) := by
        rw [← HT.out, ints_append]
        exact ho
      have HON := Lib.hid ho'
      clear ho hg hob hbn ho'
      refine (HX.out (it f j h) _ hgl HBN.out).mono ?_
      rintro e w1 ⟨rfl, rfl⟩
      go_wp2_with fail
      go_roundg (per f N h - j)
      case measure => exact HF.out
      case rel => exact ⟨j + 1, by omega, by omega, rfl, HON, HBN, by show _ - _ < _; omega⟩
    · have hjp : j = per f N h := by omega
      have he : it f j h = h := by rw [hjp]; exact H2.out
      have he' : (((it f j h : Nat) : Int) != (h : Int)) = false := by rw [bne_eq_false_iff_eq]; omega
      have HO2 : Hid (OI wr w.heap.size u5 (ints (cyc f N h))) := by
        have := HO.out
        rw [List.take_of_length_le (by rw [cyc_length]; omega)] at this
        exact this
      clear he hjp HO
      go_wp2_with fail
      go_ret
      exact ⟨_, rfl, HO2.out, HB.out⟩
end Go.Proofs.Ytaghemilihaiaaa

