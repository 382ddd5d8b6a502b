/-
  The contract of the reference's Join.
-/
import Derived.Test.YtmmcpahaekpknaaJoin
import Derived.Test.YtmmcpahaekpknaaAwake
namespace Go.Proofs.Ytmmcpahaekpknaa
open Go.RowKit

def RefJoinPost (xs : List Int) (p : Nat) (w : World) (e : Ending) (w' : World) : Prop :=
  ∃ v, e = .returned (.tuple #[v, .int .i64 (circ xs p)]) ∧ OI w' w.heap.size v (joinL xs p) ∧ Below w.heap.size w w'

/-- what the loop keeps -/
structure JRS (w wr : World) (g cp N : Nat) (xs : List Int) (p k : Nat) (v : Value) : Prop where
  pt : RI wr (· < N) (some ⟨g, 0, none⟩) (part xs p)
  row : OI wr N v ((joinL xs p).take (idx p k))
  below : Below w.heap.size w wr
  size : N ≤ wr.heap.size
  le : w.heap.size ≤ N

theorem JRS.start {w w2 : World} {g cp n : Nat} {xs : List Int} {p : Nat} (h : OI w2 w.heap.size (.slice (some ⟨g, 0, none⟩) n cp) (part xs p)) (hb : Below w.heap.size w w2) (hs : w.heap.size ≤ w2.heap.size) :
    JRS w (w2.alloc (.cells #[] 3)) g cp w2.heap.size xs p 0 (.slice (some ⟨w2.heap.size, 0, none⟩) 0 0) := by
  refine ⟨?_, ?_, hb.alloc hs _, by simp, hs⟩
  · obtain ⟨A, c, h1, -, -, h2⟩ := h.reads
    injection h1 with h1
    subst h1
    exact (h2.imp fun b hb => hb.2).keep fun b hb => Below.heap_alloc w2 _ b hb
  · have := OR.made (e := 3) (f := Value.int .i64) (xs := []) w2 w2.heap.size #[] (Nat.le_refl _) (by simp) (by simp)
    simpa [idx] using this

theorem JRS.next {w wr w' : World} {g cp N : Nat} {xs : List Int} {p k : Nat} {v v' : Value} (h : JRS w wr g cp N xs p k v) (ho : OI w' N v' ((joinL xs p).take (idx p (k + 1)))) (hb : Below N wr w') : JRS w w' g cp N xs p (k + 1) v' := by
  have := hb.size
  have := h.size
  exact ⟨h.pt.below hb, ho, h.below.trans (hb.mono h.le), by omega, h.le⟩

theorem joinL_next {xs : List Int} {p i : Nat} (hp : p + 2 ≤ xs.length) (hi : i < xs.length) (h0 : i ≠ p) (h1 : i ≠ p + 1) :
    (joinL xs p).take (idx p i) ++ [shI p (gi (part xs p) i)] = (joinL xs p).take (idx p (i + 1)) := by
  have e : idx p (i + 1) = idx p i + 1 ∧ idx p i < xs.length - 2 ∧ (if idx p i < p then idx p i else idx p i + 2) = i := by
    rcases Nat.lt_or_ge i p with hlt | hge
    · obtain ⟨a, b⟩ := idx_lo hlt
      exact ⟨a, by omega, by rw [b, if_pos hlt]⟩
    · obtain ⟨a, b⟩ := idx_hi (p := p) (i := i) (by omega)
      exact ⟨a, by omega, by rw [b, if_neg (by omega)]; omega⟩
  have hl : idx p i < (joinL xs p).length := by rw [joinL_length]; exact e.2.1
  rw [e.1, List.take_succ_eq_append_getElem hl, ← gi_lt hl, gi_joinL e.2.1, e.2.2]

set_option maxHeartbeats 4000000 in
theorem refjoin_ok (A : Option Addr) (c : Nat) (xs : List Int) (p : Nat) (w : World) (hx : RI w (· < w.heap.size) A xs) (h : IsM xs) (hp : p + 2 ≤ xs.length) :
    Calls Try.prog 23 #[.slice A xs.length c, .int .i64 p] w (RefJoinPost xs p w) := by
  have h48 : xs.length ≤ 48 := h.2.1
  have H1 := Lib.hid h
  obtain ⟨n1, n2, n3, n4⟩ := isM_gn h (show p < xs.length by omega)
  obtain ⟨n5, n6, n7, n8⟩ := isM_gn h (show p + 1 < xs.length by omega)
  clear h
  have H4 := Lib.hid n4
  have H8 := Lib.hid n8
  have H3 := Lib.hid n3
  have H7 := Lib.hid n7
  clear n4 n8 n3 n7
  have hpl : (part xs p).length = xs.length := part_length xs p
  have HPB := Lib.hid (fun i (hi : i < xs.length) => part_bounds H1.out hp hi)
  have HPL := Lib.hid hpl
  have hown0 : ∀ W : World, OI (W.alloc (.cells #[] 3)) W.heap.size (.slice (some ⟨W.heap.size, 0, none⟩) 0 0) [] := fun W => by
    have := OR.made (e := 3) (f := Value.int .i64) (xs := []) W W.heap.size #[] (Nat.le_refl _) (by simp) (by simp)
    simpa using this
  have e3 : IntKind.i64.wrap ((p : Int) + 1) = (p : Int) + 1 := IntWalk.i64_in _ (by omega)
  have e4 : ((p : Int) + 1).toNat = p + 1 := by omega
  have HE3 := Lib.hid e3
  have HE4 := Lib.hid e4
  clear hpl e3 e4
  go_enter Try.func23, Try.ntmps23
  have i1 : (0 : Int) ≤ p ∧ (p : Int) < xs.length := by omega
  have i2 : (0 : Int) ≤ (p : Int) + 1 ∧ (p : Int) + 1 < xs.length := by omega
  have hm : xs.length ≤ maxLen := by unfold maxLen; omega
  by_cases hcir : gn xs p = p + 1
  case' pos =>
    have e1 : (((gn xs p : Nat) : Int) == (p : Int) + 1) = true := by rw [beq_iff_eq]; omega
    have hpart : part xs p = xs := by unfold part; rw [if_pos (by rw [H4.out]; omega)]
    have hci : circ xs p = 1 := by unfold circ; rw [if_pos (by rw [H4.out]; omega)]
    have HCI := Lib.hid hci
    have HPT := Lib.hid hpart
    clear hcir hpart hci
    go_wp2_with (at_builtin; refine appN (xs := []) (ys := xs) (hown0 _) (hx.keep fun b hb => Below.heap_alloc w _ b hb) (by simp; omega) (by simp) rfl rfl Try.underlying22 rfl rfl ?_
                 intro v2 w2 ho hg hob
                 have hbel := ((Below.refl w.heap.size w).alloc (Nat.le_refl _) (.cells #[] 3)).grown hg (by simp) (by intro k hk; simp [Value.ownBlock] at hk; omega)
                 have hoo : OI w2 w.heap.size v2 xs := by simpa using ho
                 obtain ⟨g, cp, rfl, hg1, hg2, hlc, _, hcell, hfz⟩ := hoo.ints (by omega)
                 have HOU := Lib.hid hoo
                 have c1 := hcell p (by omega)
                 have c2 := hcell (p + 1) (by omega)
                 have c3 := hcell (gn xs p) n1
                 have c4 := hcell (gn xs (p + 1)) n5
                 have f3 := hfz (gn xs p)
                 have f4 := hfz (gn xs (p + 1))
                 rw [H4.out] at c1
                 rw [H8.out] at c2
                 have e3 := HE3.out
                 have e4 := HE4.out
                 clear ho hg hob hoo hcell hfz)
    have HST0 : Hid (∀ n o : Nat, JRS w (w2.alloc (.cells #[] 3)) g cp w2.heap.size xs p 0 (.slice (some ⟨w2.heap.size, 0, none⟩) 0 0) ∧ n + o = n + o + 0) := fun n o => ⟨JRS.start (by rw [HPT.out]; exact HOU.out) hbel (by omega), rfl⟩
  case' neg =>
    have e1 : (((gn xs p : Nat) : Int) == (p : Int) + 1) = false := by rw [beq_eq_false_iff_ne]; omega
    have hpart : part xs p = (xs.set (gn xs p) (gn xs (p + 1) : Int)).set (gn xs (p + 1)) (gn xs p : Int) := by unfold part; rw [if_neg (by rw [H4.out]; omega), H4.out, H8.out]
    have hci : circ xs p = 0 := by unfold circ; rw [if_neg (by rw [H4.out]; omega)]
    have HCI := Lib.hid hci
    have HPT := Lib.hid hpart
    clear hcir hpart hci
    go_wp2_with (at_builtin; refine appN (xs := []) (ys := xs) (hown0 _) (hx.keep fun b hb => Below.heap_alloc w _ b hb) (by simp; omega) (by simp) rfl rfl Try.underlying22 rfl rfl ?_
                 intro v2 w2 ho hg hob
                 have hbel := ((Below.refl w.heap.size w).alloc (Nat.le_refl _) (.cells #[] 3)).grown hg (by simp) (by intro k hk; simp [Value.ownBlock] at hk; omega)
                 have hoo : OI w2 w.heap.size v2 xs := by simpa using ho
                 obtain ⟨g, cp, rfl, hg1, hg2, hlc, _, hcell, hfz⟩ := hoo.ints (by omega)
                 have HOU := Lib.hid hoo
                 have c1 := hcell p (by omega)
                 have c2 := hcell (p + 1) (by omega)
                 have c3 := hcell (gn xs p) n1
                 have c4 := hcell (gn xs (p + 1)) n5
                 have f3 := hfz (gn xs p)
                 have f4 := hfz (gn xs (p + 1))
                 rw [H4.out] at c1
                 rw [H8.out] at c2
                 have e3 := HE3.out
                 have e4 := HE4.out
                 clear ho hg hob hoo hcell hfz)
    have hne : gn xs p ≠ gn xs (p + 1) := by
      intro e
      have := H7.out
      rw [← e, H3.out] at this
      omega
    have hne' : gn xs (p + 1) ≠ gn xs p := fun e => hne e.symm
    have HST0 : Hid (∀ n o : Nat, JRS w ((((w2.drewN n).setCell ⟨g, gn xs p, none⟩ (.int .i64 (gn xs (p + 1) : Int))).setCell ⟨g, gn xs (p + 1), none⟩ (.int .i64 (gn xs p : Int))).alloc (.cells #[] 3)) g cp w2.heap.size xs p 0 (.slice (some ⟨w2.heap.size, 0, none⟩) 0 0) ∧ n + o = n + o + 0) := fun n o => ⟨by
      have hpt := OR.stored (k := gn xs (p + 1)) (OR.stored (k := gn xs p) (HOU.out.drewN n) (gn xs (p + 1) : Int)) (gn xs p : Int)
      rw [← HPT.out] at hpt
      have := JRS.start hpt (((below_drewN hbel n).setCell (by simpa using hg1) _).setCell (by simpa using hg1) _) (by simp; omega)
      simpa using this, rfl⟩
    go_quiet (fail)
    go_wp2_with fail
    clear hne hne'
  all_goals
    clear c1 c2 c3 c4 f3 f4 hbel HOU HPT e1 i1 i2 e3 e4
    go_loopw [10, 11] (fun v i wr => ∃ k : Nat, k ≤ xs.length ∧ i = .int .i64 k ∧ Hid (JRS w wr g cp w2.heap.size xs p k v)) (fun _ i _ => xs.length - (intOf i).toNat)
    case atStart => first | exact ⟨0, Nat.zero_le _, rfl, (HST0.out 0 0).1⟩ | exact ⟨0, Nat.zero_le _, rfl, (HST0.out _ 0).1⟩
    case round =>
      clear HST0
      obtain ⟨k, hk, rfl, HJ⟩ := hrel
      have hsz := HJ.out.size
      have hol : ((joinL xs p).take (idx p k)).length ≤ 48 := by rw [List.length_take, joinL_length]; omega
      by_cases hlt : k < xs.length
      · obtain ⟨b, off, hA, hbN, hcx⟩ := HJ.out.pt.at_ (show k < (part xs p).length by rw [HPL.out]; exact hlt)
        have c5 := hcx k (by rw [HPL.out]; exact hlt)
        injection hA with hA
        injection hA with hA hA'
        subst hA hA'
        rw [Nat.zero_add] at c5
        obtain ⟨pb1, pb2⟩ := HPB.out k hlt
        clear hcx
        by_cases hkp : k = p
        · have e5 : ((k : Int) == (p : Int)) = true := by rw [beq_iff_eq]; omega
          have HJ' : Hid (JRS w wr g cp w2.heap.size xs p (k + 1) u10) := ⟨HJ.out.pt, by rw [idx_mid (.inl hkp)]; exact HJ.out.row, HJ.out.below, HJ.out.size, HJ.out.le⟩
          clear hkp
          go_wp2_with fail
          go_roundw
          case rel => exact ⟨k + 1, by omega, by go_num, HJ'⟩
          case measure => simp [intOf]; omega
        · have e5 : ((k : Int) == (p : Int)) = false := by rw [beq_eq_false_iff_ne]; omega
          by_cases hkp1 : k = p + 1
          · have e6 : ((k : Int) == (p : Int) + 1) = true := by rw [beq_iff_eq]; omega
            have HJ' : Hid (JRS w wr g cp w2.heap.size xs p (k + 1) u10) := ⟨HJ.out.pt, by rw [idx_mid (.inr hkp1)]; exact HJ.out.row, HJ.out.below, HJ.out.size, HJ.out.le⟩
            clear hkp hkp1
            go_wp2_with fail
            go_roundw
            case rel => exact ⟨k + 1, by omega, by go_num, HJ'⟩
            case measure => simp [intOf]; omega
          · have e6 : ((k : Int) == (p : Int) + 1) = false := by rw [beq_eq_false_iff_ne]; omega
            have HNX := Lib.hid (joinL_next hp hlt hkp hkp1)
            clear hkp hkp1
            by_cases hgt : (p : Int) < gi (part xs p) k
            · have HS := Lib.hid (show shI p (gi (part xs p) k) = gi (part xs p) k - 2 from if_pos hgt)
              go_wp2_with (at_builtin; refine app1 HJ.out.row (by omega) hsz rfl rfl Try.underlying22 rfl rfl ?_; intro v' w' ho hg hob)
              go_roundw
              case rel => exact ⟨k + 1, by omega, by go_num, HJ.out.next (by rw [← HNX.out, HS.out]; exact ho) (HJ.out.row.grown_below (Below.refl _ _) hsz _ hg)⟩
              case measure => simp [intOf]; omega
            · have HS := Lib.hid (show shI p (gi (part xs p) k) = gi (part xs p) k from if_neg hgt)
              go_wp2_with (at_builtin; refine app1 HJ.out.row (by omega) hsz rfl rfl Try.underlying22 rfl rfl ?_; intro v' w' ho hg hob)
              go_roundw
              case rel => exact ⟨k + 1, by omega, by go_num, HJ.out.next (by rw [← HNX.out, HS.out]; exact ho) (HJ.out.row.grown_below (Below.refl _ _) hsz _ hg)⟩
              case measure => simp [intOf]; omega
      · have hrow : OI wr w.heap.size u10 (joinL xs p) := by
          have := HJ.out.row
          rw [show k = xs.length by omega, idx_end hp, List.take_of_length_le (by rw [joinL_length]; exact Nat.le_refl _)] at this
          exact this.mono HJ.out.le
        have HROW := Lib.hid hrow
        have hbel := HJ.out.below
        clear hrow
        go_wp2_with fail
        go_ret2
        exact ⟨u10, by rw [HCI.out]; rfl, HROW.out, hbel⟩

end Go.Proofs.Ytmmcpahaekpknaa
