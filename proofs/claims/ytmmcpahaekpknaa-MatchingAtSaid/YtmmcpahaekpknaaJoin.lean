/-
  The contract of matching.Join.
-/
import Derived.Test.YtmmcpahaekpknaaPair
import Derived.Test.YtmmcpahaekpknaaClone
import Derived.Test.YtmmcpahaekpknaaJoinM
namespace Go.Proofs.Ytmmcpahaekpknaa
open Go.RowKit

theorem shift2_any (i : Int) (p : Nat) (b : Nat) (w : World) (hi : -4611686018427387904 ≤ i) (hi2 : i ≤ 4611686018427387904) (hc : w.cell? ⟨b, 0, none⟩ = some (.int .i64 p)) :
    Calls Try.prog 30 #[.int .i64 i, .pointer (some ⟨b, 0, none⟩)] w fun e w' => e = .returned (.int .i64 (shI p i)) ∧ w = w' := by
  by_cases h : (p : Int) < i
  · have H := Lib.hid (show shI p i = i - 2 by unfold shI; rw [if_pos h])
    go_enter Try.func30, Try.ntmps30
    go_wp2
    go_ret
    exact ⟨ret_int H.out.symm, by trivial⟩
  · have H := Lib.hid (show shI p i = i by unfold shI; rw [if_neg h])
    go_enter Try.func30, Try.ntmps30
    go_wp2
    go_ret
    exact ⟨ret_int H.out.symm, by trivial⟩

set_option maxHeartbeats 1000000 in
theorem join_arg (A : Option Addr) (c : Nat) (xs : List Int) (p : Int) (w : World) (hx : RI w (· < w.heap.size) A xs) (hm : xs.length ≤ maxLen) (h : ¬ IsM xs) :
    Calls Try.prog 20 #[.slice A xs.length c, .int .i64 p] w fun e w' => e = .returned (.tuple #[.slice none 0 0, .int .i64 0, .int .i64 1]) ∧ Below w.heap.size w w' := by
  have H1 := Lib.hid h
  clear h
  go_enter Try.func20, Try.ntmps20
  go_wp2_with fail
  refine (valid_no (· < w.heap.size) (hx.keep fun b hb => Below.heap_alloc w _ b hb) (fun b hb => by simp; omega) hm H1.out).mono ?_
  rintro e w1 ⟨rfl, hb1⟩
  go_wp2_with fail
  go_ret3
  exact ⟨rfl, ((Below.refl _ _).alloc (Nat.le_refl _) _).trans (hb1.mono (by simp))⟩

set_option maxHeartbeats 1000000 in
theorem join_range (A : Option Addr) (c : Nat) (xs : List Int) (p : Int) (w : World) (hx : RI w (· < w.heap.size) A xs) (h : IsM xs) (hp : p < 0 ∨ (xs.length : Int) - 2 < p) :
    Calls Try.prog 20 #[.slice A xs.length c, .int .i64 p] w fun e w' => e = .returned (.tuple #[.slice none 0 0, .int .i64 0, .int .i64 2]) ∧ Below w.heap.size w w' := by
  have h48 : xs.length ≤ 48 := h.2.1
  have H1 := Lib.hid h
  clear h
  by_cases h0 : p < 0
  · clear hp
    go_enter Try.func20, Try.ntmps20
    go_wp2_with fail
    refine (valid_yes (· < w.heap.size) (hx.keep fun b hb => Below.heap_alloc w _ b hb) (fun b hb => by simp; omega) H1.out).mono ?_
    rintro e w1 ⟨rfl, hb1⟩
    have hc1 : w1.cell? ⟨w.heap.size, 0, none⟩ = some (.int .i64 p) := (hb1.cell (p := ⟨w.heap.size, 0, none⟩) (by simp)).trans (by simp)
    go_wp2_with fail
    go_ret3
    exact ⟨rfl, ((Below.refl _ _).alloc (Nat.le_refl _) _).trans (hb1.mono (by simp))⟩
  · have hp : (xs.length : Int) - 2 < p := by omega
    go_enter Try.func20, Try.ntmps20
    go_wp2_with fail
    refine (valid_yes (· < w.heap.size) (hx.keep fun b hb => Below.heap_alloc w _ b hb) (fun b hb => by simp; omega) H1.out).mono ?_
    rintro e w1 ⟨rfl, hb1⟩
    have hc1 : w1.cell? ⟨w.heap.size, 0, none⟩ = some (.int .i64 p) := (hb1.cell (p := ⟨w.heap.size, 0, none⟩) (by simp)).trans (by simp)
    go_wp2_with fail
    go_ret3
    exact ⟨rfl, ((Below.refl _ _).alloc (Nat.le_refl _) _).trans (hb1.mono (by simp))⟩

def JoinPost (xs : List Int) (p : Nat) (w : World) (e : Ending) (w' : World) : Prop :=
  ∃ v, e = .returned (.tuple #[v, .int .i64 (circ xs p), .int .i64 0]) ∧ OI w' w.heap.size v (joinL xs p) ∧ Below w.heap.size w w'

/-- what the last loop keeps -/
structure JSt (w wr : World) (g cp gr : Nat) (xs : List Int) (p k : Nat) (r : List Int) : Prop where
  box : wr.heap[w.heap.size]? = some (.cells #[.int .i64 p] 3 (0, 0))
  pt : OI wr w.heap.size (.slice (some ⟨g, 0, none⟩) xs.length cp) (part xs p)
  row : OI wr w.heap.size (.slice (some ⟨gr, 0, none⟩) (xs.length - 2) (xs.length - 2)) r
  len : r.length = xs.length - 2
  fill : ∀ j, j < idx p k → gi r j = gi (joinL xs p) j
  below : Below w.heap.size w wr

theorem JSt.step {w wr : World} {g cp gr : Nat} {xs : List Int} {p k : Nat} {r : List Int} (h : JSt w wr g cp gr xs p k r) (hg : gr ≠ g) (hw : gr ≠ w.heap.size) (hwg : w.heap.size ≤ gr) (hk : k < xs.length) (h0 : k ≠ p) (h1 : k ≠ p + 1) (hp : p + 2 ≤ xs.length) :
    JSt w (wr.setCell ⟨gr, idx p k, none⟩ (.int .i64 (shI p (gi (part xs p) k)))) g cp gr xs p (k + 1) (r.set (idx p k) (shI p (gi (part xs p) k))) := by
  refine ⟨?_, ?_, ?_, by simpa using h.len, join_fill h.len hk h0 h1 hp h.fill, h.below.setCell (by simpa using hwg) _⟩
  · rw [Below.heap_setCell wr _ _ _ (by simpa using fun e => hw e.symm)]; exact h.box
  · exact h.pt.keep fun g' hg' => by
      have : g = g' := by simpa [Value.ownBlock] using hg'
      subst this
      exact Below.heap_setCell wr _ _ _ (by simpa using fun e => hg e.symm)
  · have := OR.stored (k := idx p k) (by have := h.row; rw [← h.len] at this; exact this) (shI p (gi (part xs p) k))
    rw [List.length_set, h.len] at this
    exact this

set_option maxHeartbeats 4000000 in
theorem join_ok (A : Option Addr) (c : Nat) (xs : List Int) (p : Nat) (w : World) (hx : RI w (· < w.heap.size) A xs) (h : IsM xs) (hp : p + 2 ≤ xs.length) :
    Calls Try.prog 20 #[.slice A xs.length c, .int .i64 p] w (JoinPost xs p w) := by
  have h48 : xs.length ≤ 48 := h.2.1
  have H1 := Lib.hid h
  obtain ⟨n1, n2, n3, n4⟩ := isM_gn h (show p < xs.length by omega)
  obtain ⟨n5, n6, n7, n8⟩ := isM_gn h (show p + 1 < xs.length by omega)
  have hp0 : ¬ (p : Int) < 0 := by omega
  have hp2 : ¬ (xs.length : Int) - 2 < p := by omega
  have hmk := fun W => make_ints 34 Try.underlying34 (xs.length - 2) (by omega) W
  have e2 : ((xs.length - 2 : Nat) : Int) = (xs.length : Int) - 2 := by omega
  rw [e2] at hmk
  clear h e2
  have H4 := Lib.hid n4
  have H8 := Lib.hid n8
  have H3 := Lib.hid n3
  have H7 := Lib.hid n7
  clear n4 n8 n3 n7
  go_enter Try.func20, Try.ntmps20
  go_wp2_with fail
  refine (valid_yes (· < w.heap.size) (hx.keep fun b hb => Below.heap_alloc w _ b hb) (fun b hb => by simp; omega) H1.out).mono ?_
  rintro e w1 ⟨rfl, hb1⟩
  have hs1 := hb1.size
  simp at hs1
  have hbx : Below w.heap.size w w1 := ((Below.refl _ _).alloc (Nat.le_refl _) _).trans (hb1.mono (by simp))
  have hat1 : w1.heap[w.heap.size]? = some (.cells #[.int .i64 p] 3 (0, 0)) := (hb1.block w.heap.size (by simp)).trans (heap_alloc_new w _)
  have hc1 : w1.cell? ⟨w.heap.size, 0, none⟩ = some (.int .i64 p) := (hb1.cell (p := ⟨w.heap.size, 0, none⟩) (by simp)).trans (by simp)
  go_wp2_with fail
  refine (clone_any _ _ xs _ (· < w1.heap.size) ((hx.below hbx).imp fun b hb => by omega) (fun _ h => h) (by omega)).mono ?_
  rintro e w2 ⟨u, rfl, hou, hb2⟩
  obtain ⟨g, cp, rfl, hg1, hg2, hlc, _, hcell, hfz⟩ := hou.ints (by omega)
  have hs2 := hb2.size
  have hby : Below w.heap.size w w2 := hbx.trans (hb2.mono (by omega))
  have hat2 : w2.heap[w.heap.size]? = some (.cells #[.int .i64 p] 3 (0, 0)) := (hb2.block w.heap.size (by omega)).trans hat1
  have hc2 : w2.cell? ⟨w.heap.size, 0, none⟩ = some (.int .i64 p) := by rw [cell_of_row w2 w.heap.size 0 _ _ (0, 0) hat2]; rfl
  obtain ⟨b, off, rfl, hb', hcx⟩ := (hx.below hby).at_ (show p < xs.length by omega)
  have c1 := hcx p (by omega)
  have c2 := hcx (p + 1) (by omega)
  rw [H4.out] at c1
  rw [H8.out] at c2
  have i1 : (0 : Int) ≤ p ∧ (p : Int) < xs.length := by omega
  have i2 : (0 : Int) ≤ (p : Int) + 1 ∧ (p : Int) + 1 < xs.length := by omega
  have e3 : IntKind.i64.wrap ((p : Int) + 1) = (p : Int) + 1 := IntWalk.i64_in _ (by omega)
  have e4 : ((p : Int) + 1).toNat = p + 1 := by omega
  clear hb1 hb2 hbx hc1 hcx hat1
  have HE3 := Lib.hid e3
  have HE4 := Lib.hid e4
  clear e3 e4
  go_wp2_with fail
  have e3 := HE3.out
  have e4 := HE4.out
  go_quiet (fail)
  clear e3 e4
  have hpl : (part xs p).length = xs.length := part_length xs p
  have HPB := Lib.hid (fun i (hi : i < xs.length) => part_bounds H1.out hp hi)
  have HPL := Lib.hid hpl
  clear hpl
  by_cases hcir : gn xs p = p + 1
  case' pos =>
    have e1 : (((gn xs p : Nat) : Int) == (p : Int) + 1) = true := by rw [beq_iff_eq]; omega
    have hpart : part xs p = xs := by unfold part; rw [if_pos (by rw [H4.out]; omega)]
    have hci : circ xs p = 1 := by unfold circ; rw [if_pos (by rw [H4.out]; omega)]
    have HS0 : Hid (∀ n o, JSt w ((w2.drewN n).alloc (.cells (Array.replicate (xs.length - 2) (Value.int .i64 0)) 3)) g cp w2.heap.size xs p 0 (List.replicate (xs.length - 2) 0) ∧ o = o + 0) := fun n o => ⟨by
      have hnew := OI.new (w2.drewN n) w.heap.size (xs.length - 2) (by simp; omega) (by unfold maxLen; omega)
      refine ⟨?_, ?_, by simpa using hnew, by simp, by intro j hj; simp [idx] at hj, (below_drewN hby n).alloc (by simp; omega) _⟩
      · rw [Below.heap_alloc _ _ _ (by simp; omega)]; exact hat2
      · rw [hpart]; exact ((hou.drewN n).alloc _).mono (by omega), rfl⟩
    have HCI := Lib.hid hci
    clear hcir hpart hci hcell hfz
    go_wp2_with fail
  case' neg =>
    have e1 : (((gn xs p : Nat) : Int) == (p : Int) + 1) = false := by rw [beq_eq_false_iff_ne]; omega
    have hpart : part xs p = (xs.set (gn xs p) (gn xs (p + 1) : Int)).set (gn xs (p + 1)) (gn xs p : Int) := by unfold part; rw [if_neg (by rw [H4.out]; omega), H4.out, H8.out]
    have hci : circ xs p = 0 := by unfold circ; rw [if_neg (by rw [H4.out]; omega)]
    have hne : gn xs p ≠ gn xs (p + 1) := by
      intro e
      have := H7.out
      rw [← e, H3.out] at this
      omega
    have hne' : gn xs (p + 1) ≠ gn xs p := fun e => hne e.symm
    have hgN : g ≠ w.heap.size := by omega
    have hgN' : w.heap.size ≠ g := by omega
    have HS0 : Hid (∀ n o, JSt w ((((w2.drewN n).setCell ⟨g, gn xs p, none⟩ (.int .i64 (gn xs (p + 1) : Int))).setCell ⟨g, gn xs (p + 1), none⟩ (.int .i64 (gn xs p : Int))).alloc (.cells (Array.replicate (xs.length - 2) (Value.int .i64 0)) 3)) g cp w2.heap.size xs p 0 (List.replicate (xs.length - 2) 0) ∧ o = o + 0) := fun n o => ⟨by
      have hnew := OI.new (((w2.drewN n).setCell ⟨g, gn xs p, none⟩ (.int .i64 (gn xs (p + 1) : Int))).setCell ⟨g, gn xs (p + 1), none⟩ (.int .i64 (gn xs p : Int))) w.heap.size (xs.length - 2) (by simp; omega) (by unfold maxLen; omega)
      have hpt := OR.stored (k := gn xs (p + 1)) (OR.stored (k := gn xs p) (hou.drewN n) (gn xs (p + 1) : Int)) (gn xs p : Int)
      rw [← hpart, HPL.out] at hpt
      refine ⟨?_, (hpt.alloc _).mono (by omega), by simpa using hnew, by simp, by intro j hj; simp [idx] at hj, (((below_drewN hby n).setCell (by simp; omega) _).setCell (by simp; omega) _).alloc (by simp; omega) _⟩
      rw [Below.heap_alloc _ _ _ (by simp; omega), Below.heap_setCell _ _ _ _ (by simpa using hgN'), Below.heap_setCell _ _ _ _ (by simpa using hgN')]
      exact hat2, rfl⟩
    have c3 := hcell (gn xs p) n1
    have c4 := hcell (gn xs (p + 1)) n5
    have f3 := hfz (gn xs p)
    have f4 := hfz (gn xs (p + 1))
    have HCI := Lib.hid hci
    clear hcir hpart hci hcell hfz
    go_wp2_with fail
    clear c3 c4 f3 f4 hne hne'
  all_goals
    have hgr1 : w2.heap.size ≠ g := by omega
    have hgr2 : w2.heap.size ≠ w.heap.size := by omega
    have hgr3 : w.heap.size ≤ w2.heap.size := by omega
    clear c1 c2 hc2 hat2 hby hou e1
    go_loopw [13, 14, 57] (fun _ _ i wr => ∃ (k : Nat) (r : List Int), k ≤ xs.length ∧ i = .int .i64 k ∧ Hid (JSt w wr g cp w2.heap.size xs p k r)) (fun _ _ i _ => xs.length - (intOf i).toNat)
    case atStart => exact ⟨0, _, Nat.zero_le _, rfl, (HS0.out _ 0).1⟩
    case round =>
      obtain ⟨k, r, hk, rfl, HJ⟩ := hrel
      clear HS0
      have hcb : wr.cell? ⟨w.heap.size, 0, none⟩ = some (.int .i64 p) := by rw [cell_of_row wr w.heap.size 0 _ _ (0, 0) HJ.out.box]; rfl
      by_cases hlt : k < xs.length
      · obtain ⟨-, -, -, -, hcell, -⟩ := HJ.out.pt.ints_at (by rw [HPL.out]; omega)
        have c5 := hcell k (by rw [HPL.out]; omega)
        obtain ⟨pb1, pb2⟩ := HPB.out k hlt
        clear hcell
        by_cases hkp : k = p
        · have e5 : ((k : Int) != (p : Int)) = false := by rw [bne_eq_false_iff_eq]; omega
          have hid := idx_mid (p := p) (i := k) (.inl hkp)
          have HJ' : Hid (JSt w wr g cp w2.heap.size xs p (k + 1) r) := ⟨HJ.out.box, HJ.out.pt, HJ.out.row, HJ.out.len, by rw [hid]; exact HJ.out.fill, HJ.out.below⟩
          clear hkp hid
          go_wp2_with fail
          go_roundw
          case rel => exact ⟨k + 1, r, by omega, by go_num, HJ'⟩
          case measure => simp [intOf]; omega
        · have e5 : ((k : Int) != (p : Int)) = true := by rw [bne_iff_ne]; omega
          by_cases hkp1 : k = p + 1
          · have e6 : ((k : Int) != (p : Int) + 1) = false := by rw [bne_eq_false_iff_eq]; omega
            have hid := idx_mid (p := p) (i := k) (.inr hkp1)
            have HJ' : Hid (JSt w wr g cp w2.heap.size xs p (k + 1) r) := ⟨HJ.out.box, HJ.out.pt, HJ.out.row, HJ.out.len, by rw [hid]; exact HJ.out.fill, HJ.out.below⟩
            clear hkp hkp1 hid
            go_wp2_with fail
            go_roundw
            case rel => exact ⟨k + 1, r, by omega, by go_num, HJ'⟩
            case measure => simp [intOf]; omega
          · have e6 : ((k : Int) != (p : Int) + 1) = true := by rw [bne_iff_ne]; omega
            have hsh : shI p k = (idx p k : Nat) ∧ idx p k < xs.length - 2 := by
              rcases Nat.lt_or_ge k p with h1 | h1
              · obtain ⟨_, b⟩ := idx_lo h1
                rw [shI_lo h1, b]
                exact ⟨rfl, by omega⟩
              · obtain ⟨_, b⟩ := idx_hi (p := p) (i := k) (by omega)
                rw [shI_hi (by omega), b]
                exact ⟨rfl, by omega⟩
            obtain ⟨hsh1, hsh2⟩ := hsh
            have HSH := Lib.hid hsh1
            obtain ⟨-, -, -, -, hcell, hfz⟩ := HJ.out.row.ints_at (by rw [HJ.out.len]; omega)
            have c6 := hcell (idx p k) (by rw [HJ.out.len]; omega)
            have f6 := hfz (idx p k)
            have i6 : (idx p k : Int) < (xs.length : Int) - 2 := by omega
            have HJ' := Lib.hid (HJ.out.step hgr1 hgr2 hgr3 hlt hkp hkp1 hp)
            clear hsh1 hcell hfz hkp hkp1
            go_wp2_with fail
            refine (shift2_any _ _ _ _ (by omega) (by omega) hcb).mono ?_
            rintro e w' ⟨he, rfl⟩
            rw [HSH.out] at he
            subst he
            go_wp2_with fail
            refine (shift2_any _ _ _ _ (by omega) (by omega) hcb).mono ?_
            rintro e w' ⟨rfl, rfl⟩
            go_wp2_with fail
            go_roundw
            case rel => first | exact ⟨k + 1, _, by omega, by go_num, HJ'⟩ | ((repeat apply Exists.intro); exact ⟨⟨k + 1, _, by omega, by go_num, HJ'⟩, rfl⟩)
            case measure => simp [intOf]; omega
      · have hkl : k = xs.length := by omega
        have hr : r = joinL xs p := by
          apply ext_gi
          · rw [HJ.out.len, joinL_length]
          · intro j hj
            exact HJ.out.fill j (by rw [hkl, idx_end hp, ← HJ.out.len]; exact hj)
        have hrow : OI wr w.heap.size (.slice (some ⟨w2.heap.size, 0, none⟩) (xs.length - 2) (xs.length - 2)) (joinL xs p) := by rw [← hr]; exact HJ.out.row
        have HROW := Lib.hid hrow
        have hbel := HJ.out.below
        clear hkl hr hrow hcb
        go_wp2_with fail
        go_ret3
        exact ⟨_, by rw [HCI.out]; rfl, HROW.out, hbel⟩

end Go.Proofs.Ytmmcpahaekpknaa
