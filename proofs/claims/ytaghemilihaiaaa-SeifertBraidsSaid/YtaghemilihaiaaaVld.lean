/-
  The contract of diagram.Valid: it tells whether a diagram is valid.
-/
import Derived.Test.YtaghemilihaiaaaSph
import Derived.Deep.RegionHeld3
namespace Go.Proofs.Ytaghemilihaiaaa
open Go.RowKit

/-- the mates and directions are right below k -/
def Inv2 (sg mt : List Int) (k : Nat) : Prop := ∀ h, h < k → (0 ≤ gi mt h ∧ gi mt h < mt.length ∧ gi mt h ≠ h ∧ gi mt (gn mt h) = h) ∧ outB sg h ≠ outB sg (gn mt h)
theorem inv2_step {sg mt : List Int} {k : Nat} (h0 : Inv2 sg mt k) (h1 : 0 ≤ gi mt k) (h2 : gi mt k < mt.length) (h3 : gi mt k ≠ k) (h4 : gi mt (gn mt k) = k) (h5 : outB sg k ≠ outB sg (gn mt k)) : Inv2 sg mt (k + 1) := by
  intro i hi
  rcases Nat.lt_or_eq_of_le (Nat.le_of_lt_succ hi) with h | rfl
  · exact h0 i h
  · exact ⟨⟨h1, h2, h3, h4⟩, h5⟩
theorem inv2_end {sg mt : List Int} (h : Inv2 sg mt mt.length) : InvM mt ∧ OutM sg mt := ⟨fun i hi => (h i hi).1, fun i hi => (h i hi).2⟩
theorem not_isD {sg mt : List Int} {L : Int} {k : Nat} (hk : k < mt.length) (h : gi mt k < 0 ∨ (mt.length : Int) ≤ gi mt k ∨ gi mt k = k ∨ gi mt (gn mt k) ≠ k ∨ outB sg k = outB sg (gn mt k)) : decide (IsD sg mt L) = false := by
  refine decide_eq_false ?_
  rintro ⟨_, _, _, _, _, hI, hO, _⟩
  obtain ⟨h1, h2, h3, h4⟩ := hI k hk
  have h5 := hO k hk
  rcases h with h | h | h | h | h
  · omega
  · omega
  · exact h3 h
  · exact h h4
  · exact h5 h

/-- what stays while a diagram's box is read -/
theorem sd_mk {w w' : World} {A1 A2 : Option Addr} {n1 c1 n2 c2 : Nat} {L : Int} (hb : Below (w.heap.size + 1) (w.alloc (.cells #[.slice A1 n1 c1, .slice A2 n2 c2, .int .i64 L] 24)) w') :
    Hid (Below (w.heap.size + 1) (w.alloc (.cells #[.slice A1 n1 c1, .slice A2 n2 c2, .int .i64 L] 24)) w') ∧
    w'.cell? ⟨w.heap.size, 0, none⟩ = some (.slice A1 n1 c1) ∧ w'.cell? ⟨w.heap.size, 1, none⟩ = some (.slice A2 n2 c2) ∧ w'.cell? ⟨w.heap.size, 2, none⟩ = some (.int .i64 L) := ⟨hb, box_cells hb⟩
theorem sd_next {w w' w'' : World} {A1 A2 : Option Addr} {n1 c1 n2 c2 : Nat} {L : Int} (hb : Hid (Below (w.heap.size + 1) (w.alloc (.cells #[.slice A1 n1 c1, .slice A2 n2 c2, .int .i64 L] 24)) w')) (h : Below w'.heap.size w' w'') :
    Hid (Below (w.heap.size + 1) (w.alloc (.cells #[.slice A1 n1 c1, .slice A2 n2 c2, .int .i64 L] 24)) w'') ∧
    w''.cell? ⟨w.heap.size, 0, none⟩ = some (.slice A1 n1 c1) ∧ w''.cell? ⟨w.heap.size, 1, none⟩ = some (.slice A2 n2 c2) ∧ w''.cell? ⟨w.heap.size, 2, none⟩ = some (.int .i64 L) :=
  sd_mk (hb.out.trans (h.mono (by have := hb.out.size; simpa using this)))

theorem bout_size {w w' : World} {o : Obj} (hb : Hid (Below (w.heap.size + 1) (w.alloc o) w')) : w.heap.size + 1 ≤ w'.heap.size := by
  have := hb.out.size
  simpa using this

theorem out_at {w W : World} {A1 A2 : Option Addr} {c1 c2 ml : Nat} {sg : List Int} {L a : Int} {h : Nat} (HX : Hid (RI (w.alloc (.cells #[.slice A1 sg.length c1, .slice A2 ml c2, .int .i64 L] 24)) (· < w.heap.size + 1) A1 sg))
    (hB : Hid (Below (w.heap.size + 1) (w.alloc (.cells #[.slice A1 sg.length c1, .slice A2 ml c2, .int .i64 L] 24)) W)) (hm : sg.length ≤ 64) (ha : a = h) (hh : h < 4 * sg.length) {r : Bool} (hr : Hid (outB sg h = r)) :
    Calls Try.prog 45 #[.agg #[.slice A1 sg.length c1, .slice A2 ml c2, .int .i64 L], .int .i64 a] W fun e w' => e = .returned (.bool r) ∧ Below W.heap.size W w' := by
  rw [← hr.out]
  exact outgoing_any A1 A2 c1 c2 ml sg L a h W (· < w.heap.size + 1) (HX.out.below hB.out) (fun b hb => by have := bout_size hB; omega) (by omega) ha hh

set_option maxRecDepth 100000 in
set_option maxHeartbeats 4000000 in
theorem dvalid_any (A1 A2 : Option Addr) (c1 c2 : Nat) (sg mt : List Int) (L : Int) (w : World) (S : Nat → Prop) (hx : RI w S A1 sg) (hy : RI w S A2 mt) (hS : ∀ b, S b → b < w.heap.size) (hm1 : sg.length ≤ maxLen) (hm2 : mt.length ≤ maxLen) :
    Calls Try.prog 24 #[.agg #[.slice A1 sg.length c1, .slice A2 mt.length c2, .int .i64 L]] w fun e w' => e = .returned (.bool (decide (IsD sg mt L))) ∧ Below w.heap.size w w' := by
  unfold maxLen at hm1 hm2
  have hb := Lib.hid ((Below.refl w.heap.size w).alloc (Nat.le_refl _) (.cells #[.slice A1 sg.length c1, .slice A2 mt.length c2, .int .i64 L] 24))
  by_cases h64 : sg.length ≤ 64
  case neg =>
    have H := Lib.hid (show decide (IsD sg mt L) = false from decide_eq_false fun h => h64 h.1)
    have h1 : (64 : Int) < sg.length := by omega
    clear hx hy h64
    go_enter Try.func24, Try.ntmps24
    go_wp2_with fail
    go_ret
    exact ⟨ret_bool H.out.symm, hb.out⟩
  case pos =>
  have h1 : ¬ (64 : Int) < sg.length := by omega
  by_cases hml : mt.length = 4 * sg.length
  case neg =>
    have H := Lib.hid (show decide (IsD sg mt L) = false from decide_eq_false fun h => hml h.2.1)
    have h2 : ((mt.length : Int) != 4 * (sg.length : Int)) = true := by rw [bne_iff_ne]; omega
    clear hx hy hml
    go_enter Try.func24, Try.ntmps24
    go_wp2_with fail
    go_ret
    exact ⟨ret_bool H.out.symm, hb.out⟩
  case pos =>
  have h2 : ((mt.length : Int) != 4 * (sg.length : Int)) = false := by rw [bne_eq_false_iff_eq]; omega
  by_cases hL0 : L < 0
  · have H := Lib.hid (show decide (IsD sg mt L) = false from decide_eq_false fun h => by have := h.2.2.1; omega)
    clear hx hy hml
    go_enter Try.func24, Try.ntmps24
    go_wp2_with fail
    go_ret
    exact ⟨ret_bool H.out.symm, hb.out⟩
  by_cases hL1 : (64 : Int) < L
  · have H := Lib.hid (show decide (IsD sg mt L) = false from decide_eq_false fun h => by have := h.2.2.2.1; omega)
    clear hx hy hml
    go_enter Try.func24, Try.ntmps24
    go_wp2_with fail
    go_ret
    exact ⟨ret_bool H.out.symm, hb.out⟩
  have HX := Lib.hid (show RI (w.alloc (.cells #[.slice A1 sg.length c1, .slice A2 mt.length c2, .int .i64 L] 24)) (· < w.heap.size + 1) A1 sg from (hx.keep fun b hb => Below.heap_alloc w _ b (hS b hb)).imp fun b hb => by have := hS b hb; omega)
  have HY := Lib.hid (show RI (w.alloc (.cells #[.slice A1 sg.length c1, .slice A2 mt.length c2, .int .i64 L] 24)) (· < w.heap.size + 1) A2 mt from (hy.keep fun b hb => Below.heap_alloc w _ b (hS b hb)).imp fun b hb => by have := hS b hb; omega)
  have HML := Lib.hid hml
  clear hx hy hS hml
  go_enter Try.func24, Try.ntmps24
  go_wp2_with fail
  go_loop [34] (fun i => ∃ k : Nat, k ≤ sg.length ∧ i = .int .i64 k ∧ Hid (∀ c, c < k → gi sg c = 1 ∨ gi sg c = -1)) (fun i => sg.length - (intOf i).toNat)
  case atStart => exact ⟨0, Nat.zero_le _, rfl, by intro c hc; omega⟩
  case round =>
    obtain ⟨k, hk, rfl, HS⟩ := hrel
    by_cases hlt : k < sg.length
    · obtain ⟨b, off, rfl, hbb, hc⟩ := HX.out.at_ hlt
      have k1 := hc k hlt
      clear hc
      by_cases g1 : gi sg k = 1
      · have e1 : (gi sg k != 1) = false := by rw [bne_eq_false_iff_eq]; exact g1
        have HS' : Hid (∀ c, c < k + 1 → gi sg c = 1 ∨ gi sg c = -1) := by
          intro c hc
          rcases Nat.lt_or_eq_of_le (Nat.le_of_lt_succ hc) with h | rfl
          · exact HS.out c h
          · exact .inl g1
        clear g1
        go_wp2_with fail
        go_round
        case rel => exact ⟨k + 1, by omega, by go_num, HS'⟩
        case measure => simp [intOf]; omega
      have e1 : (gi sg k != 1) = true := by rw [bne_iff_ne]; exact g1
      by_cases g2 : gi sg k = -1
      · have e2 : (gi sg k != -1) = false := by rw [bne_eq_false_iff_eq]; exact g2
        have HS' : Hid (∀ c, c < k + 1 → gi sg c = 1 ∨ gi sg c = -1) := by
          intro c hc
          rcases Nat.lt_or_eq_of_le (Nat.le_of_lt_succ hc) with h | rfl
          · exact HS.out c h
          · exact .inr g2
        clear g1 g2
        go_wp2_with fail
        go_round
        case rel => exact ⟨k + 1, by omega, by go_num, HS'⟩
        case measure => simp [intOf]; omega
      have e2 : (gi sg k != -1) = true := by rw [bne_iff_ne]; exact g2
      have H := Lib.hid (show decide (IsD sg mt L) = false from decide_eq_false fun h => by
        rcases h.2.2.2.2.1 k hlt with h | h
        · exact g1 h
        · exact g2 h)
      clear g1 g2
      go_wp2_with fail
      go_ret
      exact ⟨ret_bool H.out.symm, hb.out⟩
    · have HSG : Hid (SgM sg) := fun c hc => HS.out c (by omega)
      clear HS
      go_wp2_with fail
      go_loopw [48] (fun i wr => ∃ k : Nat, k ≤ mt.length ∧ i = .int .i64 k ∧ Hid (Below (w.heap.size + 1) (w.alloc (.cells #[.slice A1 sg.length c1, .slice A2 mt.length c2, .int .i64 L] 24)) wr) ∧ Hid (Inv2 sg mt k)) (fun i _ => mt.length - (intOf i).toNat)
      case atStart => exact ⟨0, Nat.zero_le _, rfl, Below.refl _ _, by intro h hh; omega⟩
      case round =>
        clear hk hlt
        obtain ⟨k, hk, rfl, HB, HI⟩ := hrel
        obtain ⟨m0, m1, m2⟩ := box_cells HB.out
        have hw0 := bout_size HB
        by_cases hlt : k < mt.length
        · obtain ⟨b, off, rfl, hbb, hc⟩ := (HY.out.below HB.out).at_ hlt
          have k1 := hc k hlt
          by_cases g1 : gi mt k < 0
          · have H := Lib.hid (not_isD (sg := sg) (L := L) hlt (.inl g1))
            have hbf := below_box HB.out
            clear hc
            go_wp2_with fail
            go_ret
            exact ⟨ret_bool H.out.symm, hbf⟩
          have HML' := HML.out
          by_cases g2 : gi mt k < 4 * (sg.length : Int)
          case neg =>
            have H := Lib.hid (not_isD (sg := sg) (L := L) hlt (.inr (.inl (by omega))))
            have hbf := below_box HB.out
            clear hc HML'
            go_wp2_with fail
            go_ret
            exact ⟨ret_bool H.out.symm, hbf⟩
          have g2' : gi mt k < (mt.length : Int) := by omega
          by_cases g3 : gi mt k = k
          · have H := Lib.hid (not_isD (sg := sg) (L := L) hlt (.inr (.inr (.inl g3))))
            have g3' : (gi mt k == (k : Int)) = true := by rw [beq_iff_eq]; exact g3
            have hbf := below_box HB.out
            clear hc HML' g3
            go_wp2_with fail
            go_ret
            exact ⟨ret_bool H.out.symm, hbf⟩
          have g3' : (gi mt k == (k : Int)) = false := by rw [beq_eq_false_iff_ne]; exact g3
          have k2 := hc (gn mt k) (by unfold gn; omega)
          have k2' : wr.cell? ⟨b, off + (gi mt k).toNat, none⟩ = some (.int .i64 (gi mt (gn mt k))) := k2
          by_cases g4 : gi mt (gn mt k) = k
          case neg =>
            have H := Lib.hid (not_isD (sg := sg) (L := L) hlt (.inr (.inr (.inr (.inl g4)))))
            have g4' : (gi mt (gn mt k) != (k : Int)) = true := by rw [bne_iff_ne]; exact g4
            have hbf := below_box HB.out
            clear hc HML' g3 g4 k2
            go_wp2_with fail
            go_ret
            exact ⟨ret_bool H.out.symm, hbf⟩
          have g4' : (gi mt (gn mt k) != (k : Int)) = false := by rw [bne_eq_false_iff_eq]; exact g4
          have G1 := Lib.hid g1
          have G2 := Lib.hid g2'
          have G3 := Lib.hid g3
          have G4 := Lib.hid g4
          have hgn : gi mt k = ((gn mt k : Nat) : Int) := by unfold gn; omega
          have hgl : gn mt k < 4 * sg.length := by omega
          have HGN := Lib.hid hgn
          clear hc HML' g3 g4 k2 hgn
          go_wp2_with fail
          have hk4 : k < 4 * sg.length := by have := HML.out; omega
          have HBd : Hid (Below (w.heap.size + 1) (w.alloc (.cells #[.slice A1 sg.length c1, .slice (some ⟨b, off, none⟩) mt.length c2, .int .i64 L] 24)) wr.drew) := HB.out.drew
          obtain ⟨x, hx⟩ : ∃ x, outB sg k = x := ⟨_, rfl⟩
          obtain ⟨y, hy⟩ : ∃ y, outB sg (gn mt k) = y := ⟨_, rfl⟩
          have HXB := Lib.hid hx
          have HYB := Lib.hid hy
          clear k1 k2' m0 m1 m2 hx hy
          go_region_held3 (fun w' => Hid (Below (w.heap.size + 1) (w.alloc (.cells #[.slice A1 sg.length c1, .slice (some ⟨b, off, none⟩) mt.length c2, .int .i64 L] 24)) w') ∧
              w'.cell? ⟨w.heap.size, 0, none⟩ = some (.slice A1 sg.length c1) ∧ w'.cell? ⟨w.heap.size, 1, none⟩ = some (.slice (some ⟨b, off, none⟩) mt.length c2) ∧ w'.cell? ⟨w.heap.size, 2, none⟩ = some (.int .i64 L))
            (first | exact sd_mk HBd.out | exact sd_next (by first | assumption | exact And.left (by assumption)) hb9)
            (first
              | (go_at_call 45; ((with_reducible refine (out_at (a := (k : Int)) (h := k) HX (by first | assumption | exact And.left (by assumption)) h64 rfl hk4 HXB).mono ?_); rintro e9 w9 ⟨rfl, hb9⟩))
              | (go_at_call 45; ((with_reducible refine (out_at (a := gi mt k) (h := gn mt k) HX (by first | assumption | exact And.left (by assumption)) h64 HGN.out hgl HYB).mono ?_); rintro e9 w9 ⟨rfl, hb9⟩)))
          have HB9 : Hid (Below (w.heap.size + 1) (w.alloc (.cells #[.slice A1 sg.length c1, .slice (some ⟨b, off, none⟩) mt.length c2, .int .i64 L] 24)) w9) := by first | assumption | exact And.left (by assumption)
          clear hb9
          by_cases g5 : x = y
          · have H := Lib.hid (not_isD (sg := sg) (L := L) hlt (.inr (.inr (.inr (.inr (by rw [HXB.out, HYB.out]; exact g5))))))
            have hbf := Lib.hid (below_box HB9.out)
            subst g5
            clear HYB
            cases x
            all_goals
              go_wp2_with fail
              go_ret
              exact ⟨ret_bool H.out.symm, hbf.out⟩
          · have HI' := Lib.hid (inv2_step HI.out G1.out G2.out G3.out G4.out (by rw [HXB.out, HYB.out]; exact g5))
            obtain rfl : y = !x := by cases x <;> cases y <;> simp_all
            clear g5
            cases x
            all_goals
              simp only [Bool.not_true, Bool.not_false]
              go_wp2_with fail
              go_roundw
              case rel => exact ⟨k + 1, by omega, by go_num, HB9, HI'⟩
              case measure => simp [intOf]; omega
        · obtain rfl : mt.length = k := by omega
          obtain ⟨hI, hO⟩ := inv2_end HI.out
          have HI2 := Lib.hid hI
          have HO2 := Lib.hid hO
          clear hI hO HI
          go_wp2_with fail
          refine (spherical_any A1 A2 c1 c2 sg.length mt L wr (· < w.heap.size + 1) (HY.out.below HB.out) (fun b hb => by have := bout_size HB; omega) HML.out HI2.out (by omega)).mono ?_
          rintro e w5 ⟨rfl, hb5⟩
          have hbf := Lib.hid ((below_box HB.out).trans (hb5.mono (by omega)))
          have hd : decide (Sph mt sg.length) = decide (IsD sg mt L) := by
            rw [Bool.eq_iff_iff, decide_eq_true_eq, decide_eq_true_eq]
            exact ⟨fun h => ⟨h64, HML.out, by omega, by omega, HSG.out, HI2.out, HO2.out, h⟩, fun h => h.2.2.2.2.2.2.2⟩
          have H := Lib.hid hd
          clear hd
          go_wp2_with fail
          go_ret
          exact ⟨ret_bool H.out, hbf.out⟩
end Go.Proofs.Ytaghemilihaiaaa

