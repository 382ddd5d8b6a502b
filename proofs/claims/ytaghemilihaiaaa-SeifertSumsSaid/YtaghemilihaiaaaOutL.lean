/-
  The contract of the law's out; what Genus answers.
-/
import Derived.Test.YtaghemilihaiaaaSum
import Derived.Test.YtaghemilihaiaaaSeif
namespace Go.Proofs.Ytaghemilihaiaaa
open Go.RowKit

section
variable (A1 A2 : Option Addr) (c1 c2 : Nat) (sg mt : List Int) (L : Int) (w : World) (S : Nat → Prop) (hx : RI w S A1 sg) (hy : RI w S A2 mt) (hS : ∀ b, S b → b < w.heap.size)
include hx hy hS
theorem dout_yes (h : Nat) (hh : h < mt.length) (hd : IsD sg mt L) :
    Calls Try.prog 54 #[.agg #[.slice A1 sg.length c1, .slice A2 mt.length c2, .int .i64 L], .int .i64 h] w fun e w' => e = .returned (.bool (outB sg h)) ∧ Below w.heap.size w w' := by
  have HD := Lib.hid (DBox.start (c1 := c1) (c2 := c2) (L := L) S hx hy hS)
  have H := Lib.hid hd
  obtain ⟨h1, h2, -⟩ := hd
  have hm1 : sg.length ≤ maxLen := by unfold maxLen; omega
  have hm2 : mt.length ≤ maxLen := by unfold maxLen; omega
  have HN := Lib.hid h2
  clear hx hy hS h2
  go_enter Try.func54, Try.ntmps54
  go_wp2_with fail
  refine (dvalid_is _ true HD.out.rs HD.out.rm (fun _ h => h) hm1 hm2 (decide_eq_true H.out)).mono ?_
  rintro e w1 ⟨rfl, hb1⟩
  have HD1 := Lib.hid (HD.out.below hb1)
  have k0 := HD1.out.c0
  have k1 := HD1.out.c1
  have k2 := HD1.out.c2
  have HB1 := Lib.hid (below_box (o := .cells #[.slice A1 sg.length c1, .slice A2 mt.length c2, .int .i64 L] 24) (by simpa using hb1))
  have hs1 := HB1.out.size
  clear hb1 HD
  go_wp2_with fail
  refine (outgoing_any A1 A2 c1 c2 mt.length sg L _ h _ (· < w1.heap.size) HD1.out.rs (fun _ h => h) (by omega) rfl (by have := HN.out; omega)).mono ?_
  rintro e w2 ⟨rfl, hb2⟩
  have HB2 := Lib.hid (HB1.out.trans (hb2.mono hs1))
  clear hb2 k0 k1 k2
  go_wp2_with fail
  go_ret
  exact ⟨rfl, HB2.out⟩
/-- what Genus answers -/
def GenA (sg mt : List Int) (L n : Int) (e : Nat) : Prop := (e = 0 ∧ IsD sg mt L ∧ (graphL mt sg.length).length + L = 1 ∧ n = (2 - ((strandsL sg mt).length + L) - (((circL sg mt).length : Int) + L - sg.length)).tdiv 2) ∨ (e ≠ 0 ∧ ¬ (IsD sg mt L ∧ (graphL mt sg.length).length + L = 1))
theorem genus_all (hm1 : sg.length ≤ maxLen) (hm2 : mt.length ≤ maxLen) :
    Calls Try.prog 18 #[.agg #[.slice A1 sg.length c1, .slice A2 mt.length c2, .int .i64 L]] w fun e w' => ∃ (n : Int) (r : Nat), e = .returned (.tuple #[.int .i64 n, .int .i64 (r : Int)]) ∧ GenA sg mt L n r ∧ Below w.heap.size w w' := by
  by_cases hd : IsD sg mt L
  · have h0 := hd.2.2.1
    by_cases h1 : (graphL mt sg.length).length + L = 1
    · refine (sgenus_ok A1 A2 c1 c2 sg mt L w S hx hy hS hd h1).mono ?_
      rintro e w' ⟨rfl, hb⟩
      exact ⟨_, 0, rfl, .inl ⟨rfl, hd, h1, rfl⟩, hb⟩
    · by_cases h2 : (graphL mt sg.length).length + L = 0
      · refine (sgenus_empty A1 A2 c1 c2 sg mt L w S hx hy hS hd h2).mono ?_
        rintro e w' ⟨rfl, hb⟩
        exact ⟨_, 8, rfl, .inr ⟨by decide, fun h => h1 h.2⟩, hb⟩
      · refine (sgenus_split A1 A2 c1 c2 sg mt L w S hx hy hS hd (by omega)).mono ?_
        rintro e w' ⟨rfl, hb⟩
        exact ⟨_, 17, rfl, .inr ⟨by decide, fun h => h1 h.2⟩, hb⟩
  · refine (sgenus_no A1 A2 c1 c2 sg mt L w S hx hy hS hm1 hm2 hd).mono ?_
    rintro e w' ⟨rfl, hb⟩
    exact ⟨_, 1, rfl, .inr ⟨by decide, fun h => hd h.1⟩, hb⟩
/-- an end that out answers -/
def EndN (sg mt : List Int) (x : Int) : Prop := (sg.length = 0 ∧ x = -1) ∨ ∃ h : Nat, x = h ∧ h < mt.length ∧ outB sg h = true
set_option maxHeartbeats 8000000 in
theorem lout_any (k : Int) (hk : 0 ≤ k ∧ k ≤ 255) (hd : IsD sg mt L) :
    Calls Try.prog 29 #[.agg #[.slice A1 sg.length c1, .slice A2 mt.length c2, .int .i64 L], .int .u8 k] w fun e w' => ∃ x : Int, e = .returned (.int .i64 x) ∧ EndN sg mt x ∧ Below w.heap.size w w' := by
  have HD := Lib.hid (DBox.start (c1 := c1) (c2 := c2) (L := L) S hx hy hS)
  have H := Lib.hid hd
  have HB0 := Lib.hid ((Below.refl w.heap.size w).alloc (Nat.le_refl _) (.cells #[.slice A1 sg.length c1, .slice A2 mt.length c2, .int .i64 L] 24))
  have hn := hd.1
  have HN := Lib.hid hd.2.1
  have hm : mt.length ≤ 256 := by have := hd.2.1; omega
  have HO2 : Hid (0 < sg.length → outB sg 2 = true) := Lib.hid fun h => (outB_slots hd.2.2.2.2.1 h).2.1
  clear hx hy hS hd
  go_enter Try.func29, Try.ntmps29
  go_wp2_with fail
  generalize hW : w.alloc (.cells #[.slice A1 sg.length c1, .slice A2 mt.length c2, .int .i64 L] 24) = w0 at *
  clear hW
  have hs0 := HB0.out.size
  go_loopw [5, 6] (fun v i' wr => ∃ (i : Nat) (xs : List Int), i ≤ mt.length ∧ i' = .int .i64 i ∧ xs.length ≤ i ∧ Hid (Below w0.heap.size w0 wr) ∧ Hid (OI wr w0.heap.size v xs) ∧ Hid (∀ j, j < xs.length → ∃ h : Nat, gi xs j = h ∧ h < mt.length ∧ outB sg h = true) ∧ Hid (2 < i → 0 < sg.length → 0 < xs.length)) (fun _ i _ => mt.length - (intOf i).toNat)
  case atStart => exact ⟨0, [], Nat.zero_le _, rfl, Nat.zero_le _, Below.refl _ _, OR.nil _ _, fun j hj => absurd hj (Nat.not_lt_zero _), fun h => absurd h (by omega)⟩
  case round =>
    obtain ⟨i, xs, hi, rfl, hxl, HB, HO, HP, HQ⟩ := hrel
    have HDr := Lib.hid (HD.out.below HB.out)
    have k0 := HDr.out.c0
    have k1 := HDr.out.c1
    have k2 := HDr.out.c2
    by_cases hlt : i < mt.length
    · go_wp2_with fail
      refine (dout_yes A1 A2 c1 c2 sg mt L wr (· < wr.heap.size) HDr.out.rs HDr.out.rm (fun _ h => h) i hlt H.out).mono ?_
      rintro e w1 ⟨rfl, hb1⟩
      have HB1 := Lib.hid (HB.out.trans (hb1.mono HB.out.size))
      have HO1 := Lib.hid (HO.out.below hb1 (Nat.le_refl _))
      have hs1 := HB1.out.size
      clear hb1 k0 k1 k2 HDr HB HO
      by_cases ho : outB sg i = true
      · rw [ho]
        have HLN : Hid (xs.length < 1099511627776) := Lib.hid (by omega)
        go_wp2_with (at_builtin; refine app1 HO1.out HLN.out hs1 rfl rfl Try.underlying22 rfl rfl ?_; intro v' w2 ho2 hg hob)
        have HB2 := Lib.hid (HO1.out.grown_below HB1.out hs1 _ hg)
        have HO2' := Lib.hid ho2
        have HP2 : Hid (∀ j, j < (xs ++ [(i : Int)]).length → ∃ h : Nat, gi (xs ++ [(i : Int)]) j = h ∧ h < mt.length ∧ outB sg h = true) := Lib.hid fun j hj => by
          rw [List.length_append] at hj
          by_cases e : j < xs.length
          · rw [gi_apA e]; exact HP.out j e
          · have : j = xs.length := by simp at hj; omega
            subst this
            exact ⟨i, by rw [gi_append_at], hlt, ho⟩
        clear ho2 hg hob
        go_roundw
        case rel => exact ⟨i + 1, _, by omega, by go_num, by rw [List.length_append]; simp; omega, HB2, HO2', HP2, Lib.hid fun _ _ => by rw [List.length_append]; simp⟩
        case measure => simp [intOf]; omega
      · have hof := Bool.eq_false_iff.2 ho
        have HQ2 : Hid (2 < i + 1 → 0 < sg.length → 0 < xs.length) := Lib.hid fun h1 h2 => by
          by_cases e : i = 2
          · subst e; exact absurd (HO2.out h2) ho
          · exact HQ.out (by omega) h2
        rw [hof]
        go_wp2_with fail
        go_roundw
        case rel => exact ⟨i + 1, xs, by omega, by go_num, by omega, HB1, HO1, HP, HQ2⟩
        case measure => simp [intOf]; omega
    · obtain rfl : i = mt.length := by omega
      have HBF := Lib.hid (HB0.out.trans (HB.out.mono hs0))
      obtain ⟨Au, cu, rfl, -, -, -⟩ := HO.out.shape
      by_cases h0 : xs.length = 0
      · have HS0 : Hid (sg.length = 0) := Lib.hid (by
          rcases Nat.eq_zero_or_pos sg.length with h | h
          · exact h
          · have := HQ.out (by have := HN.out; omega) h
            omega)
        obtain rfl : xs = [] := List.eq_nil_of_length_eq_zero h0
        go_wp2_with fail
        go_ret
        exact ⟨_, rfl, .inl ⟨HS0.out, rfl⟩, HBF.out⟩
      · have hp : 0 < xs.length := by omega
        obtain ⟨g, c', e5, -, -, -, -, -, -⟩ := HO.out.block hp
        injection e5 with e5 _ _
        subst e5
        obtain ⟨t, ht, htl⟩ : ∃ t : Nat, k % (xs.length : Int) = t ∧ t < xs.length := ⟨(k % (xs.length : Int)).toNat, by have h1 := Int.emod_nonneg k (b := (xs.length : Int)) (by omega); have h2 := Int.emod_lt_of_pos k (b := (xs.length : Int)) (by omega); omega⟩
        have ht2 : k.tmod (xs.length : Int) = t := by rw [Int.tmod_eq_emod_of_nonneg hk.1]; exact ht
        have HP3 := Lib.hid (HP.out t htl)
        obtain ⟨q0, q1⟩ := row_at HO.out htl
        obtain ⟨n, hn'⟩ : ∃ n, xs.length = n := ⟨_, rfl⟩
        rw [hn'] at ht ht2 htl hp h0 hxl
        have y1 : IntKind.i64.wrap k = k := IntWalk.i64_in _ (by omega)
        have z1 : ((n : Int) == 0) = false := by rw [beq_eq_false_iff_ne]; omega
        rw [hn']
        clear hn' HQ HP HO
        go_wp2_with fail
        go_ret
        exact ⟨_, rfl, .inr HP3.out, HBF.out⟩
end
end Go.Proofs.Ytaghemilihaiaaa

