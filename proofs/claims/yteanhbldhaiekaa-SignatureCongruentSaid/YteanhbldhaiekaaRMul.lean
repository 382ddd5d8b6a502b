/-
  The contracts of the reference's Mul, Ints and Lists.
-/
import Derived.Test.YteanhbldhaiekaaL39
import Derived.Test.YteanhbldhaiekaaLR
namespace Go.Proofs.Yteanhbldhaiekaa
open Go.RowKit

theorem getD_app_lt {xa xb : List (List Int)} {i : Nat} (h : i < xa.length) : (xa ++ xb).getD i [] = xa.getD i [] := by
  rw [List.getD_eq_getElem?_getD, List.getD_eq_getElem?_getD, List.getElem?_append_left h]
theorem getD_app_ge {xa xb : List (List Int)} (i : Nat) : (xa ++ xb).getD (xa.length + i) [] = xb.getD i [] := by
  rw [List.getD_eq_getElem?_getD, List.getD_eq_getElem?_getD, List.getElem?_append_right (Nat.le_add_right _ _), Nat.add_sub_cancel_left]
theorem sm1_app {xa xb : List (List Int)} : Sm1 (xa ++ xb) ↔ Sm1 xa ∧ Sm1 xb := by
  constructor
  · intro h
    refine ⟨fun i hi j hj => ?_, fun i hi j hj => ?_⟩
    · have := h i (by rw [List.length_append]; omega) j (by unfold rowL; rw [getD_app_lt hi]; exact hj)
      unfold eI at this ⊢
      rwa [getD_app_lt hi] at this
    · have := h (xa.length + i) (by rw [List.length_append]; omega) j (by unfold rowL; rw [getD_app_ge]; exact hj)
      unfold eI at this ⊢
      rwa [getD_app_ge] at this
  · rintro ⟨h1, h2⟩ i hi j hj
    rw [List.length_append] at hi
    by_cases hlt : i < xa.length
    · have := h1 i hlt j (by unfold rowL at hj ⊢; rwa [getD_app_lt hlt] at hj)
      unfold eI at this ⊢
      rwa [getD_app_lt hlt]
    · obtain ⟨t, rfl⟩ : ∃ t, i = xa.length + t := ⟨i - xa.length, by omega⟩
      have := h2 t (by omega) j (by unfold rowL at hj ⊢; rwa [getD_app_ge] at hj)
      unfold eI at this ⊢
      rwa [getD_app_ge]
/-- a row of the product, as far as k; the rows -/
def prR (xa xb : List (List Int)) (i k : Nat) : List Int := (List.range k).map fun j => prM xa xb i j
def prRs (xa xb : List (List Int)) (d i : Nat) : List (List Int) := (List.range i).map fun i => prR xa xb i d
theorem prR_succ (xa xb : List (List Int)) (i k : Nat) : prR xa xb i (k + 1) = prR xa xb i k ++ [prM xa xb i k] := by simp [prR, List.range_succ]
theorem prR_len (xa xb : List (List Int)) (i k : Nat) : (prR xa xb i k).length = k := by simp [prR]
theorem prRs_succ (xa xb : List (List Int)) (d i : Nat) : prRs xa xb d (i + 1) = prRs xa xb d i ++ [prR xa xb i d] := by simp [prRs, List.range_succ]
theorem prRs_len (xa xb : List (List Int)) (d i : Nat) : (prRs xa xb d i).length = i := by simp [prRs]
theorem prRs_mk (xa xb : List (List Int)) (d i : Nat) : prRs xa xb d i = mkL i d (prM xa xb) := rfl
section
variable {w : World} {A B : Option Addr} {n m ca cb : Nat} {xa xb : List (List Int)}
/-- two matrices one behind the other -/
theorem am_app {w0 w' : World} {v : Value} {us us2 : List Value} (hn : xa.length = n) (hl : us.length = n) (hl2 : us2.length = m) (hm : xb.length = m)
    (hu : ∀ j (hj : j < us.length), ∃ Aj cj, us[j] = .slice Aj (xa.getD j []).length cj ∧ RI w0 (· < w0.heap.size) Aj (xa.getD j []) ∧ (xa.getD j []).length ≤ maxLen)
    (hu2 : ∀ j (hj : j < us2.length), ∃ Aj cj, us2[j] = .slice Aj (xb.getD j []).length cj ∧ RI w0 (· < w0.heap.size) Aj (xb.getD j []) ∧ (xb.getD j []).length ≤ maxLen)
    (hb : Below w0.heap.size w0 w') (hrow : OR 33 id w' w0.heap.size v (us ++ us2))
    (ra : ∀ i j, i < n → j < rowL xa i → -9223372036854775808 ≤ eI xa i j ∧ eI xa i j ≤ 9223372036854775807) (rb : ∀ i j, i < m → j < rowL xb i → -9223372036854775808 ≤ eI xb i j ∧ eI xb i j ≤ 9223372036854775807) :
    ∃ N A c, N = n + m ∧ v = .slice A N c ∧ AM w' A N (xa ++ xb) := by
  subst hn hm
  have h : LRv w' w0.heap.size v (us ++ us2) (xa ++ xb) := by
    refine LRv.copy (n := xa.length + xb.length) rfl (by rw [List.length_append]) (by rw [List.length_append]; omega) (fun j hj => ?_) hb hrow
    rw [List.length_append] at hj
    by_cases hlt : j < us.length
    · obtain ⟨Aj, cj, e, h1, h2⟩ := hu j hlt
      refine ⟨Aj, cj, ?_, ?_, ?_⟩
      · rw [List.getElem_append_left hlt, getD_app_lt (by omega)]; exact e
      · rw [getD_app_lt (by omega)]; exact h1
      · rw [getD_app_lt (by omega)]; exact h2
    · obtain ⟨t, rfl⟩ : ∃ t, j = xa.length + t := ⟨j - xa.length, by omega⟩
      obtain ⟨Aj, cj, e, h1, h2⟩ := hu2 t (by omega)
      refine ⟨Aj, cj, ?_, ?_, ?_⟩
      · rw [List.getElem_append_right (by omega), getD_app_ge, ← e]
        congr 1
        omega
      · rw [getD_app_ge]; exact h1
      · rw [getD_app_ge]; exact h2
  obtain ⟨A, c, e, ha⟩ := h.am hb.size fun i j hi hj => by
    rw [List.length_append] at hi
    by_cases hlt : i < xa.length
    · unfold rowL at hj
      rw [getD_app_lt hlt] at hj
      have := ra i j hlt hj
      unfold eI at this ⊢
      rwa [getD_app_lt hlt]
    · obtain ⟨t, rfl⟩ : ∃ t, i = xa.length + t := ⟨i - xa.length, by omega⟩
      unfold rowL at hj
      rw [getD_app_ge] at hj
      have := rb t j (by omega) hj
      unfold eI at this ⊢
      rwa [getD_app_ge]
  rw [List.length_append] at e ha
  exact ⟨_, A, c, rfl, e, ha⟩
set_option maxHeartbeats 4000000 in
theorem rmul_arg (ha : AM w A n xa) (hb : AM w B m xb) (h : ¬ (IsM xa ∧ IsM xb ∧ rowL xa 0 = xb.length)) :
    Calls Try.prog 27 #[.slice A n ca, .slice B m cb] w fun e w' => e = .returned (.tuple #[.slice none 0 0, .int .i64 1]) ∧ w = w' := by
  have HH := Lib.hid h
  have HML := Lib.hid hb.ln
  have HS1 := Lib.hid (rshape_any (cap := ca) ha)
  have HS2 := Lib.hid (rshape_any (cap := cb) hb)
  have hml := hb.nl
  unfold maxLen at hml
  clear ha hb h
  go_enter Try.func27, Try.ntmps27
  go_wp2_with fail
  refine HS1.out.mono ?_
  rintro e w1 ⟨rfl, rfl⟩
  go_wp2_with fail
  refine HS2.out.mono ?_
  rintro e w1 ⟨rfl, rfl⟩
  unfold shp
  by_cases h1 : IsM xa
  · rw [if_pos h1]
    have hr := h1.2.2
    by_cases h2 : IsM xb
    · rw [if_pos h2]
      have hr2 := h2.2.2
      have hne : ¬ rowL xa 0 = m := fun e => HH.out ⟨h1, h2, by rw [HML.out]; exact e⟩
      obtain ⟨r, hre⟩ : ∃ r, rowL xa 0 = r := ⟨_, rfl⟩
      rw [hre] at hne hr ⊢
      have z1 : ((r : Int) != (m : Int)) = true := by rw [bne_iff_ne]; omega
      clear h1 h2
      go_wp2_with fail
      go_ret2
      exact ⟨rfl, rfl⟩
    · rw [if_neg h2]
      clear h1 h2
      go_wp2_with fail
      go_ret2
      exact ⟨rfl, rfl⟩
  · rw [if_neg h1]
    generalize (if IsM xb then ((rowL xb 0 : Nat) : Int) else -1) = s
    clear h1
    go_wp2_with fail
    go_ret2
    exact ⟨rfl, rfl⟩
set_option maxRecDepth 100000 in
set_option maxHeartbeats 16000000 in
theorem rmul_main (ha : AM w A n xa) (hb : AM w B m xb) (ma : IsM xa) (mb : IsM xb) (hab : rowL xa 0 = xb.length) :
    Calls Try.prog 27 #[.slice A n ca, .slice B m cb] w fun e w' => ∃ A' n' c', e = .returned (.tuple #[.slice A' n' c', .int .i64 (mlE xa xb : Nat)]) ∧ AM w' A' n' (mlL xa xb) ∧ Below w.heap.size w w' := by
  have HXa := Lib.hid ha
  have HXb := Lib.hid hb
  have HNL := Lib.hid ha.ln
  have HML := Lib.hid hb.ln
  rw [hb.ln] at hab
  have hn64 : n ≤ 64 := by have := ma.2.1; rw [ha.ln] at this; exact this
  have hm64 : m ≤ 64 := by have := mb.2.1; rw [hb.ln] at this; exact this
  have hd64 : rowL xb 0 ≤ 64 := mb.2.2
  obtain ⟨d, hd⟩ : ∃ d, rowL xb 0 = d := ⟨_, rfl⟩
  rw [hd] at hd64
  have HD := Lib.hid hd
  have HRA : Hid (∀ i, i < n → rowL xa i = m) := Lib.hid fun i hi => by rw [ma.1 i (by rw [ha.ln]; exact hi), hab]
  have HRB : Hid (∀ i, i < m → rowL xb i = d) := Lib.hid fun i hi => by rw [mb.1 i (by rw [hb.ln]; exact hi), hd]
  have HS1 := Lib.hid (rshape_any (cap := ca) ha)
  have HS2 := Lib.hid (rshape_any (cap := cb) hb)
  rw [show shp xa = (m : Int) by unfold shp; rw [if_pos ma, hab]] at HS1
  rw [show shp xb = (d : Int) by unfold shp; rw [if_pos mb, hd]] at HS2
  have HE : Hid (mlE xa xb = if (Sm1 xa ∧ Sm1 xb) ∧ Wt1 xa xb then 0 else 9) := Lib.hid (by unfold mlE; rw [if_pos ⟨ma, mb, by rw [hab, HML.out]⟩])
  have H9 : Hid (¬ ((Sm1 xa ∧ Sm1 xb) ∧ Wt1 xa xb) → mlE xa xb = 9 ∧ mlL xa xb = []) := Lib.hid fun h => by
    have e : mlE xa xb = 9 := by rw [HE.out, if_neg h]
    exact ⟨e, mlL_no e (by decide)⟩
  obtain ⟨us, hul, huo, hus⟩ := ha.heads
  obtain ⟨us2, hul2, huo2, hus2⟩ := hb.heads
  have HUO := Lib.hid huo
  have HUL := Lib.hid hul
  have HUO2 := Lib.hid huo2
  have HUL2 := Lib.hid hul2
  have HUS : Hid (us = [] ∨ ∃ b off, A = some ⟨b, off, none⟩ ∧ b < (w.alloc (.cells #[] 33)).heap.size ∧ ∀ j u, us[j]? = some u → (w.alloc (.cells #[] 33)).cell? ⟨b, off + j, none⟩ = some u) := by
    rcases hus with e | ⟨b, off, e, hb, hc⟩
    · exact .inl e
    · exact .inr ⟨b, off, e, by simp; omega, fun j u hu => (World.cell?_alloc_lt w _ ⟨b, off + j, none⟩ hb).trans (hc j u hu)⟩
  have HUS2 : Hid (∀ w3, Below w.heap.size w w3 → (us2 = [] ∨ ∃ b off, B = some ⟨b, off, none⟩ ∧ b < w3.heap.size ∧ ∀ j u, us2[j]? = some u → w3.cell? ⟨b, off + j, none⟩ = some u)) := Lib.hid fun w3 h3 => by
    rcases hus2 with e | ⟨b, off, e, hb, hc⟩
    · exact .inl e
    · exact .inr ⟨b, off, e, Nat.lt_of_lt_of_le hb h3.size, fun j u hu => (World.cell?_of_block (a := ⟨b, off + j, none⟩) (h3.block _ hb)).trans (hc j u hu)⟩
  have H1C := Lib.hid (oneCell_heads huo)
  have H1C2 := Lib.hid (oneCell_heads huo2)
  have HOW : Hid (OR 33 id (w.alloc (.cells #[] 33)) w.heap.size (.slice (some ⟨w.heap.size, 0, none⟩) 0 0) []) := OR.made (xs := []) w w.heap.size #[] (Nat.le_refl _) (Nat.zero_le _) rfl
  have hsza : w.heap.size ≤ (w.alloc (.cells #[] 33)).heap.size := by simp
  have HUB : Hid (([] : List Value).length + n < 1099511627776) := by show 0 + n < _; omega
  have HUB2 : Hid (us.length + m < 1099511627776) := by show us.length + m < _; rw [hul]; omega
  clear ha hb ma mb hab hd hul huo hus hul2 huo2 hus2
  go_enter Try.func27, Try.ntmps27
  go_wp2_with fail
  refine HS1.out.mono ?_
  rintro e w1 ⟨rfl, rfl⟩
  go_wp2_with fail
  refine HS2.out.mono ?_
  rintro e w1 ⟨rfl, rfl⟩
  have z0 : ((m : Int) != (m : Int)) = false := by rw [bne_eq_false_iff_eq]
  have z1 : decide ((m : Int) < 0) = false := decide_eq_false (by omega)
  have z2 : decide ((d : Int) < 0) = false := decide_eq_false (by omega)
  go_wp2_with (at_builtin; first
    | (refine appS HOW.out HUL.out HUS.out H1C.out HUB.out hsza rfl rfl Try.underlying22 rfl rfl ?_; intro v1 w3 ho hg; rw [List.nil_append] at ho; have HB3 := Lib.hid (((Below.refl w.heap.size w).alloc (Nat.le_refl _) _).grown hg hsza fun k hk => (HOW.out.lt k hk).1); have HOW2 := Lib.hid ho; have hszb := HB3.out.size; clear ho hg)
    | (refine appS HOW2.out HUL2.out (HUS2.out _ HB3.out) H1C2.out HUB2.out hszb rfl rfl Try.underlying22 rfl rfl ?_; intro v2 w4 ho hg; have HB4 := Lib.hid (HB3.out.grown hg hszb fun k hk => (HOW2.out.lt k hk).1); obtain ⟨N4, A4, c4, hN4, hv2, h4⟩ := am_app HNL.out HUL.out HUL2.out HML.out HUO.out HUO2.out HB4.out ho HXa.out.rg HXb.out.rg; subst hv2; have HAB := Lib.hid h4; have HN4 := Lib.hid hN4; clear ho hg h4 hN4))
  have hN64 : N4 ≤ 128 := by have := HN4.out; omega
  clear HOW HOW2 HUS HUS2 H1C H1C2 HUB HUB2 HUO HUO2 HUL HUL2 hsza hszb HS1 HS2 z0 z1 z2
  have HXa4 := Lib.hid (HXa.out.call HB4.out)
  have HXb4 := Lib.hid (HXb.out.call HB4.out)
  clear HXa HXb HB3
  go_loopw [9] (fun i' wr => ∃ i : Nat, i ≤ N4 ∧ i' = .int .i64 i ∧ w4 = wr ∧ Hid (∀ a, a < i → ∀ b, b < rowL (xa ++ xb) a → (eI (xa ++ xb) a b).natAbs ≤ 1125899906842624)) (fun i _ => N4 - (intOf i).toNat)
  case atStart => exact ⟨0, Nat.zero_le _, rfl, rfl, fun a ha => by omega⟩
  case round =>
    obtain ⟨i, hi, rfl, rfl, HP⟩ := hrel
    by_cases hlti : i < N4
    · obtain ⟨b1, o1, Ai, ci, rfl, c1, hri⟩ := HAB.out.head hlti
      have HRI := Lib.hid hri
      have HRG : Hid (∀ j, j < rowL (xa ++ xb) i → -9223372036854775808 ≤ eI (xa ++ xb) i j ∧ eI (xa ++ xb) i j ≤ 9223372036854775807) := Lib.hid fun j hj => HAB.out.rg i j hlti hj
      have HS9 : Hid ((∃ j, j < rowL (xa ++ xb) i ∧ ¬ (eI (xa ++ xb) i j).natAbs ≤ 1125899906842624) → mlE xa xb = 9 ∧ mlL xa xb = []) := Lib.hid fun ⟨j, hj, hno⟩ => H9.out fun h => hno (sm1_app.2 h.1 i (by rw [List.length_append, HNL.out, HML.out, ← HN4.out]; exact hlti) j hj)
      have hcl : rowL (xa ++ xb) i ≤ 64 := by
        by_cases h : i < n
        · unfold rowL; rw [getD_app_lt (by rw [HNL.out]; exact h)]; have := HRA.out i h; unfold rowL at this; omega
        · have h4 := HN4.out
          have := HRB.out (i - n) (by omega)
          have e : i = xa.length + (i - n) := by rw [HNL.out]; omega
          unfold rowL at this ⊢
          rw [e, getD_app_ge]
          omega
      obtain ⟨l, hl⟩ : ∃ l, rowL (xa ++ xb) i = l := ⟨_, rfl⟩
      have HL := Lib.hid hl
      rw [hl] at c1 HRG HS9 hcl
      clear hri hl
      go_wp2_with fail
      go_loopw [10] (fun k' wr => ∃ k : Nat, k ≤ l ∧ k' = .int .i64 k ∧ w4 = wr ∧ Hid (∀ b, b < k → (eI (xa ++ xb) i b).natAbs ≤ 1125899906842624)) (fun k _ => l - (intOf k).toNat)
      case atStart => exact ⟨0, Nat.zero_le _, rfl, rfl, fun a ha => by omega⟩
      case round =>
        obtain ⟨k, hk, rfl, rfl, HPK⟩ := hrel
        by_cases hltk : k < l
        · obtain ⟨b2, o2, rfl, hb2, hc2⟩ := HRI.out.at_ (k := k) (by have := HL.out; unfold rowL at this; omega)
          have c2 := hc2 k (by have := HL.out; unfold rowL at this; omega)
          obtain ⟨x, hx⟩ : ∃ x, gi ((xa ++ xb).getD i []) k = x := ⟨_, rfl⟩
          have hxe : eI (xa ++ xb) i k = x := hx
          rw [hx] at c2
          have hxr := HRG.out k hltk
          rw [hxe] at hxr
          have HAX := Lib.hid (rabs_any x hxr.1 hxr.2 w4)
          obtain ⟨r, hr⟩ : ∃ r, rab x = r := ⟨_, rfl⟩
          rw [hr] at HAX
          have HRX : Hid ((1125899906842624 < r ↔ 1125899906842624 < x.natAbs)) := Lib.hid (by
            rw [← hr]; unfold rab
            split
            · rename_i h; subst h; decide
            · exact Iff.rfl)
          have HXE := Lib.hid hxe
          clear hc2 hx hxe hxr hr
          go_wp2_with fail
          refine HAX.out.mono ?_
          rintro e w1 ⟨rfl, rfl⟩
          by_cases hbig : 1125899906842624 < r
          · have HF := Lib.hid (HS9.out ⟨k, hltk, by rw [HXE.out]; have := HRX.out.1 hbig; omega⟩)
            go_wp2_with fail
            go_ret2
            exact ⟨none, 0, 0, by rw [HF.out.1]; rfl, by rw [HF.out.2]; exact AM.nil0 _, HB4.out⟩
          · have HPK2 : Hid (∀ b, b < k + 1 → (eI (xa ++ xb) i b).natAbs ≤ 1125899906842624) := Lib.hid fun b hb => by
              by_cases e : b = k
              · rw [e, HXE.out]
                have := HRX.out
                omega
              · exact HPK.out b (by omega)
            clear HRX HXE HAX HPK
            go_wp2_with fail
            go_roundw
            case rel => exact ⟨k + 1, by omega, by go_num, by trivial, HPK2⟩
            case measure => simp [intOf]; omega
        · obtain rfl : k = l := by omega
          have HP2 : Hid (∀ a, a < i + 1 → ∀ b, b < rowL (xa ++ xb) a → (eI (xa ++ xb) a b).natAbs ≤ 1125899906842624) := Lib.hid fun a ha b hb => by
            by_cases e : a = i
            · subst e; exact HPK.out b (by rw [HL.out] at hb; exact hb)
            · exact HP.out a (by omega) b hb
          clear HP HPK
          go_wp2_with fail
          go_roundw
          case rel => exact ⟨i + 1, by omega, by go_num, by trivial, HP2⟩
          case measure => simp [intOf]; omega
    · obtain rfl : i = N4 := by omega
      have HSM : Hid (Sm1 xa ∧ Sm1 xb) := Lib.hid (sm1_app.1 fun a ha b hb => HP.out a (by rw [List.length_append, HNL.out, HML.out, ← HN4.out] at ha; exact ha) b hb)
      clear HP HAB
      go_wp2_with fail
      go_loopw [11, 12] (fun v i' wr => ∃ i : Nat, i ≤ n ∧ i' = .int .i64 i ∧ Hid (RR 33 wr w4.heap.size (fun _ => False) v (prRs xa xb d i)) ∧ Hid (Below w4.heap.size w4 wr) ∧ Hid (∀ a, a < i → ∀ b, b < d → wtN xa xb a b m ≤ 1125899906842624)) (fun _ i _ => n - (intOf i).toNat)
      case atStart => exact ⟨0, Nat.zero_le _, rfl, RR.nil _ _ _, Below.refl _ _, fun a ha => by omega⟩
      case round =>
        obtain ⟨i, hi, rfl, HR, HC, HW⟩ := hrel
        by_cases hlti : i < n
        · obtain ⟨w5, rfl⟩ : ∃ x : World, x = wr := ⟨_, rfl⟩
          have hs5 := HC.out.size
          go_wp2_with fail
          go_loopw [13, 14] (fun v k' wr => ∃ k : Nat, k ≤ d ∧ k' = .int .i64 k ∧ Hid (OI wr w5.heap.size v (prR xa xb i k)) ∧ Hid (Below w5.heap.size w5 wr) ∧ Hid (∀ b, b < k → wtN xa xb i b m ≤ 1125899906842624)) (fun _ k _ => d - (intOf k).toNat)
          case atStart => exact ⟨0, Nat.zero_le _, rfl, OR.nil _ _, Below.refl _ _, fun a ha => by omega⟩
          case round =>
            obtain ⟨k, hk, rfl, HO, HDD, HWK⟩ := hrel
            by_cases hltk : k < d
            · obtain ⟨w6, rfl⟩ : ∃ x : World, x = wr := ⟨_, rfl⟩
              have hs6 := HDD.out.size
              have HBW : Hid (Below w4.heap.size w4 w6) := Lib.hid (HC.out.trans (HDD.out.mono hs5))
              go_wp2_with fail
              go_loopw [15, 16, 17] (fun s q t' wr => ∃ (t q' : Nat) (v : Int), t ≤ m ∧ t' = .int .i64 t ∧ s = .int .i64 v ∧ q = .int .i64 q' ∧ Hid (v = sI t fun j => eI xa i j * eI xb j k) ∧ Hid (q' = wtN xa xb i k t) ∧ q' ≤ 1125899906842624 ∧ Hid (Below w6.heap.size w6 wr)) (fun _ _ t _ => m - (intOf t).toNat)
              case atStart => exact ⟨0, 0, 0, Nat.zero_le _, rfl, rfl, rfl, rfl, rfl, Nat.zero_le _, Below.refl _ _⟩
              case round =>
                obtain ⟨t, q, v, ht, rfl, rfl, rfl, HV, HQ, hq, HWR⟩ := hrel
                by_cases hltt : t < m
                · have hXa := HXa4.out.call (HBW.out.trans (HWR.out.mono HBW.out.size))
                  have hXb := HXb4.out.call (HBW.out.trans (HWR.out.mono HBW.out.size))
                  obtain ⟨b1, o1, Ai, ci, rfl, c1, hri⟩ := hXa.head hlti
                  obtain ⟨b2, o2, Bi, di, rfl, c2, hrj⟩ := hXb.head hltt
                  rw [HRA.out i hlti] at c1
                  rw [HRB.out t hltt] at c2
                  obtain ⟨b3, o3, rfl, hb3, hc3⟩ := hri.at_ (k := t) (by have := HRA.out i hlti; unfold rowL at this; omega)
                  have c3 := hc3 t (by have := HRA.out i hlti; unfold rowL at this; omega)
                  obtain ⟨b4, o4, rfl, hb4, hc4⟩ := hrj.at_ (k := k) (by have := HRB.out t hltt; unfold rowL at this; omega)
                  have c4 := hc4 k (by have := HRB.out t hltt; unfold rowL at this; omega)
                  obtain ⟨x, hx⟩ : ∃ x, gi (xa.getD i []) t = x := ⟨_, rfl⟩
                  obtain ⟨y, hy⟩ : ∃ y, gi (xb.getD t []) k = y := ⟨_, rfl⟩
                  have hxe : eI xa i t = x := hx
                  have hye : eI xb t k = y := hy
                  rw [hx] at c3
                  rw [hy] at c4
                  have hxl := HSM.out.1 i (by rw [HNL.out]; exact hlti) t (by rw [HRA.out i hlti]; exact hltt)
                  have hyl := HSM.out.2 t (by rw [HML.out]; exact hltt) k (by rw [HRB.out t hltt]; exact hltk)
                  rw [hxe] at hxl
                  rw [hye] at hyl
                  have hvl := pr_le xa xb i k t
                  rw [← HV.out, ← HQ.out] at hvl
                  obtain ⟨X, hX⟩ : ∃ X, x.natAbs = X := ⟨_, rfl⟩
                  obtain ⟨Y, hY⟩ : ∃ Y, y.natAbs = Y := ⟨_, rfl⟩
                  obtain ⟨P, hP⟩ : ∃ P, X * Y = P := ⟨_, rfl⟩
                  obtain ⟨z, hz⟩ : ∃ z, x * y = z := ⟨_, rfl⟩
                  have hzP : z.natAbs = P := by rw [← hz, Int.natAbs_mul, hX, hY, hP]
                  have HWT : Hid (wtN xa xb i k (t + 1) = q + P) := by show wtN xa xb i k t + (eI xa i t).natAbs * (eI xb t k).natAbs = _; rw [← HQ.out, hxe, hye, hX, hY, hP]
                  have HSUM : Hid (sI (t + 1) (fun j => eI xa i j * eI xb j k) = v + z) := by show sI t _ + eI xa i t * eI xb t k = _; rw [← HV.out, hxe, hye, hz]
                  have HMO : Hid (wtN xa xb i k (t + 1) ≤ wtN xa xb i k m) := sN_mono (by omega)
                  have HAX : Hid (∀ w, Calls Try.prog 37 #[.int .i64 x] w fun e w' => e = .returned (.int .i64 (X : Nat)) ∧ w' = w) := fun w => by
                    have := rabs_any x (by omega) (by omega) w
                    rw [show rab x = X by unfold rab; rw [if_neg (by omega), hX]] at this
                    exact this.mono fun _ _ h => ⟨h.1, h.2.symm⟩
                  have HAY : Hid (∀ w, Calls Try.prog 37 #[.int .i64 y] w fun e w' => e = .returned (.int .i64 (Y : Nat)) ∧ w' = w) := fun w => by
                    have := rabs_any y (by omega) (by omega) w
                    rw [show rab y = Y by unfold rab; rw [if_neg (by omega), hY]] at this
                    exact this.mono fun _ _ h => ⟨h.1, h.2.symm⟩
                  have HZP := Lib.hid hzP
                  have HPP := Lib.hid hP
                  have HVL := Lib.hid hvl
                  have HXL := Lib.hid (And.intro hxl hyl)
                  have HXY := Lib.hid hz
                  have hX50 : X ≤ 1125899906842624 := by rw [← hX]; exact hxl
                  have hY50 : Y ≤ 1125899906842624 := by rw [← hY]; exact hyl
                  clear hXa hXb hri hrj hc3 hc4 hx hy hxe hye hxl hyl hvl hX hY hP hz hzP HV HQ
                  go_wp2_with fail
                  go_quiet (first
                    | (with_reducible (show Calls _ _ #[Value.int .i64 x] _ _); exact Calls.quiet_of_same (HAX.out _))
                    | exact Calls.quiet_of_same (HAY.out _))
                  have HW7 := Lib.hid (below_drewN HWR.out nq)
                  replace c1 : (wr.drewN nq).cell? ⟨b1, o1 + i, none⟩ = some (.slice (some ⟨b3, o3, none⟩) m ci) := c1
                  replace c2 : (wr.drewN nq).cell? ⟨b2, o2 + t, none⟩ = some (.slice (some ⟨b4, o4, none⟩) d di) := c2
                  replace c3 : (wr.drewN nq).cell? ⟨b3, o3 + t, none⟩ = some (.int .i64 x) := c3
                  replace c4 : (wr.drewN nq).cell? ⟨b4, o4 + k, none⟩ = some (.int .i64 y) := c4
                  clear HWR HAX HAY
                  generalize wr.drewN nq = w7 at HW7 c1 c2 c3 c4 ⊢
                  obtain ⟨g, hg⟩ : ∃ g, 1125899906842624 - q = g := ⟨_, rfl⟩
                  have x1 : (1125899906842624 : Int) - (q : Int) = (g : Int) := by omega
                  have HFB : Hid (Below w.heap.size w w7) := Lib.hid (HB4.out.trans ((HBW.out.trans (HW7.out.mono HBW.out.size)).mono HB4.out.size))
                  by_cases hbig : q + P ≤ 1125899906842624
                  · obtain ⟨q2, hq2⟩ : ∃ q2, q + P = q2 := ⟨_, rfl⟩
                    obtain ⟨v2, hv2⟩ : ∃ v2, v + z = v2 := ⟨_, rfl⟩
                    have y1 : IntKind.i64.wrap (x * y) = z := by rw [HXY.out]; exact IntWalk.i64_in _ (by have := HZP.out; omega)
                    have y2 : IntKind.i64.wrap (v + z) = v2 := by rw [hv2]; exact IntWalk.i64_in _ (by have := HZP.out; have := HVL.out; omega)
                    have y3 : IntKind.i64.wrap ((X : Int) * (Y : Int)) = (P : Int) := by rw [← HPP.out, ← Int.natCast_mul]; exact IntWalk.i64_in _ (by rw [HPP.out]; omega)
                    have y4 : IntKind.i64.wrap ((q : Int) + (P : Int)) = (q2 : Int) := by rw [← hq2, Int.natCast_add]; exact IntWalk.i64_in _ (by omega)
                    have HQ2 : Hid (q2 = wtN xa xb i k (t + 1)) := Lib.hid (by rw [HWT.out, hq2])
                    have HV2 : Hid (v2 = sI (t + 1) fun j => eI xa i j * eI xb j k) := Lib.hid (by rw [HSUM.out, hv2])
                    have hq2l : q2 ≤ 1125899906842624 := by omega
                    have hcase : (X = 0 ∧ q2 = q) ∨ (0 < X ∧ decide (((1125899906842624 : Int) - (q : Int)) / (X : Int) < (Y : Int)) = false ∧ 0 ≤ ((1125899906842624 : Int) - (q : Int)) / (X : Int) ∧ ((1125899906842624 : Int) - (q : Int)) / (X : Int) ≤ 1125899906842624) := by
                      by_cases h0 : X = 0
                      · exact .inl ⟨h0, by rw [← hq2, ← HPP.out, h0, Nat.zero_mul]; rfl⟩
                      · refine .inr ⟨by omega, ?_⟩
                        rw [x1, (Int.natCast_ediv g X).symm]
                        have h1 : Y ≤ g / X := (Nat.le_div_iff_mul_le (by omega)).2 (by rw [Nat.mul_comm, HPP.out]; omega)
                        have h2 : g / X ≤ g := Nat.div_le_self _ _
                        exact ⟨decide_eq_false (by omega), by omega, by omega⟩
                    clear hg hbig hq2 hv2 HMO HWT HSUM HVL HZP HXY HXL HPP x1 hX50 hY50 HFB
                    rcases hcase with ⟨h0, rfl⟩ | ⟨h0, z1, z2, z3⟩
                    all_goals
                      go_wp2_with fail
                      go_quiet (fail)
                      have HW8 := Lib.hid (below_drewN HW7.out nq)
                      generalize w7.drewN nq = w8 at HW8 ⊢
                      go_wp2_with fail
                      go_roundw
                      case rel => exact ⟨t + 1, q2, v2, by omega, by go_num, rfl, rfl, HV2, HQ2, hq2l, HW8⟩
                      case measure => simp [intOf]; omega
                  · have HF := Lib.hid (H9.out (fun h => by
                      have h1 := h.2 i (by rw [HNL.out]; exact hlti) k (by rw [HD.out]; exact hltk)
                      rw [HML.out] at h1
                      have h2 := HMO.out
                      rw [HWT.out] at h2
                      omega))
                    have hX0 : 0 < X := by
                      rcases Nat.eq_zero_or_pos X with h | h
                      · rw [h, Nat.zero_mul] at HPP
                        have := HPP.out
                        omega
                      · exact h
                    have z1 : decide (((1125899906842624 : Int) - (q : Int)) / (X : Int) < (Y : Int)) = true := by
                      rw [x1, (Int.natCast_ediv g X).symm]
                      have h1 : ¬ Y ≤ g / X := fun h => by
                        have := (Nat.le_div_iff_mul_le hX0).1 h
                        rw [Nat.mul_comm, HPP.out] at this
                        omega
                      exact decide_eq_true (Int.ofNat_lt.2 (Nat.lt_of_not_le h1))
                    have z2 : 0 ≤ ((1125899906842624 : Int) - (q : Int)) / (X : Int) ∧ ((1125899906842624 : Int) - (q : Int)) / (X : Int) ≤ 1125899906842624 := by
                      rw [x1, (Int.natCast_ediv g X).symm]
                      have h2 : g / X ≤ g := Nat.div_le_self _ _
                      generalize g / X = r at h2 ⊢
                      omega
                    obtain ⟨z2, z3⟩ := z2
                    clear hg hbig HMO HWT HSUM HVL HZP HXY HXL HPP x1 hX50 hY50
                    go_wp2_with fail
                    go_ret2
                    exact ⟨none, 0, 0, by rw [HF.out.1]; rfl, by rw [HF.out.2]; exact AM.nil0 _, HFB.out⟩
                · obtain rfl : t = m := by omega
                  have HPV : Hid (v = prM xa xb i k) := Lib.hid (by unfold prM; rw [HML.out]; exact HV.out)
                  have HOr := Lib.hid (HO.out.below HWR.out (Nat.le_refl _))
                  have HLN : Hid ((prR xa xb i k).length < 1099511627776) := Lib.hid (by rw [prR_len]; omega)
                  have HBr := Lib.hid (HDD.out.trans (HWR.out.mono HDD.out.size))
                  have hszr := HBr.out.size
                  have HWK2 : Hid (∀ b, b < k + 1 → wtN xa xb i b t ≤ 1125899906842624) := Lib.hid fun b hb => by
                    by_cases e : b = k
                    · rw [e, ← HQ.out]; exact hq
                    · exact HWK.out b (by omega)
                  have HSU : Hid (prR xa xb i k ++ [v] = prR xa xb i (k + 1)) := Lib.hid (by rw [prR_succ, HPV.out])
                  clear HO HWR HV HQ hq HWK HPV
                  go_wp2_with (at_builtin; refine app1 HOr.out HLN.out hszr rfl rfl Try.underlying33 rfl rfl ?_; intro v' w9 ho hg hob)
                  have HO9 : Hid (OI w9 w5.heap.size v' (prR xa xb i (k + 1))) := Lib.hid (by rw [← HSU.out]; exact ho)
                  have HB9 := Lib.hid (HOr.out.grown_below HBr.out hszr _ hg)
                  clear ho hg hob HOr HLN HBr hszr HSU
                  go_roundw
                  case rel => exact ⟨k + 1, by omega, by go_num, HO9, HB9, HWK2⟩
                  case measure => simp [intOf]; omega
            · obtain rfl : k = d := by omega
              obtain ⟨Au, cu, rfl, -, -, -⟩ := HO.out.shape
              obtain ⟨vs, hvs⟩ := (HR.out.below HDD.out (Nat.le_refl _))
              have HVV := Lib.hid hvs
              have hvl : vs.length < 1099511627776 := by have := hvs.2.2.1; rw [prRs_len] at this; omega
              have HVL := Lib.hid hvl
              have HBW := Lib.hid (HC.out.trans (HDD.out.mono hs5))
              have hszw := HBW.out.size
              clear hvs hvl
              go_wp2_with (at_builtin; refine app_row (f := id) (y := Value.slice Au (prR xa xb i k).length cu) row_info rfl (by decide) rfl HVV.out.1 HVL.out hszw rfl rfl Try.underlying22 rfl rfl ?_; intro v' w' ho hg hob)
              have hR := RRv.push (by decide) HVV.out (HO.out.mono hs5) (fun _ _ h => h) (fun b hF => hF.elim) ho hg hob
              have HBN := Lib.hid (HVV.out.1.grown_below HBW.out hszw _ hg)
              have HR2 : Hid (RR 33 w' w4.heap.size (fun _ => False) v' (prRs xa xb k (i + 1))) := by
                rw [prRs_succ]; exact ⟨_, hR⟩
              have HW2 : Hid (∀ a, a < i + 1 → ∀ b, b < k → wtN xa xb a b m ≤ 1125899906842624) := Lib.hid fun a ha b hb => by
                by_cases e : a = i
                · subst e; exact HWK.out b hb
                · exact HW.out a (by omega) b hb
              clear ho hg hob hR
              go_roundw
              case rel => exact ⟨i + 1, by omega, by go_num, HR2, HBN, HW2⟩
              case measure => simp [intOf]; omega
        · obtain rfl : i = n := by omega
          have hok : (Sm1 xa ∧ Sm1 xb) ∧ Wt1 xa xb := ⟨HSM.out, fun a ha b hb => by rw [HNL.out] at ha; rw [HD.out] at hb; rw [HML.out]; exact HW.out a ha b hb⟩
          have e0 : mlE xa xb = 0 := by rw [HE.out, if_pos hok]
          have e1 : mlL xa xb = prRs xa xb d i := by unfold mlL; rw [if_pos e0, HNL.out, HD.out]; rfl
          have HE0 := Lib.hid e0
          have HLE : Hid ((mlL xa xb).length = (prRs xa xb d i).length) := Lib.hid (by rw [e1])
          obtain ⟨A', c', rfl, ha⟩ := HR.out.am (fun a b ha hb => by
            rw [prRs_mk, mkL_len] at ha
            rw [prRs_mk, mkL_rowL ha] at hb
            rw [prRs_mk, mkL_eI ha hb]
            have h1 := pr_le xa xb a b m
            have h2 := HW.out a ha b hb
            have h3 : prM xa xb a b = sI m fun j => eI xa a j * eI xb j b := by unfold prM; rw [HML.out]
            rw [h3]
            omega)
          rw [← e1] at ha
          have HA := Lib.hid ha
          have HBW := Lib.hid (HB4.out.trans (HC.out.mono HB4.out.size))
          clear ha hok e0 e1 HR
          go_wp2_with fail
          go_ret2
          exact ⟨_, _, _, by rw [HE0.out, HLE.out]; rfl, HA.out, HBW.out⟩
theorem rmul_any (ha : AM w A n xa) (hb : AM w B m xb) :
    Calls Try.prog 27 #[.slice A n ca, .slice B m cb] w fun e w' => ∃ A' n' c', e = .returned (.tuple #[.slice A' n' c', .int .i64 (mlE xa xb : Nat)]) ∧ AM w' A' n' (mlL xa xb) ∧ Below w.heap.size w w' := by
  by_cases h : IsM xa ∧ IsM xb ∧ rowL xa 0 = xb.length
  · exact rmul_main ha hb h.1 h.2.1 h.2.2
  · refine (rmul_arg ha hb h).mono ?_
    rintro e w' ⟨rfl, rfl⟩
    have he : mlE xa xb = 1 := by unfold mlE; rw [if_neg h]
    refine ⟨none, 0, 0, by rw [he]; rfl, ?_, Below.refl _ _⟩
    rw [mlL_no he (by decide)]
    exact AM.nil0 _
end
set_option maxHeartbeats 400000 in
theorem ints_any (A B : Option Addr) (c d : Nat) (xs ys : List Int) (w : World) (S T : Nat → Prop) (hx : RI w S A xs) (hy : RI w T B ys) (hm : xs.length ≤ maxLen) (_hn : ys.length ≤ maxLen) :
    Calls Try.prog 51 #[.slice A xs.length c, .slice B ys.length d] w fun e w' => e = .returned (.bool (decide (xs = ys))) ∧ ∃ n, w' = w.drewN n := by
  unfold maxLen at hm _hn
  by_cases hl : xs.length = ys.length
  · have hl1 : ((xs.length : Int) != ys.length) = false := by rw [bne_eq_false_iff_eq]; omega
    have hl' : xs.length ≤ ys.length := by omega
    have hl2 : ys.length ≤ xs.length := by omega
    have HL := Lib.hid hl
    clear hl
    go_enter Try.func51, Try.ntmps51
    go_wp2
    go_loopw [5] (fun i wr => ∃ k n : Nat, k ≤ xs.length ∧ i = .int .i64 k ∧ wr = w.drewN n ∧ Hid (∀ j, j < k → gi xs j = gi ys j)) (fun i _ => xs.length - (intOf i).toNat)
    case atStart => exact ⟨0, 0, Nat.zero_le _, rfl, rfl, by intro j hj; omega⟩
    case round =>
      obtain ⟨k, n, hk, rfl, rfl, HA⟩ := hrel
      by_cases hlt : k < xs.length
      · obtain ⟨b, off, rfl, -, hc⟩ := hx.at_ hlt
        obtain ⟨b', off', rfl, -, hc'⟩ := hy.at_ (show k < ys.length by omega)
        have c1 := hc k hlt
        have c2 := hc' k (by omega)
        clear hc hc'
        have e1 : (0:Int) ≤ k ∧ (k:Int) < xs.length := by omega
        have e2 : (0:Int) ≤ k ∧ (k:Int) < ys.length := by omega
        by_cases hne : gi xs k = gi ys k
        · have e3 : (gi xs k != gi ys k) = false := by rw [bne_eq_false_iff_eq]; exact hne
          have HA' : Hid (∀ j, j < k + 1 → gi xs j = gi ys j) := by
            intro j hj
            rcases Nat.lt_or_eq_of_le (Nat.le_of_lt_succ hj) with h | rfl
            · exact HA.out j h
            · exact hne
          clear hne
          go_wp2
          go_quiet (fail)
          go_wp2
          go_roundw
          case rel => exact ⟨k + 1, _, by omega, by go_num, rfl, HA'⟩
          case measure => simp [intOf]; omega
        · have e3 : (gi xs k != gi ys k) = true := by rw [bne_iff_ne]; exact hne
          have hd : decide (xs = ys) = false := decide_eq_false fun e => hne (by rw [e])
          have H := Lib.hid hd
          clear hne hd
          go_wp2
          go_quiet (fail)
          go_wp2
          go_ret
          exact ⟨ret_bool H.out.symm, _, drewN2 _ _ _⟩
      · have hd : decide (xs = ys) = true := decide_eq_true (ext_gi HL.out fun j hj => HA.out j (by omega))
        have H := Lib.hid hd
        clear hd
        go_wp2
        go_ret
        exact ⟨ret_bool H.out.symm, _, rfl⟩
  · have hl1 : ((xs.length : Int) != ys.length) = true := by rw [bne_iff_ne]; omega
    have hd : decide (xs = ys) = false := decide_eq_false fun e => hl (by rw [e])
    have H := Lib.hid hd
    clear hl hd
    go_enter Try.func51, Try.ntmps51
    go_wp2
    go_ret
    exact ⟨ret_bool H.out.symm, 0, rfl⟩

/-- with the outcome in the caller's hand -/
theorem ints_is {A B : Option Addr} {c d n m : Nat} {xs ys : List Int} {w : World} (S T : Nat → Prop) (r : Bool) (hx : RI w S A xs) (hy : RI w T B ys) (hxl : xs.length = n) (hyl : ys.length = m) (hm : n ≤ maxLen) (hn : m ≤ maxLen) (hr : decide (xs = ys) = r) :
    Calls Try.prog 51 #[.slice A n c, .slice B m d] w fun e w' => e = .returned (.bool r) ∧ ∃ n, w' = w.drewN n := by
  subst hxl hyl hr
  exact ints_any A B c d xs ys w S T hx hy hm hn
theorem lists_getD {α : Type} {xss yss : List (List α)} (hl : xss.length = yss.length) (h : ∀ k, k < xss.length → xss.getD k [] = yss.getD k []) : xss = yss := by
  apply List.ext_getElem hl
  intro k h1 h2
  have := h k h1
  simpa [h1, h2] using this

set_option maxHeartbeats 1000000 in
theorem rlists_any (A B : Option Addr) (c d : Nat) (xss yss : List (List Int)) (w : World) (S : Nat → Prop) (hx : RL w S A xss) (hy : RL w S B yss) (hm : xss.length ≤ 9223372036854775807) :
    Calls Try.prog 29 #[.slice A xss.length c, .slice B yss.length d] w fun e w' => e = .returned (.bool (decide (xss = yss))) ∧ ∃ n, w' = w.drewN n := by
  by_cases hl : xss.length = yss.length
  · have hl1 : ((xss.length : Int) != yss.length) = false := by rw [bne_eq_false_iff_eq]; omega
    have hl' : xss.length ≤ yss.length := by omega
    have hl2 : yss.length ≤ xss.length := by omega
    have HL := Lib.hid hl
    have HX := Lib.hid hx
    have HY := Lib.hid hy
    clear hl hx hy
    go_enter Try.func29, Try.ntmps29
    go_wp2
    go_loopw [5] (fun i wr => ∃ k n : Nat, k ≤ xss.length ∧ i = .int .i64 k ∧ wr = w.drewN n ∧ Hid (∀ j, j < k → xss.getD j [] = yss.getD j [])) (fun i _ => xss.length - (intOf i).toNat)
    case atStart => exact ⟨0, 0, Nat.zero_le _, rfl, rfl, by intro j hj; omega⟩
    case round =>
      obtain ⟨k, n, hk, rfl, hwr, HA⟩ := hrel
      have HW := Lib.hid hwr
      have HX : Hid (RL wr S A xss) := by rw [hwr]; exact HX.out.drewN n
      have HY : Hid (RL wr S B yss) := by rw [hwr]; exact HY.out.drewN n
      clear hwr
      by_cases hlt : k < xss.length
      · obtain ⟨b, off, rfl, -, hc⟩ := HX.out.at_ hlt
        obtain ⟨b', off', rfl, -, hc'⟩ := HY.out.at_ (show k < yss.length by omega)
        obtain ⟨Ak, ck, k1, r1, l1⟩ := hc k hlt
        obtain ⟨Bk, dk, k2, r2, l2⟩ := hc' k (by omega)
        clear hc hc'
        have e1 : (0:Int) ≤ k ∧ (k:Int) < xss.length := by omega
        have e2 : (0:Int) ≤ k ∧ (k:Int) < yss.length := by omega
        obtain ⟨xk, hxk⟩ : ∃ x, xss.getD k [] = x := ⟨_, rfl⟩
        obtain ⟨yk, hyk⟩ : ∃ y, yss.getD k [] = y := ⟨_, rfl⟩
        rw [hxk] at k1 r1 l1
        rw [hyk] at k2 r2 l2
        have R1 := Lib.hid r1
        have R2 := Lib.hid r2
        have L1 := Lib.hid l1
        have L2 := Lib.hid l2
        have HXK := Lib.hid hxk
        have HYK := Lib.hid hyk
        clear r1 r2 l1 l2 hxk hyk
        by_cases hne : xk = yk
        · have hd : decide (xk = yk) = true := decide_eq_true hne
          have HDD := Lib.hid hd
          have HA' : Hid (∀ j, j < k + 1 → xss.getD j [] = yss.getD j []) := by
            intro j hj
            rcases Nat.lt_or_eq_of_le (Nat.le_of_lt_succ hj) with h | rfl
            · exact HA.out j h
            · rw [HXK.out, HYK.out]; exact hne
          clear hne hd
          go_wp2
          go_quiet ((go_at_call 51; exact Calls.quiet_of (ints_is S S true (R1.out.drewN _) (R2.out.drewN _) rfl rfl L1.out L2.out HDD.out)))
          go_wp2
          go_roundw
          case rel => exact ⟨k + 1, _, by omega, by go_num, by rw [HW.out]; exact drewN2 _ _ _, HA'⟩
          case measure => simp [intOf]; omega
        · have hd : decide (xk = yk) = false := decide_eq_false hne
          have HDD := Lib.hid hd
          have hdd : decide (xss = yss) = false := decide_eq_false fun e => hne (by rw [← HXK.out, ← HYK.out, e])
          have H := Lib.hid hdd
          clear hne hd hdd
          go_wp2
          go_quiet ((go_at_call 51; exact Calls.quiet_of (ints_is S S false (R1.out.drewN _) (R2.out.drewN _) rfl rfl L1.out L2.out HDD.out)))
          go_wp2
          go_ret
          exact ⟨ret_bool H.out.symm, _, by rw [HW.out]; exact drewN2 _ _ _⟩
      · have hd : decide (xss = yss) = true := decide_eq_true (lists_getD HL.out fun j hj => HA.out j (by omega))
        have H := Lib.hid hd
        clear hd
        go_wp2
        go_ret
        exact ⟨ret_bool H.out.symm, _, HW.out⟩
  · have hl1 : ((xss.length : Int) != yss.length) = true := by rw [bne_iff_ne]; omega
    have hd : decide (xss = yss) = false := decide_eq_false fun e => hl (by rw [e])
    have H := Lib.hid hd
    clear hl hd hx hy
    go_enter Try.func29, Try.ntmps29
    go_wp2
    go_ret
    exact ⟨ret_bool H.out.symm, 0, rfl⟩
/-- with the outcome in the caller's hand -/
theorem rlists_is {A B : Option Addr} {c d n m : Nat} {xss yss : List (List Int)} {w : World} (S : Nat → Prop) (r : Bool) (hx : RL w S A xss) (hy : RL w S B yss) (hxl : xss.length = n) (hyl : yss.length = m) (hm : n ≤ 9223372036854775807) (hr : decide (xss = yss) = r) :
    Calls Try.prog 29 #[.slice A n c, .slice B m d] w fun e w' => e = .returned (.bool r) ∧ ∃ n, w' = w.drewN n := by
  subst hxl hyl hr
  exact rlists_any A B c d xss yss w S hx hy hm
end Go.Proofs.Yteanhbldhaiekaa

