/-
  The contracts of the reference's bits and pick.
-/
import Derived.Test.YtjlokbolmindgaaRDet
namespace Go.Proofs.Ytjlokbolmindgaa
open Go.RowKit

/-- the set bits below q -/
def blL (r q : Nat) : List Nat := (List.range q).filter fun i => r / 2 ^ i % 2 == 1
theorem blL_succ (r q : Nat) : blL r (q + 1) = if r / 2 ^ q % 2 = 1 then blL r q ++ [q] else blL r q := by
  unfold blL
  rw [List.range_succ, List.filter_append]
  by_cases h : r / 2 ^ q % 2 = 1
  · rw [if_pos h]; simp [h]
  · rw [if_neg h]; simp [h]
theorem blL_le (r : Nat) : ∀ q, (blL r q).length ≤ q
  | 0 => Nat.le_refl _
  | q + 1 => by
    rw [blL_succ]
    have := blL_le r q
    split
    · simp; omega
    · omega
theorem blL_lt {r q x : Nat} (h : x ∈ blL r q) : x < q := List.mem_range.1 (List.mem_filter.1 h).1
def pcN : Nat → Nat → Nat
  | 0, _ => 0
  | f + 1, r => r % 2 + pcN f (r / 2)
theorem pcN_zero : ∀ f, pcN f 0 = 0
  | 0 => rfl
  | f + 1 => by show 0 % 2 + pcN f (0 / 2) = 0; rw [Nat.zero_div, pcN_zero f]
theorem pcN_all : ∀ q, q ≤ 4 → ∀ r, r < 2 ^ q → pcN q r = (blL r q).length := by decide +kernel
set_option maxHeartbeats 2000000 in
theorem rbits_any (q r : Nat) (hq : q ≤ 4) (hr : r < 2 ^ q) (w : World) : Calls Try.prog 36 #[.int .i64 r] w fun e w' => e = .returned (.int .i64 ((blL r q).length : Nat)) ∧ ∃ n, w' = w.drewN n := by
  have hr16 : r < 16 := Nat.lt_of_lt_of_le hr (Nat.le_trans (Nat.pow_le_pow_right (by decide) hq) (by decide))
  have HP := Lib.hid (pcN_all q hq r hr)
  rw [← HP.out]
  have hb : pcN q r ≤ q := by rw [HP.out]; exact blL_le r q
  have HRQ := Lib.hid hr
  clear HP hr
  go_enter Try.func36, Try.ntmps36
  go_wp2_with fail
  go_loopw [0, 3] (fun x' y' wr => ∃ x y f : Nat, x' = .int .i64 x ∧ y' = .int .i64 y ∧ x < 16 ∧ Hid (x < 2 ^ f ∧ y + pcN f x = pcN q r) ∧ y ≤ 4 ∧ w = wr) (fun x _ _ => (intOf x).toNat)
  case atStart => exact ⟨r, 0, q, rfl, rfl, hr16, ⟨HRQ.out, Nat.zero_add _⟩, Nat.zero_le _, rfl⟩
  case round =>
    obtain ⟨x, y, f, rfl, rfl, hx, HI, hy, rfl⟩ := hrel
    by_cases h0 : 0 < x
    · obtain ⟨b, hb2⟩ : ∃ b, x % 2 = b := ⟨_, rfl⟩
      obtain ⟨d, hd⟩ : ∃ d, x / 2 = d := ⟨_, rfl⟩
      have HI2 : Hid (∃ f', d < 2 ^ f' ∧ y + b + pcN f' d = pcN q r) := by
        obtain ⟨h1, h2⟩ := HI.out
        rcases f with _ | f
        · rw [Nat.pow_zero] at h1; omega
        · refine ⟨f, by rw [Nat.pow_succ] at h1; omega, ?_⟩
          rw [← h2, ← hb2, ← hd]
          show y + x % 2 + pcN f (x / 2) = y + (x % 2 + pcN f (x / 2))
          omega
      have hyb : y + b ≤ 4 := by obtain ⟨f', -, h⟩ := HI2.out; omega
      have x1 : (x : Int).tmod 2 = (b : Int) := by rw [← hb2]; exact Int.ofNat_tmod x 2
      have x1' : (x : Int) % 2 = (b : Int) := by rw [← hb2]; rfl
      have x2 : IntKind.i64.wrap (b : Int) = (b : Int) := IntWalk.i64_in _ (by omega)
      have x3 : IntKind.i64.wrap ((y : Int) + (b : Int)) = ((y + b : Nat) : Int) := by rw [IntWalk.i64_in _ (by omega)]; omega
      have x4 : (x : Int).tdiv 2 = (d : Int) := by rw [← hd]; exact Int.ofNat_tdiv x 2
      have x4' : (x : Int) / 2 = (d : Int) := by rw [← hd]; rfl
      have x5 : IntKind.i64.wrap (d : Int) = (d : Int) := IntWalk.i64_in _ (by omega)
      have HDX : Hid (d < x) := Lib.hid (by omega)
      have hd16 : d < 16 := by omega
      clear hb2 hd HI
      go_wp2_with fail
      obtain ⟨f', h1, h2⟩ := HI2.out
      go_roundw
      case rel => exact ⟨d, y + b, f', rfl, by first | rfl | simp, hd16, ⟨h1, h2⟩, hyb, by trivial⟩
      case measure => have := HDX.out; simp [intOf]; omega
    · obtain rfl : x = 0 := by omega
      have HY : Hid (y = pcN q r) := by have := HI.out.2; rwa [pcN_zero, Nat.add_zero] at this
      clear HI
      show Go.Code.wp _ _ _ _ _
      go_wp2_with fail
      go_ret
      exact ⟨ret_int (by rw [HY.out]), 0, rfl⟩
/-- the chosen row; the chosen rows -/
def piR (xss : List (List Int)) (i s q : Nat) : List Int := (blL s q).map fun k => eI xss i k
def piL (xss : List (List Int)) (r s c q : Nat) : List (List Int) := (blL r q).map fun i => piR xss i s c
theorem piR_len (xss : List (List Int)) (i s q : Nat) : (piR xss i s q).length = (blL s q).length := by simp [piR]
theorem piL_len (xss : List (List Int)) (r s c q : Nat) : (piL xss r s c q).length = (blL r q).length := by simp [piL]
theorem piR_yes {xss : List (List Int)} {i s q : Nat} (h : s / 2 ^ q % 2 = 1) : piR xss i s (q + 1) = piR xss i s q ++ [eI xss i q] := by unfold piR; rw [blL_succ, if_pos h]; simp
theorem piR_no {xss : List (List Int)} {i s q : Nat} (h : s / 2 ^ q % 2 ≠ 1) : piR xss i s (q + 1) = piR xss i s q := by unfold piR; rw [blL_succ, if_neg h]
theorem piL_yes {xss : List (List Int)} {r s c q : Nat} (h : r / 2 ^ q % 2 = 1) : piL xss r s c (q + 1) = piL xss r s c q ++ [piR xss q s c] := by unfold piL; rw [blL_succ, if_pos h]; simp
theorem piL_no {xss : List (List Int)} {r s c q : Nat} (h : r / 2 ^ q % 2 ≠ 1) : piL xss r s c (q + 1) = piL xss r s c q := by unfold piL; rw [blL_succ, if_neg h]
set_option maxHeartbeats 4000000 in
theorem pick_any {w : World} {A : Option Addr} {n cap c r s : Nat} {xss : List (List Int)} (h : AM w A n xss) (hr : ∀ i, i < n → rowL xss i = c) (hn : n ≤ 64) (hc : c ≤ 64) :
    Calls Try.prog 37 #[.slice A n cap, .int .i64 r, .int .i64 s] w fun e w' => ∃ V, e = .returned V ∧ RR 28 w' w.heap.size (fun _ => False) V (piL xss r s c n) ∧ Below w.heap.size w w' := by
  have HX := Lib.hid h
  have HRC := Lib.hid hr
  clear h hr
  go_enter Try.func37, Try.ntmps37
  go_wp2_with fail
  go_loopw [7, 8] (fun v k' wr => ∃ i : Nat, i ≤ n ∧ k' = .int .i64 i ∧ Hid (RR 28 wr w.heap.size (fun _ => False) v (piL xss r s c i)) ∧ Hid (Below w.heap.size w wr)) (fun _ k _ => n - (intOf k).toNat)
  case atStart => exact ⟨0, Nat.zero_le _, rfl, RR.nil _ _ _, Below.refl _ _⟩
  case round =>
    obtain ⟨i, hi, rfl, HR, HB⟩ := hrel
    by_cases hlt : i < n
    · obtain ⟨a, ha⟩ : ∃ a, r / 2 ^ i = a := ⟨_, rfl⟩
      have x1 : (r : Int) / 2 ^ i = (a : Int) := by rw [← ha]; simp
      by_cases hb : a % 2 = 1
      · have x2 : (a : Int).tmod 2 = 1 := by have := Int.ofNat_tmod a 2; rw [hb] at this; exact this.symm
        have x2' : (a : Int) % 2 = 1 := by omega
        have HSU := Lib.hid (piL_yes (xss := xss) (s := s) (c := c) (show r / 2 ^ i % 2 = 1 by rw [ha]; exact hb))
        clear ha hb
        go_wp2_with fail
        obtain ⟨w2, rfl⟩ : ∃ x : World, x = wr := ⟨_, rfl⟩
        have hs2 := HB.out.size
        go_loopw [9, 10] (fun v q' wr => ∃ q : Nat, q ≤ c ∧ q' = .int .i64 q ∧ Hid (OI wr w2.heap.size v (piR xss i s q)) ∧ Hid (Below w2.heap.size w2 wr)) (fun _ q _ => c - (intOf q).toNat)
        case atStart => exact ⟨0, Nat.zero_le _, rfl, OR.nil _ _, Below.refl _ _⟩
        case round =>
          obtain ⟨q, hq, rfl, HO, HC2⟩ := hrel
          have hx := HX.out.call (HB.out.trans (HC2.out.mono hs2))
          obtain ⟨b, off, Ak, ck, rfl, c1, hri⟩ := hx.head hlt
          rw [HRC.out i hlt] at c1
          have HRI := Lib.hid hri
          clear hx hri
          by_cases hltq : q < c
          · obtain ⟨d, hd⟩ : ∃ d, s / 2 ^ q = d := ⟨_, rfl⟩
            have z1 : (s : Int) / 2 ^ q = (d : Int) := by rw [← hd]; simp
            by_cases hb : d % 2 = 1
            · have z2 : (d : Int).tmod 2 = 1 := by have := Int.ofNat_tmod d 2; rw [hb] at this; exact this.symm
              have z2' : (d : Int) % 2 = 1 := by omega
              have HRU := Lib.hid (piR_yes (xss := xss) (i := i) (show s / 2 ^ q % 2 = 1 by rw [hd]; exact hb))
              obtain ⟨bk, ok, rfl, -, hcj⟩ := HRI.out.at_ (k := q) (by show q < rowL xss i; rw [HRC.out i hlt]; exact hltq)
              have c2 := hcj q (by show q < rowL xss i; rw [HRC.out i hlt]; exact hltq)
              obtain ⟨x, hx'⟩ : ∃ x, gi (xss.getD i []) q = x := ⟨_, rfl⟩
              rw [hx'] at c2
              have HXE : Hid (eI xss i q = x) := hx'
              have HL : Hid ((piR xss i s q).length < 1099511627776) := Lib.hid (by rw [piR_len]; have := blL_le s q; omega)
              have hsz := HC2.out.size
              clear hcj hx' hd hb
              go_wp2_with (at_builtin; refine app1 HO.out HL.out hsz rfl rfl Try.underlying28 rfl rfl ?_; intro v' w' ho hg hob)
              have hbn' := HO.out.grown_below HC2.out hsz _ hg
              have HO' : Hid (OI w' w2.heap.size v' (piR xss i s (q + 1))) := by
                rw [HRU.out, HXE.out]; exact ho
              go_roundw
              case rel => exact ⟨q + 1, by omega, by go_num, HO', hbn'⟩
              case measure => simp [intOf]; omega
            · have hb0 : d % 2 = 0 := by omega
              have z2 : (d : Int).tmod 2 = 0 := by have := Int.ofNat_tmod d 2; rw [hb0] at this; exact this.symm
              have z2' : (d : Int) % 2 = 0 := by omega
              have HO2 : Hid (OI wr w2.heap.size u9 (piR xss i s (q + 1))) := by
                rw [piR_no (by rw [hd]; exact hb)]; exact HO.out
              clear hd hb hb0 HO
              go_wp2_with fail
              go_roundw
              case rel => exact ⟨q + 1, by omega, by go_num, HO2, HC2⟩
              case measure => simp [intOf]; omega
          · obtain rfl : q = c := by omega
            obtain ⟨Au, cu, rfl, -, -, -⟩ := HO.out.shape
            obtain ⟨vs, hvs⟩ := (HR.out.below HC2.out (Nat.le_refl _))
            have HV := Lib.hid hvs
            have hvl : vs.length < 1099511627776 := by have := hvs.2.2.1; rw [piL_len] at this; have := blL_le r i; omega
            have HVL := Lib.hid hvl
            have HBW := Lib.hid (HB.out.trans (HC2.out.mono hs2))
            have hszw := HBW.out.size
            clear hvs hvl
            go_wp2_with (at_builtin; refine app_row (f := id) (y := Value.slice Au (piR xss i s q).length cu) row_info rfl (by decide) rfl HV.out.1 HVL.out hszw rfl rfl Try.underlying22 rfl rfl ?_; intro v' w' ho hg hob)
            have hR := RRv.push (by decide) HV.out (HO.out.mono hs2) (fun _ _ h => h) (fun b hF => hF.elim) ho hg hob
            have HBN := Lib.hid (HV.out.1.grown_below HBW.out hszw _ hg)
            have HR2 : Hid (RR 28 w' w.heap.size (fun _ => False) v' (piL xss r s q (i + 1))) := by
              rw [HSU.out]; exact ⟨_, hR⟩
            clear ho hg hob hR
            go_roundw
            case rel => exact ⟨i + 1, by omega, by go_num, HR2, HBN⟩
            case measure => simp [intOf]; omega
      · have hb0 : a % 2 = 0 := by omega
        have x2 : (a : Int).tmod 2 = 0 := by have := Int.ofNat_tmod a 2; rw [hb0] at this; exact this.symm
        have x2' : (a : Int) % 2 = 0 := by omega
        have HR2 : Hid (RR 28 wr w.heap.size (fun _ => False) u7 (piL xss r s c (i + 1))) := by
          rw [piL_no (by rw [ha]; exact hb)]; exact HR.out
        clear ha hb hb0 HR
        go_wp2_with fail
        go_roundw
        case rel => exact ⟨i + 1, by omega, by go_num, HR2, HB⟩
        case measure => simp [intOf]; omega
    · obtain rfl : i = n := by omega
      go_wp2_with fail
      go_ret
      exact ⟨_, rfl, HR.out, HB.out⟩
/-- the a-th set bit -/
def psN (r q a : Nat) : Nat := (blL r q).getD a 0
theorem psN_lt {r q a : Nat} (h : a < (blL r q).length) : psN r q a < q := by
  unfold psN
  rw [List.getD_eq_getElem?_getD, List.getElem?_eq_getElem h]
  exact blL_lt (List.getElem_mem h)
theorem piL_mk {xss : List (List Int)} {r s n c k l : Nat} (hk : (blL r n).length = k) (hl : (blL s c).length = l) : piL xss r s c n = mkL k l fun a b => eI xss (psN r n a) (psN s c b) := by
  have key : ∀ {α : Type} (L : List Nat) (f : Nat → α), L.map f = (List.range L.length).map fun a => f (L.getD a 0) := fun L f => by
    apply List.ext_getElem (by simp)
    intro i h1 h2
    simp
    congr 1
    have : i < L.length := by simpa using h1
    rw [List.getElem?_eq_getElem this]
    rfl
  unfold piL mkL
  rw [key, hk]
  refine List.map_congr_left fun a _ => ?_
  unfold piR
  rw [key, hl]
  rfl
theorem pick_am {w : World} {A : Option Addr} {n cap c r s k l : Nat} {xss : List (List Int)} (h : AM w A n xss) (hr : ∀ i, i < n → rowL xss i = c) (hn : n ≤ 64) (hc : c ≤ 64) (hk : (blL r n).length = k) (hl : (blL s c).length = l) :
    Calls Try.prog 37 #[.slice A n cap, .int .i64 r, .int .i64 s] w fun e w' => ∃ A' c', e = .returned (.slice A' k c') ∧ AM w' A' k (mkL k l fun a b => eI xss (psN r n a) (psN s c b)) ∧ Below w.heap.size w w' := by
  refine (pick_any h hr hn hc).mono ?_
  rintro e w' ⟨V, rfl, hV, hb⟩
  rw [piL_mk hk hl] at hV
  obtain ⟨A', c', rfl, ha⟩ := hV.am (fun x y hx hy => by
    rw [mkL_len] at hx
    rw [mkL_rowL hx] at hy
    rw [mkL_eI hx hy]
    exact h.rg _ _ (psN_lt (by omega)) (by rw [hr _ (psN_lt (by omega))]; exact psN_lt (by omega)))
  rw [mkL_len] at ha ⊢
  exact ⟨A', c', rfl, ha, hb⟩
end Go.Proofs.Ytjlokbolmindgaa

