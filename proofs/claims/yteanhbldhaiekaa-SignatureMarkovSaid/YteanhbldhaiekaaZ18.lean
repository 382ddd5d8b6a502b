/-
  The contracts of columns, isMatrix, isSmall.
  The contract of the closure combine of eliminate.
-/
import Derived.Test.YteanhbldhaiekaaZ08
import Derived.Test.YteanhbldhaiekaaZ10
import Derived.Test.YteanhbldhaiekaaZ11
import Derived.Deep.RegionWith
namespace Go.Proofs.Yteanhbldhaiekaa
open Go.RowKit

def rowL (xss : List (List Int)) (i : Nat) : Nat := (xss.getD i []).length
/-- a list that is a matrix -/
def IsM (xss : List (List Int)) : Prop := (∀ i, i < xss.length → rowL xss i = rowL xss 0) ∧ xss.length ≤ 64 ∧ rowL xss 0 ≤ 64
instance (xss : List (List Int)) : Decidable (IsM xss) := by unfold IsM; infer_instance
theorem rowL_nil {xss : List (List Int)} (h : xss.length = 0) : rowL xss 0 = 0 := by
  have : xss = [] := List.eq_nil_of_length_eq_zero h
  subst this; rfl
set_option maxHeartbeats 1000000 in
theorem columns_any (A : Option Addr) (cap : Nat) (xss : List (List Int)) (n : Nat) (w : World) (T : Nat → Prop) (hx : RL w T A xss) (hn : xss.length = n) :
    Calls Try.prog 47 #[.slice A n cap] w fun e w' => e = .returned (.int .i64 (rowL xss 0 : Nat)) ∧ w = w' := by
  by_cases h0 : n = 0
  · subst h0
    have HR := Lib.hid (rowL_nil hn)
    clear hn hx
    go_enter Try.func47, Try.ntmps47
    go_wp2_with fail
    go_ret
    exact ⟨by rw [HR.out]; rfl, rfl⟩
  · obtain ⟨b, off, rfl, -, hc⟩ := hx.at_ (k := 0) (by omega)
    obtain ⟨Ak, ck, c1, -, -⟩ := hc 0 (by omega)
    rw [Nat.add_zero] at c1
    have h0' : ((n : Int) == 0) = false := by rw [beq_eq_false_iff_ne]; omega
    clear hx hc hn
    have c2 : w.cell? ⟨b, off, none⟩ = some (.slice Ak (rowL xss 0) ck) := c1
    clear c1
    go_enter Try.func47, Try.ntmps47
    go_wp2_with fail
    go_ret
    exact ⟨rfl, rfl⟩
set_option maxHeartbeats 2000000 in
theorem ismatrix_any (A : Option Addr) (cap : Nat) (xss : List (List Int)) (n : Nat) (w : World) (T : Nat → Prop) (hx : RL w T A xss) (hn : xss.length = n) (hnl : n ≤ maxLen) :
    Calls Try.prog 44 #[.slice A n cap] w fun e w' => e = .returned (.bool (decide (IsM xss))) ∧ w = w' := by
  unfold maxLen at hnl
  have HX := Lib.hid hx
  have HN := Lib.hid hn
  clear hx hn
  go_enter Try.func44, Try.ntmps44
  go_wp2_with fail
  go_loopw [7] (fun i' wr => ∃ k : Nat, k ≤ n ∧ i' = .int .i64 k ∧ w = wr ∧ Hid (∀ i, i < k → rowL xss i = rowL xss 0)) (fun i _ => n - (intOf i).toNat)
  case atStart => exact ⟨0, Nat.zero_le _, rfl, rfl, fun i hi => by omega⟩
  case round =>
    obtain ⟨k, hk, rfl, rfl, HA⟩ := hrel
    by_cases hlt : k < n
    · obtain ⟨b, off, rfl, -, hc⟩ := HX.out.at_ (k := k) (by rw [HN.out]; exact hlt)
      obtain ⟨A0, c0, c1, -, -⟩ := hc 0 (by rw [HN.out]; omega)
      obtain ⟨Ak, ck, c2, -, -⟩ := hc k (by rw [HN.out]; exact hlt)
      rw [Nat.add_zero] at c1
      replace c1 : w.cell? ⟨b, off, none⟩ = some (.slice A0 (rowL xss 0) c0) := c1
      replace c2 : w.cell? ⟨b, off + k, none⟩ = some (.slice Ak (rowL xss k) ck) := c2
      clear hc
      have hnp : 0 < n := by omega
      by_cases he : rowL xss k = rowL xss 0
      · have he' : ((rowL xss k : Int) != (rowL xss 0 : Int)) = false := by rw [bne_eq_false_iff_eq]; omega
        have HA' : Hid (∀ i, i < k + 1 → rowL xss i = rowL xss 0) := by
          intro i hi
          by_cases e : i = k
          · rw [e]; exact he
          · exact HA.out i (by omega)
        clear he HA
        go_wp2_with fail
        go_roundw
        case rel => exact ⟨k + 1, by omega, by go_num, by trivial, HA'⟩
        case measure => simp [intOf]; omega
      · have he' : ((rowL xss k : Int) != (rowL xss 0 : Int)) = true := by rw [bne_iff_ne]; omega
        have HD := Lib.hid (decide_eq_false (show ¬ IsM xss from fun h => he (h.1 k (by rw [HN.out]; exact hlt))))
        go_wp2_with fail
        go_ret
        exact ⟨ret_bool HD.out.symm, rfl⟩
    · have HALL : Hid (∀ i, i < n → rowL xss i = rowL xss 0) := fun i hi => HA.out i (by omega)
      by_cases h64 : n ≤ 64
      · by_cases hc64 : rowL xss 0 ≤ 64
        · have HD := Lib.hid (decide_eq_true (show IsM xss from ⟨by rw [HN.out]; exact HALL.out, by rw [HN.out]; exact h64, hc64⟩))
          go_wp2_with fail
          refine (columns_any A cap xss n w T HX.out HN.out).mono ?_
          rintro e w1 ⟨rfl, rfl⟩
          go_wp2_with fail
          go_ret
          exact ⟨ret_bool ((decide_eq_true (by omega)).trans HD.out.symm), rfl⟩
        · have HD := Lib.hid (decide_eq_false (show ¬ IsM xss from fun h => hc64 h.2.2))
          go_wp2_with fail
          refine (columns_any A cap xss n w T HX.out HN.out).mono ?_
          rintro e w1 ⟨rfl, rfl⟩
          go_wp2_with fail
          go_ret
          exact ⟨ret_bool ((decide_eq_false (by omega)).trans HD.out.symm), rfl⟩
      · have HD := Lib.hid (decide_eq_false (show ¬ IsM xss from fun h => h64 (by have := h.2.1; rw [HN.out] at this; exact this)))
        go_wp2_with fail
        go_ret
        exact ⟨ret_bool HD.out.symm, rfl⟩

theorem sN_ge {c : Nat} {f : Nat → Nat} {j : Nat} (hj : j < c) : f j ≤ sN c f := by
  have := sN_inj (k := 1) (c := c) (js := fun _ => j) f (fun a b ha hb _ => by omega) (fun _ _ => hj)
  have e : sN 1 (fun _ => f j) = f j := Nat.zero_add _
  exact e ▸ this
theorem sN_mono {j c : Nat} {f : Nat → Nat} (hj : j ≤ c) : sN j f ≤ sN c f :=
  sN_inj (k := j) (c := c) (js := id) f (fun a b _ _ e => e) (fun b hb => by show b < c; omega)
theorem pN_mono {j n : Nat} {f : Nat → Nat} (h1 : ∀ i, i < n → 1 ≤ f i) (hj : j ≤ n) : pN j f ≤ pN n f :=
  pN_inj (k := j) (n := n) (js := id) f h1 (fun a b _ _ e => e) (fun b hb => by show b < n; omega)
theorem pN_ge {n : Nat} {f : Nat → Nat} {i : Nat} (h1 : ∀ i, i < n → 1 ≤ f i) (hi : i < n) : f i ≤ pN n f := by
  have := pN_inj (k := 1) (n := n) (js := fun _ => i) f h1 (fun a b ha hb _ => by omega) (fun _ _ => hi)
  have e : pN 1 (fun _ => f i) = f i := Nat.one_mul _
  exact e ▸ this
/-- the factor of a row -/
def rfN (c : Nat) (m : Mx) (i : Nat) : Nat := max (sN c fun j => (m i j).natAbs) 1
theorem bnd_row {n c i : Nat} {m : Mx} (hi : i < n) : rfN c m i ≤ bndM n c m := pN_ge (f := rfN c m) (fun _ _ => Nat.le_max_right ..) hi
theorem bnd_ent {n c i j : Nat} {m : Mx} (hi : i < n) (hj : j < c) : (m i j).natAbs ≤ bndM n c m :=
  Nat.le_trans (Nat.le_trans (sN_ge (f := fun j => (m i j).natAbs) hj) (Nat.le_max_left ..)) (bnd_row hi)
theorem bnd_pre {n c k : Nat} {m : Mx} (hk : k ≤ n) : pN k (rfN c m) ≤ bndM n c m := pN_mono (f := rfN c m) (fun _ _ => Nat.le_max_right ..) hk
set_option maxHeartbeats 4000000 in
theorem issmall_any (A : Option Addr) (cap : Nat) (xss : List (List Int)) (n c : Nat) (w : World) (T : Nat → Prop) (hx : RL w T A xss) (hn : xss.length = n) (hc : ∀ i, i < n → rowL xss i = c) (hnl : n ≤ 64) (hcl : c ≤ 64)
    (hb : ∀ i j, i < n → j < c → -9223372036854775808 ≤ eI xss i j ∧ eI xss i j ≤ 9223372036854775807) :
    Calls Try.prog 45 #[.slice A n cap] w fun e w' => e = .returned (.bool (decide (bndM n c (eI xss) ≤ 1125899906842624))) ∧ w = w' := by
  have HX := Lib.hid hx
  have HN := Lib.hid hn
  have HC := Lib.hid hc
  have HB := Lib.hid hb
  clear hx hn hc hb
  go_enter Try.func45, Try.ntmps45
  go_wp2_with fail
  go_loopw [3, 11] (fun b' i' wr => ∃ k q : Nat, k ≤ n ∧ i' = .int .i64 k ∧ b' = .int .u64 q ∧ w = wr ∧ Hid (q = pN k (rfN c (eI xss)) ∧ 1 ≤ q ∧ q ≤ 1125899906842624)) (fun _ i _ => n - (intOf i).toNat)
  case atStart => exact ⟨0, 1, Nat.zero_le _, rfl, rfl, rfl, rfl, by decide, by decide⟩
  case round =>
    obtain ⟨k, q, hk, rfl, rfl, rfl, HQ⟩ := hrel
    by_cases hlt : k < n
    · obtain ⟨b, off, rfl, -, hcs⟩ := HX.out.at_ (k := k) (by rw [HN.out]; exact hlt)
      obtain ⟨Ak, ck, c1, hr, -⟩ := hcs k (by rw [HN.out]; exact hlt)
      have hck := HC.out k hlt
      unfold rowL at hck
      rw [hck] at c1
      have HR := Lib.hid hr
      have HCK := Lib.hid hck
      clear hr hcs hck
      go_wp2_with fail
      go_loopw [6, 17] (fun s' j' wr => ∃ j s : Nat, j ≤ c ∧ j' = .int .i64 j ∧ s' = .int .u64 s ∧ w = wr ∧ Hid (s = sN j fun j => (eI xss k j).natAbs) ∧ Hid (s ≤ j * 1125899906842624)) (fun _ j _ => c - (intOf j).toNat)
      case atStart => exact ⟨0, 0, Nat.zero_le _, rfl, rfl, rfl, rfl, by show 0 ≤ 0 * _; omega⟩
      case round =>
        obtain ⟨j, s, hj, rfl, rfl, rfl, HS, HSL⟩ := hrel
        by_cases hlj : j < c
        · obtain ⟨bk, ok, rfl, -, hcj⟩ := HR.out.at_ (k := j) (by rw [HCK.out]; exact hlj)
          have c4 := hcj j (by rw [HCK.out]; exact hlj)
          obtain ⟨x, hx⟩ : ∃ x, gi (xss.getD k []) j = x := ⟨_, rfl⟩
          rw [hx] at c4
          have hxe : eI xss k j = x := hx
          have hxb := HB.out k j hlt hlj
          rw [hxe] at hxb
          have hxn : (eI xss k j).natAbs = x.natAbs := by rw [hxe]
          obtain ⟨y, hy⟩ : ∃ y, x.natAbs = y := ⟨_, rfl⟩
          rw [hy] at hxn
          have HAB := Lib.hid (abs_any x hxb.1 hxb.2 w)
          rw [hy] at HAB
          have HXN := Lib.hid hxn
          clear hx hxe hxb hcj hxn hy
          by_cases hbig : 1125899906842624 < y
          · have HD := Lib.hid (decide_eq_false (show ¬ bndM n c (eI xss) ≤ 1125899906842624 from fun h => by
              have := bnd_ent (m := eI xss) hlt hlj
              rw [HXN.out] at this
              omega))
            go_wp2_with fail
            refine HAB.out.mono ?_
            rintro e w1 ⟨rfl, rfl⟩
            go_wp2_with fail
            go_ret
            exact ⟨ret_bool HD.out.symm, rfl⟩
          · obtain ⟨t, ht⟩ : ∃ t, s + y = t := ⟨_, rfl⟩
            have hsl := HSL.out
            have x1 : IntKind.u64.wrap ((s : Int) + (y : Int)) = (t : Int) := by rw [addN, ht]; exact wrapN _ (by omega)
            have HS' : Hid (t = sN (j + 1) fun j => (eI xss k j).natAbs) := by
              show t = sN j _ + (eI xss k j).natAbs
              rw [← HS.out, HXN.out, ht]
            have HSL' : Hid (t ≤ (j + 1) * 1125899906842624) := by show t ≤ _; omega
            clear ht HS HSL hsl
            go_wp2_with fail
            refine HAB.out.mono ?_
            rintro e w1 ⟨rfl, rfl⟩
            go_wp2_with fail
            refine HAB.out.mono ?_
            rintro e w1 ⟨rfl, rfl⟩
            go_wp2_with fail
            go_roundw
            case rel => exact ⟨j + 1, t, by omega, by go_num, rfl, by trivial, HS', HSL'⟩
            case measure => simp [intOf]; omega
        · obtain rfl : j = c := by omega
          obtain ⟨v, hv⟩ : ∃ v, max s 1 = v := ⟨_, rfl⟩
          obtain ⟨g, hg⟩ : ∃ g, 1125899906842624 / q = g := ⟨_, rfl⟩
          obtain ⟨hq1, hq2, hq3⟩ := HQ.out
          have hvr : rfN j (eI xss) k = v := by unfold rfN; rw [← HS.out]; exact hv
          have hpk : pN (k + 1) (rfN j (eI xss)) = q * v := by show pN k _ * _ = _; rw [← hq1, hvr]
          have hsl := HSL.out
          have hvl : v ≤ 72057594037927936 ∧ 1 ≤ v := by omega
          have x1 : (if (s : Int) < 1 then 1 else (s : Int)) = (v : Int) := by split <;> omega
          have x2 : (1125899906842624 : Int).tdiv (q : Int) = (g : Int) := by rw [← hg]; exact Int.ofNat_tdiv 1125899906842624 q
          have x2' : (1125899906842624 : Int) / (q : Int) = (g : Int) := by rw [← hg]; rfl
          have hgl : g ≤ 1125899906842624 := by rw [← hg]; exact Nat.div_le_self _ _
          have x3 : IntKind.u64.wrap (g : Int) = (g : Int) := wrapN _ (by omega)
          have x4 : ¬ (q : Int) = 0 := by omega
          have hdiv : g < v ↔ 1125899906842624 < v * q := by rw [← hg]; exact Nat.div_lt_iff_lt_mul (by omega)
          have HDV := Lib.hid hdiv
          have HPK := Lib.hid hpk
          have hb1 := bnd_pre (c := j) (m := eI xss) (show k + 1 ≤ n by omega)
          have HBP := Lib.hid hb1
          clear hv hg hq1 hvr hpk HS HSL hsl hdiv hb1 hgl
          by_cases hbig : g < v
          · have HD := Lib.hid (decide_eq_false (show ¬ bndM n j (eI xss) ≤ 1125899906842624 from fun h => by
              have h1 := HDV.out.1 hbig
              have h2 := HBP.out
              rw [HPK.out, Nat.mul_comm] at h2
              omega))
            have z1 : decide (g < v) = true := decide_eq_true hbig
            go_wp2_with fail
            go_ret
            exact ⟨ret_bool HD.out.symm, rfl⟩
          · obtain ⟨q2, hq2'⟩ : ∃ x, q * v = x := ⟨_, rfl⟩
            have hle : q2 ≤ 1125899906842624 := by
              rw [← hq2', Nat.mul_comm]
              exact Nat.le_of_not_lt fun h => hbig (HDV.out.2 h)
            have hge : 1 ≤ q2 := by rw [← hq2']; exact Nat.mul_pos hq2 hvl.2
            have x5 : IntKind.u64.wrap ((q : Int) * (v : Int)) = (q2 : Int) := by rw [← Int.natCast_mul, hq2']; exact wrapN _ (by omega)
            have HQ' : Hid (q2 = pN (k + 1) (rfN j (eI xss)) ∧ 1 ≤ q2 ∧ q2 ≤ 1125899906842624) := Lib.hid ⟨by rw [HPK.out, hq2'], hge, hle⟩
            have z1 : decide (g < v) = false := decide_eq_false hbig
            clear hq2' hle hge HQ HPK HDV HBP
            go_wp2_with fail
            go_roundw
            case rel => exact ⟨k + 1, q2, by omega, by go_num, rfl, by trivial, HQ'⟩
            case measure => simp [intOf]; omega
    · obtain rfl : k = n := by omega
      have HD := Lib.hid (decide_eq_true (show bndM k c (eI xss) ≤ 1125899906842624 by
        show pN k (rfN c (eI xss)) ≤ _
        rw [← HQ.out.1]; exact HQ.out.2.2))
      go_wp2_with fail
      go_ret
      exact ⟨ret_bool HD.out.symm, rfl⟩
end Go.Proofs.Yteanhbldhaiekaa
namespace Go.Proofs.Yteanhbldhaiekaa
open Go.RowKit

def cmbN (r i by_ : Nat) (a : Nat → Nat → Nat) (k x y : Nat) : Nat := if x = i ∧ r ≤ y ∧ y < k then subN (a i y) (by_ * a r y % PM) PM else a x y
set_option maxHeartbeats 4000000 in
theorem combine_any {w : World} {S : Nat → Prop} {P : Option Addr} {bA n c : Nat} {A : Nat → Option Addr} {bs : Nat → Nat} {a : Nat → Nat → Nat} (r i by_ b5 b9 : Nat) (h : MX w S P bA n c A bs a) (hi : i < n) (hr : r < n) (hir : i ≠ r) (hrc : r ≤ c) (h0 : 0 < c) (hcl : c ≤ 1000) (hby : by_ < PM) (hlt : ∀ x y, x < n → y < c → a x y < PM)
    (h5 : w.cell? ⟨b5, 0, none⟩ = some (.int .i64 r)) (h9 : w.cell? ⟨b9, 0, none⟩ = some (.slice (some ⟨bs r, 0, none⟩) c c)) (n5 : ¬ S b5) (n9 : ¬ S b9) :
    Calls Try.prog 70 #[.slice (some ⟨bs i, 0, none⟩) c c, .int .u64 by_, .pointer (some ⟨b5, 0, none⟩), .pointer (some ⟨b9, 0, none⟩)] w fun e w' =>
      e = .returned (.tuple #[]) ∧ MX w' S P bA n c A bs (cmbN r i by_ a c) ∧ Fm S w w' := by
  have HX : Hid (MX w S P bA n c A bs (cmbN r i by_ a r)) := h.congr fun x y _ _ => by unfold cmbN; rw [if_neg (by omega)]
  have HL := Lib.hid hlt
  have HBY := Lib.hid hby
  have H9 := Lib.hid h9
  have HPM : Hid (PM = 2305843009213693951) := Lib.hid rfl
  clear h hlt hby h9
  go_enter Try.func70, Try.ntmps70
  go_wp2_with fail
  go_loopw [6] (fun k' wr => ∃ k : Nat, r ≤ k ∧ k ≤ c ∧ k' = .int .i64 k ∧ Hid (MX wr S P bA n c A bs (cmbN r i by_ a k)) ∧ Hid (Fm S w wr)) (fun k _ => c - (intOf k).toNat)
  case atStart => exact ⟨r, Nat.le_refl _, hrc, rfl, HX, Fm.refl _ _⟩
  case round =>
    clear HX
    obtain ⟨k, hrk, hkc, rfl, HX, HF⟩ := hrel
    by_cases hlt : k < c
    · have c1 := HX.out.en i k hi hlt
      have c2 := HX.out.en r k hr hlt
      have f1 := HX.out.fr i k hi hlt
      obtain ⟨-, s1, -, -⟩ := HX.out.ad i hi h0
      obtain ⟨-, s2, -, -⟩ := HX.out.ad r hr h0
      have c5 := (World.cell?_of_block (a := ⟨b5, 0, none⟩) (HF.out.block b5 n5)).trans h5
      have c9 := (World.cell?_of_block (a := ⟨b9, 0, none⟩) (HF.out.block b9 n9)).trans H9.out
      have e1 : cmbN r i by_ a k i k = a i k := if_neg (by omega)
      have e2 : cmbN r i by_ a k r k = a r k := if_neg (by omega)
      rw [e1] at c1
      rw [e2] at c2
      have l1 := HL.out i k hi hlt
      have l2 := HL.out r k hr hlt
      have hne : bs i ≠ bs r := fun e => hir (HX.out.ij i r hi hr h0 e)
      obtain ⟨p, hp⟩ : ∃ p, a i k = p := ⟨_, rfl⟩
      obtain ⟨q, hq⟩ : ∃ q, a r k = q := ⟨_, rfl⟩
      obtain ⟨t, ht⟩ : ∃ t, by_ * q % PM = t := ⟨_, rfl⟩
      obtain ⟨v, hv⟩ : ∃ v, subN p t PM = v := ⟨_, rfl⟩
      have HT := Lib.hid ht
      have HV := Lib.hid hv
      have HTL : Hid (t < PM) := by rw [← ht]; exact Nat.mod_lt _ (by decide)
      rw [hp] at c1 l1
      rw [hq] at c2 l2
      have HP := Lib.hid l1
      have HQ := Lib.hid l2
      have HS1 := Lib.hid s1
      have HX' : Hid (∀ m, MX ((wr.drewN m).setCell ⟨bs i, k, none⟩ (.int .u64 (v : Nat))) S P bA n c A bs (cmbN r i by_ a (k + 1))) := fun m =>
        ((HX.out.drewN m).store hi hlt v).congr fun x y _ _ => by
          unfold cmbN
          by_cases e : x = i ∧ y = k
          · rw [if_pos e, if_pos ⟨e.1, by omega, by omega⟩, e.2, hp, hq, ht, hv]
          · rw [if_neg e]
            by_cases e2 : x = i ∧ r ≤ y ∧ y < k
            · rw [if_pos e2, if_pos ⟨e2.1, e2.2.1, by omega⟩]
            · rw [if_neg e2, if_neg (by omega)]
      have HF' : Hid (∀ m, Fm S w ((wr.drewN m).setCell ⟨bs i, k, none⟩ (.int .u64 (v : Nat)))) := fun m => (HF.out.drewN m).set s1 _ _
      clear HX HF e1 e2 l1 l2 hp hq ht hv s1 s2
      go_wp2_with fail
      go_region_with (first
        | (go_at_call 67; refine (mulmod_any by_ q PM (by have := HBY.out; have := HPM.out; omega) (by have := HQ.out; have := HPM.out; omega) (by decide) (by decide) _).mono ?_; rintro e w1 ⟨rfl, m1, rfl⟩; rw [HT.out])
        | (go_at_call 68; refine (submod_any p t PM HP.out HTL.out (by decide) _).mono ?_; rintro e w1 ⟨rfl, rfl⟩; rw [HV.out]))
      all_goals
        go_wp2_with fail
        go_roundw
        case rel => first
          | exact ⟨k + 1, by omega, by omega, by go_num, HX'.out _, HF'.out _⟩
          | exact ⟨k + 1, by omega, by omega, by go_num, (HX'.out _).drew, (HF'.out _).drew⟩
        case measure => simp [intOf]; omega
    · obtain rfl : k = c := by omega
      go_wp2_with fail
      refine bodyPost_end (results_none rfl _ _ _) rfl ?_
      exact ⟨rfl, HX.out, HF.out⟩
end Go.Proofs.Yteanhbldhaiekaa
