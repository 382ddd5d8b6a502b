/-
  The contract of the closure combine of eliminate.
-/
import Derived.Test.YteanhbldhaiekaaRes
import Derived.Deep.RegionWith
namespace Go.Proofs.Yteanhbldhaiekaa
open Go.RowKit

def cmbN (r i by_ : Nat) (a : Nat → Nat → Nat) (k x y : Nat) : Nat := if x = i ∧ r ≤ y ∧ y < k then subN (a i y) (by_ * a r y % PM) PM else a x y
set_option maxHeartbeats 4000000 in
theorem combine_any {w : World} {S : Nat → Prop} {P : Option Addr} {bA n c : Nat} {A : Nat → Option Addr} {bs : Nat → Nat} {a : Nat → Nat → Nat} (r i by_ b5 b9 : Nat) (h : MX w S P bA n c A bs a) (hi : i < n) (hr : r < n) (hir : i ≠ r) (hrc : r ≤ c) (h0 : 0 < c) (hcl : c ≤ 1000) (hby : by_ < PM) (hlt : ∀ x y, x < n → y < c → a x y < PM)
    (h5 : w.cell? ⟨b5, 0, none⟩ = some (.int .i64 r)) (h9 : w.cell? ⟨b9, 0, none⟩ = some (.slice (some ⟨bs r, 0, none⟩) c c)) (n5 : ¬ S b5) (n9 : ¬ S b9) :
    Calls Try.prog 70 #[.slice (some ⟨bs i, 0, none⟩) c c, .int .u64 by_, .pointer (some ⟨b5, 0, none⟩), .pointer (some ⟨b9, 0, none⟩)] w fun e w' =>
      e = .returned (.tuple #[]) ∧ MX w' S P bA n c A bs (cmbN r i by_ a c) ∧ Fm S w w' := by
  have HX : Hid (MX w S P bA n c A bs (cmbN r i by_ a r)) := h.congr fun x y _ _ => by unfold cmbN; rw [if_neg (by omega)]
  have HL := Lib.hid hlt
  have HBY := Lib.hid hby
  have H9 := Lib.hid h9
  have HPM : Hid (PM = 2305843009213693951) := Lib.hid rfl
  clear h hlt hby h9
  go_enter Try.func70, Try.ntmps70
  go_wp2_with fail
  go_loopw [6] (fun k' wr => ∃ k : Nat, r ≤ k ∧ k ≤ c ∧ k' = .int .i64 k ∧ Hid (MX wr S P bA n c A bs (cmbN r i by_ a k)) ∧ Hid (Fm S w wr)) (fun k _ => c - (intOf k).toNat)
  case atStart => exact ⟨r, Nat.le_refl _, hrc, rfl, HX, Fm.refl _ _⟩
  case round =>
    clear HX
    obtain ⟨k, hrk, hkc, rfl, HX, HF⟩ := hrel
    by_cases hlt : k < c
    · have c1 := HX.out.en i k hi hlt
      have c2 := HX.out.en r k hr hlt
      have f1 := HX.out.fr i k hi hlt
      obtain ⟨-, s1, -, -⟩ := HX.out.ad i hi h0
      obtain ⟨-, s2, -, -⟩ := HX.out.ad r hr h0
      have c5 := (World.cell?_of_block (a := ⟨b5, 0, none⟩) (HF.out.block b5 n5)).trans h5
      have c9 := (World.cell?_of_block (a := ⟨b9, 0, none⟩) (HF.out.block b9 n9)).trans H9.out
      have e1 : cmbN r i by_ a k i k = a i k := if_neg (by omega)
      have e2 : cmbN r i by_ a k r k = a r k := if_neg (by omega)
      rw [e1] at c1
      rw [e2] at c2
      have l1 := HL.out i k hi hlt
      have l2 := HL.out r k hr hlt
      have hne : bs i ≠ bs r := fun e => hir (HX.out.ij i r hi hr h0 e)
      obtain ⟨p, hp⟩ : ∃ p, a i k = p := ⟨_, rfl⟩
      obtain ⟨q, hq⟩ : ∃ q, a r k = q := ⟨_, rfl⟩
      obtain ⟨t, ht⟩ : ∃ t, by_ * q % PM = t := ⟨_, rfl⟩
      obtain ⟨v, hv⟩ : ∃ v, subN p t PM = v := ⟨_, rfl⟩
      have HT := Lib.hid ht
      have HV := Lib.hid hv
      have HTL : Hid (t < PM) := by rw [← ht]; exact Nat.mod_lt _ (by decide)
      rw [hp] at c1 l1
      rw [hq] at c2 l2
      have HP := Lib.hid l1
      have HQ := Lib.hid l2
      have HS1 := Lib.hid s1
      have HX' : Hid (∀ m, MX ((wr.drewN m).setCell ⟨bs i, k, none⟩ (.int .u64 (v : Nat))) S P bA n c A bs (cmbN r i by_ a (k + 1))) := fun m =>
        ((HX.out.drewN m).store hi hlt v).congr fun x y _ _ => by
          unfold cmbN
          by_cases e : x = i ∧ y = k
          · rw [if_pos e, if_pos ⟨e.1, by omega, by omega⟩, e.2, hp, hq, ht, hv]
          · rw [if_neg e]
            by_cases e2 : x = i ∧ r ≤ y ∧ y < k
            · rw [if_pos e2, if_pos ⟨e2.1, e2.2.1, by omega⟩]
            · rw [if_neg e2, if_neg (by omega)]
      have HF' : Hid (∀ m, Fm S w ((wr.drewN m).setCell ⟨bs i, k, none⟩ (.int .u64 (v : Nat)))) := fun m => (HF.out.drewN m).set s1 _ _
      clear HX HF e1 e2 l1 l2 hp hq ht hv s1 s2
      go_wp2_with fail
      go_region_with (first
        | (go_at_call 67; refine (mulmod_any by_ q PM (by have := HBY.out; have := HPM.out; omega) (by have := HQ.out; have := HPM.out; omega) (by decide) (by decide) _).mono ?_; rintro e w1 ⟨rfl, m1, rfl⟩; rw [HT.out])
        | (go_at_call 68; refine (submod_any p t PM HP.out HTL.out (by decide) _).mono ?_; rintro e w1 ⟨rfl, rfl⟩; rw [HV.out]))
      all_goals
        go_wp2_with fail
        go_roundw
        case rel => first
          | exact ⟨k + 1, by omega, by omega, by go_num, HX'.out _, HF'.out _⟩
          | exact ⟨k + 1, by omega, by omega, by go_num, (HX'.out _).drew, (HF'.out _).drew⟩
        case measure => simp [intOf]; omega
    · obtain rfl : k = c := by omega
      go_wp2_with fail
      refine bodyPost_end (results_none rfl _ _ _) rfl ?_
      exact ⟨rfl, HX.out, HF.out⟩
end Go.Proofs.Yteanhbldhaiekaa

