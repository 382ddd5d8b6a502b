/-
  The contract of the closure rowStep of isolate.
-/
import Derived.Test.YtjlokbolmindgaaSmt
import Derived.Test.YtjlokbolmindgaaRes
import Derived.Test.YtjlokbolmindgaaQTail
import Derived.Deep.CutBlock
namespace Go.Proofs.Ytjlokbolmindgaa
open Go.RowKit

theorem MX.heap {w w' : World} {S : Nat → Prop} {P : Option Addr} {bA n c : Nat} {A : Nat → Option Addr} {bs : Nat → Nat} {a : Nat → Nat → Nat} (h : MX w S P bA n c A bs a) (e : w'.heap = w.heap) : MX w' S P bA n c A bs a :=
  h.keep (by rw [e]; exact Nat.le_refl _) fun b _ _ => by rw [e]
theorem Fm.heap {S : Nat → Prop} {a b b' : World} (h : Fm S a b) (e : b'.heap = b.heap) (e1 : b'.os = b.os) (e2 : b'.tape = b.tape) (e3 : b'.output = b.output) : Fm S a b' :=
  ⟨e1.trans h.os, e2.trans h.tape, e3.trans h.output, by rw [e]; exact h.size, fun x hx => by rw [e]; exact h.block x hx⟩
/-- the boxes that the closures of isolate captured -/
structure IB (w : World) (S : Nat → Prop) (b3 b4 b5 bA n k M : Nat) : Prop where
  c3 : w.cell? ⟨b3, 0, none⟩ = some (.slice (some ⟨bA, 0, none⟩) n n)
  c4 : w.cell? ⟨b4, 0, none⟩ = some (.int .i64 k)
  c5 : w.cell? ⟨b5, 0, none⟩ = some (.int .u64 M)
  n3 : ¬ S b3
  n4 : ¬ S b4
  n5 : ¬ S b5
theorem IB.fm {w w' : World} {S : Nat → Prop} {b3 b4 b5 bA n k M : Nat} (h : IB w S b3 b4 b5 bA n k M) (hf : Fm S w w') : IB w' S b3 b4 b5 bA n k M :=
  ⟨(World.cell?_of_block (a := ⟨b3, 0, none⟩) (hf.block b3 h.n3)).trans h.c3, (World.cell?_of_block (a := ⟨b4, 0, none⟩) (hf.block b4 h.n4)).trans h.c4, (World.cell?_of_block (a := ⟨b5, 0, none⟩) (hf.block b5 h.n5)).trans h.c5, h.n3, h.n4, h.n5⟩
/-- the first columns of a subtraction of rows -/
def rbN (M k i t : Nat) (a : Nat → Nat → Nat) (j x y : Nat) : Nat := if x = i ∧ k ≤ y ∧ y < j then subN (a i y) (t * a k y % M) M else a x y
set_option maxHeartbeats 8000000 in
theorem rowstep_any {w : World} {S : Nat → Prop} {bA n c : Nat} {A : Nat → Option Addr} {bs : Nat → Nat} {a : Nat → Nat → Nat} (b3 b4 b5 k i M : Nat) (h : MX w S (some ⟨bA, 0, none⟩) bA n c A bs a) (hB : IB w S b3 b4 b5 bA n k M)
    (hki : k < i) (hi : i < n) (hk : k < c) (hnl : n ≤ 64) (hcl : c ≤ 64) (h0 : a k k ≠ 0) (hlt : ∀ x y, x < n → y < c → a x y < M) (hM : M ≤ 4611686018427387904) :
    Calls Try.prog 47 #[.int .i64 i, .pointer (some ⟨b3, 0, none⟩), .pointer (some ⟨b4, 0, none⟩), .pointer (some ⟨b5, 0, none⟩)] w fun e w' =>
      e = .returned (.tuple #[]) ∧ (∃ A' bs', MX w' S (some ⟨bA, 0, none⟩) bA n c A' bs' (rsN M k i a)) ∧ Fm S w w' := by
  have hkn : k < n := by omega
  have c3 := hB.c3
  have c4 := hB.c4
  have d1 := h.hd i hi
  have d2 := h.hd k hkn
  have e1 := (h.ad i hi (by omega)).1
  have e2 := (h.ad k hkn (by omega)).1
  rw [e1] at d1
  rw [e2] at d2
  have g1 := h.en i k hi hk
  have g2 := h.en k k hkn hk
  have f1 := h.fz i hi
  have f2 := h.fz k hkn
  have hA := (h.top (by omega)).2.1
  have HX := Lib.hid h
  have HIB := Lib.hid hB
  have HLT := Lib.hid hlt
  obtain ⟨p, hp⟩ : ∃ p, a i k = p := ⟨_, rfl⟩
  obtain ⟨q, hq⟩ : ∃ q, a k k = q := ⟨_, rfl⟩
  obtain ⟨r, hr⟩ : ∃ r, p % q = r := ⟨_, rfl⟩
  have hpl := hlt i k hi hk
  have hql := hlt k k hkn hk
  rw [hp] at g1 hpl
  rw [hq] at g2 h0 hql
  have x0 : ¬ (q : Int) = 0 := by omega
  have x1 : (p : Int).tmod (q : Int) = (r : Int) := by rw [← hr]; exact Int.ofNat_tmod p q
  have x1' : (p : Int) % (q : Int) = (r : Int) := by rw [← hr]; rfl
  have hrl : r < q := by rw [← hr]; exact Nat.mod_lt _ (Nat.pos_of_ne_zero h0)
  have x2 : IntKind.u64.wrap (r : Int) = (r : Int) := wrapN _ (by omega)
  have HP := Lib.hid hp
  have HQ := Lib.hid hq
  have HR := Lib.hid hr
  have HE1 := Lib.hid e1
  have HE2 := Lib.hid e2
  have HH0 := Lib.hid h0
  clear h hB hlt hp hq hr e1 e2
  go_enter Try.func47, Try.ntmps47
  go_wp2_with fail
  go_quiet (fail)
  go_wp2_with fail
  go_quiet (fail)
  go_upto_if 32 with fail
  go_cut [5, 6] from 33 to 42 (fun f g wx => ∃ A' bs', f = .slice (some ⟨bs' i, 0, none⟩) c c ∧ g = .slice (some ⟨bs' k, 0, none⟩) c c ∧ Hid (MX wx S (some ⟨bA, 0, none⟩) bA n c A' bs' (rsA k i a)) ∧ Hid (Fm S w wx))
  case first =>
    by_cases hr0 : r = 0
    · subst hr0
      have HX' : Hid (MX w S (some ⟨bA, 0, none⟩) bA n c A bs (rsA k i a)) := by
        have e : rsA k i a = a := by funext x y; unfold rsA; rw [HP.out, HQ.out, if_pos HR.out]
        rw [e]; exact HX.out
      go_wp2_with fail
      go_meet
      case rel => exact ⟨A, bs, rfl, rfl, HX'.out.heap rfl, (Fm.refl _ _).heap rfl rfl rfl rfl⟩
    · have hr0' : ((r : Int) != 0) = true := by rw [bne_iff_ne]; omega
      have hR := HX.out.rows hkn hi
      have hF := ((Fm.refl S w).set hA k (.slice (A i) c c)).set hA i (.slice (A k) c c)
      rw [HE1.out, HE2.out] at hR hF
      have e : rsA k i a = fun x y => a (xg k i x) y := by
        funext x y
        unfold rsA
        rw [HP.out, HQ.out, if_neg (by rw [HR.out]; exact hr0)]
        congr 1
        unfold xg
        split <;> split <;> simp_all
      rw [← e] at hR
      have HX' := Lib.hid hR
      have HF' := Lib.hid hF
      have y1 : bs (xg k i i) = bs k := by rw [xg_k]
      have y2 : bs (xg k i k) = bs i := by rw [xg_i]
      have HY := Lib.hid (And.intro y1 y2)
      have c6 : ∀ (v : Value) (m : Nat), ((w.drewN m).setCell ⟨bA, k, none⟩ v).cell? ⟨bA, i, none⟩ = some (.slice (some ⟨bs i, 0, none⟩) c c) := fun v m => (set_other (by intro e; injection e with _ e; omega)).trans d1
      have z3 : ∀ (v : Value) (m : Nat) , ((w.drewN m).setCell ⟨bA, k, none⟩ v).cell? ⟨b3, 0, none⟩ = some (.slice (some ⟨bA, 0, none⟩) n n) := fun v m => (set_other (by intro e; injection e with e; exact HIB.out.n3 (e ▸ hA))).trans c3
      clear hR hF e y1 y2
      go_wp2_with fail
      go_region
      all_goals
        go_wp2_with fail
        go_meet
        case rel => exact ⟨_, _, by rw [HY.out.1], by rw [HY.out.2], HX'.out.heap rfl, HF'.out.heap rfl rfl rfl rfl⟩
  case rest =>
    obtain ⟨A1, bs1, rfl, rfl, HX1, HF1⟩ := hcut
    have hib := HIB.out.fm HF1.out
    have HLT1 : Hid (∀ x y, x < n → y < c → rsA k i a x y < M) := by
      intro x y hx hy
      unfold rsA
      split
      · exact HLT.out x y hx hy
      · exact HLT.out _ y (xg_lt hi hkn hx) hy
    have hQ0 : rsA k i a k k ≠ 0 := by
      unfold rsA
      rw [HP.out, HQ.out]
      split
      · exact HH0.out
      · rename_i hz
        rw [xg_k, HP.out]
        intro e
        rw [e, Nat.zero_mod] at hz
        exact hz rfl
    have HN : Hid (rsN M k i a = rsB M k i (rsA k i a i k / rsA k i a k k) (rsA k i a)) := Lib.hid rfl
    generalize rsA k i a = a1 at HX1 HLT1 hQ0 HN
    have c4 := hib.c4
    have c5 := hib.c5
    have HI1 := Lib.hid hib
    have g1 := HX1.out.en i k hi hk
    have g2 := HX1.out.en k k hkn hk
    have hp1 := HLT1.out i k hi hk
    have hq1 := HLT1.out k k hkn hk
    obtain ⟨t, ht⟩ : ∃ t, a1 i k / a1 k k = t := ⟨_, rfl⟩
    rw [ht] at HN
    have x1 : ((a1 i k : Nat) : Int).tdiv ((a1 k k : Nat) : Int) = (t : Int) := by rw [← ht]; exact Int.ofNat_tdiv _ _
    have x1' : ((a1 i k : Nat) : Int) / ((a1 k k : Nat) : Int) = (t : Int) := by rw [← ht]; rfl
    have htl : t ≤ a1 i k := by rw [← ht]; exact Nat.div_le_self _ _
    have htl2 : t < M := by omega
    have x2 : IntKind.u64.wrap (t : Int) = (t : Int) := wrapN _ (by omega)
    have x0 : ¬ ((a1 k k : Nat) : Int) = 0 := by omega
    have HTL := Lib.hid htl2
    have HXr : Hid (MX wc S (some ⟨bA, 0, none⟩) bA n c A1 bs1 (rbN M k i t a1 k)) := Lib.hid (HX1.out.congr fun x y _ _ => by unfold rbN; rw [if_neg (by omega)])
    generalize a1 i k = p1 at g1 hp1 x1 x1' htl
    generalize a1 k k = q1 at g2 hq1 x1 x1' x0 hQ0
    clear ht hib HX1 HP HQ HR HE1 HE2 HH0 htl htl2 c3 d1 d2
    go_wp2_with fail
    go_quiet (fail)
    clear g1 g2 x1 x1' x0 x2
    go_wp2_with fail
    go_loopw [8] (fun j' wr => ∃ j : Nat, k ≤ j ∧ j ≤ c ∧ j' = .int .i64 j ∧ Hid (MX wr S (some ⟨bA, 0, none⟩) bA n c A1 bs1 (rbN M k i t a1 j)) ∧ Hid (Fm S w wr)) (fun j _ => c - (intOf j).toNat)
    case atStart => exact ⟨k, Nat.le_refl _, by omega, rfl, HXr.out.heap rfl, HF1.out.heap rfl rfl rfl rfl⟩
    case round =>
      clear HXr HF1
      obtain ⟨j, hkj, hjc, rfl, HX, HF⟩ := hrel
      by_cases hltj : j < c
      · have c1 := HX.out.en i j hi hltj
        have c2 := HX.out.en k j hkn hltj
        have f1 := HX.out.fr i j hi hltj
        obtain ⟨-, s1, -, -⟩ := HX.out.ad i hi (by omega)
        have hib := HIB.out.fm HF.out
        have c5 := hib.c5
        have e1 : rbN M k i t a1 j i j = a1 i j := if_neg (by omega)
        have e2 : rbN M k i t a1 j k j = a1 k j := if_neg (by omega)
        rw [e1] at c1
        rw [e2] at c2
        have l1 := HLT1.out i j hi hltj
        have l2 := HLT1.out k j hkn hltj
        obtain ⟨p, hp⟩ : ∃ p, a1 i j = p := ⟨_, rfl⟩
        obtain ⟨q, hq⟩ : ∃ q, a1 k j = q := ⟨_, rfl⟩
        obtain ⟨u, hu⟩ : ∃ u, t * q % M = u := ⟨_, rfl⟩
        obtain ⟨v, hv⟩ : ∃ v, subN p u M = v := ⟨_, rfl⟩
        have HU := Lib.hid hu
        have HV := Lib.hid hv
        have HUL : Hid (u < M) := by rw [← hu]; exact Nat.mod_lt _ (by omega)
        rw [hp] at c1 l1
        rw [hq] at c2 l2
        have HPP := Lib.hid l1
        have HQQ := Lib.hid l2
        have HX' : Hid (MX (wr.setCell ⟨bs1 i, j, none⟩ (.int .u64 (v : Nat))) S (some ⟨bA, 0, none⟩) bA n c A1 bs1 (rbN M k i t a1 (j + 1))) :=
          (HX.out.store hi hltj v).congr fun x y _ _ => by
            unfold rbN
            by_cases e : x = i ∧ y = j
            · rw [if_pos e, if_pos ⟨e.1, by omega, by omega⟩, e.2, hp, hq, hu, hv]
            · rw [if_neg e]
              by_cases e2 : x = i ∧ k ≤ y ∧ y < j
              · rw [if_pos e2, if_pos ⟨e2.1, e2.2.1, by omega⟩]
              · rw [if_neg e2, if_neg (by omega)]
        have HF' : Hid (Fm S w (wr.setCell ⟨bs1 i, j, none⟩ (.int .u64 (v : Nat)))) := HF.out.set s1 _ _
        have hM0 : ¬ M = 0 := by omega
        have HM0 := Lib.hid hM0
        have HMUL : Hid (∀ w, Calls Try.prog 41 #[.int .u64 t, .int .u64 q, .int .u64 M] w fun e w' => e = .returned (.int .u64 (u : Nat)) ∧ ∃ n, w' = w.drewN n) := fun w => by
          have := mulmod_any t q M (by have := HTL.out; omega) (by have := HQQ.out; omega) (by omega) hM0 w
          rwa [hu] at this
        have HSUB : Hid (∀ w, Calls Try.prog 42 #[.int .u64 p, .int .u64 u, .int .u64 M] w fun e w' => e = .returned (.int .u64 (v : Nat)) ∧ w' = w) := fun w => by
          have := submod_any p u M HPP.out HUL.out (by omega) w
          rw [hv] at this
          exact this.mono fun _ _ h => ⟨h.1, h.2.symm⟩
        clear HX HF e1 e2 l1 l2 hp hq hu hv s1 hib hM0
        go_wp2_with fail
        refine Go.region_quiet_tail 16 (by kernel_rfl) (by kernel_rfl) ?_
        simp only [List.take_succ_cons, List.take_zero, List.drop_succ_cons, List.drop_zero]
        repeat (go_big_quiet_step (first | exact Calls.quiet_of (HMUL.out _) | exact Calls.quiet_of_same (HSUB.out _)))
        refine wpQuiet_nil ?_
        rintro _ ⟨nq, rfl⟩
        all_goals
          go_wp2_with fail
          go_roundw
          case rel => exact ⟨j + 1, by omega, by omega, by go_num, HX'.out.heap rfl, HF'.out.heap rfl rfl rfl rfl⟩
          case measure => simp [intOf]; omega
      · obtain rfl : j = c := by omega
        have HXE : Hid (MX wr S (some ⟨bA, 0, none⟩) bA n j A1 bs1 (rsN M k i a)) := by
          rw [HN.out]
          exact HX.out.congr fun x y _ hy => by
            unfold rbN rsB
            by_cases e : x = i ∧ k ≤ y
            · rw [if_pos e, if_pos ⟨e.1, e.2, hy⟩]
            · rw [if_neg e, if_neg (fun h => e ⟨h.1, h.2.1⟩)]
        go_wp2_with fail
        refine bodyPost_end (results_none rfl _ _ _) rfl ?_
        exact ⟨rfl, ⟨A1, bs1, HXE.out⟩, HF.out⟩
end Go.Proofs.Ytjlokbolmindgaa

