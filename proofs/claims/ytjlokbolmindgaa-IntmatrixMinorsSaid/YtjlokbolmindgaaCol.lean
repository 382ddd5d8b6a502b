/-
  The contract of the closure columnStep of isolate.
-/
import Derived.Test.YtjlokbolmindgaaRow
namespace Go.Proofs.Ytjlokbolmindgaa
open Go.RowKit

/-- the first rows of an exchange of columns; of a subtraction of columns -/
def cxN (k j : Nat) (a : Nat → Nat → Nat) (r x y : Nat) : Nat := if k ≤ x ∧ x < r then a x (xg j k y) else a x y
def cbN (M k j t : Nat) (a : Nat → Nat → Nat) (r x y : Nat) : Nat := if k ≤ x ∧ x < r ∧ y = j then subN (a x j) (t * a x k % M) M else a x y
set_option maxHeartbeats 8000000 in
theorem colstep_any {w : World} {S : Nat → Prop} {bA n c : Nat} {A : Nat → Option Addr} {bs : Nat → Nat} {a : Nat → Nat → Nat} (b3 b4 b5 k j M : Nat) (h : MX w S (some ⟨bA, 0, none⟩) bA n c A bs a) (hB : IB w S b3 b4 b5 bA n k M)
    (hkj : k < j) (hj : j < c) (hk : k < n) (hnl : n ≤ 64) (hcl : c ≤ 64) (h0 : a k k ≠ 0) (hlt : ∀ x y, x < n → y < c → a x y < M) (hM : M ≤ 4611686018427387904) :
    Calls Try.prog 48 #[.int .i64 j, .pointer (some ⟨b3, 0, none⟩), .pointer (some ⟨b4, 0, none⟩), .pointer (some ⟨b5, 0, none⟩)] w fun e w' =>
      e = .returned (.tuple #[]) ∧ (∃ A' bs', MX w' S (some ⟨bA, 0, none⟩) bA n c A' bs' (csN M k j a)) ∧ Fm S w w' := by
  have hkc : k < c := by omega
  have c3 := hB.c3
  have c4 := hB.c4
  have d2 := h.hd k hk
  have e2 := (h.ad k hk (by omega)).1
  rw [e2] at d2
  have g1 := h.en k j hk hj
  have g2 := h.en k k hk hkc
  have HX := Lib.hid h
  have HIB := Lib.hid hB
  have HLT := Lib.hid hlt
  obtain ⟨p, hp⟩ : ∃ p, a k j = p := ⟨_, rfl⟩
  obtain ⟨q, hq⟩ : ∃ q, a k k = q := ⟨_, rfl⟩
  obtain ⟨r, hr⟩ : ∃ r, p % q = r := ⟨_, rfl⟩
  have hpl := hlt k j hk hj
  have hql := hlt k k hk hkc
  rw [hp] at g1 hpl
  rw [hq] at g2 h0 hql
  have x0 : ¬ (q : Int) = 0 := by omega
  have x1 : (p : Int).tmod (q : Int) = (r : Int) := by rw [← hr]; exact Int.ofNat_tmod p q
  have x1' : (p : Int) % (q : Int) = (r : Int) := by rw [← hr]; rfl
  have hrl : r < q := by rw [← hr]; exact Nat.mod_lt _ (Nat.pos_of_ne_zero h0)
  have x2 : IntKind.u64.wrap (r : Int) = (r : Int) := wrapN _ (by omega)
  have HP := Lib.hid hp
  have HQ := Lib.hid hq
  have HR := Lib.hid hr
  have HH0 := Lib.hid h0
  clear h hB hlt hp hq hr e2
  go_enter Try.func48, Try.ntmps48
  go_wp2_with fail
  go_quiet (fail)
  go_upto_if 25 with fail
  go_cut [] from 26 to 48 (fun wx => Hid (MX wx S (some ⟨bA, 0, none⟩) bA n c A bs (csA k j a)) ∧ Hid (Fm S w wx))
  case first =>
    by_cases hr0 : r = 0
    · subst hr0
      have HX' : Hid (MX w S (some ⟨bA, 0, none⟩) bA n c A bs (csA k j a)) := by
        have e : csA k j a = a := by funext x y; unfold csA; rw [HP.out, HQ.out, if_pos HR.out]
        rw [e]; exact HX.out
      go_wp2_with fail
      go_meet
      case rel => exact ⟨HX'.out.heap rfl, (Fm.refl _ _).heap rfl rfl rfl rfl⟩
    · have hr0' : ((r : Int) != 0) = true := by rw [bne_iff_ne]; omega
      obtain ⟨d, hd⟩ : ∃ d, n = k + d := ⟨n - k, by omega⟩
      have hkn : ¬ n < k := by omega
      have hne : ¬ n = k := by omega
      have y1 : n - k = d := by omega
      have HD := Lib.hid hd
      have HCS : Hid (∀ x y, x < n → csA k j a x y = cxN k j a n x y) := by
        intro x y hx
        unfold csA cxN
        rw [HP.out, HQ.out, if_neg (by rw [HR.out]; exact hr0)]
        by_cases e : k ≤ x
        · rw [if_pos e, if_pos ⟨e, hx⟩]
        · rw [if_neg e, if_neg (fun h => e h.1)]
      have HX0 : Hid (MX w S (some ⟨bA, 0, none⟩) bA n c A bs (cxN k j a k)) := Lib.hid (HX.out.congr fun x y _ _ => by unfold cxN; rw [if_neg (by omega)])
      clear hd
      go_wp2_with fail
      go_loopw [30] (fun t' wr => ∃ t : Nat, t ≤ d ∧ t' = .int .i64 t ∧ Hid (MX wr S (some ⟨bA, 0, none⟩) bA n c A bs (cxN k j a (k + t))) ∧ Hid (Fm S w wr)) (fun t _ => d - (intOf t).toNat)
      case atStart => exact ⟨0, Nat.zero_le _, rfl, HX0.out.heap rfl, (Fm.refl _ _).heap rfl rfl rfl rfl⟩
      case round =>
        clear HX0
        obtain ⟨t, ht, rfl, HX1, HF1⟩ := hrel
        have hib := HIB.out.fm HF1.out
        have c4 := hib.c4
        by_cases hlt1 : t < d
        · have hxn : k + t < n := by have := HD.out; omega
          have u1 := HX1.out.hd (k + t) hxn
          obtain ⟨e1, s1, -, -⟩ := HX1.out.ad (k + t) hxn (by omega)
          rw [e1] at u1
          have u2 := HX1.out.en (k + t) k hxn hkc
          have u3 := HX1.out.en (k + t) j hxn hj
          have f2 := HX1.out.fr (k + t) k hxn hkc
          have f3 := HX1.out.fr (k + t) j hxn hj
          have hsw := HX1.out.swap hxn hkc hj (show k ≠ j by omega)
          have ez : ∀ y, cxN k j a (k + t) (k + t) y = a (k + t) y := fun y => if_neg (by omega)
          rw [ez] at u2 u3
          rw [ez, ez] at hsw
          have HX2 := Lib.hid (hsw.congr (b := cxN k j a (k + t + 1)) fun x y _ _ => by
            unfold cxN
            by_cases e : x = k + t
            · subst e
              rw [if_pos rfl, if_neg (by omega), if_pos ⟨by omega, by omega⟩]
              congr 1
              unfold xg
              split <;> split <;> simp_all
            · rw [if_neg e]
              by_cases e2 : k ≤ x ∧ x < k + t
              · rw [if_pos e2, if_pos ⟨e2.1, by omega⟩]
              · rw [if_neg e2, if_neg (by omega)])
          have HF2 := Lib.hid ((HF1.out.set s1 k (.int .u64 (a (k + t) j : Nat))).set s1 j (.int .u64 (a (k + t) k : Nat)))
          generalize bs (k + t) = g at u1 u2 u3 f2 f3 HX2 HF2 s1
          generalize a (k + t) k = p1 at u2 HX2 HF2
          generalize a (k + t) j = q1 at u3 HX2 HF2
          have c6 : ∀ (v : Value) (m : Nat), ((wr.drewN m).setCell ⟨g, k, none⟩ v).cell? ⟨g, j, none⟩ = some (.int .u64 (q1 : Nat)) := fun v m => (set_other (by intro e; injection e with _ e; omega)).trans u3
          clear hsw HX1 HF1 e1 hib ez
          go_wp2_with fail
          go_region
          all_goals
            go_wp2_with fail
            go_roundw
            case rel => exact ⟨t + 1, by omega, by go_num, HX2.out.heap rfl, HF2.out.heap rfl rfl rfl rfl⟩
            case measure => simp [intOf]; omega
        · obtain rfl : t = d := by omega
          have HX2 := Lib.hid (HX1.out.congr (b := csA k j a) fun x y hx _ => by rw [HCS.out x y hx, HD.out])
          clear HX1
          go_wp2_with fail
          go_meet
          case rel => exact ⟨HX2.out.heap rfl, HF1.out.heap rfl rfl rfl rfl⟩
  case rest =>
    obtain ⟨HX1, HF1⟩ := hcut
    have hib := HIB.out.fm HF1.out
    have HLT1 : Hid (∀ x y, x < n → y < c → csA k j a x y < M) := by
      intro x y hx hy
      unfold csA
      split
      · exact HLT.out x y hx hy
      · split
        · exact HLT.out x _ hx (xg_lt hj hkc hy)
        · exact HLT.out x y hx hy
    have hQ0 : csA k j a k k ≠ 0 := by
      unfold csA
      rw [HP.out, HQ.out]
      split
      · exact HH0.out
      · rename_i hz
        rw [if_pos (Nat.le_refl _), xg_k, HP.out]
        intro e
        rw [e, Nat.zero_mod] at hz
        exact hz rfl
    have HN : Hid (csN M k j a = csB M k j (csA k j a k j / csA k j a k k) (csA k j a)) := Lib.hid rfl
    generalize csA k j a = a1 at HX1 HLT1 hQ0 HN
    have c4 := hib.c4
    have c3 := hib.c3
    have d2 := HX1.out.hd k hk
    rw [(HX1.out.ad k hk (by omega)).1] at d2
    have g1 := HX1.out.en k j hk hj
    have g2 := HX1.out.en k k hk hkc
    have hp1 := HLT1.out k j hk hj
    have hq1 := HLT1.out k k hk hkc
    obtain ⟨t, ht⟩ : ∃ t, a1 k j / a1 k k = t := ⟨_, rfl⟩
    rw [ht] at HN
    have x1 : ((a1 k j : Nat) : Int).tdiv ((a1 k k : Nat) : Int) = (t : Int) := by rw [← ht]; exact Int.ofNat_tdiv _ _
    have x1' : ((a1 k j : Nat) : Int) / ((a1 k k : Nat) : Int) = (t : Int) := by rw [← ht]; rfl
    have htl : t ≤ a1 k j := by rw [← ht]; exact Nat.div_le_self _ _
    have htl2 : t < M := by omega
    have x2 : IntKind.u64.wrap (t : Int) = (t : Int) := wrapN _ (by omega)
    have x0 : ¬ ((a1 k k : Nat) : Int) = 0 := by omega
    have HTL := Lib.hid htl2
    generalize a1 k j = p1 at g1 hp1 x1 x1' htl
    generalize a1 k k = q1 at g2 hq1 x1 x1' x0 hQ0
    clear ht hib HP HQ HR HH0 htl htl2
    go_wp2_with fail
    go_quiet (fail)
    clear g1 g2 x1 x1' x0 x2
    have HX3 : Hid (MX (wc.drewN nq) S (some ⟨bA, 0, none⟩) bA n c A bs (cbN M k j t a1 k)) := Lib.hid ((HX1.out.congr (b := cbN M k j t a1 k) fun x y _ _ => by unfold cbN; rw [if_neg (by omega)]).heap rfl)
    have HF3 : Hid (Fm S w (wc.drewN nq)) := Lib.hid (HF1.out.heap rfl rfl rfl rfl)
    clear HX1 HF1 d2
    replace c3 : (wc.drewN nq).cell? ⟨b3, 0, none⟩ = some (.slice (some ⟨bA, 0, none⟩) n n) := c3
    replace c4 : (wc.drewN nq).cell? ⟨b4, 0, none⟩ = some (.int .i64 k) := c4
    generalize wc.drewN nq = w2 at HX3 HF3 c3 c4 ⊢
    obtain ⟨d, hd⟩ : ∃ d, n = k + d := ⟨n - k, by omega⟩
    have hkn : ¬ n < k := by omega
    have hne : ¬ n = k := by omega
    have y1 : n - k = d := by omega
    have HD := Lib.hid hd
    clear hd
    go_wp2_with fail
    go_loopw [68] (fun r' wr => ∃ r : Nat, r ≤ d ∧ r' = .int .i64 r ∧ Hid (MX wr S (some ⟨bA, 0, none⟩) bA n c A bs (cbN M k j t a1 (k + r))) ∧ Hid (Fm S w wr)) (fun r _ => d - (intOf r).toNat)
    case atStart => exact ⟨0, Nat.zero_le _, rfl, HX3, HF3⟩
    case round =>
      clear HX3 HF3 c3 c4
      obtain ⟨r, hr, rfl, HX, HF⟩ := hrel
      have hib := HIB.out.fm HF.out
      have c4 := hib.c4
      have c5 := hib.c5
      by_cases hltr : r < d
      · have hxn : k + r < n := by have := HD.out; omega
        have u1 := HX.out.hd (k + r) hxn
        obtain ⟨e1, s1, -, -⟩ := HX.out.ad (k + r) hxn (by omega)
        rw [e1] at u1
        have u2 := HX.out.en (k + r) k hxn hkc
        have u3 := HX.out.en (k + r) j hxn hj
        have f3 := HX.out.fr (k + r) j hxn hj
        have ez : ∀ y, cbN M k j t a1 (k + r) (k + r) y = a1 (k + r) y := fun y => if_neg (by omega)
        rw [ez] at u2 u3
        have l1 := HLT1.out (k + r) j hxn hj
        have l2 := HLT1.out (k + r) k hxn hkc
        obtain ⟨p, hp⟩ : ∃ p, a1 (k + r) j = p := ⟨_, rfl⟩
        obtain ⟨q, hq⟩ : ∃ q, a1 (k + r) k = q := ⟨_, rfl⟩
        obtain ⟨u, hu⟩ : ∃ u, t * q % M = u := ⟨_, rfl⟩
        obtain ⟨v, hv⟩ : ∃ v, subN p u M = v := ⟨_, rfl⟩
        have hul : u < M := by rw [← hu]; exact Nat.mod_lt _ (by omega)
        rw [hp] at u3 l1
        rw [hq] at u2 l2
        have HX' : Hid (MX (wr.setCell ⟨bs (k + r), j, none⟩ (.int .u64 (v : Nat))) S (some ⟨bA, 0, none⟩) bA n c A bs (cbN M k j t a1 (k + r + 1))) :=
          (HX.out.store hxn hj v).congr fun x y _ _ => by
            unfold cbN
            by_cases e : x = k + r ∧ y = j
            · obtain ⟨rfl, rfl⟩ := e
              rw [if_pos ⟨rfl, rfl⟩, if_pos ⟨by omega, by omega, rfl⟩, hp, hq, hu, hv]
            · rw [if_neg e]
              by_cases e2 : k ≤ x ∧ x < k + r ∧ y = j
              · rw [if_pos e2, if_pos ⟨e2.1, by omega, e2.2.2⟩]
              · rw [if_neg e2, if_neg (by omega)]
        have HF' : Hid (Fm S w (wr.setCell ⟨bs (k + r), j, none⟩ (.int .u64 (v : Nat)))) := HF.out.set s1 _ _
        have HMUL : Hid (∀ w, Calls Try.prog 41 #[.int .u64 t, .int .u64 q, .int .u64 M] w fun e w' => e = .returned (.int .u64 (u : Nat)) ∧ ∃ n, w' = w.drewN n) := fun w => by
          have := mulmod_any t q M (by have := HTL.out; omega) (by omega) (by omega) (by omega) w
          rwa [hu] at this
        have HSUB : Hid (∀ w, Calls Try.prog 42 #[.int .u64 p, .int .u64 u, .int .u64 M] w fun e w' => e = .returned (.int .u64 (v : Nat)) ∧ w' = w) := fun w => by
          have := submod_any p u M l1 hul (by omega) w
          rw [hv] at this
          exact this.mono fun _ _ h => ⟨h.1, h.2.symm⟩
        generalize bs (k + r) = g at u1 u2 u3 f3 HX' HF' s1
        clear HX HF e1 l1 l2 hp hq hu hv hib ez hul
        go_wp2_with fail
        refine Go.region_quiet_tail 16 (by kernel_rfl) (by kernel_rfl) ?_
        simp only [List.take_succ_cons, List.take_zero, List.drop_succ_cons, List.drop_zero]
        repeat (go_big_quiet_step (first | exact Calls.quiet_of (HMUL.out _) | exact Calls.quiet_of_same (HSUB.out _)))
        refine wpQuiet_nil ?_
        rintro _ ⟨nq, rfl⟩
        all_goals
          go_wp2_with fail
          go_roundw
          case rel => exact ⟨r + 1, by omega, by go_num, HX'.out.heap rfl, HF'.out.heap rfl rfl rfl rfl⟩
          case measure => simp [intOf]; omega
      · obtain rfl : r = d := by omega
        have HXE : Hid (MX wr S (some ⟨bA, 0, none⟩) bA n c A bs (csN M k j a)) := by
          rw [HN.out]
          exact HX.out.congr fun x y hx _ => by
            have hd := HD.out
            unfold cbN csB
            by_cases e : k ≤ x ∧ y = j
            · rw [if_pos e, if_pos ⟨e.1, by omega, e.2⟩]
            · rw [if_neg e, if_neg (fun h => e ⟨h.1, h.2.2⟩)]
        go_wp2_with fail
        refine bodyPost_end (results_none rfl _ _ _) rfl ?_
        exact ⟨rfl, ⟨A, bs, HXE.out⟩, HF.out⟩
end Go.Proofs.Ytjlokbolmindgaa

