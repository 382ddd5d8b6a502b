/-
  The contract of eliminate.
-/
import Derived.Test.YteanhbldhaiekaaZ12
import Derived.Test.YteanhbldhaiekaaZ18
namespace Go.Proofs.Yteanhbldhaiekaa
open Go.RowKit

/-- between two rounds: the matrix, the box of the rank -/
structure ESt (w w1 wr : World) (P : Option Addr) (bA n c : Nat) (A : Nat → Option Addr) (bs : Nat → Nat) (a : Nat → Nat → Nat) (r : Nat) : Prop where
  mx : MX wr (fun b => w.heap.size ≤ b ∧ b < w1.heap.size) P bA n c A bs a
  rk : wr.cell? ⟨w1.heap.size, 0, none⟩ = some (.int .i64 r)
  fz : wr.frozen? ⟨w1.heap.size, 0, none⟩ = false
  lt : w1.heap.size < wr.heap.size
  le : w.heap.size ≤ w1.heap.size
  bel : Below w.heap.size w wr
theorem ESt.fm {w w1 wr w2 : World} {P : Option Addr} {bA n c : Nat} {A A' : Nat → Option Addr} {bs bs' : Nat → Nat} {a a' : Nat → Nat → Nat} {r : Nat} (h : ESt w w1 wr P bA n c A bs a r) (hf : Fm (fun b => w.heap.size ≤ b ∧ b < w1.heap.size) wr w2)
    (hm : MX w2 (fun b => w.heap.size ≤ b ∧ b < w1.heap.size) P bA n c A' bs' a') : ESt w w1 w2 P bA n c A' bs' a' r :=
  ⟨hm, (World.cell?_of_block (a := ⟨w1.heap.size, 0, none⟩) (hf.block w1.heap.size (by omega))).trans h.rk, (World.frozen?_of_block (a := ⟨w1.heap.size, 0, none⟩) (hf.block w1.heap.size (by omega))).trans h.fz, by rw [hf.size]; exact h.lt, h.le, h.bel.trans (hf.below fun _ h => h.1)⟩
theorem ESt.drewN {w w1 wr : World} {P : Option Addr} {bA n c : Nat} {A : Nat → Option Addr} {bs : Nat → Nat} {a : Nat → Nat → Nat} {r : Nat} (h : ESt w w1 wr P bA n c A bs a r) (k : Nat) : ESt w w1 (wr.drewN k) P bA n c A bs a r :=
  h.fm ((Fm.refl _ _).drewN k) (h.mx.drewN k)
theorem ESt.alloc {w w1 wr : World} {P : Option Addr} {bA n c : Nat} {A : Nat → Option Addr} {bs : Nat → Nat} {a : Nat → Nat → Nat} {r : Nat} (h : ESt w w1 wr P bA n c A bs a r) (o : Obj) : ESt w w1 (wr.alloc o) P bA n c A bs a r :=
  ⟨h.mx.alloc o, (World.cell?_alloc_lt wr o ⟨w1.heap.size, 0, none⟩ h.lt).trans h.rk, (World.frozen?_alloc_old wr o ⟨w1.heap.size, 0, none⟩ (Nat.ne_of_lt h.lt)).trans h.fz, by simp; have := h.lt; omega, h.le, h.bel.alloc h.bel.size o⟩
theorem ESt.start {w w1 : World} {P : Option Addr} {bA n c : Nat} {A : Nat → Option Addr} {bs : Nat → Nat} {a : Nat → Nat → Nat} (h : MX w1 (fun b => w.heap.size ≤ b) P bA n c A bs a) (hb : Below w.heap.size w w1) : ESt w w1 (w1.alloc (.cells #[.int .i64 0] 3)) P bA n c A bs a 0 :=
  ⟨h.cap.alloc _, by rw [World.cell?_alloc_new]; rfl, World.frozen?_alloc_new w1 _ _ 0, by simp, hb.size, hb.alloc hb.size _⟩
theorem ESt.rank {w w1 wr : World} {P : Option Addr} {bA n c : Nat} {A : Nat → Option Addr} {bs : Nat → Nat} {a : Nat → Nat → Nat} {r : Nat} (h : ESt w w1 wr P bA n c A bs a r) (q : Nat) : ESt w w1 (wr.setCell ⟨w1.heap.size, 0, none⟩ (.int .i64 (q : Nat))) P bA n c A bs a q :=
  ⟨h.mx.far (by omega) _ _, set_same h.rk, by rw [World.frozen?_setCell]; exact h.fz, by rw [World.size_setCell]; exact h.lt, h.le, h.bel.setCell h.le _⟩

/-- behind t rows of a round -/
def mdN (r : Nat) (a : Nat → Nat → Nat) (t x y : Nat) : Nat := if x < r + 1 + t then elM r a x y else a x y
theorem mdN_0 (r : Nat) (a : Nat → Nat → Nat) : mdN r a 0 = a := by
  funext x y
  unfold mdN elM
  split
  · rw [if_neg (by omega)]
  · rfl
theorem mdN_r (r : Nat) (a : Nat → Nat → Nat) (t y : Nat) : mdN r a t r y = a r y := by
  unfold mdN elM
  rw [if_pos (by omega), if_neg (by omega)]
theorem mdN_x (r : Nat) (a : Nat → Nat → Nat) (t y : Nat) : mdN r a t (r + 1 + t) y = a (r + 1 + t) y := if_neg (Nat.lt_irrefl _)
theorem mdN_zero {r : Nat} {a : Nat → Nat → Nat} {t : Nat} (h : a (r + 1 + t) r = 0) (x y : Nat) : mdN r a t x y = mdN r a (t + 1) x y := by
  unfold mdN
  by_cases e : x = r + 1 + t
  · subst e
    rw [if_neg (Nat.lt_irrefl _), if_pos (by omega)]
    unfold elM elF
    split
    · rw [h, Nat.zero_mul, Nat.zero_mod, Nat.zero_mul, Nat.zero_mod]; rfl
    · rfl
  · by_cases e2 : x < r + 1 + t
    · rw [if_pos e2, if_pos (by omega)]
    · rw [if_neg e2, if_neg (by omega)]
theorem mdN_step {r c : Nat} {a : Nat → Nat → Nat} {t : Nat} (x y : Nat) (hy : y < c) : cmbN r (r + 1 + t) (elF r a (r + 1 + t)) (mdN r a t) c x y = mdN r a (t + 1) x y := by
  unfold cmbN
  by_cases e : x = r + 1 + t ∧ r ≤ y ∧ y < c
  · obtain ⟨rfl, h1, -⟩ := e
    rw [if_pos ⟨rfl, h1, hy⟩, mdN_r, mdN_x]
    unfold mdN elM
    rw [if_pos (by omega), if_pos ⟨by omega, h1⟩]
  · rw [if_neg e]
    unfold mdN
    by_cases e1 : x = r + 1 + t
    · subst e1
      rw [if_neg (Nat.lt_irrefl _), if_pos (by omega)]
      unfold elM
      rw [if_neg (by omega)]
    · by_cases e2 : x < r + 1 + t
      · rw [if_pos e2, if_pos (by omega)]
      · rw [if_neg e2, if_neg (by omega)]
theorem mdN_lt {r n c : Nat} {a : Nat → Nat → Nat} (h : ∀ x y, x < n → y < c → a x y < PM) (t : Nat) (x y : Nat) (hx : x < n) (hy : y < c) : mdN r a t x y < PM := by
  unfold mdN elM
  split
  · split
    · exact subN_lt (h x y hx hy) (Nat.mod_lt _ (by decide))
    · exact h x y hx hy
  · exact h x y hx hy
set_option maxHeartbeats 8000000 in
theorem eliminate_any (A0 : Option Addr) (cap : Nat) (xss : List (List Int)) (n c : Nat) (w : World) (T : Nat → Prop) (hx : RL w T A0 xss) (hT : ∀ b, T b → b < w.heap.size) (hn : xss.length = n) (hc : ∀ i, i < n → (xss.getD i []).length = c) (hnl : n ≤ 64) (hcl : c ≤ 64)
    (hb : ∀ i j, i < n → j < c → -1125899906842624 ≤ eI xss i j ∧ eI xss i j ≤ 1125899906842624) (hbd : bndM n c (eI xss) ≤ 1125899906842624) :
    Calls Try.prog 46 #[.slice A0 n cap] w fun e w' => ∃ (r : Nat) (v : Int), e = .returned (.tuple #[.int .i64 r, .int .i64 v]) ∧ Below w.heap.size w w' ∧ ElR n c (eI xss) r v := by
  have HRS := Lib.hid (residues_any A0 cap xss n c PM w T hx hT hn hc (by omega) (by omega) hb (by decide))
  have HBD := Lib.hid hbd
  have HPM : Hid (PM = 2305843009213693951) := Lib.hid rfl
  clear hx hT hn hc hb hbd
  go_enter Try.func46, Try.ntmps46
  go_wp2_with fail
  refine HRS.out.mono ?_
  rintro e w1 ⟨P, bA, A, bs, rfl, hb1, hm1⟩
  have H0 := Lib.hid (ESt.start hm1 hb1)
  have HE0 : Hid (El n c (eI xss) 0 (fun i j => rs PM (eI xss i j)) 1) := Lib.hid (El.start fun i j _ _ => ⟨rs_lt (by decide) _, rs_mod (by decide) _⟩)
  clear hm1 hb1 HRS
  go_wp2_with fail
  go_loopw [6] (fun m' wr => ∃ (r mi : Nat) (A : Nat → Option Addr) (bs : Nat → Nat) (a : Nat → Nat → Nat) (z : Int), m' = .int .u64 mi ∧ Hid (ESt w w1 wr P bA n c A bs a r) ∧ Hid (El n c (eI xss) r a z) ∧ Hid (mi < PM ∧ (PM : Int) ∣ (mi : Int) - z)) (fun _ wr => n + 1 - (intOf ((wr.cell? ⟨w1.heap.size, 0, none⟩).getD (.int .i64 0))).toNat)
  case atStart => exact ⟨0, 1, A, bs, _, 1, rfl, H0, HE0, by decide, ⟨0, rfl⟩⟩
  case round =>
    clear H0 HE0
    obtain ⟨r, mi, A2, bs2, a, z, rfl, HS, HE, HM⟩ := hrel
    have c5 := HS.out.rk
    have hrn : r ≤ n := by obtain ⟨σ, τ, s, B, h⟩ := HE.out; exact h.rn
    have hrc : r ≤ c := by obtain ⟨σ, τ, s, B, h⟩ := HE.out; exact h.rc
    go_wp2_with fail
    refine (find_any r HS.out.mx (by omega) (by omega) (by omega)).mono ?_
    rintro e w2 (⟨rfl, rfl, hz⟩ | ⟨i, j, rfl, hf⟩)
    · have HL := Lib.hid (HE.out.last (mi := mi) hz HBD.out HM.out.1 HM.out.2)
      have hml := HM.out.1
      have hpm := HPM.out
      have HSB := Lib.hid HS.out.bel
      clear hz HE
      by_cases hbig : 1152921504606846975 < mi
      · obtain ⟨q, hq⟩ : ∃ q, PM - mi = q := ⟨_, rfl⟩
        have HV := Lib.hid (show mvN mi = -(q : Int) by unfold mvN; rw [if_pos hbig, hq])
        have x1 : IntKind.u64.wrap (2305843009213693951 - (mi : Int)) = (q : Int) := by rw [show (2305843009213693951 : Int) - (mi : Int) = (q : Int) by omega]; exact wrapN _ (by omega)
        have hql : q < 2305843009213693951 := by omega
        clear hml hpm HM HS HPM hq
        go_wp2_with fail
        go_ret2
        exact ⟨r, _, rfl, HSB.out, by rw [← HV.out]; exact HL.out⟩
      · have HV := Lib.hid (show mvN mi = (mi : Int) by unfold mvN; rw [if_neg hbig])
        clear hpm HM HS HPM
        go_wp2_with fail
        go_ret2
        exact ⟨r, _, rfl, HSB.out, by rw [← HV.out]; exact HL.out⟩
    · have HS2 := Lib.hid (HS.out.fm hf.fm hf.mx)
      have HE2 := Lib.hid (HE.out.swap hf.hi hf.hj)
      have hri := hf.hi
      have hrj := hf.hj
      have hnz : a (xg i r r) (xg j r r) ≠ 0 := by
        have e1 : ∀ k, xg k r r = k := fun k => by unfold xg; split <;> simp_all
        rw [e1, e1]
        exact hf.nz
      have HNZ := Lib.hid hnz
      have HEX := Lib.hid (show b1 i r + b1 j r ≤ 2 by unfold b1; split <;> split <;> decide)
      generalize b1 i r + b1 j r = ex at HE2 HEX ⊢
      have hnz2 : (fun x y => a (xg i r x) (xg j r y)) r r ≠ 0 := hnz
      generalize (fun x y => a (xg i r x) (xg j r y)) = a2 at HS2 HE2 hnz2
      generalize (fun x => A2 (xg i r x)) = A3 at HS2
      generalize (fun x => bs2 (xg i r x)) = bs3 at HS2
      have hrn' : r < n := by omega
      have hrc' : r < c := by omega
      have hlt2 : ∀ x y, x < n → y < c → a2 x y < PM := by obtain ⟨σ, τ, s, B, h⟩ := HE2.out; exact h.lt
      obtain ⟨htop, htS, htl⟩ := HS2.out.mx.top (by omega)
      subst htop
      have d5 := HS2.out.rk
      have dl := HS2.out.lt
      have dh := HS2.out.mx.hd r hrn'
      obtain ⟨ha, hs3, hl3, -⟩ := HS2.out.mx.ad r hrn' (by omega)
      rw [ha] at dh
      have de := HS2.out.mx.en r r hrn' hrc'
      obtain ⟨p, hp⟩ : ∃ p, a2 r r = p := ⟨_, rfl⟩
      rw [hp] at de hnz2
      have hpl := hlt2 r r hrn' hrc'
      rw [hp] at hpl
      have HP := Lib.hid hp
      have HPL := Lib.hid hpl
      have HLT := Lib.hid hlt2
      have HFN := Lib.hid hf.fm
      have HMB := Lib.hid HM.out.1
      have HC5 := Lib.hid c5
      clear hf c5 HS HE hnz HNZ hlt2 ha hp hpl hs3
      go_wp2_with fail
      refine (mulmod_any mi p PM (by have := HMB.out; have := HPM.out; omega) (by have := HPL.out; have := HPM.out; omega) (by decide) (by decide) _).mono ?_
      rintro e w3 ⟨rfl, n1, rfl⟩
      have htl1 : mi * p % PM < PM := Nat.mod_lt _ (by decide)
      obtain ⟨t, ht⟩ : ∃ t, mi * p % PM = t := ⟨_, rfl⟩
      rw [ht] at htl1 ⊢
      have HT1 := Lib.hid htl1
      have HT2 := Lib.hid ht
      clear ht htl1
      have HS4 := Lib.hid ((HS2.out.alloc (.cells #[.slice (some ⟨bs3 r, 0, none⟩) c c] 91)).drewN n1)
      have d9 : ((w2.alloc (.cells #[.slice (some ⟨bs3 r, 0, none⟩) c c] 91)).drewN n1).cell? ⟨w2.heap.size, 0, none⟩ = some (.slice (some ⟨bs3 r, 0, none⟩) c c) := by
        show (w2.alloc _).cell? _ = _
        rw [World.cell?_alloc_new]; rfl
      have l9 : w2.heap.size < ((w2.alloc (.cells #[.slice (some ⟨bs3 r, 0, none⟩) c c] 91)).drewN n1).heap.size := by simp
      clear HS2 d5 de dh
      generalize (w2.alloc (.cells #[.slice (some ⟨bs3 r, 0, none⟩) c c] 91)).drewN n1 = w4 at HS4 d9 l9 ⊢
      have n9 : ¬ (w.heap.size ≤ w2.heap.size ∧ w2.heap.size < w1.heap.size) := by omega
      generalize w2.heap.size = b9 at d9 l9 n9 dl hl3 ⊢
      have d5 := HS4.out.rk
      have de := HS4.out.mx.en r r hrn' hrc'
      rw [HP.out] at de
      have hex := HEX.out
      go_upto_if 35 with fail
      go_cut [6] from 36 to 37 (fun m wx => m = .int .u64 (miN ex mi p : Nat) ∧ wx = w4)
      case first =>
        by_cases h1 : ex = 1
        · subst h1
          have HV := Lib.hid (show subN 0 t PM = miN 1 mi p by unfold miN; rw [if_pos rfl, HT2.out])
          go_wp2_with fail
          refine (submod_any 0 t PM (by decide) HT1.out (by decide) w4).mono ?_
          rintro e w5 ⟨rfl, rfl⟩
          rw [HV.out]
          go_wp2_with fail
          go_meet
          case rel => exact ⟨rfl, rfl⟩
        · have h1' : ((ex : Int) == 1) = false := by rw [beq_eq_false_iff_ne]; omega
          have HV := Lib.hid (show t = miN ex mi p by unfold miN; rw [if_neg h1, HT2.out])
          go_wp2_with fail
          go_meet
          case rel => exact ⟨by rw [HV.out], rfl⟩
      case rest =>
        obtain ⟨rfl, rfl⟩ := hcut
        have HM2 := Lib.hid (And.intro (miN_lt ex mi p) (miN_mod (ex := ex) (p := p) HM.out.2))
        generalize miN ex mi p = mi2 at HM2 ⊢
        generalize (if ex = 1 then -z else z) = z2 at HE2 HM2
        clear hex HEX HM HMB
        go_wp2_with fail
        refine (inverse_any p HPL.out wc).mono ?_
        rintro e w5 ⟨rfl, n2, rfl⟩
        have HS5 := Lib.hid (HS4.out.drewN n2)
        have e9 : (wc.drewN n2).cell? ⟨b9, 0, none⟩ = some (.slice (some ⟨bs3 r, 0, none⟩) c c) := d9
        have HFI : Hid (∀ y, elF r a2 y = a2 y r * invN p % PM) := fun y => by unfold elF; rw [HP.out]
        have HFL : Hid (invN p < PM) := inv_lt p
        generalize invN p = fi at HFI HFL ⊢
        clear HS4 d9 d5 de
        replace l9 : b9 < (wc.drewN n2).heap.size := l9
        generalize wc.drewN n2 = w6 at HS5 e9 l9 ⊢
        have d5 := HS5.out.rk
        obtain ⟨d, hd⟩ : ∃ d, n = r + 1 + d := ⟨n - (r + 1), by omega⟩
        have HD := Lib.hid hd
        clear hd
        go_upto_region 11 with fail
        go_cut [47, 48, 49] from 44 to 49 (fun s l k wx => ∃ Q, s = .slice Q d d ∧ (0 < d → Q = some ⟨bA, r + 1, none⟩) ∧ l = .int .i64 (d : Nat) ∧ k = .int .i64 0 ∧ wx = w6)
        case first =>
          have hdn : ¬ n < r + 1 := by omega
          have x1 : n - (r + 1) = d := by have := HD.out; omega
          rcases Nat.eq_zero_or_pos d with h0 | h0
          · subst h0
            go_wp2_with fail
            all_goals first
              | (exfalso; have := HD.out; omega)
              | (go_meet
                 case rel => exact ⟨_, rfl, fun h => by omega, rfl, rfl, rfl⟩)
          · go_wp2_with fail
            all_goals first
              | (exfalso; have := HD.out; omega)
              | (go_meet
                 case rel => exact ⟨_, rfl, fun _ => rfl, rfl, rfl, rfl⟩)
        case rest =>
          obtain ⟨Q, rfl, hQ, rfl, rfl, rfl⟩ := hcut
          have HQ := Lib.hid hQ
          have HS6 : Hid (ESt w w1 wc (some ⟨bA, 0, none⟩) bA n c A3 bs3 (mdN r a2 0) r) := by rw [mdN_0]; exact HS5.out
          clear HS5 d5 hQ
          go_wp2_with fail
          go_loopw [49] (fun t' wr => ∃ t : Nat, t ≤ d ∧ t' = .int .i64 t ∧ Hid (ESt w w1 wr (some ⟨bA, 0, none⟩) bA n c A3 bs3 (mdN r a2 t) r) ∧ wr.cell? ⟨b9, 0, none⟩ = some (.slice (some ⟨bs3 r, 0, none⟩) c c) ∧ Hid (b9 < wr.heap.size)) (fun t _ => d - (intOf t).toNat)
          case atStart => exact ⟨0, Nat.zero_le _, rfl, HS6, e9, l9⟩
          case round =>
            clear HS6 e9 l9
            obtain ⟨t, ht, rfl, HS6, e9, HL9⟩ := hrel
            have d5 := HS6.out.rk
            by_cases hltd : t < d
            · have hxn : r + 1 + t < n := by have := HD.out; omega
              obtain rfl := HQ.out (by omega)
              have c1 := HS6.out.mx.hd (r + 1 + t) hxn
              obtain ⟨ha, hsx, hlx, -⟩ := HS6.out.mx.ad (r + 1 + t) hxn (by omega)
              rw [ha] at c1
              have c2 := HS6.out.mx.en (r + 1 + t) r hxn hrc'
              rw [mdN_x] at c2
              obtain ⟨v, hv⟩ : ∃ v, a2 (r + 1 + t) r = v := ⟨_, rfl⟩
              have hvl := HLT.out (r + 1 + t) r hxn hrc'
              rw [hv] at c2 hvl
              have HV := Lib.hid hv
              have HVL := Lib.hid hvl
              clear hv ha hvl
              by_cases h0 : v = 0
              · subst h0
                have HS7 : Hid (ESt w w1 wr (some ⟨bA, 0, none⟩) bA n c A3 bs3 (mdN r a2 (t + 1)) r) := by
                  have e : mdN r a2 t = mdN r a2 (t + 1) := by funext x y; exact mdN_zero HV.out x y
                  rw [← e]; exact HS6.out
                clear HS6
                go_wp2_with fail
                go_roundw
                case rel => exact ⟨t + 1, by omega, by go_num, HS7, e9, HL9⟩
                case measure => simp [intOf]; omega
              · have h0' : ((v : Int) != 0) = true := by rw [bne_iff_ne]; omega
                have HBY : Hid (v * fi % PM = elF r a2 (r + 1 + t)) := by have := HFI.out (r + 1 + t); rw [HV.out] at this; exact this.symm
                go_wp2_with fail
                refine (mulmod_any v fi PM (by have := HVL.out; have := HPM.out; omega) (by have := HFL.out; have := HPM.out; omega) (by decide) (by decide) wr).mono ?_
                rintro e w7 ⟨rfl, n3, rfl⟩
                rw [HBY.out]
                go_wp2_with fail
                refine (combine_any (w := wr.drewN n3) (S := fun b => w.heap.size ≤ b ∧ b < w1.heap.size) (P := some ⟨bA, 0, none⟩) (bA := bA) (n := n) (c := c) (A := A3) (bs := bs3) (a := mdN r a2 t) r (r + 1 + t) (elF r a2 (r + 1 + t)) w1.heap.size b9 (HS6.out.drewN n3).mx hxn hrn' (by omega) (by omega) (by omega) (by omega) (Nat.mod_lt _ (by decide)) (fun x y hx hy => mdN_lt HLT.out t x y hx hy) d5 e9 (by omega) n9).mono ?_
                rintro e w8 ⟨rfl, hm8, hf8⟩
                have HS7 := Lib.hid ((HS6.out.drewN n3).fm hf8 (hm8.congr fun x y _ hy => mdN_step x y hy))
                have e9' := (World.cell?_of_block (a := ⟨b9, 0, none⟩) (hf8.block b9 n9)).trans e9
                have HL9' : Hid (b9 < w8.heap.size) := by rw [hf8.size]; exact HL9.out
                clear HS6 e9 HL9 hm8 hf8 d5 c1 c2
                go_wp2_with fail
                go_roundw
                case rel => exact ⟨t + 1, by omega, by go_num, HS7, e9', HL9'⟩
                case measure => simp [intOf]; omega
            · obtain rfl : t = d := by omega
              have hp0 := hnz2
              have HE3 : Hid (El n c (eI xss) (r + 1) (mdN r a2 t) (z2 * (p : Int))) := by
                have := HE2.out.step hrn' hrc' (by rw [HP.out]; exact hp0)
                rw [HP.out] at this
                exact this.congr fun x y hx _ => by unfold mdN; rw [if_pos (by have := HD.out; omega)]
              have HS7 := Lib.hid (HS6.out.rank (r + 1))
              have f5 := HS6.out.fz
              have d5' : (wr.setCell ⟨w1.heap.size, 0, none⟩ (.int .i64 ((r + 1 : Nat) : Int))).cell? ⟨w1.heap.size, 0, none⟩ = some (.int .i64 ((r + 1 : Nat) : Int)) := HS7.out.rk
              clear HS6
              go_wp2_with fail
              go_roundw
              case rel => exact ⟨r + 1, mi2, A3, bs3, _, _, rfl, HS7, HE3, HM2⟩
              case measure =>
                have h1 := HC5.out
                have h2 : (wr.setCell ⟨w1.heap.size, 0, none⟩ (.int .i64 ((r : Int) + 1))).cell? ⟨w1.heap.size, 0, none⟩ = some (.int .i64 ((r : Int) + 1)) := HS7.out.rk
                rw [h1, h2]
                show n + 1 - ((r : Int) + 1).toNat < n + 1 - (r : Int).toNat
                omega
end Go.Proofs.Yteanhbldhaiekaa
