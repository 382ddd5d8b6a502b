/-
  The contracts of the reference's Smith and Rank.
-/
import Derived.Test.YtjlokbolmindgaaRSmithP
import Derived.Deep.CutBlock
namespace Go.Proofs.Ytjlokbolmindgaa
open Go.RowKit

theorem pow16 {n : Nat} (h : n ≤ 4) : 2 ^ n ≤ 16 := Nat.le_trans (Nat.pow_le_pow_right (by decide) h) (by decide)
theorem rab_small {x : Int} (h : x.natAbs ≤ 1125899906842624) : rab x = x.natAbs := by unfold rab; rw [if_neg (by intro e; subst e; simp at h)]
set_option maxRecDepth 100000 in
set_option maxHeartbeats 8000000 in
theorem rsmith_any {w : World} {A : Option Addr} {n cap c p r0 : Nat} {xss : List (List Int)} {d : Nat → Nat} (h : AM w A n xss) (hr : ∀ i, i < n → rowL xss i = c) (hn : n ≤ 4) (hc : c ≤ 4) (hp : min n c = p) (he : Eqv n c (eI xss) (dgM d)) (hd : Chain d p) (hI : SmI n c r0 (eI xss) d) (hb : bndM n c (eI xss) ≤ 1125899906842624) :
    Calls Try.prog 23 #[.slice A n cap, .int .i64 c] w fun e w' => ∃ V, e = .returned V ∧ OI w' w.heap.size V ((List.range p).map fun j => (d j : Int)) ∧ Below w.heap.size w w' := by
  have HX := Lib.hid h
  have HRC := Lib.hid hr
  have HBN := Lib.hid hb
  have hp4 : p ≤ 4 := by omega
  have HEND : Hid (∀ k g, k ≤ p → GD xss n c k (2 ^ n) 0 g → g = pN k d) := fun k g hk hg => by subst hp; exact hg.end_ hn hc he hd hk
  have HPR : Hid (∀ k, k ≤ p → pN k d ≤ 1125899906842624) := fun k hk => Nat.le_trans (hI.pr k (by omega)) hb
  have HCH : Hid (∀ i j, i ≤ j → j < p → d i ∣ d j) := fun i j hij hj => chain_dvd hd hij hj
  have HP := Lib.hid hp
  have hmn' : (if c < n then (c : Int) else (n : Int)) = (p : Int) := by split <;> omega
  have hmn : (if (c : Int) < (n : Int) then (c : Int) else (n : Int)) = (p : Int) := by split <;> omega
  obtain ⟨N, hN⟩ : ∃ N, 2 ^ n = N := ⟨_, rfl⟩
  obtain ⟨C, hC⟩ : ∃ C, 2 ^ c = C := ⟨_, rfl⟩
  have hN16 : N ≤ 16 := by rw [← hN]; exact pow16 hn
  have hC16 : C ≤ 16 := by rw [← hC]; exact pow16 hc
  have z1 : (2 : Int) ^ n = (N : Int) := by rw [← hN]; simp
  have z2 : (2 : Int) ^ c = (C : Int) := by rw [← hC]; simp
  have z3 : IntKind.i64.wrap (N : Int) = (N : Int) := IntWalk.i64_in _ (by omega)
  have z4 : IntKind.i64.wrap (C : Int) = (C : Int) := IntWalk.i64_in _ (by omega)
  have HN := Lib.hid hN
  have HC := Lib.hid hC
  clear h hr he hd hI hb hp hN hC
  go_enter Try.func23, Try.ntmps23
  go_wp2_with fail
  go_loopw [5, 6, 7] (fun v l' k' wr => ∃ k : Nat, k ≤ p ∧ k' = .int .i64 ((k + 1 : Nat) : Int) ∧ l' = .int .i64 (pN k d : Nat) ∧ Hid (OI wr w.heap.size v ((List.range k).map fun j => (d j : Int))) ∧ Hid (Below w.heap.size w wr)) (fun _ _ k _ => p + 2 - (intOf k).toNat)
  case atStart => exact ⟨0, Nat.zero_le _, rfl, rfl, OR.nil _ _, Below.refl _ _⟩
  case round =>
    obtain ⟨k, hk, rfl, rfl, HO, HB⟩ := hrel
    obtain ⟨k1, hk1⟩ : ∃ k1, k + 1 = k1 := ⟨_, rfl⟩
    rw [hk1]
    have HK1 := Lib.hid hk1
    have hpl := HPR.out k hk
    obtain ⟨L, hL⟩ : ∃ L, pN k d = L := ⟨_, rfl⟩
    rw [hL] at hpl ⊢
    have HL := Lib.hid hL
    by_cases hlt : k1 ≤ p
    · clear hk1 hL
      go_wp2_with fail
      go_loopw [8, 9] (fun g' r' wr => ∃ r g : Nat, r ≤ N ∧ r' = .int .i64 r ∧ g' = .int .i64 g ∧ g ≤ 1125899906842624 ∧ Hid (GD xss n c k1 r 0 g) ∧ Hid (Below w.heap.size w wr) ∧ Hid (OI wr w.heap.size u5 ((List.range k).map fun j => (d j : Int)))) (fun _ r _ => N - (intOf r).toNat)
      case atStart => exact ⟨0, 0, Nat.zero_le _, rfl, rfl, Nat.zero_le _, GD.start, HB, HO⟩
      case round =>
        clear HB HO
        obtain ⟨r, g, hr, rfl, rfl, hg, HG, HB, HO⟩ := hrel
        by_cases hltr : r < N
        · have HBR := Lib.hid (rbits_any n r hn (by rw [HN.out]; exact hltr))
          go_wp2_with fail
          go_loopw [8, 10] (fun g' s' wr => ∃ s g : Nat, s ≤ C ∧ ((blL r n).length ≠ k1 → s = 0) ∧ s' = .int .i64 s ∧ g' = .int .i64 g ∧ g ≤ 1125899906842624 ∧ Hid (GD xss n c k1 r s g) ∧ Hid (Below w.heap.size w wr) ∧ Hid (OI wr w.heap.size u5 ((List.range k).map fun j => (d j : Int)))) (fun _ s _ => C - (intOf s).toNat)
          case atStart => exact ⟨0, g, Nat.zero_le _, fun _ => rfl, rfl, rfl, hg, HG, HB, HO⟩
          case round =>
            clear HG HB HO hg
            obtain ⟨s, g, hs, hs0, rfl, rfl, hg, HG, HB, HO⟩ := hrel
            have HS0 := Lib.hid hs0
            clear hs0
            by_cases hlts : s < C
            · have HBS := Lib.hid (rbits_any c s hc (by rw [HC.out]; exact hlts))
              obtain ⟨tr, htr⟩ : ∃ t, (blL r n).length = t := ⟨_, rfl⟩
              obtain ⟨ts, hts⟩ : ∃ t, (blL s c).length = t := ⟨_, rfl⟩
              rw [htr] at HBR HS0
              rw [hts] at HBS
              have HTR := Lib.hid htr
              have HTS := Lib.hid hts
              clear htr hts
              by_cases hb : tr = k1
              · have hb' : ((tr : Int) == (k1 : Int)) = true := by rw [beq_iff_eq]; omega
                by_cases hbs : ts = k1
                · have hbs' : ((ts : Int) == (k1 : Int)) = true := by rw [beq_iff_eq]; omega
                  have HTR2 : Hid ((blL r n).length = k1) := by rw [HTR.out]; exact hb
                  have HTS2 : Hid ((blL s c).length = k1) := by rw [HTS.out]; exact hbs
                  obtain ⟨D, hD⟩ : ∃ D, mnD xss n c k1 r s = D := ⟨_, rfl⟩
                  have hDb : D.natAbs ≤ 1125899906842624 := by
                    rw [← hD]
                    exact Nat.le_trans (minor_bound (n := k1) (c := k1) (k := k1) (fun a b => eI xss (psN r n a) (psN s c b)) (is := id) (js := id) (fun _ _ _ _ e => e) (fun _ ha => ha) (fun _ _ _ _ e => e) (fun _ ha => ha)) (Nat.le_trans (mn_bnd hn hc (by rw [HN.out]; exact hltr) (by rw [HC.out]; exact hlts) HTR2.out HTS2.out) HBN.out)
                  have HDT : Hid (∀ (W : World) (A' : Option Addr) (c' : Nat), AM W A' k1 (mkL k1 k1 fun a b => eI xss (psN r n a) (psN s c b)) → Calls Try.prog 21 #[.slice A' k1 c'] W fun e w' => e = .returned (.int .i64 D) ∧ Below W.heap.size W w') := fun W A' c' h => by
                    have e1 : bndM k1 k1 (eI (mkL k1 k1 fun a b => eI xss (psN r n a) (psN s c b))) = bndM k1 k1 fun a b => eI xss (psN r n a) (psN s c b) := by
                      unfold bndM
                      refine pN_congr fun i hi => ?_
                      rw [sN_congr (g := fun j => (eI xss (psN r n i) (psN s c j)).natAbs) fun j hj => by rw [mkL_eI hi hj]]
                    have := rdet_any k1 W A' c' _ (by omega) h (fun i hi => mkL_rowL hi) (by rw [e1]; exact Nat.le_trans (mn_bnd hn hc (by rw [HN.out]; exact hltr) (by rw [HC.out]; exact hlts) HTR2.out HTS2.out) HBN.out)
                    rw [show det k1 (eI (mkL k1 k1 fun a b => eI xss (psN r n a) (psN s c b))) = D by rw [← hD]; exact det_congr fun i j hi hj => mkL_eI hi hj] at this
                    exact this
                  have hab := rabs_any D (by omega) (by omega)
                  rw [rab_small hDb] at hab
                  obtain ⟨a, ha⟩ : ∃ a, D.natAbs = a := ⟨_, rfl⟩
                  rw [ha] at hab hDb
                  have HAB := Lib.hid hab
                  have HGC := Lib.hid (rgcd_any g a (by omega) (by omega))
                  have HG2 : Hid (GD xss n c k1 r (s + 1) (Nat.gcd g a)) := by
                    rw [← ha, ← hD]
                    exact HG.out.yes (by rw [HN.out]; exact hltr) (by rw [HC.out]; exact hlts) HTR2.out HTS2.out
                  have hg2 : Nat.gcd g a ≤ 1125899906842624 := by
                    rcases Nat.eq_zero_or_pos g with e | e
                    · rw [e, Nat.gcd_zero_left]; exact hDb
                    · exact Nat.le_trans (Nat.gcd_le_left a e) hg
                  obtain ⟨G2, hG2⟩ : ∃ x, Nat.gcd g a = x := ⟨_, rfl⟩
                  rw [hG2] at HG2 HGC hg2
                  have HLT := Lib.hid (And.intro hltr hlts)
                  clear hab ha hD hDb hG2 HG
                  go_wp2_with fail
                  refine (HBR.out _).mono ?_
                  rintro e v1 ⟨rfl, n1, rfl⟩
                  go_wp2_with fail
                  refine (HBS.out _).mono ?_
                  rintro e v1 ⟨rfl, n2, rfl⟩
                  have HB2 : Hid (Below w.heap.size w (wr.drewN (n1 + n2))) := below_drewN HB.out _
                  have HO2 : Hid (OI (wr.drewN (n1 + n2)) w.heap.size u5 ((List.range k).map fun j => (d j : Int))) := HO.out.drewN _
                  have HX2 : Hid (AM (wr.drewN (n1 + n2)) A n xss) := HX.out.call HB2.out
                  clear HB HO
                  go_wp2_with fail
                  generalize wr.drewN (n1 + n2) = w5 at HB2 HO2 HX2 ⊢
                  refine (pick_am (cap := cap) (c := c) HX2.out HRC.out (by omega) (by omega) HTR2.out HTS2.out).mono ?_
                  rintro e w6 ⟨Ap, cp, rfl, hap, hb6⟩
                  have HB6 := Lib.hid (below_cons HB2.out hb6)
                  have HO6 := Lib.hid (HO2.out.below hb6 (Nat.le_refl _))
                  have HAP := Lib.hid hap
                  clear hap hb6 HB2 HO2 HX2
                  go_wp2_with fail
                  refine (HDT.out w6 Ap cp HAP.out).mono ?_
                  rintro e w7 ⟨rfl, hb7⟩
                  have HB7 := Lib.hid (below_cons HB6.out hb7)
                  have HO7 := Lib.hid (HO6.out.below hb7 (Nat.le_refl _))
                  clear hb7 HB6 HO6 HAP HDT
                  go_wp2_with fail
                  refine (HAB.out w7).mono ?_
                  rintro e w8 ⟨rfl, rfl⟩
                  go_wp2_with fail
                  refine (HGC.out w7).mono ?_
                  rintro e w8 ⟨rfl, n8, rfl⟩
                  have HB8 : Hid (Below w.heap.size w (w7.drewN n8)) := below_drewN HB7.out _
                  have HO8 : Hid (OI (w7.drewN n8) w.heap.size u5 ((List.range k).map fun j => (d j : Int))) := HO7.out.drewN _
                  clear HB7 HO7
                  go_wp2_with fail
                  go_roundw
                  case rel => exact ⟨s + 1, G2, by omega, fun h => absurd HTR2.out h, by go_num, rfl, hg2, HG2, HB8, HO8⟩
                  case measure => simp [intOf]; omega
                · have hbs' : ((ts : Int) == (k1 : Int)) = false := by rw [beq_eq_false_iff_ne]; omega
                  have HG2 : Hid (GD xss n c k1 r (s + 1) g) := HG.out.no (by rw [HTS.out]; exact hbs)
                  have HNE : Hid ((blL r n).length = k1) := by rw [HTR.out]; exact hb
                  clear hbs HG
                  go_wp2_with fail
                  refine (HBR.out _).mono ?_
                  rintro e v1 ⟨rfl, n1, rfl⟩
                  go_wp2_with fail
                  refine (HBS.out _).mono ?_
                  rintro e v1 ⟨rfl, n2, rfl⟩
                  have HB2 : Hid (Below w.heap.size w (wr.drewN (n1 + n2))) := below_drewN HB.out _
                  have HO2 : Hid (OI (wr.drewN (n1 + n2)) w.heap.size u5 ((List.range k).map fun j => (d j : Int))) := HO.out.drewN _
                  clear HB HO
                  go_wp2_with fail
                  go_roundw
                  case rel => exact ⟨s + 1, g, by omega, fun h => absurd HNE.out h, by go_num, rfl, hg, HG2, HB2, HO2⟩
                  case measure => simp [intOf]; omega
              · have hb' : ((tr : Int) == (k1 : Int)) = false := by rw [beq_eq_false_iff_ne]; omega
                obtain rfl : s = 0 := HS0.out hb
                have HG2 : Hid (GD xss n c k1 (r + 1) 0 g) := HG.out.skip (by rw [HTR.out]; exact hb)
                clear hb HG
                go_wp2_with fail
                refine (HBR.out _).mono ?_
                rintro e v1 ⟨rfl, n1, rfl⟩
                have HB2 : Hid (Below w.heap.size w (wr.drewN n1)) := below_drewN HB.out _
                have HO2 : Hid (OI (wr.drewN n1) w.heap.size u5 ((List.range k).map fun j => (d j : Int))) := HO.out.drewN _
                clear HB HO
                go_wp2_with fail
                go_roundw
                case rel => exact ⟨r + 1, g, by omega, by go_num, rfl, hg, HG2, HB2, HO2⟩
                case measure => simp [intOf]; omega
            · obtain rfl : s = C := by omega
              have HG2 : Hid (GD xss n c k1 (r + 1) 0 g) := by
                have h := HG.out
                rw [← HC.out] at h
                exact h.row
              clear HG
              go_wp2_with fail
              go_roundw
              case rel => exact ⟨r + 1, g, by omega, by go_num, rfl, hg, HG2, HB, HO⟩
              case measure => simp [intOf]; omega
        · obtain rfl : r = N := by omega
          have HGP : Hid (g = pN k1 d) := by
            have h := HG.out
            rw [← HN.out] at h
            exact HEND.out k1 g hlt h
          have HGM : Hid (g = L * d k) := by rw [HGP.out, ← HK1.out, ← HL.out]; exact rfl
          have HLS : Hid ((List.range k1).map (fun j => (d j : Int)) = (List.range k).map (fun j => (d j : Int)) ++ [(d k : Int)]) := by rw [← HK1.out, List.range_succ, List.map_append]; exact rfl
          have HUL : Hid (((List.range k).map fun j => (d j : Int)).length < 1099511627776) := Lib.hid (by simp; omega)
          have hsz := HB.out.size
          by_cases hg0 : g = 0
          · have HD0 : Hid (d k = 0) := by
              have h := HGM.out
              rw [hg0] at h
              rcases Nat.mul_eq_zero.1 h.symm with e | e
              · have e2 : pN k d = 0 := by rw [HL.out]; exact e
                obtain ⟨j, hj, hd⟩ := pN_zero_ex e2
                have h2 := HCH.out j k (by omega) (by have := HK1.out; omega)
                rw [hd] at h2
                exact Nat.eq_zero_of_zero_dvd h2
              · exact e
            subst hg0
            have HOA : Hid (∀ v' w', OI w' w.heap.size v' ((List.range k).map (fun j => (d j : Int)) ++ [0]) → OI w' w.heap.size v' ((List.range k1).map fun j => (d j : Int))) := fun v' w' h => by rw [HLS.out, HD0.out]; exact h
            have HGP2 : Hid (((pN k1 d : Nat) : Int) = 0) := by rw [← HGP.out]; exact rfl
            clear hg HG
            go_wp2_with (at_builtin; refine app1 HO.out HUL.out hsz rfl rfl Try.underlying28 rfl rfl ?_; intro v' w' ho hg hob)
            have hbn' := HO.out.grown_below HB.out hsz _ hg
            have HO' := Lib.hid (HOA.out v' w' ho)
            clear ho hg hob
            go_roundw
            case rel => exact ⟨k1, hlt, by go_num, by rw [HGP2.out], HO', hbn'⟩
            case measure => simp [intOf]; omega
          · have hg0' : ((g : Int) == 0) = false := by rw [beq_eq_false_iff_ne]; omega
            have hL0 : L ≠ 0 := fun e => hg0 (by rw [HGM.out, e, Nat.zero_mul])
            obtain ⟨q, hq⟩ : ∃ q, d k = q := ⟨_, rfl⟩
            have hgq : g / L = q := by rw [HGM.out, hq, Nat.mul_comm, Nat.mul_div_cancel _ (by omega)]
            have hql : q ≤ g := by rw [← hgq]; exact Nat.div_le_self _ _
            have x0 : ¬ (L : Int) = 0 := by omega
            have x1 : (g : Int).tdiv (L : Int) = (q : Int) := by rw [← hgq]; exact Int.ofNat_tdiv g L
            have x1' : (g : Int) / (L : Int) = (q : Int) := by rw [← hgq]; rfl
            have x2 : IntKind.i64.wrap (q : Int) = (q : Int) := IntWalk.i64_in _ (by omega)
            have HOA : Hid (∀ v' w', OI w' w.heap.size v' ((List.range k).map (fun j => (d j : Int)) ++ [(q : Int)]) → OI w' w.heap.size v' ((List.range k1).map fun j => (d j : Int))) := fun v' w' h => by rw [HLS.out, hq]; exact h
            have HGP2 : Hid (((pN k1 d : Nat) : Int) = (g : Int)) := by rw [← HGP.out]; exact rfl
            clear hg HG hgq hq hql hL0 hg0
            go_wp2_with (at_builtin; refine app1 HO.out HUL.out hsz rfl rfl Try.underlying28 rfl rfl ?_; intro v' w' ho hg hob)
            have hbn' := HO.out.grown_below HB.out hsz _ hg
            have HO' := Lib.hid (HOA.out v' w' ho)
            clear ho hg hob
            go_roundw
            case rel => exact ⟨k1, hlt, by go_num, by rw [HGP2.out], HO', hbn'⟩
            case measure => simp [intOf]; omega
    · obtain rfl : k = p := by omega
      clear hk1 hL
      go_wp2_with fail
      go_ret
      exact ⟨_, rfl, HO.out, HB.out⟩
set_option maxHeartbeats 4000000 in
theorem rrank_any {w : World} {A : Option Addr} {n cap c p r0 : Nat} {xss : List (List Int)} {d : Nat → Nat} (h : AM w A n xss) (hr : ∀ i, i < n → rowL xss i = c) (hn : n ≤ 4) (hc : c ≤ 4) (hp : min n c = p) (he : Eqv n c (eI xss) (dgM d)) (hd : Chain d p) (hI : SmI n c r0 (eI xss) d) (hb : bndM n c (eI xss) ≤ 1125899906842624) :
    Calls Try.prog 22 #[.slice A n cap, .int .i64 c] w fun e w' => e = .returned (.int .i64 (r0 : Nat)) ∧ Below w.heap.size w w' := by
  have HS := Lib.hid (rsmith_any (cap := cap) h hr hn hc hp he hd hI hb)
  have HI := Lib.hid hI
  have hp4 : p ≤ 4 := by omega
  have hrp : r0 ≤ p := by have := hI.rp; omega
  have HZ : Hid (∀ j, j < p → (d j = 0 ↔ r0 ≤ j)) := fun j hj => ⟨fun e => by
    rcases Nat.lt_or_ge j r0 with h0 | h0
    · exact absurd e (hI.nz j h0)
    · exact h0, fun h0 => hI.z j h0 (by omega)⟩
  have HDL : Hid (∀ j, j < p → d j ≤ 1125899906842624) := fun j hj => Nat.le_trans (hI.le j (by omega)) hb
  clear h hr hp he hd hI hb
  go_enter Try.func22, Try.ntmps22
  go_wp2_with fail
  refine HS.out.mono ?_
  rintro e w1 ⟨V, rfl, hV, hb⟩
  obtain ⟨A2, c2, rfl, -, -, hri⟩ := hV.reads
  have HRI := Lib.hid hri
  have HB := Lib.hid hb
  have hlen : ((List.range p).map fun j => (d j : Int)).length = p := by simp
  rw [hlen]
  clear hV hri hb hlen HS
  go_wp2_with fail
  go_loopw [6, 7] (fun n' k' wr => ∃ k m : Nat, k ≤ p ∧ k' = .int .i64 k ∧ n' = .int .i64 m ∧ Hid (m = min k r0) ∧ w1 = wr) (fun _ k _ => p - (intOf k).toNat)
  case atStart => exact ⟨0, 0, Nat.zero_le _, rfl, rfl, (Nat.zero_min _).symm, rfl⟩
  case round =>
    obtain ⟨k, m, hk, rfl, rfl, HM, rfl⟩ := hrel
    by_cases hlt : k < p
    · obtain ⟨bk, ok, rfl, -, hcj⟩ := HRI.out.at_ (k := k) (by simpa using hlt)
      have c1 := hcj k (by simpa using hlt)
      rw [gi_map_range hlt] at c1
      have hz := HZ.out k hlt
      have hdl := HDL.out k hlt
      obtain ⟨y, hy⟩ : ∃ y, d k = y := ⟨_, rfl⟩
      rw [hy] at c1 hz hdl
      clear hcj hy
      have hmr : m ≤ 4 := by have := HM.out; omega
      by_cases h0 : y = 0
      · subst h0
        have HM2 : Hid (m = min (k + 1) r0) := Lib.hid (by have := HM.out; have := hz.1 rfl; omega)
        clear hz HM
        go_wp2_with fail
        go_roundw
        case rel => exact ⟨k + 1, m, by omega, by go_num, rfl, HM2, by trivial⟩
        case measure => simp [intOf]; omega
      · have h0' : ((y : Int) != 0) = true := by rw [bne_iff_ne]; omega
        have HM2 : Hid (m + 1 = min (k + 1) r0) := Lib.hid (by have := HM.out; have : ¬ r0 ≤ k := fun h => h0 (hz.2 h); omega)
        clear hz HM h0
        go_wp2_with fail
        go_roundw
        case rel => exact ⟨k + 1, m + 1, by omega, by go_num, by go_num, HM2, by trivial⟩
        case measure => simp [intOf]; omega
    · obtain rfl : k = p := by omega
      have HM2 : Hid (m = r0) := Lib.hid (by have := HM.out; omega)
      go_wp2_with fail
      go_ret
      exact ⟨ret_int (by rw [HM2.out]), HB.out⟩
end Go.Proofs.Ytjlokbolmindgaa

