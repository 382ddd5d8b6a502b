/-
  The contract of the reference's Incoherent.
-/
import Derived.Test.YtaghemilihaiaaaRSGraph
import Derived.Test.YtaghemilihaiaaaInc
namespace Go.Proofs.Ytaghemilihaiaaa
open Go.RowKit

theorem rin_is {A : Option Addr} {c n : Nat} {xs : List Int} {x : Int} {w : World} (S : Nat → Prop) (r : Bool) (hx : RI w S A xs) (hm : xs.length ≤ maxLen) (hn : xs.length = n) (hr : decide (x ∈ xs) = r) :
    Calls Try.prog 50 #[.slice A n c, .int .i64 x] w fun e w' => e = .returned (.bool r) ∧ w' = w := by
  subst hr hn
  exact (rin_any A c xs x w S hx hm).mono fun e w' ⟨h1, h2⟩ => ⟨h1, h2.symm⟩
/-- rows of pairs and of integers share no block -/
theorem OP.apart {w : World} {B B' : Nat} {v v' : Value} {ps : List (Int × Int)} {ys : List Int} (h : OP w B v ps) (h' : OI w B' v' ys) {g : Nat} (hg : v.ownBlock = some g) : v'.ownBlock ≠ some g := by
  intro hg'
  rcases h.2 with ⟨rfl, _⟩ | ⟨k, c, cur, rfl, _, hh, _⟩
  · simp [Value.ownBlock] at hg
  rcases h'.2 with ⟨rfl, _⟩ | ⟨k', c', cur', rfl, _, hh', _⟩
  · simp [Value.ownBlock] at hg'
  simp [Value.ownBlock] at hg hg'
  subst hg
  subst hg'
  rw [hh] at hh'
  injection hh' with hh'
  injection hh' with _ ht
  exact absurd ht (by decide)

section
variable (A1 A2 : Option Addr) (c1 c2 : Nat) (sg mt : List Int) (L : Int) (w : World) (S : Nat → Prop) (hx : RI w S A1 sg) (hy : RI w S A2 mt) (hS : ∀ b, S b → b < w.heap.size)
include hx hy hS
set_option maxRecDepth 100000 in
set_option maxHeartbeats 8000000 in
theorem rinc_any (hd : IsD sg mt L) (h256 : mt.length ≤ 256) :
    Calls Try.prog 26 #[.agg #[.slice A1 sg.length c1, .slice A2 mt.length c2, .int .i64 L]] w fun e w' => ∃ v, e = .returned v ∧ OP w' w.heap.size v (incL sg mt mt.length) ∧ Below w.heap.size w w' := by
  have HD := Lib.hid (DBox.start (c1 := c1) (c2 := c2) (L := L) S hx hy hS)
  have hb0 : Below w.heap.size w (w.alloc (.cells #[.slice A1 sg.length c1, .slice A2 mt.length c2, .int .i64 L] 24)) := (Below.refl _ _).alloc (Nat.le_refl _) _
  have HXX := Lib.hid (hx.imp hS)
  have H := Lib.hid hd
  have HN := Lib.hid hd.2.1
  have HI6 := Lib.hid hd.2.2.2.2.2.1
  have HP := Lib.hid (nxF_perm hd.2.2.2.2.2.1 hd.2.1)
  have h64 := hd.1
  have hsl : sg.length ≤ 1099511627776 := by omega
  have hsl2 : sg.length ≤ 100000 := by omega
  clear hx hy hS hd
  go_enter Try.func26, Try.ntmps26
  go_wp2_with fail
  refine (rcircles_any A1 A2 c1 c2 sg mt L _ (· < (w.alloc (.cells #[.slice A1 sg.length c1, .slice A2 mt.length c2, .int .i64 L] 24)).heap.size) HD.out.rs HD.out.rm (fun _ h => h) H.out).mono ?_
  rintro e w2 ⟨v, rfl, hr, hb2⟩
  obtain ⟨A3, c3, rfl, hrl⟩ := hr.reads
  rw [rows_cycs_length]
  have hb3 := hb0.trans (hb2.mono hb0.size)
  have HB2 := Lib.hid hb3
  have HC := Lib.hid (RgC.mk (HD.out.below hb2) (hrl.imp (T := (· < w2.heap.size)) fun b hb => hb.2))
  have hs2 := hb3.size
  clear hr hrl hb2 hb0 hb3 HD
  have HQ0 : Hid (GqSt w2 w2 (.slice none 0 0) (incL sg mt 0)) := ⟨Below.refl _ _, OP.nil _ _⟩
  have k0 := HC.out.db.c0
  have k1 := HC.out.db.c1
  go_wp2_with fail
  clear k0 k1
  go_loopw [4, 5] (fun v i wr => ∃ h : Nat, h ≤ mt.length ∧ i = .int .i64 h ∧ Hid (GqSt w2 wr v (incL sg mt h))) (fun _ i _ => mt.length - (intOf i).toNat)
  case atStart => exact ⟨0, Nat.zero_le _, rfl, HQ0⟩
  case round =>
    clear HQ0
    obtain ⟨h, hh, rfl, HQ⟩ := hrel
    have HCr := Lib.hid (HC.out.below HQ.out.bl)
    have k0 := HCr.out.db.c0
    have k1 := HCr.out.db.c1
    have k2 := HCr.out.db.c2
    by_cases hhl : h < mt.length
    · go_wp2_with fail
      refine (rface_any A2 c2 sg.length h mt wr (· < wr.heap.size) HCr.out.db.rm (fun _ h => h) HN.out HI6.out hsl2 hhl).mono ?_
      rintro e w6 ⟨vf, rfl, hof, hb6⟩
      obtain ⟨Af, cf, rfl, -, -, -⟩ := hof.shape
      obtain ⟨lf, hlf⟩ : ∃ lf, (ints (cyc (nxF mt) mt.length h)).length = lf := ⟨_, rfl⟩
      have hfl : (ints (cyc (nxF mt) mt.length h)).length ≤ maxLen := hof.len
      rw [hlf] at hof ⊢
      have HLF := Lib.hid hlf
      have HO1' := Lib.hid (hof.mono (Nat.zero_le _))
      have HQ1 : Hid (GqSt w2 w6 u4 (incL sg mt h ++ incR sg mt h (h + 1))) := by
        rw [incR_skip sg mt h (h + 1) (Nat.le_refl _), List.append_nil]; exact HQ.out.call hb6
      have HC6 := Lib.hid (HCr.out.below hb6)
      clear HQ k0 k1 k2 hof hb6 hlf HCr
      have k0 := HC6.out.db.c0
      have k1 := HC6.out.db.c1
      go_wp2_with fail
      clear k0 k1
      go_loopw [4, 7] (fun v i wr => ∃ k : Nat, h + 1 ≤ k ∧ k ≤ mt.length ∧ i = .int .i64 k ∧ Hid (GqSt w2 wr v (incL sg mt h ++ incR sg mt h k)) ∧ Hid (OI wr 0 (.slice Af lf cf) (ints (cyc (nxF mt) mt.length h)))) (fun _ i _ => mt.length - (intOf i).toNat)
      case atStart => exact ⟨h + 1, by omega, by omega, by go_num, HQ1, HO1'⟩
      case round =>
        clear HQ1 HO1'
        obtain ⟨k, hk1, hk, rfl, HQ, HO⟩ := hrel
        have HCr := Lib.hid (HC.out.below HQ.out.bl)
        have k0 := HCr.out.db.c0
        have k1 := HCr.out.db.c1
        have k2 := HCr.out.db.c2
        by_cases hkl : k < mt.length
        · have hrf : RI wr (fun _ => True) Af (ints (cyc (nxF mt) mt.length h)) := by
            obtain ⟨Af2, cf2, hv, -, -, hr⟩ := HO.out.reads
            injection hv with a1 a2 a3
            subst a1
            exact hr.imp fun _ _ => trivial
          have HF := Lib.hid hrf
          have HFd := Lib.hid (show RI wr.drew (fun _ => True) Af (ints (cyc (nxF mt) mt.length h)) from hrf)
          have hrs : RI wr (· < w.heap.size) A1 sg := (HXX.out.below HB2.out).keep fun b hb => HQ.out.bl.block b (by omega)
          have HRS := Lib.hid hrs
          have HRSd := Lib.hid (show RI wr.drew (· < w.heap.size) A1 sg from hrs)
          obtain ⟨x1, hx1⟩ : ∃ x, outB sg h = x := ⟨_, rfl⟩
          obtain ⟨x2, hx2⟩ : ∃ x, outB sg k = x := ⟨_, rfl⟩
          have HO1 := Lib.hid hx1
          have HO2 := Lib.hid hx2
          have HLF2 := HLF
          clear hrf hrs
          have hfl : (ints (cyc (nxF mt) mt.length h)).length ≤ maxLen := hfl
          obtain ⟨r, hin⟩ : ∃ r, decide ((k : Int) ∈ ints (cyc (nxF mt) mt.length h)) = r := ⟨_, rfl⟩
          have HIN := Lib.hid hin
          have hmm : r = decide (k ∈ cyc (nxF mt) mt.length h) := by rw [← hin]; exact decide_eq_decide.2 mem_ints
          clear hin
          cases r
          · have e : incR sg mt h (k + 1) = incR sg mt h k := by
              show incR sg mt h k ++ _ = _
              rw [if_neg (fun hc => by unfold incB at hc; rw [← hmm] at hc; simp at hc), List.append_nil]
            have HIE := Lib.hid e
            clear e
            clear hmm hx1 hx2
            have HNX : Hid (∀ n, GqSt w2 (wr.drewN n) u4 (incL sg mt h ++ incR sg mt h (k + 1)) ∧ OI (wr.drewN n) 0 (.slice Af lf cf) (ints (cyc (nxF mt) mt.length h))) := fun n => by
              rw [HIE.out]
              exact ⟨HQ.out.call (below_drewN (Below.refl _ _) n), HO.out.drewN n⟩
            go_wp2_with fail
            go_quiet (first | (go_at_call 50; exact Calls.quiet_of_same (rin_is (fun _ => True) _ (by exact HF.out.drewN _) hfl HLF.out HIN.out)) | (go_at_call 34; with_reducible (show Calls _ _ #[_, Value.int .i64 (h : Int)] _ _); exact Calls.quiet_of_same (rout_is (h := h) (· < w.heap.size) _ (by exact HRS.out.drewN _) hsl rfl (by have := HN.out; omega) HO1.out)) | (go_at_call 34; with_reducible (show Calls _ _ #[_, Value.int .i64 (k : Int)] _ _); exact Calls.quiet_of_same (rout_is (h := k) (· < w.heap.size) _ (by exact HRS.out.drewN _) hsl rfl (by have := HN.out; omega) HO2.out)))
            go_wp2_with fail
            go_roundw
            case rel => exact ⟨k + 1, by omega, by omega, by go_num, Lib.hid (HNX.out _).1, Lib.hid (HNX.out _).2⟩
            case measure => simp [intOf]; omega
          · by_cases hal : x1 = x2
            · obtain rfl := hal
              have hal2 : (x1 == x1) = true := beq_self_eq_true _
              obtain ⟨m1, hm1'⟩ : ∃ m, numN (nxC sg mt) mt.length (outB sg) (outEnd sg mt h) = m := ⟨_, rfl⟩
              obtain ⟨m2, hm2'⟩ : ∃ m, numN (nxC sg mt) mt.length (outB sg) (outEnd sg mt k) = m := ⟨_, rfl⟩
              have M1 := Lib.hid hm1'
              have M2 := Lib.hid hm2'
              have hce : decide (ceN sg mt h ≠ ceN sg mt k) = decide (m1 ≠ m2) := by unfold ceN; rw [hm1', hm2']
              clear hm1' hm2'
              by_cases hme : m1 = m2
              · have e : incR sg mt h (k + 1) = incR sg mt h k := by
                  show incR sg mt h k ++ _ = _
                  rw [if_neg (fun hc => by unfold incB at hc; rw [hce, show decide (m1 ≠ m2) = false from decide_eq_false (fun hne => hne hme)] at hc; simp at hc), List.append_nil]
                have HIE := Lib.hid e
                clear e
                have hme2 : ((m1 : Int) != (m2 : Int)) = false := by rw [bne_eq_false_iff_eq]; omega
                clear hmm hce hx1 hx2 hme
                go_wp2_with fail
                go_region_held3 (fun w' => Hid (Below w2.heap.size w2 w') ∧ w'.cell? ⟨w.heap.size, 0, none⟩ = some (.slice A1 sg.length c1) ∧ w'.cell? ⟨w.heap.size, 1, none⟩ = some (.slice A2 mt.length c2) ∧ w'.cell? ⟨w.heap.size, 2, none⟩ = some (.int .i64 L))
                  (first | exact HC.out.pack HQ.out.drew.bl | exact HC.out.pack (HQ.out.drew.call hb9).bl | exact HC.out.pack (HQ.out.drew.call hb10).bl | exact HC.out.pack ((HQ.out.drew.call hb9).call hb10).bl | exact HC.out.pack ((HQ.out.drew.call hb10).call hb9).bl | assumption)
                  (first | (go_at_call 50; ((with_reducible refine (rin_is (fun _ => True) _ HFd.out hfl HLF.out HIN.out).mono ?_); rintro e7 w7 ⟨rfl, rfl⟩)) | (go_at_call 34; with_reducible (show Calls _ _ #[_, Value.int .i64 (h : Int)] _ _); ((with_reducible refine (rout_is (h := h) (· < w.heap.size) _ HRSd.out hsl rfl (by have := HN.out; omega) HO1.out).mono ?_); rintro e7 w7 ⟨rfl, rfl⟩)) | (go_at_call 34; with_reducible (show Calls _ _ #[_, Value.int .i64 (k : Int)] _ _); ((with_reducible refine (rout_is (h := k) (· < w.heap.size) _ HRSd.out hsl rfl (by have := HN.out; omega) HO2.out).mono ?_); rintro e7 w7 ⟨rfl, rfl⟩)) | (go_at_call 44; with_reducible (show Calls _ _ #[_, _, Value.int .i64 (h : Int)] _ _); ((with_reducible refine (rcircle_any A1 A2 A3 c1 c2 c3 sg mt L _ h _ (HC.out.below (Hid.out (And.left (by assumption)))).db.rs (HC.out.below (Hid.out (And.left (by assumption)))).db.rm (HC.out.below (Hid.out (And.left (by assumption)))).rl H.out hhl rfl _ rfl).mono ?_); rintro e9 w9 ⟨rfl, hb9⟩; rw [M1.out])) | (go_at_call 44; with_reducible (show Calls _ _ #[_, _, Value.int .i64 (k : Int)] _ _); ((with_reducible refine (rcircle_any A1 A2 A3 c1 c2 c3 sg mt L _ k _ (HC.out.below (Hid.out (And.left (by assumption)))).db.rs (HC.out.below (Hid.out (And.left (by assumption)))).db.rm (HC.out.below (Hid.out (And.left (by assumption)))).rl H.out hkl rfl _ rfl).mono ?_); rintro e10 w10 ⟨rfl, hb10⟩; rw [M2.out])))
                have hq10 := (HQ.out.drew.call hb9).call hb10
                have ho10 := ((show OI wr.drew 0 (.slice Af lf cf) (ints (cyc (nxF mt) mt.length h)) from HO.out.drewN 1).below hb9 (Nat.le_refl _)).below hb10 (Nat.le_refl _)
                rw [← HIE.out] at hq10
                have HQ10 := Lib.hid hq10
                have HO10 := Lib.hid ho10
                clear hq10 ho10 hb9 hb10
                go_wp2_with fail
                go_roundw
                case rel => exact ⟨k + 1, by omega, by omega, by go_num, HQ10, HO10⟩
                case measure => simp [intOf]; omega
              · have e : incR sg mt h (k + 1) = incR sg mt h k ++ [((h : Int), (k : Int))] := by
                  show incR sg mt h k ++ _ = _
                  rw [if_pos ⟨by omega, by unfold incB; rw [← hmm, hx1, hx2, hal2, hce, decide_eq_true hme]; rfl⟩]
                have HIE := Lib.hid e
                have hme2 : ((m1 : Int) != (m2 : Int)) = true := by rw [bne_iff_ne]; omega
                have hlen : (incL sg mt h ++ incR sg mt h k).length < 1099511627776 := by
                  have h1 := incL_len sg mt h
                  have h2 := incR_len sg mt h k
                  have h3 : h * mt.length ≤ 256 * 256 := Nat.mul_le_mul (by omega) h256
                  rw [List.length_append]
                  omega
                have HLE := Lib.hid hlen
                clear hmm hce hx1 hx2 hme e hlen
                go_wp2_with fail
                go_region_held3 (fun w' => Hid (Below w2.heap.size w2 w') ∧ w'.cell? ⟨w.heap.size, 0, none⟩ = some (.slice A1 sg.length c1) ∧ w'.cell? ⟨w.heap.size, 1, none⟩ = some (.slice A2 mt.length c2) ∧ w'.cell? ⟨w.heap.size, 2, none⟩ = some (.int .i64 L))
                  (first | exact HC.out.pack HQ.out.drew.bl | exact HC.out.pack (HQ.out.drew.call hb9).bl | exact HC.out.pack (HQ.out.drew.call hb10).bl | exact HC.out.pack ((HQ.out.drew.call hb9).call hb10).bl | exact HC.out.pack ((HQ.out.drew.call hb10).call hb9).bl | assumption)
                  (first | (go_at_call 50; ((with_reducible refine (rin_is (fun _ => True) _ HFd.out hfl HLF.out HIN.out).mono ?_); rintro e7 w7 ⟨rfl, rfl⟩)) | (go_at_call 34; with_reducible (show Calls _ _ #[_, Value.int .i64 (h : Int)] _ _); ((with_reducible refine (rout_is (h := h) (· < w.heap.size) _ HRSd.out hsl rfl (by have := HN.out; omega) HO1.out).mono ?_); rintro e7 w7 ⟨rfl, rfl⟩)) | (go_at_call 34; with_reducible (show Calls _ _ #[_, Value.int .i64 (k : Int)] _ _); ((with_reducible refine (rout_is (h := k) (· < w.heap.size) _ HRSd.out hsl rfl (by have := HN.out; omega) HO2.out).mono ?_); rintro e7 w7 ⟨rfl, rfl⟩)) | (go_at_call 44; with_reducible (show Calls _ _ #[_, _, Value.int .i64 (h : Int)] _ _); ((with_reducible refine (rcircle_any A1 A2 A3 c1 c2 c3 sg mt L _ h _ (HC.out.below (Hid.out (And.left (by assumption)))).db.rs (HC.out.below (Hid.out (And.left (by assumption)))).db.rm (HC.out.below (Hid.out (And.left (by assumption)))).rl H.out hhl rfl _ rfl).mono ?_); rintro e9 w9 ⟨rfl, hb9⟩; rw [M1.out])) | (go_at_call 44; with_reducible (show Calls _ _ #[_, _, Value.int .i64 (k : Int)] _ _); ((with_reducible refine (rcircle_any A1 A2 A3 c1 c2 c3 sg mt L _ k _ (HC.out.below (Hid.out (And.left (by assumption)))).db.rs (HC.out.below (Hid.out (And.left (by assumption)))).db.rm (HC.out.below (Hid.out (And.left (by assumption)))).rl H.out hkl rfl _ rfl).mono ?_); rintro e10 w10 ⟨rfl, hb10⟩; rw [M2.out])))
                have HQ10 := Lib.hid ((HQ.out.drew.call hb9).call hb10)
                have HO10 := Lib.hid (((show OI wr.drew 0 (.slice Af lf cf) (ints (cyc (nxF mt) mt.length h)) from HO.out.drewN 1).below hb9 (Nat.le_refl _)).below hb10 (Nat.le_refl _))
                clear hb9 hb10
                go_wp2_with (at_builtin; refine app_pair HQ10.out.op HLE.out HQ10.out.bl.size rfl rfl Try.underlying36 rfl rfl ?_; intro v8 w8 ho8 hg8 hob8)
                have hq8 := GqSt.push (p := ((h : Int), (k : Int))) (HQ10.out.alloc _) ho8 hg8
                rw [List.append_assoc, ← HIE.out] at hq8
                have HQ8 := Lib.hid hq8
                have ho8' : OI w8 0 (.slice Af lf cf) (ints (cyc (nxF mt) mt.length h)) := HO10.out.keep fun g hg => by
                  have hlt := (HO10.out.lt g hg).2
                  rw [hg8.block g (by simp; omega) (fun e => OP.apart HQ10.out.op HO10.out e.symm hg), Below.heap_alloc _ _ g hlt]
                have HO8 := Lib.hid ho8'
                clear hq8 ho8 hg8 hob8 ho8'
                go_roundw
                case rel => exact ⟨k + 1, by omega, by omega, by go_num, HQ8, HO8⟩
                case measure => simp [intOf]; omega
            · have e : incR sg mt h (k + 1) = incR sg mt h k := by
                show incR sg mt h k ++ _ = _
                rw [if_neg (fun hc => by unfold incB at hc; rw [hx1, hx2, beq_eq_false_iff_ne.2 hal] at hc; simp at hc), List.append_nil]
              have HIE := Lib.hid e
              clear e
              have hal2 : (x1 == x2) = false := beq_eq_false_iff_ne.2 hal
              clear hmm hal hx1 hx2
              have HNX : Hid (∀ n, GqSt w2 (wr.drewN n) u4 (incL sg mt h ++ incR sg mt h (k + 1)) ∧ OI (wr.drewN n) 0 (.slice Af lf cf) (ints (cyc (nxF mt) mt.length h))) := fun n => by
                rw [HIE.out]
                exact ⟨HQ.out.call (below_drewN (Below.refl _ _) n), HO.out.drewN n⟩
              go_wp2_with fail
              go_quiet (first | (go_at_call 50; exact Calls.quiet_of_same (rin_is (fun _ => True) _ (by exact HF.out.drewN _) hfl HLF.out HIN.out)) | (go_at_call 34; with_reducible (show Calls _ _ #[_, Value.int .i64 (h : Int)] _ _); exact Calls.quiet_of_same (rout_is (h := h) (· < w.heap.size) _ (by exact HRS.out.drewN _) hsl rfl (by have := HN.out; omega) HO1.out)) | (go_at_call 34; with_reducible (show Calls _ _ #[_, Value.int .i64 (k : Int)] _ _); exact Calls.quiet_of_same (rout_is (h := k) (· < w.heap.size) _ (by exact HRS.out.drewN _) hsl rfl (by have := HN.out; omega) HO2.out)))
              go_wp2_with fail
              go_roundw
              case rel => exact ⟨k + 1, by omega, by omega, by go_num, Lib.hid (HNX.out _).1, Lib.hid (HNX.out _).2⟩
              case measure => simp [intOf]; omega
        · obtain rfl : mt.length = k := by omega
          clear hkl hk
          go_wp2_with fail
          go_roundw
          case rel => exact ⟨h + 1, by omega, by go_num, HQ⟩
          case measure => simp [intOf]; omega
    · obtain rfl : mt.length = h := by omega
      have HB9 := Lib.hid (HB2.out.trans (HQ.out.bl.mono hs2))
      have HO9 := Lib.hid (HQ.out.op.mono hs2)
      clear HQ hhl
      go_wp2_with fail
      go_ret
      exact ⟨_, rfl, HO9.out, HB9.out⟩
end
end Go.Proofs.Ytaghemilihaiaaa

