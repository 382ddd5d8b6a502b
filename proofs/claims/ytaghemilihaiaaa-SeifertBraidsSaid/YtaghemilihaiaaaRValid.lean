/-
  The contract of the reference's Valid.
-/
import Derived.Test.YtaghemilihaiaaaRFaces
namespace Go.Proofs.Ytaghemilihaiaaa
open Go.RowKit

/-- four times a small number, as the quiet walk of a region asks it -/
@[go_sem] theorem wrap_four {n : Nat} (h : n ≤ 64) : IntKind.i64.wrap (4 * (n : Int)) = 4 * (n : Int) := IntWalk.i64_in _ (by omega)

theorem rout_is {A : Option Addr} {c : Nat} {sg : List Int} {a : Int} {h : Nat} {w : World} (S : Nat → Prop) (r : Bool) (hx : RI w S A sg) (hm : sg.length ≤ 1099511627776) (ha : a = h) (hh : h < 4 * sg.length) (hr : outB sg h = r) :
    Calls Try.prog 34 #[.slice A sg.length c, .int .i64 a] w fun e w' => e = .returned (.bool r) ∧ w' = w := by
  subst hr
  exact rout_any A c sg a h w S hx hm ha hh

theorem rout_ex {A : Option Addr} {c : Nat} {sg : List Int} {a : Int} {w : World} (S : Nat → Prop) {r : Bool} (hx : RI w S A sg) (hm : sg.length ≤ 1099511627776) (hq : ∃ h : Nat, a = h ∧ h < 4 * sg.length ∧ outB sg h = r) :
    Calls Try.prog 34 #[.slice A sg.length c, .int .i64 a] w fun e w' => e = .returned (.bool r) ∧ w' = w := by
  obtain ⟨h, ha, hh, hr⟩ := hq
  exact rout_is S r hx hm ha hh hr

/-- the faces of the component of c, counted along the list of faces -/
def fcnt (mt : List Int) (n c : Nat) (ls : List (List Nat)) : Nat := ls.countP fun l => decide (labAt mt n (gN l 0 / 4) = c)
theorem cyc_zero {f : Nat → Nat} {N h : Nat} (h0 : 0 < per f N h) : gN (cyc f N h) 0 = h := by
  rw [gN_lt (by rw [cyc_length]; exact h0)]
  simp [cyc, it]
theorem fcnt_all {mt : List Int} (hI : InvM mt) {n : Nat} (hn : mt.length = 4 * n) (c : Nat) : fcnt mt n c (facesL mt) = cnt (fun h => lstB (nxF mt) mt.length h && decide (labAt mt n (h / 4) = c)) mt.length := by
  unfold fcnt facesL cycsL cnt
  rw [List.countP_map, List.countP_filter, List.countP_eq_length_filter]
  congr 1
  apply List.filter_congr
  intro h hh
  have hh' := List.mem_range.1 hh
  simp only [Function.comp]
  rw [cyc_zero (per_spec (nxF_perm hI hn) hh').1]
  simp only [allT, Bool.true_and]
  rw [Bool.and_comm]
theorem face_at {mt : List Int} {k : Nat} (hk : k < (facesL mt).length) : ∃ h, h < mt.length ∧ (facesL mt)[k] = cyc (nxF mt) mt.length h := by
  have hm := List.getElem_mem hk
  unfold facesL cycsL at hm
  rw [List.mem_map] at hm
  obtain ⟨h, hh, e⟩ := hm
  rw [List.mem_filter] at hh
  exact ⟨h, List.mem_range.1 hh.1, e.symm⟩
theorem rows_getD {ls : List (List Nat)} {k : Nat} (hk : k < ls.length) : (rows ls).getD k [] = ints ls[k] := by simp [rows, hk]

theorem isD_sph {sg mt : List Int} {L : Int} (h1 : sg.length ≤ 64) (h2 : mt.length = 4 * sg.length) (h3 : 0 ≤ L) (h4 : L ≤ 64) (h5 : SgM sg) (h6 : InvM mt) (h7 : OutM sg mt) : IsD sg mt L ↔ Sph mt sg.length :=
  ⟨fun h => h.2.2.2.2.2.2.2, fun h => ⟨h1, h2, h3, h4, h5, h6, h7, h⟩⟩

theorem DBox.drewN {w : World} {bd : Nat} {A1 A2 : Option Addr} {c1 c2 : Nat} {sg mt : List Int} {L : Int} (h : DBox w bd A1 A2 c1 c2 sg mt L) (m : Nat) : DBox (w.drewN m) bd A1 A2 c1 c2 sg mt L := ⟨h.c0, h.c1, h.c2, h.lt, h.rs, h.rm⟩

set_option maxRecDepth 100000 in
set_option maxHeartbeats 8000000 in
theorem rvalid_any (A1 A2 : Option Addr) (c1 c2 : Nat) (sg mt : List Int) (L : Int) (w : World) (S : Nat → Prop) (hx : RI w S A1 sg) (hy : RI w S A2 mt) (hS : ∀ b, S b → b < w.heap.size) (hm1 : sg.length ≤ maxLen) (hm2 : mt.length ≤ maxLen) :
    Calls Try.prog 14 #[.agg #[.slice A1 sg.length c1, .slice A2 mt.length c2, .int .i64 L]] w fun e w' => e = .returned (.bool (decide (IsD sg mt L))) ∧ Below w.heap.size w w' := by
  unfold maxLen at hm1 hm2
  have hb := Lib.hid ((Below.refl w.heap.size w).alloc (Nat.le_refl _) (.cells #[.slice A1 sg.length c1, .slice A2 mt.length c2, .int .i64 L] 24))
  by_cases h64 : sg.length ≤ 64
  case neg =>
    have H := Lib.hid (show decide (IsD sg mt L) = false from decide_eq_false fun h => h64 h.1)
    have h1 : (64 : Int) < sg.length := by omega
    clear hx hy h64
    go_enter Try.func14, Try.ntmps14
    go_wp2_with fail
    go_ret
    exact ⟨ret_bool H.out.symm, hb.out⟩
  case pos =>
  have h1 : ¬ (64 : Int) < sg.length := by omega
  by_cases hml : mt.length = 4 * sg.length
  case neg =>
    have H := Lib.hid (show decide (IsD sg mt L) = false from decide_eq_false fun h => hml h.2.1)
    have h2 : ((mt.length : Int) != 4 * (sg.length : Int)) = true := by rw [bne_iff_ne]; omega
    clear hx hy hml
    go_enter Try.func14, Try.ntmps14
    go_wp2_with fail
    go_ret
    exact ⟨ret_bool H.out.symm, hb.out⟩
  case pos =>
  have h2 : ((mt.length : Int) != 4 * (sg.length : Int)) = false := by rw [bne_eq_false_iff_eq]; omega
  by_cases hL0 : L < 0
  · have H := Lib.hid (show decide (IsD sg mt L) = false from decide_eq_false fun h => by have := h.2.2.1; omega)
    clear hx hy hml
    go_enter Try.func14, Try.ntmps14
    go_wp2_with fail
    go_ret
    exact ⟨ret_bool H.out.symm, hb.out⟩
  by_cases hL1 : (64 : Int) < L
  · have H := Lib.hid (show decide (IsD sg mt L) = false from decide_eq_false fun h => by have := h.2.2.2.1; omega)
    clear hx hy hml
    go_enter Try.func14, Try.ntmps14
    go_wp2_with fail
    go_ret
    exact ⟨ret_bool H.out.symm, hb.out⟩
  have HD := Lib.hid (DBox.start (c1 := c1) (c2 := c2) (L := L) S hx hy hS)
  have HML := Lib.hid hml
  obtain ⟨n, hnn⟩ : ∃ n, sg.length = n := ⟨_, rfl⟩
  have HNN := Lib.hid hnn
  clear hx hy hS hml hnn
  go_enter Try.func14, Try.ntmps14
  go_wp2_with fail
  go_loop [4] (fun i => ∃ k : Nat, k ≤ sg.length ∧ i = .int .i64 k ∧ Hid (∀ c, c < k → gi sg c = 1 ∨ gi sg c = -1)) (fun i => sg.length - (intOf i).toNat)
  case atStart => exact ⟨0, Nat.zero_le _, rfl, by intro c hc; omega⟩
  case round =>
    obtain ⟨k, hk, rfl, HS⟩ := hrel
    by_cases hlt : k < sg.length
    · have m0 := HD.out.c0
      obtain ⟨b, off, rfl, hbb, hc⟩ := HD.out.rs.at_ hlt
      have k1 := hc k hlt
      clear hc
      by_cases g1 : gi sg k = 1
      · have e1 : (gi sg k != 1) = false := by rw [bne_eq_false_iff_eq]; exact g1
        have HS' : Hid (∀ c, c < k + 1 → gi sg c = 1 ∨ gi sg c = -1) := by
          intro c hc
          rcases Nat.lt_or_eq_of_le (Nat.le_of_lt_succ hc) with h | rfl
          · exact HS.out c h
          · exact .inl g1
        clear g1
        go_wp2_with fail
        go_round
        case rel => exact ⟨k + 1, by omega, by go_num, HS'⟩
        case measure => simp [intOf]; omega
      have e1 : (gi sg k != 1) = true := by rw [bne_iff_ne]; exact g1
      by_cases g2 : gi sg k = -1
      · have e2 : (gi sg k != -1) = false := by rw [bne_eq_false_iff_eq]; exact g2
        have HS' : Hid (∀ c, c < k + 1 → gi sg c = 1 ∨ gi sg c = -1) := by
          intro c hc
          rcases Nat.lt_or_eq_of_le (Nat.le_of_lt_succ hc) with h | rfl
          · exact HS.out c h
          · exact .inr g2
        clear g1 g2
        go_wp2_with fail
        go_round
        case rel => exact ⟨k + 1, by omega, by go_num, HS'⟩
        case measure => simp [intOf]; omega
      have e2 : (gi sg k != -1) = true := by rw [bne_iff_ne]; exact g2
      have H := Lib.hid (show decide (IsD sg mt L) = false from decide_eq_false fun h => by
        rcases h.2.2.2.2.1 k hlt with h | h
        · exact g1 h
        · exact g2 h)
      clear g1 g2
      go_wp2_with fail
      go_ret
      exact ⟨ret_bool H.out.symm, hb.out⟩
    · have HSG : Hid (SgM sg) := fun c hc => HS.out c (by omega)
      clear HS
      go_wp2_with fail
      clear hlt hk
      go_loopw [5] (fun i wr => ∃ k : Nat, k ≤ mt.length ∧ i = .int .i64 k ∧ Hid (DBox wr w.heap.size A1 A2 c1 c2 sg mt L) ∧ Hid (Below w.heap.size w wr) ∧ Hid (Inv2 sg mt k)) (fun i _ => mt.length - (intOf i).toNat)
      case atStart => exact ⟨0, Nat.zero_le _, rfl, HD, hb, by intro h hh; omega⟩
      case round =>
        clear HD
        obtain ⟨k, hk, rfl, HD, HB, HI⟩ := hrel
        have m0 := HD.out.c0
        have m1 := HD.out.c1
        by_cases hlt : k < mt.length
        · have hlt' : (k : Int) < 4 * (sg.length : Int) := by have := HML.out; omega
          obtain ⟨b, off, rfl, hbb, hc⟩ := HD.out.rm.at_ hlt
          have k1 := hc k hlt
          by_cases g1 : gi mt k < 0
          · have H := Lib.hid (not_isD (sg := sg) (L := L) hlt (.inl g1))
            clear hc
            go_wp2_with fail
            go_quiet (fail)
            go_wp2_with fail
            go_ret
            exact ⟨ret_bool H.out.symm, below_drewN HB.out _⟩
          have HML' := HML.out
          have g1d : decide (gi mt k < 0) = false := decide_eq_false g1
          by_cases g2 : gi mt k < 4 * (sg.length : Int)
          case neg =>
            have H := Lib.hid (not_isD (sg := sg) (L := L) hlt (.inr (.inl (by omega))))
            have g2l : 4 * (sg.length : Int) ≤ gi mt k := by omega
            have g2d : decide (4 * (sg.length : Int) ≤ gi mt k) = true := decide_eq_true g2l
            clear hc HML'
            go_wp2_with fail
            go_quiet (fail)
            go_wp2_with fail
            go_ret
            exact ⟨ret_bool H.out.symm, below_drewN HB.out _⟩
          have g2' : gi mt k < (mt.length : Int) := by omega
          have g2d : decide (4 * (sg.length : Int) ≤ gi mt k) = false := decide_eq_false (by omega)
          by_cases g3 : gi mt k = k
          · have H := Lib.hid (not_isD (sg := sg) (L := L) hlt (.inr (.inr (.inl g3))))
            have g3' : (gi mt k == (k : Int)) = true := by rw [beq_iff_eq]; exact g3
            clear hc HML' g3
            go_wp2_with fail
            go_quiet (fail)
            go_wp2_with fail
            go_ret
            exact ⟨ret_bool H.out.symm, below_drewN HB.out _⟩
          have g3' : (gi mt k == (k : Int)) = false := by rw [beq_eq_false_iff_ne]; exact g3
          have k2 := hc (gn mt k) (by unfold gn; omega)
          have k2' : wr.cell? ⟨b, off + (gi mt k).toNat, none⟩ = some (.int .i64 (gi mt (gn mt k))) := k2
          have i1 : 0 ≤ gi mt k ∧ gi mt k < mt.length := by omega
          by_cases g4 : gi mt (gn mt k) = k
          case neg =>
            have H := Lib.hid (not_isD (sg := sg) (L := L) hlt (.inr (.inr (.inr (.inl g4)))))
            have g4' : (gi mt (gn mt k) != (k : Int)) = true := by rw [bne_iff_ne]; exact g4
            clear hc HML' g3 g4 k2
            go_wp2_with fail
            go_quiet (fail)
            go_wp2_with fail
            go_ret
            exact ⟨ret_bool H.out.symm, below_drewN HB.out _⟩
          have g4' : (gi mt (gn mt k) != (k : Int)) = false := by rw [bne_eq_false_iff_eq]; exact g4
          have G1 := Lib.hid g1
          have G2 := Lib.hid g2'
          have G3 := Lib.hid g3
          have G4 := Lib.hid g4
          have hgn : gi mt k = ((gn mt k : Nat) : Int) := by unfold gn; omega
          have hgl : gn mt k < 4 * sg.length := by omega
          have HGN := Lib.hid hgn
          have hk4 : k < 4 * sg.length := by have := HML.out; omega
          have hs64 : sg.length ≤ 1099511627776 := by omega
          obtain ⟨x, hx⟩ : ∃ x, outB sg k = x := ⟨_, rfl⟩
          obtain ⟨y, hy⟩ : ∃ y, outB sg (gn mt k) = y := ⟨_, rfl⟩
          have HXB := Lib.hid hx
          have HYB := Lib.hid hy
          clear hc HML' g3 g4 k2 hgn hx hy
          go_wp2_with fail
          by_cases g5 : x = y
          · have H := Lib.hid (not_isD (sg := sg) (L := L) hlt (.inr (.inr (.inr (.inr (by rw [HXB.out, HYB.out]; exact g5))))))
            subst g5
            cases x
            all_goals
              go_quiet (first
                | (go_at_call 34; with_reducible (show Calls _ _ #[_, Value.int .i64 (k : Int)] _ _); exact Calls.quiet_of_same (rout_is (a := (k : Int)) (h := k) (· < wr.heap.size) _ (HD.out.rs.drewN _) hs64 rfl hk4 HXB.out))
                | (go_at_call 34; with_reducible (show Calls _ _ #[_, Value.int .i64 (gi mt k)] _ _); exact Calls.quiet_of_same (rout_is (a := gi mt k) (h := gn mt k) (· < wr.heap.size) _ (HD.out.rs.drewN _) hs64 HGN.out hgl HYB.out)))
              go_wp2_with fail
              go_ret
              exact ⟨ret_bool H.out.symm, below_drewN HB.out _⟩
          · have HI' := Lib.hid (inv2_step HI.out G1.out G2.out G3.out G4.out (by rw [HXB.out, HYB.out]; exact g5))
            obtain rfl : y = !x := by cases x <;> cases y <;> simp_all
            clear g5
            cases x
            all_goals
              simp only [Bool.not_true, Bool.not_false] at HYB
              go_quiet (first
                | (go_at_call 34; with_reducible (show Calls _ _ #[_, Value.int .i64 (k : Int)] _ _); exact Calls.quiet_of_same (rout_is (a := (k : Int)) (h := k) (· < wr.heap.size) _ (HD.out.rs.drewN _) hs64 rfl hk4 HXB.out))
                | (go_at_call 34; with_reducible (show Calls _ _ #[_, Value.int .i64 (gi mt k)] _ _); exact Calls.quiet_of_same (rout_is (a := gi mt k) (h := gn mt k) (· < wr.heap.size) _ (HD.out.rs.drewN _) hs64 HGN.out hgl HYB.out)))
              go_wp2_with fail
              go_roundw
              case rel => exact ⟨k + 1, by omega, by go_num, HD.out.drewN _, below_drewN HB.out _, HI'⟩
              case measure => simp [intOf]; omega
        · obtain rfl : mt.length = k := by omega
          have hlt' : ¬ (mt.length : Int) < 4 * (sg.length : Int) := by have := HML.out; omega
          obtain ⟨hI, hO⟩ := inv2_end HI.out
          have HI2 := Lib.hid hI
          have HO2 := Lib.hid hO
          clear hI hO HI
          go_wp2_with fail
          have hrm := Lib.hid HD.out.rm
          have hn64 : n ≤ 64 := by rw [← HNN.out]; exact h64
          have HN : Hid (mt.length = 4 * n) := by rw [← HNN.out]; exact HML.out
          refine (rlabel_any A2 c2 n mt wr (· < wr.heap.size) hrm.out (fun _ h => h) HN.out HI2.out (by omega)).mono ?_
          rintro e w5 ⟨v5, rfl, ho5, hb5⟩
          have HD5 := Lib.hid (HD.out.below hb5)
          have HB5 := Lib.hid (HB.out.trans (hb5.mono HB.out.size))
          have hs5 := hb5.size
          obtain ⟨A5, c5, rfl, -, -, hr5⟩ := ho5.reads
          rw [ints_length, labN_length]
          have HR5 := Lib.hid (hr5.imp (T := (· < w5.heap.size)) fun b hb => hb.2)
          have m5 := HD5.out.c1
          have hrm5 := Lib.hid HD5.out.rm
          clear ho5 hb5 hr5 m0 m1
          go_wp2_with fail
          refine (rfaces_any A2 c2 n mt w5 (· < w5.heap.size) hrm5.out (fun _ h => h) HN.out HI2.out (by omega)).mono ?_
          rintro e w6 ⟨v6, rfl, hr6, hb6⟩
          have HR6 := Lib.hid hr6
          have HL6 := Lib.hid ((HR5.out.below hb6).imp (T := (· < w6.heap.size)) fun b hb => by have := hb6.size; omega)
          have HB6 := Lib.hid (HB5.out.trans (hb6.mono HB5.out.size))
          obtain ⟨A6, c6, rfl, -, -, -⟩ := hr6.shape
          have hfl := cycsL_len (nxF mt) mt.length allT mt.length
          have hfl2 : (rows (facesL mt)).length ≤ 400 := by have := HN.out; unfold facesL; omega
          rw [rows_cycs_length] at hfl2 ⊢
          obtain ⟨q, hq⟩ : ∃ q, (facesL mt).length = q := ⟨_, rfl⟩
          have HQ := Lib.hid hq
          rw [hq] at hfl2 ⊢
          clear hr6 hb6 m5 hrm5 hrm HR5 HD5 HB5 hfl hq HD HB hlt hk hlt'
          go_wp2_with fail
          go_loop [9] (fun i => ∃ k : Nat, k ≤ n ∧ i = .int .i64 k ∧ Hid (∀ r, r < k → labAt mt n r = r → cnt (fun h => lstB (nxF mt) mt.length h && decide (labAt mt n (h / 4) = r)) mt.length = cnt (fun c => decide (labAt mt n c = r)) n + 2)) (fun i => n - (intOf i).toNat)
          case atStart => exact ⟨0, Nat.zero_le _, rfl, by intro r hr; omega⟩
          case round =>
            obtain ⟨k, hk, rfl, HA⟩ := hrel
            by_cases hlt : k < n
            · have hlts : k < sg.length := by have := HNN.out; omega
              have hlk : k < (ints (labN mt n)).length := by rw [ints_length, labN_length]; exact hlt
              obtain ⟨bl, ol, rfl, -, hcl⟩ := HL6.out.at_ hlk
              have k1 := hcl k hlk
              rw [gi_ints (by rw [labN_length]; exact hlt)] at k1
              by_cases hrep : labAt mt n k = k
              case neg =>
                have hne : (((gN (labN mt n) k : Nat) : Int) != (k : Int)) = true := by rw [bne_iff_ne]; unfold labAt at hrep; omega
                have HA' : Hid (∀ r, r < k + 1 → labAt mt n r = r → cnt (fun h => lstB (nxF mt) mt.length h && decide (labAt mt n (h / 4) = r)) mt.length = cnt (fun c => decide (labAt mt n c = r)) n + 2) := by
                  intro r hr hl
                  rcases Nat.lt_or_eq_of_le (Nat.le_of_lt_succ hr) with h | rfl
                  · exact HA.out r h hl
                  · exact absurd hl hrep
                clear hcl hrep
                go_wp2_with fail
                go_round
                case rel => exact ⟨k + 1, by omega, by go_num, HA'⟩
                case measure => simp [intOf]; omega
              have hne : (((gN (labN mt n) k : Nat) : Int) != (k : Int)) = false := by rw [bne_eq_false_iff_eq]; unfold labAt at hrep; omega
              have HCL := Lib.hid hcl
              have HREP := Lib.hid hrep
              clear hcl hrep hlk
              go_wp2_with fail
              clear k1
              go_loop [10, 12] (fun v i => ∃ b : Nat, b ≤ n ∧ i = .int .i64 b ∧ v = .int .i64 (cnt (fun c => decide (labAt mt n c = k)) b)) (fun _ i => n - (intOf i).toNat)
              case atStart => exact ⟨0, Nat.zero_le _, rfl, rfl⟩
              case round =>
                obtain ⟨b, hb, rfl, rfl⟩ := hrel
                have hcb := cnt_le (fun c => decide (labAt mt n c = k)) b
                have hcs := cnt_succ (fun c => decide (labAt mt n c = k)) b
                by_cases hbn : b < n
                · have hbts : b < sg.length := by have := HNN.out; omega
                  have k2 := HCL.out b (by rw [ints_length, labN_length]; exact hbn)
                  rw [gi_ints (by rw [labN_length]; exact hbn)] at k2
                  by_cases hl : labAt mt n b = k
                  · have hne2 : (((gN (labN mt n) b : Nat) : Int) == (k : Int)) = true := by rw [beq_iff_eq]; unfold labAt at hl; omega
                    rw [if_pos (decide_eq_true hl)] at hcs
                    have HCS := Lib.hid hcs
                    clear hcs hl
                    go_wp2_with fail
                    go_round
                    case rel => exact ⟨b + 1, by omega, by go_num, by rw [HCS.out]; go_num⟩
                    case measure => simp [intOf]; omega
                  · have hne2 : (((gN (labN mt n) b : Nat) : Int) == (k : Int)) = false := by rw [beq_eq_false_iff_ne]; unfold labAt at hl; omega
                    rw [if_neg (by simpa using hl)] at hcs
                    have HCS := Lib.hid hcs
                    clear hcs hl
                    go_wp2_with fail
                    go_round
                    case rel => exact ⟨b + 1, by omega, by go_num, by rw [HCS.out]; rfl⟩
                    case measure => simp [intOf]; omega
                · obtain rfl : n = b := by omega
                  have hbts : ¬ n < sg.length := by have := HNN.out; omega
                  clear hcs
                  go_wp2_with fail
                  obtain ⟨V, hV⟩ : ∃ V, cnt (fun c => decide (labAt mt n c = k)) n = V := ⟨_, rfl⟩
                  have HV := Lib.hid hV
                  rw [hV] at hcb ⊢
                  clear hV hbn hbts
                  go_loop [11, 13] (fun v i => ∃ j : Nat, j ≤ q ∧ i = .int .i64 j ∧ v = .int .i64 (fcnt mt n k ((facesL mt).take j))) (fun _ i => q - (intOf i).toNat)
                  case atStart => exact ⟨0, Nat.zero_le _, rfl, rfl⟩
                  case round =>
                    obtain ⟨j, hj, rfl, rfl⟩ := hrel
                    have hfb : fcnt mt n k ((facesL mt).take j) ≤ j := by
                      have h1 : fcnt mt n k ((facesL mt).take j) ≤ ((facesL mt).take j).length := List.countP_le_length
                      rw [List.length_take] at h1
                      omega
                    by_cases hjq : j < q
                    · have hjl : j < (facesL mt).length := by rw [HQ.out]; exact hjq
                      obtain ⟨h, hh, hfe⟩ := face_at hjl
                      have hper := (per_spec (nxF_perm HI2.out HN.out) hh).1
                      obtain ⟨gF, cF, AF, cF', hv, -, -, hcF, hrF, -⟩ := HR6.out.at_ (k := j) (by rw [rows_cycs_length]; exact hjl)
                      rw [rows_getD hjl, hfe, ints_length, cyc_length] at hcF
                      rw [rows_getD hjl, hfe] at hrF
                      injection hv with e1 e2 e3
                      subst e1 e3
                      obtain ⟨bf, of, rfl, -, hcf⟩ := hrF.at_ (k := 0) (by rw [ints_length, cyc_length]; exact hper)
                      have k3 := hcf 0 (by rw [ints_length, cyc_length]; exact hper)
                      rw [cyc_cell hper, Nat.add_zero] at k3
                      have k3' : w6.cell? ⟨bf, of, none⟩ = some (.int .i64 h) := k3
                      have hh4 : h / 4 < n := by have := HN.out; omega
                      have k4 := HCL.out (h / 4) (by rw [ints_length, labN_length]; exact hh4)
                      rw [gi_ints (by rw [labN_length]; exact hh4)] at k4
                      have hfs : fcnt mt n k ((facesL mt).take (j + 1)) = fcnt mt n k ((facesL mt).take j) + if labAt mt n (h / 4) = k then 1 else 0 := by
                        unfold fcnt
                        rw [List.take_succ_eq_append_getElem hjl, List.countP_append, hfe]
                        congr 1
                        rw [List.countP_singleton, cyc_zero hper]
                        by_cases e : labAt mt n (h / 4) = k <;> simp [e]
                      have hhb : h ≤ 400000 := by have := HN.out; omega
                      have HPER := Lib.hid hper
                      clear hcf hrF hfe k3 e2 hjl hper
                      by_cases hl : labAt mt n (h / 4) = k
                      · have hne2 : (((gN (labN mt n) (h / 4) : Nat) : Int) == (k : Int)) = true := by rw [beq_iff_eq]; unfold labAt at hl; omega
                        rw [if_pos hl] at hfs
                        have HFS := Lib.hid hfs
                        clear hfs hl
                        have hper := HPER.out
                        go_wp2_with fail
                        go_round
                        case rel => exact ⟨j + 1, by omega, by go_num, by rw [HFS.out]; go_num⟩
                        case measure => simp [intOf]; omega
                      · have hne2 : (((gN (labN mt n) (h / 4) : Nat) : Int) == (k : Int)) = false := by rw [beq_eq_false_iff_ne]; unfold labAt at hl; omega
                        rw [if_neg hl] at hfs
                        have HFS := Lib.hid hfs
                        clear hfs hl
                        have hper := HPER.out
                        go_wp2_with fail
                        go_round
                        case rel => exact ⟨j + 1, by omega, by go_num, by rw [HFS.out]; rfl⟩
                        case measure => simp [intOf]; omega
                    · have hend : fcnt mt n k ((facesL mt).take j) = cnt (fun h => lstB (nxF mt) mt.length h && decide (labAt mt n (h / 4) = k)) mt.length := by
                        rw [List.take_of_length_le (by rw [HQ.out]; omega), fcnt_all HI2.out HN.out]
                      obtain ⟨Fn, hF⟩ : ∃ Fn, fcnt mt n k ((facesL mt).take j) = Fn := ⟨_, rfl⟩
                      rw [hF] at hend hfb ⊢
                      have HEND := Lib.hid hend
                      clear hend hF
                      by_cases hfv : Fn = V + 2
                      · have hne3 : ((Fn : Int) != (V : Int) + 2) = false := by rw [bne_eq_false_iff_eq]; omega
                        have HA' : Hid (∀ r, r < k + 1 → labAt mt n r = r → cnt (fun h => lstB (nxF mt) mt.length h && decide (labAt mt n (h / 4) = r)) mt.length = cnt (fun c => decide (labAt mt n c = r)) n + 2) := by
                          intro r hr hl
                          rcases Nat.lt_or_eq_of_le (Nat.le_of_lt_succ hr) with h | rfl
                          · exact HA.out r h hl
                          · rw [← HEND.out, HV.out]; exact hfv
                        clear hfv
                        go_wp2_with fail
                        go_round
                        case rel => exact ⟨k + 1, by omega, by go_num, HA'⟩
                        case measure => simp [intOf]; omega
                      · have hne3 : ((Fn : Int) != (V : Int) + 2) = true := by rw [bne_iff_ne]; omega
                        have H := Lib.hid (show decide (IsD sg mt L) = false from decide_eq_false fun hd => by
                          have h1 := hd.2.2.2.2.2.2.2
                          rw [HNN.out] at h1
                          have h2 := (sph_iff HI2.out HN.out).1 h1 k hlt HREP.out
                          rw [← HEND.out, HV.out] at h2
                          exact hfv h2)
                        clear hfv
                        go_wp2_with fail
                        go_ret
                        exact ⟨ret_bool H.out.symm, HB6.out⟩
            · have hlts : ¬ k < sg.length := by have := HNN.out; omega
              have H := Lib.hid (show decide (IsD sg mt L) = true from decide_eq_true ⟨h64, HML.out, by omega, by omega, HSG.out, HI2.out, HO2.out, by
                rw [HNN.out, sph_iff HI2.out HN.out]
                exact fun r hr hl => HA.out r (by omega) hl⟩)
              go_wp2_with fail
              go_ret
              exact ⟨ret_bool H.out.symm, HB6.out⟩
theorem rvalid_is {A1 A2 : Option Addr} {c1 c2 : Nat} {sg mt : List Int} {L : Int} {w : World} (S : Nat → Prop) (r : Bool) (hx : RI w S A1 sg) (hy : RI w S A2 mt) (hS : ∀ b, S b → b < w.heap.size) (hm1 : sg.length ≤ maxLen) (hm2 : mt.length ≤ maxLen) (hr : decide (IsD sg mt L) = r) :
    Calls Try.prog 14 #[.agg #[.slice A1 sg.length c1, .slice A2 mt.length c2, .int .i64 L]] w fun e w' => e = .returned (.bool r) ∧ Below w.heap.size w w' := by
  subst hr
  exact rvalid_any A1 A2 c1 c2 sg mt L w S hx hy hS hm1 hm2

end Go.Proofs.Ytaghemilihaiaaa

