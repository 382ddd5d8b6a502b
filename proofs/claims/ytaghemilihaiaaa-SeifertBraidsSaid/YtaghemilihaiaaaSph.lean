/-
  The contract of spherical: Euler's formula for each graph component.
-/
import Derived.Test.YtaghemilihaiaaaSphM
import Derived.Test.YtaghemilihaiaaaLabel
namespace Go.Proofs.Ytaghemilihaiaaa
open Go.RowKit

/-- the counts behind k crossings, and behind all crossings and k half-edges -/
def EInv1 (mt : List Int) (n k : Nat) (e : List Int) : Prop := e.length = idxAt mt n n ∧ ∀ p, p < idxAt mt n n → gi e p = -(crossOf mt n p k : Int)
def EInv2 (mt : List Int) (n k : Nat) (e : List Int) : Prop := e.length = idxAt mt n n ∧ ∀ p, p < idxAt mt n n → gi e p = (facesOf mt n p k : Int) - (crossOf mt n p n : Int)

theorem part_lt {mt : List Int} (hI : InvM mt) {n : Nat} (hn : mt.length = 4 * n) {c : Nat} (hc : c < n) : idxAt mt n (labAt mt n c) < idxAt mt n n :=
  idxN_lt _ (lab_least hI hn hc).2.2 (lab_lab hI hn hc)
theorem einv1_step {mt : List Int} {n k : Nat} {e : List Int} (h : EInv1 mt n k e) (hp : idxAt mt n (labAt mt n k) < idxAt mt n n) : EInv1 mt n (k + 1) (e.set (idxAt mt n (labAt mt n k)) (gi e (idxAt mt n (labAt mt n k)) - 1)) := by
  refine ⟨by rw [List.length_set]; exact h.1, fun p hpp => ?_⟩
  rw [gi_set (by rw [h.1]; exact hp)]
  unfold crossOf
  rw [cnt_succ]
  by_cases ep : p = idxAt mt n (labAt mt n k)
  · subst ep
    rw [if_pos rfl, if_pos (by simp), h.2 _ hpp]
    unfold crossOf
    omega
  · rw [if_neg ep, if_neg (by simp; exact fun e => ep e.symm), h.2 _ hpp]
    rfl
theorem einv2_start {mt : List Int} {n : Nat} {e : List Int} (h : EInv1 mt n n e) : EInv2 mt n 0 e :=
  ⟨h.1, fun p hp => by rw [h.2 p hp]; unfold facesOf; rw [cnt_zero]; omega⟩
theorem einv2_skip {mt : List Int} {n k : Nat} {e : List Int} (h : EInv2 mt n k e) (hl : lstB (nxF mt) mt.length k = false) : EInv2 mt n (k + 1) e := by
  refine ⟨h.1, fun p hp => ?_⟩
  unfold facesOf
  rw [cnt_succ, if_neg (by rw [hl]; simp), h.2 p hp]
  rfl
theorem einv2_step {mt : List Int} {n k : Nat} {e : List Int} (h : EInv2 mt n k e) (hl : lstB (nxF mt) mt.length k = true) (hp : idxAt mt n (labAt mt n (k / 4)) < idxAt mt n n) :
    EInv2 mt n (k + 1) (e.set (idxAt mt n (labAt mt n (k / 4))) (gi e (idxAt mt n (labAt mt n (k / 4))) + 1)) := by
  refine ⟨by rw [List.length_set]; exact h.1, fun p hpp => ?_⟩
  rw [gi_set (by rw [h.1]; exact hp)]
  unfold facesOf
  rw [cnt_succ]
  by_cases ep : p = idxAt mt n (labAt mt n (k / 4))
  · subst ep
    rw [if_pos rfl, if_pos (by rw [hl]; simp), h.2 _ hpp]
    unfold facesOf
    omega
  · rw [if_neg ep, if_neg (by rw [hl]; simp; exact fun e => ep e.symm), h.2 _ hpp]
    rfl
theorem einv_bounds {mt : List Int} {n k : Nat} {e : List Int} (h : EInv2 mt n k e) (hk : k ≤ 400000) (hn : n ≤ 100000) {p : Nat} (hp : p < idxAt mt n n) : -100000 ≤ gi e p ∧ gi e p ≤ 400000 := by
  have h1 := h.2 p hp
  have h2 : facesOf mt n p k ≤ k := cnt_le _ _
  have h3 : crossOf mt n p n ≤ n := cnt_le _ _
  omega
theorem einv1_bounds {mt : List Int} {n k : Nat} {e : List Int} (h : EInv1 mt n k e) (hk : k ≤ 100000) {p : Nat} (hp : p < idxAt mt n n) : -100000 ≤ gi e p ∧ gi e p ≤ 0 := by
  have h1 := h.2 p hp
  have h3 : crossOf mt n p k ≤ k := cnt_le _ _
  omega

def allT : Nat → Bool := fun _ => true

/-- a row of bools of the call's own at the head of block g -/
structure BRow (wr : World) (g N : Nat) (bs : List Bool) : Prop where
  own : OB wr g (.slice (some ⟨g, 0, none⟩) N N) bs
  len : bs.length = N
  size : g < wr.heap.size
theorem BRow.mark {wr : World} {g N : Nat} {bs : List Bool} (h : BRow wr g N bs) (j : Nat) : BRow (wr.setCell ⟨g, j, none⟩ (.bool true)) g N (bs.set j true) := by
  refine ⟨?_, by rw [List.length_set]; exact h.len, by simpa using h.size⟩
  have h1 : OB wr g (.slice (some ⟨g, 0, none⟩) bs.length N) bs := by rw [h.len]; exact h.own
  have h2 := OR.stored (k := j) h1 true
  rw [List.length_set, h.len] at h2
  exact h2
theorem BRow.at_ {wr : World} {g N : Nat} {bs : List Bool} (h : BRow wr g N bs) {j : Nat} (hj : j < N) : wr.cell? ⟨g, j, none⟩ = some (.bool (gb bs j)) ∧ wr.frozen? ⟨g, j, none⟩ = false := by
  obtain ⟨-, -, -, -, hc, hf⟩ := h.own.bools_at (by rw [h.len]; omega)
  exact ⟨hc j (by rw [h.len]; exact hj), hf j⟩
theorem BRow.keep {wr w' : World} {g N : Nat} {bs : List Bool} (h : BRow wr g N bs) (hk : w'.heap[g]? = wr.heap[g]?) (hs : wr.heap.size ≤ w'.heap.size) : BRow w' g N bs :=
  ⟨h.own.keep fun k hk' => by have : k = g := by simp [Value.ownBlock] at hk'; omega
                              subst this; exact hk, h.len, by have := h.size; omega⟩
theorem PRow.at_ {w1 wr : World} {B g n : Nat} {p : List Int} (h : PRow w1 wr B g n p) (hl : p.length = n) {j : Nat} (hj : j < n) : wr.cell? ⟨g, j, none⟩ = some (.int .i64 (gi p j)) ∧ wr.frozen? ⟨g, j, none⟩ = false := by
  obtain ⟨-, -, -, -, hc, hf⟩ := h.own.ints_at (by omega)
  exact ⟨hc j (by omega), hf j⟩
/-- a store into another block -/
theorem PRow.other {w1 wr : World} {B g n : Nat} {p : List Int} (h : PRow w1 wr B g n p) {b j : Nat} (hb : B ≤ b) (hne : b ≠ g) (v : Value) : PRow w1 (wr.setCell ⟨b, j, none⟩ v) B g n p :=
  ⟨h.own.keep fun k hk => by have : k = g := by simp [Value.ownBlock] at hk; omega
                             subst this; exact Below.heap_setCell wr _ _ k (by simp; omega), h.below.setCell hb _, by simpa using h.size⟩

set_option maxRecDepth 100000 in
set_option maxHeartbeats 4000000 in
theorem spherical_any (A1 A2 : Option Addr) (c1 c2 n : Nat) (mt : List Int) (L : Int) (w : World) (S : Nat → Prop) (hy : RI w S A2 mt) (hS : ∀ b, S b → b < w.heap.size) (hn : mt.length = 4 * n) (hI : InvM mt) (h64 : n ≤ 100000) :
    Calls Try.prog 46 #[.agg #[.slice A1 n c1, .slice A2 mt.length c2, .int .i64 L]] w fun e w' => e = .returned (.bool (decide (Sph mt n))) ∧ Below w.heap.size w w' := by
  have hpn : idxAt mt n n ≤ n := idxN_le _ _
  have hy1 : RI (w.alloc (.cells #[.slice A1 n c1, .slice A2 mt.length c2, .int .i64 L] 24)) (· < w.heap.size + 1) A2 mt := (hy.keep fun b hb => Below.heap_alloc w _ b (hS b hb)).imp fun b hb => by have := hS b hb; omega
  have hlab := label_any A1 A2 c1 c2 n mt L (w.alloc (.cells #[.slice A1 n c1, .slice A2 mt.length c2, .int .i64 L] 24)) (· < w.heap.size + 1) hy1 (fun b hb => by simpa using hb) hn hI h64
  have HLAB := Lib.hid hlab
  have HY := Lib.hid hy1
  have HN := Lib.hid hn
  have HI := Lib.hid hI
  obtain ⟨q, hq⟩ : ∃ q, idxAt mt n n = q := ⟨_, rfl⟩
  have HQ := Lib.hid hq
  have hqn : q ≤ 100000 := by omega
  have hmk := make_ints 22 Try.underlying22 q (by omega)
  have hmb := make_bools 59 Try.underlying59 mt.length (by omega)
  have HMB := Lib.hid hmb
  have hml : mt.length ≤ 400000 := by omega
  clear hy hS hy1 hn hI hlab hq hpn hmb
  go_enter Try.func46, Try.ntmps46
  go_wp2_with fail
  refine HLAB.out.mono ?_
  rintro e w2 ⟨v, rfl, ho, hb2⟩
  rw [HQ.out]
  have hb2' : Below (w.heap.size + 1) (w.alloc (.cells #[.slice A1 n c1, .slice A2 mt.length c2, .int .i64 L] 24)) w2 := by simpa using hb2
  have hs2 := hb2'.size
  simp at hs2
  obtain ⟨A3, c3, rfl, -, -, hr3⟩ := ho.reads
  rw [partL_length]
  have HR3 : Hid (RI w2 (· < w2.heap.size) A3 (partL mt n)) := hr3.imp fun b hb => hb.2
  have HY2 : Hid (RI w2 (· < w2.heap.size) A2 mt) := (HY.out.below hb2').imp fun b hb => by omega
  have HBX := Lib.hid hb2'
  have H0 : Hid (PRow w2 (w2.alloc (.cells (Array.replicate q (Value.int .i64 0)) 3)) w2.heap.size w2.heap.size q (List.replicate q 0)) :=
    ⟨by have := OI.new w2 w2.heap.size q (Nat.le_refl _) (by unfold maxLen; omega); simpa using this, (Below.refl _ _).alloc (Nat.le_refl _) _, by simp⟩
  have HE0 : Hid (EInv1 mt n 0 (List.replicate q 0)) := ⟨by rw [List.length_replicate, HQ.out], fun p hp => by rw [gi_replicate (by rw [← HQ.out]; exact hp)]; rfl⟩
  clear HLAB ho hb2 hb2' hr3 HY
  go_wp2_with fail
  clear hmk
  go_loopw [22] (fun i wr => ∃ (k : Nat) (e : List Int), k ≤ n ∧ i = .int .i64 k ∧ Hid (PRow w2 wr w2.heap.size w2.heap.size q e) ∧ Hid (EInv1 mt n k e)) (fun i _ => n - (intOf i).toNat)
  case atStart => exact ⟨0, _, Nat.zero_le _, rfl, H0, HE0⟩
  case round =>
    clear H0 HE0
    obtain ⟨k, e, hk, rfl, HP, HE⟩ := hrel
    by_cases hlt : k < n
    · have hpl := part_lt HI.out HN.out hlt
      rw [HQ.out] at hpl
      obtain ⟨b, off, rfl, hbb, hc⟩ := (HR3.out.below HP.out.below).at_ (k := k) (by rw [partL_length]; exact hlt)
      have k1 := hc k (by rw [partL_length]; exact hlt)
      rw [gi_partL hlt] at k1
      obtain ⟨k2, k3⟩ := HP.out.at_ (by rw [HE.out.1, HQ.out]) hpl
      have hbd := einv1_bounds HE.out (by omega) (show idxAt mt n (labAt mt n k) < idxAt mt n n by rw [HQ.out]; exact hpl)
      have HE' := Lib.hid (einv1_step HE.out (by rw [HQ.out]; exact hpl))
      have HP' := Lib.hid (HP.out.store (k := idxAt mt n (labAt mt n k)) (by rw [HE.out.1, HQ.out]) (Nat.le_refl _) (gi e (idxAt mt n (labAt mt n k)) - 1))
      clear hc
      go_wp2_with fail
      go_roundw
      case rel => exact ⟨k + 1, _, by omega, by go_num, HP', HE'⟩
      case measure => simp [intOf]; omega
    · obtain rfl : n = k := by omega
      have HE1 := Lib.hid (einv2_start HE.out)
      obtain ⟨-, m1, -⟩ := box_cells (HBX.out.trans (HP.out.below.mono (by omega)))
      have hmb := HMB.out
      have hw0 : w.heap.size < wr.heap.size := by have := HP.out.size; omega
      have m2 : ∀ o : Obj, (wr.alloc o).cell? ⟨w.heap.size, 1, none⟩ = some (.slice A2 mt.length c2) := fun o => (World.cell?_alloc_lt wr o _ hw0).trans m1
      clear HE hlt
      go_wp2_with fail
      obtain ⟨w3, rfl⟩ : ∃ x : World, x = wr := ⟨_, rfl⟩
      have H3 : Hid (BRow (w3.alloc (.cells (Array.replicate mt.length (Value.bool false)) 4)) w3.heap.size mt.length (List.replicate mt.length false)) :=
        ⟨by have := OB.new w3 w3.heap.size mt.length (Nat.le_refl _) (by unfold maxLen; omega); simpa using this, by simp, by simp⟩
      have HS0 := Lib.hid (seenL_zero (nxF mt) mt.length allT)
      clear hmb m1 m2 hw0
      go_loopw [40] (fun i wr => ∃ (k : Nat) (e : List Int) (bs : List Bool), k ≤ mt.length ∧ i = .int .i64 k ∧ Hid (PRow w2 wr w2.heap.size w2.heap.size q e) ∧ Hid (BRow wr w3.heap.size mt.length bs) ∧
        Hid (EInv2 mt n k e) ∧ Hid (SeenL (nxF mt) mt.length allT k bs)) (fun i _ => mt.length - (intOf i).toNat)
      case atStart => exact ⟨0, _, _, Nat.zero_le _, rfl, HP.out.alloc (Nat.le_refl _) _, H3, HE1, HS0⟩
      case round =>
        have hgs := HP.out.size
        clear H3 HE1 HS0 HP
        obtain ⟨h, e, bs, hh, rfl, HP, HBR, HE, HS⟩ := hrel
        have hfp := Lib.hid (nxF_perm HI.out HN.out)
        by_cases hlt : h < mt.length
        · obtain ⟨k1, -⟩ := HBR.out.at_ hlt
          have hlst := seenL_least hfp.out (wt := allT) (fun _ _ => rfl) hlt rfl HS.out
          by_cases hl : lstB (nxF mt) mt.length h = true
          · rw [hl] at hlst
            have hlst : gb bs h = false := hlst
            have hc4 : h / 4 < n := by have := HN.out; omega
            have hpl := part_lt HI.out HN.out hc4
            rw [HQ.out] at hpl
            obtain ⟨b, off, rfl, hbb, hc⟩ := (HR3.out.below HP.out.below).at_ (k := h / 4) (by rw [partL_length]; exact hc4)
            have k4 := hc (h / 4) (by rw [partL_length]; exact hc4)
            rw [gi_partL hc4] at k4
            obtain ⟨k2, k3⟩ := HP.out.at_ (by rw [HE.out.1, HQ.out]) hpl
            have hbd := einv_bounds HE.out (by omega) h64 (show idxAt mt n (labAt mt n (h / 4)) < idxAt mt n n by rw [HQ.out]; exact hpl)
            have HE' := Lib.hid (einv2_step HE.out hl (by rw [HQ.out]; exact hpl))
            have HP' := Lib.hid (HP.out.store (k := idxAt mt n (labAt mt n (h / 4))) (by rw [HE.out.1, HQ.out]) (Nat.le_refl _) (gi e (idxAt mt n (labAt mt n (h / 4))) + 1))
            have HB' := Lib.hid (HBR.out.keep (w' := wr.setCell ⟨w2.heap.size, idxAt mt n (labAt mt n (h / 4)), none⟩ (.int .i64 (gi e (idxAt mt n (labAt mt n (h / 4))) + 1))) (Below.heap_setCell wr _ _ _ (by simp; omega)) (by simp))
            have HJ := Lib.hid (seenJ_zero HS.out)
            have HL := Lib.hid hl
            clear hc HS HP HE HBR hl
            go_wp2_with fail
            clear k1 k2 k3 k4 hlst hbd hpl
            obtain ⟨w4, rfl⟩ : ∃ x : World, x = wr := ⟨_, rfl⟩
            go_loopg [10] (per (nxF mt) mt.length h + 1) (fun F g wr => ∃ (j : Nat) (bs : List Bool), j ≤ per (nxF mt) mt.length h ∧ g = .int .i64 (it (nxF mt) j h) ∧ Hid (PRow w2 wr w2.heap.size w2.heap.size q (e.set (idxAt mt n (labAt mt n (h / 4))) (gi e (idxAt mt n (labAt mt n (h / 4))) + 1))) ∧
              Hid (BRow wr w3.heap.size mt.length bs) ∧ Hid (SeenJ (nxF mt) mt.length allT h j bs) ∧ Hid (per (nxF mt) mt.length h - j < F))
            case atStart => exact ⟨0, bs, Nat.zero_le _, rfl, HP', HB', HJ, by show _ < _; omega⟩
            case round =>
              clear HP' HB' HJ
              obtain ⟨j, bs, hj, rfl, HP, HBR, HJ, HF⟩ := hrel
              obtain ⟨g, hg⟩ : ∃ g, it (nxF mt) j h = g := ⟨_, rfl⟩
              have hgl : g < mt.length := by rw [← hg]; exact hfp.out.it_lt j hlt
              have HG := Lib.hid hg
              obtain ⟨k1, k2⟩ := HBR.out.at_ hgl
              by_cases hjp : j < per (nxF mt) mt.length h
              · have hop := seenJ_open hfp.out (wt := allT) (fun _ _ => rfl) hlt rfl HL.out HJ.out hjp
                rw [hg] at hop
                obtain ⟨hg1, hg2, -, -⟩ := HI.out.gn hgl
                have hb' := HP.out.below
                obtain ⟨-, m1, -⟩ := box_cells (HBX.out.trans (hb'.mono (by omega)))
                have hne : w.heap.size ≠ w3.heap.size := by omega
                have HP2 := Lib.hid (HP.out.other (b := w3.heap.size) (j := g) (by omega) (by omega) (.bool true))
                have HB2 := Lib.hid (HBR.out.mark g)
                have HJ2 := Lib.hid (seenJ_step hfp.out hlt HJ.out)
                obtain ⟨b, off, rfl, hbb, hc⟩ := (HY2.out.below hb').at_ hgl
                have k3 := hc g hgl
                rw [hg1] at k3
                have hne2 : b ≠ w3.heap.size := by omega
                have hnx : Hid ((turnN (gn mt g) 3 : Nat) = it (nxF mt) (j + 1) h) := by show _ = nxF mt (it (nxF mt) j h); rw [hg]; rfl
                have HG1 : Hid (gn mt g ≤ 1099511627776) := by show _ ≤ _; omega
                rw [hg] at HJ2 ⊢
                clear hc hg1 hg2 HP HBR HJ hg
                go_wp2_with fail
                refine (turn_at (gn mt g) 3 _ rfl HG1.out (by decide)).mono ?_
                rintro e' w' ⟨rfl, rfl⟩
                rw [hnx.out]
                go_wp2_with fail
                go_roundg (per (nxF mt) mt.length h - j)
                case measure => exact HF.out
                case rel => exact ⟨j + 1, _, by omega, rfl, HP2, HB2, HJ2, by show _ < _; omega⟩
              · have hjp : j = per (nxF mt) mt.length h := by omega
                have hsh := seenJ_shut hfp.out hlt HJ.out hjp
                rw [hg] at hsh
                have HS' := Lib.hid (seenJ_end hfp.out hlt (by rfl) HL.out HJ.out hjp)
                rw [hg]
                clear hjp hg HF
                go_wp2_with fail
                go_roundw
                case rel => exact ⟨h + 1, _, bs, by omega, by go_num, HP, HBR, HE', HS'⟩
                case measure => simp [intOf]; omega
          · have hl : lstB (nxF mt) mt.length h = false := by simpa using hl
            rw [hl] at hlst
            have HE' := Lib.hid (einv2_skip HE.out hl)
            have HS' := Lib.hid (seenL_skip HS.out (by rw [hl]; simp))
            have hlst : gb bs h = true := hlst
            clear hl
            go_wp2_with fail
            go_roundw
            case rel => exact ⟨h + 1, e, bs, by omega, by go_num, HP, HBR, HE', HS'⟩
            case measure => simp [intOf]; omega
        · obtain rfl : mt.length = h := by omega
          clear HS
          go_wp2_with fail
          obtain ⟨w5, rfl⟩ : ∃ x : World, x = wr := ⟨_, rfl⟩
          go_loop [75] (fun i => ∃ k : Nat, k ≤ q ∧ i = .int .i64 k ∧ Hid (∀ p, p < k → gi e p = 2)) (fun i => q - (intOf i).toNat)
          case atStart => exact ⟨0, Nat.zero_le _, rfl, by intro p hp; omega⟩
          case round =>
            obtain ⟨k, hk, rfl, HA⟩ := hrel
            by_cases hkq : k < q
            · obtain ⟨k2, -⟩ := HP.out.at_ (by rw [HE.out.1, HQ.out]) hkq
              by_cases h2 : gi e k = 2
              · have h3 : (gi e k != 2) = false := by rw [bne_eq_false_iff_eq]; exact h2
                have HA' : Hid (∀ p, p < k + 1 → gi e p = 2) := by
                  intro p hp
                  rcases Nat.lt_or_eq_of_le (Nat.le_of_lt_succ hp) with h4 | rfl
                  · exact HA.out p h4
                  · exact h2
                clear h2
                go_wp2_with fail
                go_round
                case rel => exact ⟨k + 1, by omega, by go_num, HA'⟩
                case measure => simp [intOf]; omega
              · have h3 : (gi e k != 2) = true := by rw [bne_iff_ne]; exact h2
                have hd : decide (Sph mt n) = false := decide_eq_false fun hs => by
                  have h4 := hs k (by rw [HQ.out]; exact hkq)
                  have h5 := HE.out.2 k (by rw [HQ.out]; exact hkq)
                  omega
                have H := Lib.hid hd
                have hbf := Lib.hid (below_box (HBX.out.trans (HP.out.below.mono (by omega))))
                clear h2 hd
                go_wp2_with fail
                go_ret
                exact ⟨ret_bool H.out.symm, hbf.out⟩
            · have hd : decide (Sph mt n) = true := decide_eq_true fun p hp => by
                have h4 := HA.out p (by rw [HQ.out] at hp; omega)
                have h5 := HE.out.2 p hp
                omega
              have H := Lib.hid hd
              have hbf := Lib.hid (below_box (HBX.out.trans (HP.out.below.mono (by omega))))
              clear hd
              go_wp2_with fail
              go_ret
              exact ⟨ret_bool H.out.symm, hbf.out⟩
end Go.Proofs.Ytaghemilihaiaaa

