/-
  The contract of label: the numbers of the graph components.
-/
import Derived.Test.YtaghemilihaiaaaLabelM
import Derived.Test.YtaghemilihaiaaaQueue
namespace Go.Proofs.Ytaghemilihaiaaa
open Go.RowKit

abbrev boxD (A1 A2 : Option Addr) (n1 c1 n2 c2 : Nat) (L : Int) : Obj := .cells #[.slice A1 n1 c1, .slice A2 n2 c2, .int .i64 L] 24

/-- the box of a diagram that came in by value, in any later world -/
theorem box_cells {w w' : World} {A1 A2 : Option Addr} {n1 c1 n2 c2 : Nat} {L : Int} (hb : Below (w.heap.size + 1) (w.alloc (.cells #[.slice A1 n1 c1, .slice A2 n2 c2, .int .i64 L] 24)) w') :
    w'.cell? ⟨w.heap.size, 0, none⟩ = some (.slice A1 n1 c1) ∧ w'.cell? ⟨w.heap.size, 1, none⟩ = some (.slice A2 n2 c2) ∧ w'.cell? ⟨w.heap.size, 2, none⟩ = some (.int .i64 L) := by
  have h0 := heap_alloc_new w (.cells #[.slice A1 n1 c1, .slice A2 n2 c2, .int .i64 L] 24)
  refine ⟨(hb.cell (p := ⟨w.heap.size, 0, none⟩) (by simp)).trans ?_, (hb.cell (p := ⟨w.heap.size, 1, none⟩) (by simp)).trans ?_, (hb.cell (p := ⟨w.heap.size, 2, none⟩) (by simp)).trans ?_⟩
  all_goals
    rw [cell_of_row _ _ _ _ _ _ h0]
    rfl
theorem below_box {w w' : World} {o : Obj} (hb : Below (w.heap.size + 1) (w.alloc o) w') : Below w.heap.size w w' := ((Below.refl _ _).alloc (Nat.le_refl _) _).trans (hb.mono (by omega))

/-- a word for the part row in the middle of the search -/
structure PRow (w1 wr : World) (B g n : Nat) (p : List Int) : Prop where
  own : OI wr B (.slice (some ⟨g, 0, none⟩) n n) p
  below : Below B w1 wr
  size : g < wr.heap.size

theorem PRow.store {w1 wr : World} {B g n k : Nat} {p : List Int} (h : PRow w1 wr B g n p) (hl : p.length = n) (hB : B ≤ g) (y : Int) : PRow w1 (wr.setCell ⟨g, k, none⟩ (.int .i64 y)) B g n (p.set k y) := by
  subst hl
  refine ⟨?_, h.below.setCell hB _, by simpa using h.size⟩
  have h2 := OR.stored (k := k) h.own y
  rw [List.length_set] at h2
  exact h2
theorem PRow.alloc {w1 wr : World} {B g n : Nat} {p : List Int} (h : PRow w1 wr B g n p) (hB : B ≤ g) (o : Obj) : PRow w1 (wr.alloc o) B g n p :=
  ⟨h.own.alloc o, h.below.alloc (by have := h.size; omega) o, by have := h.size; simp; omega⟩

theorem fuel_pop {a b F n : Nat} (h : a + (b + 1) < F ∧ a + (b + 1) ≤ n + 1) : a + b + 1 < F ∧ a + b ≤ n := by omega

theorem PRow.grown {w1 wr w' : World} {B g n : Nat} {p : List Int} {o : Obj} {row : Option Nat} (h : PRow w1 wr B g n p) (hB : B ≤ g) (hg : (wr.alloc o).grownBy w' row) (hrow : ∀ k, row = some k → g < k) : PRow w1 w' B g n p := by
  have hs := h.size
  refine ⟨h.own.keep fun k hk => ?_, (h.below.alloc (by omega) o).grown hg (by simp; omega) (fun k hk => by have := hrow k hk; omega), by have := hg.size; simp at this; omega⟩
  have : k = g := by simp [Value.ownBlock] at hk; omega
  subst this
  rw [hg.block k (by simp; omega) (fun e => by have := hrow k e.symm; omega), Below.heap_alloc wr o k hs]
theorem OQ.setCell {w : World} {B : Nat} {v : Value} {xs : List Int} (h : OQ w B v xs) {g j : Nat} (hg : g < B) (y : Value) : OQ (w.setCell ⟨g, j, none⟩ y) B v xs :=
  h.keep (fun k hk => Below.heap_setCell w _ _ k (by have := (h.lt k hk).1; simp; omega)) (by simp)

set_option maxRecDepth 100000 in
set_option maxHeartbeats 4000000 in
theorem label_any (A1 A2 : Option Addr) (c1 c2 n : Nat) (mt : List Int) (L : Int) (w : World) (S : Nat → Prop) (hy : RI w S A2 mt) (hS : ∀ b, S b → b < w.heap.size) (hn : mt.length = 4 * n) (hI : InvM mt) (h64 : n ≤ 100000) :
    Calls Try.prog 63 #[.agg #[.slice A1 n c1, .slice A2 mt.length c2, .int .i64 L]] w fun e w' =>
      ∃ v, e = .returned (.tuple #[v, .int .i64 (idxAt mt n n)]) ∧ OI w' w.heap.size v (partL mt n) ∧ Below w.heap.size w w' := by
  have hy1 : RI (w.alloc (.cells #[.slice A1 n c1, .slice A2 mt.length c2, .int .i64 L] 24)) (· < w.heap.size + 1) A2 mt := (hy.keep fun b hb => Below.heap_alloc w _ b (hS b hb)).imp fun b hb => by have := hS b hb; omega
  have hnew : OI ((w.alloc (.cells #[.slice A1 n c1, .slice A2 mt.length c2, .int .i64 L] 24)).alloc (.cells (List.replicate n (Value.int .i64 0)).toArray 3)) (w.heap.size + 1) (.slice (some ⟨w.heap.size + 1, 0, none⟩) n n) (List.replicate n 0) := by
    have := OI.new (w.alloc (.cells #[.slice A1 n c1, .slice A2 mt.length c2, .int .i64 L] 24)) (w.heap.size + 1) n (by simp) (by unfold maxLen; omega)
    simpa using this
  have hmk := make_ints 22 Try.underlying22 n (by omega)
  have HY := Lib.hid hy1
  have HN := Lib.hid hn
  have HI := Lib.hid hI
  have H0 : Hid (PRow (w.alloc (.cells #[.slice A1 n c1, .slice A2 mt.length c2, .int .i64 L] 24)) ((w.alloc (.cells #[.slice A1 n c1, .slice A2 mt.length c2, .int .i64 L] 24)).alloc (.cells (Array.replicate n (Value.int .i64 0)) 3)) (w.heap.size + 1) (w.heap.size + 1) n (List.replicate n 0)) :=
    ⟨by simpa using hnew, (Below.refl _ _).alloc (by simp) _, by simp⟩
  clear hy hS hy1 hnew hn hI
  go_enter Try.func63, Try.ntmps63
  go_wp2
  clear hmk
  go_loopw [18] (fun i wr => ∃ (k : Nat) (p : List Int), k ≤ n ∧ i = .int .i64 k ∧ Hid (PRow (w.alloc (.cells #[.slice A1 n c1, .slice A2 mt.length c2, .int .i64 L] 24)) wr (w.heap.size + 1) (w.heap.size + 1) n p) ∧ Hid (p.length = n ∧ ∀ j, j < k → gi p j = -1)) (fun i _ => n - (intOf i).toNat)
  case atStart => exact ⟨0, _, Nat.zero_le _, rfl, H0, by simp, by intro j hj; omega⟩
  case round =>
    obtain ⟨k, p, hk, rfl, HP, HV⟩ := hrel
    by_cases hlt : k < n
    · obtain ⟨g, cc, hv, hBg, hgs, hlc, hcm, hcell, hfz⟩ := HP.out.own.ints (by rw [HV.out.1]; omega)
      have hg : w.heap.size + 1 = g := by injection hv with h1 h2 h3; injection h1 with h1; injection h1
      subst hg
      have k1 := hcell k (by rw [HV.out.1]; exact hlt)
      have k2 := hfz k
      have HP' : Hid (PRow (w.alloc (.cells #[.slice A1 n c1, .slice A2 mt.length c2, .int .i64 L] 24)) (wr.setCell ⟨w.heap.size + 1, k, none⟩ (.int .i64 (-1))) (w.heap.size + 1) (w.heap.size + 1) n (p.set k (-1))) := by
        refine ⟨?_, HP.out.below.setCell (by simp) _, by simpa using HP.out.size⟩
        have h1 : OI wr (w.heap.size + 1) (.slice (some ⟨w.heap.size + 1, 0, none⟩) p.length n) p := by rw [HV.out.1]; exact HP.out.own
        have h2 := OR.stored (k := k) h1 (-1)
        rw [List.length_set, HV.out.1] at h2
        exact h2
      have HV' : Hid ((p.set k (-1)).length = n ∧ ∀ j, j < k + 1 → gi (p.set k (-1)) j = -1) := by
        refine ⟨by rw [List.length_set]; exact HV.out.1, fun j hj => ?_⟩
        rw [gi_set (by rw [HV.out.1]; exact hlt)]
        split
        · rfl
        · exact HV.out.2 j (by omega)
      clear hcell hfz hv hlc hcm
      go_wp2
      go_roundw
      case rel => exact ⟨k + 1, _, by omega, by go_num, HP', HV'⟩
      case measure => simp [intOf]; omega
    · have HO : Hid (OutI mt n 0 p) := outI_start HV.out.1 fun x hx => HV.out.2 x (by omega)
      clear HV
      go_wp2
      clear hk hlt
      obtain ⟨w2, rfl⟩ : ∃ x : World, x = wr := ⟨_, rfl⟩
      go_loopw [6, 27] (fun t i wr => ∃ (k : Nat) (p : List Int), k ≤ n ∧ i = .int .i64 k ∧ t = .int .i64 (idxAt mt n k) ∧ Hid (PRow (w.alloc (.cells #[.slice A1 n c1, .slice A2 mt.length c2, .int .i64 L] 24)) wr (w.heap.size + 1) (w.heap.size + 1) n p) ∧ Hid (OutI mt n k p)) (fun _ i _ => n - (intOf i).toNat)
      case atStart => exact ⟨0, p, Nat.zero_le _, rfl, rfl, HP, HO⟩
      case round =>
        clear HP HO
        obtain ⟨k, p, hk, rfl, rfl, HP, HO⟩ := hrel
        by_cases hlt : k < n
        · obtain ⟨g, cc, hv, hBg, hgs, hlc, hcm, hcell, hfz⟩ := HP.out.own.ints (by rw [HO.out.len]; omega)
          have hg : w.heap.size + 1 = g := by injection hv with h1 h2 h3; injection h1 with h1; injection h1
          subst hg
          have k1 := hcell k (by rw [HO.out.len]; exact hlt)
          have k2 := hfz k
          by_cases h0 : 0 ≤ gi p k
          · obtain ⟨hO', hix⟩ := outI_pass HI.out HN.out hlt HO.out h0
            have HO' := Lib.hid hO'
            have HX := Lib.hid hix
            clear hcell hfz hv hlc hcm hO' hix
            go_wp2
            go_roundw
            case rel => exact ⟨k + 1, p, by omega, by go_num, by rw [HX.out], HP, HO'⟩
            case measure => simp [intOf]; omega
          · obtain ⟨hlk, hpk, hix⟩ := outI_rep HI.out HN.out hlt HO.out h0
            have HB := Lib.hid (bi_start HI.out HN.out hlt HO.out h0)
            have HLK := Lib.hid hlk
            have HX := Lib.hid hix
            have HP' := Lib.hid (HP.out.store (n := n) (k := k) HO.out.len (Nat.le_refl _) (idxAt mt n k : Int))
            have hng := negs_le (p.set k (idxAt mt n k : Int))
            have hpl : (p.set k (idxAt mt n k : Int)).length = n := by rw [List.length_set]; exact HO.out.len
            rw [hpl] at hng
            have hq0 : OQ ((wr.setCell ⟨w.heap.size + 1, k, none⟩ (.int .i64 (idxAt mt n k : Int))).alloc (.cells #[.int .i64 k] 3)) (w.heap.size + 2) (.slice (some ⟨wr.heap.size, 0, none⟩) 1 1) ([k].map Int.ofNat) := by
              have h1 := OR.made (e := 3) (f := Value.int .i64) (xs := [(k : Int)]) (wr.setCell ⟨w.heap.size + 1, k, none⟩ (.int .i64 (idxAt mt n k : Int))) (w.heap.size + 2) #[.int .i64 k] (by simp; omega) (by simp [maxLen]) (by simp)
              have h2 := OQ.of_row h1 (by simp)
              simpa using h2
            have HQ := Lib.hid hq0
            have HN2 := Lib.hid hng
            clear hcell hfz hv hlc hcm hlk hpk hix hpl hq0 hng HP HO
            go_wp2
            clear k1 k2
            obtain ⟨w3, rfl⟩ : ∃ x : World, x = wr := ⟨_, rfl⟩
            go_loopg [8] (n + 2) (fun F v wr => ∃ (p : List Int) (q : List Nat) (a : Nat), Hid (PRow (w.alloc (.cells #[.slice A1 n c1, .slice A2 mt.length c2, .int .i64 L] 24)) wr (w.heap.size + 1) (w.heap.size + 1) n p) ∧
              Hid (OQ wr (w.heap.size + 2) v (q.map Int.ofNat)) ∧ Hid (BI mt n k p q a 4) ∧ Hid (negs p + q.length < F ∧ negs p + q.length ≤ n + 1))
            case atStart => exact ⟨_, [k], n, HP'.out.alloc (Nat.le_refl _) _, HQ, HB, by have := HN2.out; exact ⟨by show _ + 1 < _; omega, by show _ + 1 ≤ _; omega⟩⟩
            case round =>
              clear HP' HQ HB HN2
              obtain ⟨p, q, a, HP, HQ, HB, HF⟩ := hrel
              rcases q with _ | ⟨x, q⟩
              · have HO := Lib.hid (bi_next HI.out HN.out hlt HLK.out HB.out)
                obtain ⟨gq, oq, cq, rfl, hlq, hcq⟩ := HQ.out.shape
                have HX2 : Hid (((idxAt mt n (k + 1) : Nat) : Int) = (idxAt mt n k : Int) + 1) := by rw [HX.out]; show ((_ + 1 : Nat) : Int) = _; omega
                simp only [List.map_nil, List.length_nil] at hlq
                have hib : (idxAt mt n k : Int) ≤ 100000 := by have := idxN_le (labN mt n) k; unfold idxAt; omega
                clear hcq
                go_wp2
                go_roundw
                case rel => exact ⟨k + 1, p, by omega, by go_num, by rw [HX2.out], HP, HO⟩
                case measure => simp [intOf]; omega
              · obtain ⟨gq, oq, cq, rfl, -, -⟩ := HQ.out.shape
                have e : (List.map Int.ofNat (x :: q)).length = q.length + 1 := by simp
                rw [e] at HQ ⊢
                have hpop := OQ.pop (x := (x : Int)) (xs := q.map Int.ofNat) (by simpa using HQ.out)
                obtain ⟨hq1, hcx, -, hcq, hgq⟩ := hpop
                rw [List.length_map] at hq1 hcq
                obtain ⟨hxn, hlx, -⟩ := HB.out.qv x (by simp)
                have HLX := Lib.hid hlx
                have HB1 := Lib.hid (bi_pop HB.out)
                have HF1 := Lib.hid (fuel_pop HF.out)
                obtain ⟨T, hT⟩ : ∃ T, negs p + q.length = T := ⟨_, rfl⟩
                rw [hT] at HF1
                have HT := Lib.hid hT
                clear e HQ HB HF hlx hT
                by_cases hc : cq = 1
                case' pos =>
                  subst hc
                  obtain rfl : q = [] := List.eq_nil_of_length_eq_zero (by omega)
                  have HQ1 := Lib.hid (show OQ wr (w.heap.size + 2) (.slice (some ⟨gq, oq, none⟩) 0 0) (([] : List Nat).map Int.ofNat) by simpa using hq1)
                  clear hq1 hcq
                  simp only [List.length_nil, Nat.zero_add]
                  go_wp2
                case' neg =>
                  rw [if_neg hc] at hq1
                  have HQ1 := Lib.hid hq1
                  clear hq1
                  go_wp2
                  clear hc hcq
                all_goals
                  clear hcx hgq
                  obtain ⟨w4, rfl⟩ : ∃ x : World, x = wr := ⟨_, rfl⟩
                  go_loopw [8, 49] (fun v i wr => ∃ (s : Nat) (p : List Int) (q : List Nat), s ≤ 4 ∧ i = .int .i64 s ∧ Hid (PRow (w.alloc (.cells #[.slice A1 n c1, .slice A2 mt.length c2, .int .i64 L] 24)) wr (w.heap.size + 1) (w.heap.size + 1) n p) ∧
                    Hid (OQ wr (w.heap.size + 2) v (q.map Int.ofNat)) ∧ Hid (BI mt n k p q x s) ∧ Hid (negs p + q.length = T)) (fun _ i _ => 4 - (intOf i).toNat)
                  case atStart => exact ⟨0, p, _, by omega, rfl, HP, HQ1, HB1, HT⟩
                  case round =>
                    clear HP HQ1 HB1 HT
                    obtain ⟨s, p, q, hs, rfl, HP, HQ, HB, HT⟩ := hrel
                    by_cases hs4 : s < 4
                    · obtain ⟨htn, htl, hhl⟩ := bi_to HI.out HN.out HB.out hxn HLX.out hs4
                      obtain ⟨hg1, hg2, -, -⟩ := HI.out.gn hhl
                      obtain ⟨-, m1, -⟩ := box_cells HP.out.below
                      obtain ⟨bm, om, rfl, hbm, hcm⟩ := (HY.out.below HP.out.below).at_ hhl
                      have k3 := hcm (4 * x + s) hhl
                      rw [hg1] at k3
                      obtain ⟨-, -, hgs2, -, hcell, hfz⟩ := HP.out.own.ints_at (by rw [HB.out.len]; omega)
                      have k4 := hcell (gn mt (4 * x + s) / 4) (by rw [HB.out.len]; exact htn)
                      have k5 := hfz (gn mt (4 * x + s) / 4)
                      have i1 : (0 : Int) ≤ 4 * (x : Int) + (s : Int) ∧ 4 * (x : Int) + (s : Int) < mt.length := by omega
                      have i2 : (4 * (x : Int) + (s : Int)).toNat = 4 * x + s := by omega
                      have i4 : gn mt (4 * x + s) ≤ 400000 := by have := HN.out; omega
                      clear hcm hcell hfz hg1
                      by_cases h0 : 0 ≤ gi p (gn mt (4 * x + s) / 4)
                      · have HB' := Lib.hid (bi_seen HI.out HN.out HB.out hxn HLX.out hs4 h0)
                        go_wp2
                        go_roundw
                        case rel => exact ⟨s + 1, p, q, by omega, by go_num, HP, HQ, HB', HT⟩
                        case measure => simp [intOf]; omega
                      · have hneg : gi p (gn mt (4 * x + s) / 4) < 0 := by omega
                        have HB' := Lib.hid (bi_new HI.out HN.out HB.out hxn HLX.out hs4 h0)
                        have HP' := Lib.hid (HP.out.store (k := gn mt (4 * x + s) / 4) HB.out.len (Nat.le_refl _) (idxAt mt n k : Int))
                        have HQ' := Lib.hid (HQ.out.setCell (j := gn mt (4 * x + s) / 4) (show w.heap.size + 1 < w.heap.size + 2 by omega) (.int .i64 (idxAt mt n k : Int)))
                        have hT2 : negs (p.set (gn mt (4 * x + s) / 4) (idxAt mt n k : Int)) + (q ++ [gn mt (4 * x + s) / 4]).length = T := by
                          have h1 := negs_set (p := p) (y := (idxAt mt n k : Int)) (by rw [HB.out.len]; exact htn) hneg (by omega)
                          have h2 := HT.out
                          rw [List.length_append, List.length_singleton]
                          omega
                        have HT2 := Lib.hid hT2
                        have hql : (q.map Int.ofNat).length < 1099511627776 := by
                          have h1 := HT.out
                          have h2 := HF1.out.2
                          rw [List.length_map]
                          omega
                        have hsz : w.heap.size + 2 ≤ (wr.setCell ⟨w.heap.size + 1, gn mt (4 * x + s) / 4, none⟩ (.int .i64 (idxAt mt n k : Int))).heap.size := by simp; omega
                        have HSZ := Lib.hid hsz
                        have HQL := Lib.hid hql
                        clear hT2 hql hsz h0
                        go_wp2_with (at_builtin; refine app_q HQ'.out HQL.out HSZ.out rfl rfl Try.underlying22 rfl (by simp) rfl ?_; intro v' w' ho hg hob)
                        go_roundw
                        case rel => exact ⟨s + 1, _, _, by omega, by go_num, HP'.out.grown (Nat.le_refl _) hg (fun k hk => by have := (HQ.out.lt k hk).1; omega), by rw [List.map_append]; exact ho, HB', HT2⟩
                        case measure => simp [intOf]; omega
                    · obtain rfl : s = 4 := by omega
                      clear HLX
                      go_wp2
                      go_roundg (T + 1)
                      case measure => have := HF1.out; omega
                      case rel => exact ⟨p, q, x, HP, HQ, HB, by have h1 := HT.out; have h2 := HF1.out; exact ⟨by omega, by omega⟩⟩
        · obtain rfl : k = n := by omega
          have hp : p = partL mt k := outI_end HI.out HN.out HO.out
          have HO2 : Hid (OI wr w.heap.size (.slice (some ⟨w.heap.size + 1, 0, none⟩) k k) (partL mt k)) := by
            rw [← hp]; exact HP.out.own.mono (by omega)
          have hbel := below_box HP.out.below
          clear hp
          go_wp2
          go_ret2
          exact ⟨_, rfl, HO2.out, hbel⟩
end Go.Proofs.Ytaghemilihaiaaa

