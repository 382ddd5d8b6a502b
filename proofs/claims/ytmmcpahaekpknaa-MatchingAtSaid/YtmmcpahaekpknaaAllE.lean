/-
  The contract of the search inside matching.All (a closure that calls itself).
-/
import Derived.Test.YtmmcpahaekpknaaClone
import Derived.Test.YtmmcpahaekpknaaRR
import Derived.Test.YtmmcpahaekpknaaAllM
import Derived.Deep.RegionLaw
import Derived.Deep.AppendLies
import Derived.Deep.RegionWith
namespace Go.Proofs.Ytmmcpahaekpknaa
open Go.RowKit

/-- the variables m, list, extend of All, and what they hold -/
structure AllSt (w : World) (N bl gm bm be : Nat) (m : List Int) (v : Value) (xss : List (List Int)) : Prop where
  hl : w.heap[bl]? = some (.cells #[v] 26 (0, 0))
  hm : w.heap[bm]? = some (.cells #[.slice (some ⟨gm, 0, none⟩) m.length m.length] 34 (0, 0))
  he : w.heap[be]? = some (.cells #[.func (.func 28) #[] #[.pointer (some ⟨bm, 0, none⟩), .pointer (some ⟨bl, 0, none⟩), .pointer (some ⟨be, 0, none⟩)]] 52 (0, 0))
  own : OI w N (.slice (some ⟨gm, 0, none⟩) m.length m.length) m
  row : RR 34 w N (fun b => b = bl ∨ b = gm ∨ b = bm ∨ b = be) v xss

theorem grown_alloc_block {w w' : World} {o : Obj} {row : Option Nat} (hg : (w.alloc o).grownBy w' row) {b : Nat} (hb : b < w.heap.size) (hne : some b ≠ row) : w'.heap[b]? = w.heap[b]? :=
  (hg.block b (by simp; omega) hne).trans (Below.heap_alloc w o b hb)

theorem one_cell {w : World} {b : Nat} {v : Value} {t : TypeId} (h : w.heap[b]? = some (.cells #[v] t (0, 0))) : w.cell? ⟨b, 0, none⟩ = some v ∧ w.frozen? ⟨b, 0, none⟩ = false ∧ b < w.heap.size := by
  refine ⟨by rw [cell_of_row w b 0 _ t (0, 0) h]; rfl, frozen_of_row w b 0 _ t h, ?_⟩
  rcases Nat.lt_or_ge b w.heap.size with hlt | hge
  · exact hlt
  · rw [Array.getElem?_eq_none hge] at h; cases h

theorem RR.len {eo : TypeId} {w : World} {N : Nat} {F : Nat → Prop} {v : Value} {vs : List Value} {xss : List (List Int)} (h : RRv eo w N F v vs xss) : vs.length = xss.length := h.2.2.1

theorem all_leaf {w w1 w' : World} {N bl gm bm be : Nat} {m : List Int} {v v' u : Value} {vs : List Value} {xss : List (List Int)} (hd : bl ≠ gm ∧ bl ≠ bm ∧ bl ≠ be ∧ gm ≠ bm ∧ gm ≠ be ∧ bm ≠ be) (hNb : N ≤ bl ∧ N ≤ gm)
    (HS : AllSt w N bl gm bm be m v xss) (hgs : gm < w.heap.size) (HV : RRv 34 w N (fun b => b = bl ∨ b = gm ∨ b = bm ∨ b = be) v vs xss) (hN : N ≤ w.heap.size) (hbu : Below w.heap.size w w1) (hou : OI w1 w.heap.size u m)
    (ho : OR 34 id w' N v' (vs ++ [u])) (hg : (w1.alloc (.cells #[u] 34)).grownBy w' v.ownBlock) (hob : v'.ownBlock = v.ownBlock ∨ v'.ownBlock = some (w1.heap.size + 1)) :
    AllSt (w'.setCell ⟨bl, 0, none⟩ v') N bl gm bm be m v' (xss ++ [m]) ∧ Below N w (w'.setCell ⟨bl, 0, none⟩ v') := by
  obtain ⟨d1, d2, d3, d4, d5, d6⟩ := hd
  obtain ⟨_, _, sl⟩ := one_cell HS.hl
  obtain ⟨_, _, sm⟩ := one_cell HS.hm
  obtain ⟨_, _, se⟩ := one_cell HS.he
  have hs1 := hbu.size
  have keep : ∀ b, b < w.heap.size → (b = bl ∨ b = gm ∨ b = bm ∨ b = be) → w'.heap[b]? = w.heap[b]? := fun b hb hF =>
    (grown_alloc_block hg (by omega) (fun e => HV.2.1 b e.symm hF)).trans (hbu.block b hb)
  have keep2 : ∀ b, b < w.heap.size → b ≠ bl → (b = bl ∨ b = gm ∨ b = bm ∨ b = be) → (w'.setCell ⟨bl, 0, none⟩ v').heap[b]? = w.heap[b]? := fun b hb hne hF => by
    rw [Below.heap_setCell w' _ _ b (by simpa using hne)]
    exact keep b hb hF
  have hRv1 := HV
  have hR1 : RRv 34 w1 N (fun b => b = bl ∨ b = gm ∨ b = bm ∨ b = be) v vs xss :=
    ⟨HV.1.below hbu (Nat.le_refl _), HV.2.1, HV.2.2.1, fun k hk => ⟨(HV.2.2.2 k hk).1.below hbu (Nat.le_refl _), (HV.2.2.2 k hk).2⟩⟩
  have hR2 := RRv.push (by decide) hR1 (hou.mono hN) (fun g hgu hF => by have := (hou.lt g hgu).1; rcases hF with rfl | rfl | rfl | rfl <;> omega)
    (fun b hF => by rcases hF with rfl | rfl | rfl | rfl <;> omega) ho hg hob
  refine ⟨⟨?_, ?_, ?_, ?_, ?_⟩, ?_⟩
  · have := heap_setCell_same w' bl 0 #[v] 26 v' ((keep bl sl (.inl rfl)).trans HS.hl)
    simpa using this
  · exact (keep2 bm sm (by omega) (by simp)).trans HS.hm
  · exact (keep2 be se (by omega) (by simp)).trans HS.he
  · exact HS.own.keep fun g hg' => by
      have : g = gm := by simp [Value.ownBlock] at hg'; omega
      subst this
      exact keep2 g hgs (by omega) (by simp)
  · have hRR : RR 34 w' N (fun b => b = bl ∨ b = gm ∨ b = bm ∨ b = be) v' (xss ++ [m]) := ⟨_, hR2⟩
    exact hRR.keep fun b _ _ hF => Below.heap_setCell w' _ _ b (fun e => hF (.inl e))
  · refine Below.setCell ?_ (by simp; omega) _
    exact (((hbu.mono hN).alloc (by omega) _).grown hg (by simp; omega) fun k hk => (HV.1.lt k hk).1)

theorem AllSt.store {w : World} {N bl gm bm be : Nat} {m : List Int} {v : Value} {xss : List (List Int)} (hd : bl ≠ gm ∧ bl ≠ bm ∧ bl ≠ be ∧ gm ≠ bm ∧ gm ≠ be ∧ bm ≠ be) (h : AllSt w N bl gm bm be m v xss) (j : Nat) (y : Int) :
    AllSt (w.setCell ⟨gm, j, none⟩ (.int .i64 y)) N bl gm bm be (m.set j y) v xss := by
  obtain ⟨d1, d2, d3, d4, d5, d6⟩ := hd
  have hl : (m.set j y).length = m.length := by simp
  refine ⟨?_, ?_, ?_, ?_, ?_⟩
  · rw [Below.heap_setCell w _ _ bl (by simp; omega)]; exact h.hl
  · rw [Below.heap_setCell w _ _ bm (by simp; omega), hl]; exact h.hm
  · rw [Below.heap_setCell w _ _ be (by simp; omega)]; exact h.he
  · have := OR.stored (k := j) h.own y
    rw [hl] at this ⊢
    exact this
  · exact h.row.keep fun b _ _ hF => Below.heap_setCell w _ _ b (fun e => hF (.inr (.inl e)))
theorem AllSt.drew {w : World} {N bl gm bm be : Nat} {m : List Int} {v : Value} {xss : List (List Int)} (h : AllSt w N bl gm bm be m v xss) : AllSt w.drew N bl gm bm be m v xss := ⟨h.hl, h.hm, h.he, h.own, h.row⟩

theorem restore {m : List Int} {k q : Nat} {x y : Int} (hk : k < m.length) (hq : q < m.length) (h1 : gi m k = -1) (h2 : gi m q = -1) : ((((m.set k x).set q y).set k (-1)).set q (-1)) = m := by
  apply ext_gi
  · simp
  · intro j hj
    simp only [List.length_set] at hj
    rw [gi_set (by simpa using hq), gi_set (by simpa using hk), gi_set (by simpa using hq), gi_set hk]
    by_cases e1 : j = q
    · subst e1; rw [if_pos rfl]; exact h2.symm
    rw [if_neg e1]
    by_cases e2 : j = k
    · subst e2; rw [if_pos rfl]; exact h1.symm
    rw [if_neg e2, if_neg e1, if_neg e2]

set_option maxHeartbeats 2000000 in
theorem ext_any (N bl gm bm be : Nat) (hd : bl ≠ gm ∧ bl ≠ bm ∧ bl ≠ be ∧ gm ≠ bm ∧ gm ≠ be ∧ bm ≠ be) (hNb : N ≤ bl ∧ N ≤ gm) : ∀ (f : Nat) (m : List Int) (i : Nat) (v : Value) (xss : List (List Int)) (w : World),
    Hid (AllSt w N bl gm bm be m v xss) → gm < w.heap.size → N ≤ w.heap.size → m.length ≤ 1000 → i ≤ m.length → m.length - i < f → Hid (∀ j, j < m.length → gi m j < 0 → gi m j = -1) → xss.length + (extF f m i).length ≤ 1000000 →
    Calls Try.prog 28 #[.int .i64 i, .pointer (some ⟨bm, 0, none⟩), .pointer (some ⟨bl, 0, none⟩), .pointer (some ⟨be, 0, none⟩)] w fun e w' =>
      e = .returned (.tuple #[]) ∧ ∃ v', AllSt w' N bl gm bm be m v' (xss ++ extF f m i) ∧ Below N w w' := by
  intro f
  induction f with
  | zero => intro m i v xss w _ _ _ _ _ h; omega
  | succ f ih =>
    intro m i v xss w HS hgs hN hm hi hf HF hsz
    have IH := Lib.hid ih
    clear ih
    obtain ⟨cl, fl, sl⟩ := one_cell HS.out.hl
    obtain ⟨cm, fm, sm⟩ := one_cell HS.out.hm
    obtain ⟨ce, fe, se⟩ := one_cell HS.out.he
    have hsp := skipF_spec m (m.length - i) i hi (Nat.le_refl _)
    obtain ⟨i', Hi'⟩ : ∃ i', Hid (skipF m (m.length - i) i = i') := ⟨_, rfl⟩
    rw [Hi'.out] at hsp
    have hext : extF (f + 1) m i = if i' = m.length then [m] else ((cands m (m.length - (i' + 1)) (i' + 1)).filter (oddF i')).flatMap fun (k : Nat) => extF f ((m.set i' (k : Int)).set k (i' : Int)) (i' + 1) := by
      rw [extF, Hi'.out]
    have HE := Lib.hid hext
    clear hext
    have hxl : xss.length ≤ 1000000 := by omega
    have HZ := Lib.hid hsz
    clear hsz
    go_enter Try.func28, Try.ntmps28
    go_wp2
    go_loop [0] (fun s0 => ∃ k : Nat, i ≤ k ∧ k ≤ m.length ∧ s0 = .int .i64 k ∧ Hid (skipF m (m.length - k) k = i')) (fun s0 => m.length - (intOf s0).toNat)
    case atStart => exact ⟨i, Nat.le_refl _, hi, rfl, Hi'⟩
    case round =>
      obtain ⟨k, hik, hk, rfl, HK⟩ := hrel
      by_cases hgo : k < m.length ∧ 0 ≤ gi m k
      · obtain ⟨hlt, hge⟩ := hgo
        obtain ⟨-, -, -, -, hcell, -⟩ := HS.out.own.ints_at (by omega)
        have c1 := hcell k hlt
        have HK' : Hid (skipF m (m.length - (k + 1)) (k + 1) = i') := by
          have := HK.out
          rw [skipF_step hlt hge] at this
          exact this
        clear hcell
        go_wp2
        go_round
        case rel => exact ⟨k + 1, by omega, by omega, by go_num, HK'⟩
        case measure => simp [intOf]; omega
      · have hki : k = i' := by rw [← HK.out, skipF_done hgo]
        subst hki
        by_cases hend : k = m.length
        · have hext' : extF (f + 1) m i = [m] := by rw [HE.out, if_pos hend]
          have HE' := Lib.hid hext'
          have e1 : ((k : Int) == m.length) = true := by rw [beq_iff_eq]; omega
          have e2 : ¬ (k : Int) < m.length := by omega
          clear hend hext' hgo
          go_wp2
          obtain ⟨vs, hvs⟩ := HS.out.row
          have HV := Lib.hid hvs
          have hRI : RI w (fun b => b < w.heap.size) (some ⟨gm, 0, none⟩) m := by
            obtain ⟨A, c, hv, _, _, hr⟩ := HS.out.own.reads
            injection hv with h1 h2 h3
            subst h1
            exact hr.imp fun b hb => hb.2
          have hvl : vs.length ≤ 1000000 := by rw [RR.len hvs]; omega
          clear hvs
          go_region_law (first | (go_simp; go_at_call 29; refine (clone_any _ _ m _ (fun b => b < w.heap.size) (by exact hRI) (by exact fun _ h => h) (by omega)).mono ?_; rintro e w1 ⟨u, rfl, hou, hbu0⟩; have hbu : Below w.heap.size w w1 := ⟨hbu0.os, hbu0.tape, hbu0.output, hbu0.size, hbu0.block⟩; obtain ⟨A, cc, rfl, _, _, _⟩ := hou.reads; have cl1 := (hbu.cell (p := ⟨bl, 0, none⟩) sl).trans cl; have sl1 := Nat.lt_of_lt_of_le sl hbu.size; have cl1' : ∀ o, (w1.alloc o).cell? ⟨bl, 0, none⟩ = some v := fun o => (World.cell?_alloc_lt w1 o _ sl1).trans cl1) | (refine step_app_row (f := id) (y := Value.slice A m.length cc) row_info rfl (by decide) rfl (HV.out.1.below hbu (Nat.le_refl _)) (by omega) (Nat.le_trans hN hbu.size) rfl rfl Try.underlying26 rfl rfl ?_; intro v' w' ho hg hob; have HL2 := (grown_alloc_block hg (Nat.lt_of_lt_of_le sl hbu.size) (fun e => HV.out.2.1 bl e.symm (.inl rfl))).trans ((hbu.block bl sl).trans HS.out.hl); obtain ⟨cl2, fl2, sl2⟩ := one_cell HL2; obtain ⟨A', c', rfl, _, _, _⟩ := ho.shape))
          all_goals
            go_wp2
            refine bodyPost_ret (results_none rfl _ _ _) rfl ?_
            have hfin := all_leaf hd hNb HS.out hgs HV.out hN hbu hou ho hg hob
            rw [List.length_append, List.length_singleton] at hfin
            rw [HE'.out]
            exact ⟨rfl, _, hfin⟩
        · have hklt : k < m.length := by omega
          have hkfree := hsp.2.2 hklt
          have e1 : ((k : Int) == m.length) = false := by rw [beq_eq_false_iff_ne]; omega
          obtain ⟨-, -, -, -, hcell, -⟩ := HS.out.own.ints_at (by omega)
          have c1 := hcell k hklt
          have hext' : extF (f + 1) m i = ((cands m (m.length - (k + 1)) (k + 1)).filter (oddF k)).flatMap fun (q : Nat) => extF f ((m.set k (q : Int)).set q (k : Int)) (k + 1) := by rw [HE.out, if_neg hend]
          have HE' := Lib.hid hext'
          clear hend hext' hgo hcell HE HK Hi'
          go_wp2
          clear c1 e1 ce cl cm
          go_loopw [5] (fun s5 wr => ∃ (q : Nat) (xs' : List (List Int)) (v' : Value), k < q ∧ q ≤ m.length ∧ s5 = .int .i64 q ∧ Hid (AllSt wr N bl gm bm be m v' xs') ∧
            Hid (xs' ++ ((cands m (m.length - q) q).filter (oddF k)).flatMap (fun (q : Nat) => extF f ((m.set k (q : Int)).set q (k : Int)) (k + 1)) = xss ++ extF (f + 1) m i) ∧ Below N w wr ∧ gm < wr.heap.size ∧ N ≤ wr.heap.size) (fun s5 _ => m.length - (intOf s5).toNat)
          case atStart => exact ⟨k + 1, xss, v, by omega, by omega, by go_num, HS, by rw [HE'.out]; exact rfl, Below.refl _ _, hgs, hN⟩
          case round =>
            obtain ⟨q, xs', v', hkq, hq, rfl, HR, HX, hbel, hgr, hNr⟩ := hrel
            obtain ⟨cm, fm, sm⟩ := one_cell HR.out.hm
            obtain ⟨-, -, -, -, hcell, hfz⟩ := HR.out.own.ints_at (by omega)
            by_cases hgo : q < m.length ∧ gi m q < 0
            · obtain ⟨hlt, hneg⟩ := hgo
              have c2 := hcell q hlt
              by_cases hodd : oddF k q = true
              · have e3 : (((q : Int) - (k : Int)) % 2 == 0) = false := by
                  have : (q - k) % 2 = 1 := by simpa [oddF] using hodd
                  rw [beq_eq_false_iff_ne]; omega
                have c1 := hcell k hklt
                have f1 := hfz k
                have f2 := hfz q
                have d1 : bm ≠ gm := by omega
                have d2 : gm ≠ bm := by omega
                have d3 : k ≠ q := by omega
                have d4 : q ≠ k := by omega
                clear hcell hfz
                go_wp2
                obtain ⟨ce, _, _⟩ := one_cell HR.out.he
                have d5 : be ≠ gm := by omega
                have d6 : gm ≠ be := by omega
                go_region
                go_wp2_with fail
                have hfree : ∀ j, j < ((m.set k (q : Int)).set q (k : Int)).length → gi ((m.set k (q : Int)).set q (k : Int)) j < 0 → gi ((m.set k (q : Int)).set q (k : Int)) j = -1 := by
                  intro j hj hneg'
                  simp only [List.length_set] at hj
                  rw [gi_set (by simpa using hlt), gi_set hklt] at hneg' ⊢
                  split at hneg'
                  · omega
                  split at hneg'
                  · omega
                  rename_i g1 g2
                  rw [if_neg g1, if_neg g2]
                  exact HF.out j hj hneg'
                have hHX := HX.out
                rw [cands_step hlt hneg, List.filter_cons, if_pos hodd, List.flatMap_cons] at hHX
                have hsize : xs'.length + (extF f ((m.set k (q : Int)).set q (k : Int)) (k + 1)).length ≤ 1000000 := by
                  have h1 := congrArg List.length hHX
                  simp only [List.length_append] at h1
                  have h2 := HZ.out
                  omega
                have hml : ((m.set k (q : Int)).set q (k : Int)).length = m.length := by simp
                refine (IH.out ((m.set k (q : Int)).set q (k : Int)) (k + 1) v' xs' _ (((HR.out.store hd k (q : Int)).store hd q (k : Int)).drew) (by simpa using hgr) (by simpa using hNr) (by omega) (by omega) (by omega) hfree hsize).mono ?_
                rintro e w3 ⟨rfl, v3, HR3, hb3⟩
                have HR3 := Lib.hid HR3
                have HHX := Lib.hid hHX
                obtain ⟨cm3, _, _⟩ := one_cell HR3.out.hm
                obtain ⟨_, _, hg3, _, hcell3, hfz3⟩ := HR3.out.own.ints_at (by omega)
                have c13 := hcell3 k (by omega)
                have c23 := hcell3 q (by omega)
                have f13 := hfz3 k
                have f23 := hfz3 q
                rw [hml] at cm3
                have hgm1 : gi m k = -1 := HF.out k hklt hkfree
                have hgm2 : gi m q = -1 := HF.out q hlt hneg
                have hst := ((HR3.out.store hd k (-1)).store hd q (-1)).drew
                rw [restore hklt hlt hgm1 hgm2] at hst
                have hbel3 : Below N w w3 := (hbel.setCell (p := ⟨gm, k, none⟩) hNb.2 (.int .i64 q)).setCell (p := ⟨gm, q, none⟩) hNb.2 (.int .i64 k) |>.drew |>.trans hb3
                have hbel4 : Below N w ((w3.setCell ⟨gm, k, none⟩ (.int .i64 (-1))).setCell ⟨gm, q, none⟩ (.int .i64 (-1))).drew := ((hbel3.setCell (p := ⟨gm, k, none⟩) hNb.2 _).setCell (p := ⟨gm, q, none⟩) hNb.2 _).drew
                have HST := Lib.hid hst
                have hN3 : N ≤ w3.heap.size := by have := hb3.size; simp at this; omega
                have HHX' : Hid ((xs' ++ extF f ((m.set k (q : Int)).set q (k : Int)) (k + 1)) ++ ((cands m (m.length - (q + 1)) (q + 1)).filter (oddF k)).flatMap (fun (q : Nat) => extF f ((m.set k (q : Int)).set q (k : Int)) (k + 1)) = xss ++ extF (f + 1) m i) := by
                  rw [← hHX]
                  exact List.append_assoc _ _ _
                clear hHX hfree hsize hml hcell3 hfz3 hgm1 hgm2 hst hb3 cm fm ce c1 c2 f1 f2 HHX
                go_wp2_with fail
                go_region
                go_wp2_with fail
                go_roundw
                case rel => exact ⟨q + 1, _, v3, by omega, by omega, by go_num, HST, HHX', hbel4, by simpa using hg3, by simpa using hN3⟩
                case measure => simp [intOf]; omega
              · have e3 : (((q : Int) - (k : Int)) % 2 == 0) = true := by
                  have : ¬ (q - k) % 2 = 1 := by simpa [oddF] using hodd
                  rw [beq_iff_eq]; omega
                have HX' : Hid (xs' ++ ((cands m (m.length - (q + 1)) (q + 1)).filter (oddF k)).flatMap (fun (q : Nat) => extF f ((m.set k (q : Int)).set q (k : Int)) (k + 1)) = xss ++ extF (f + 1) m i) := by
                  have := HX.out
                  rw [cands_step hlt hneg, List.filter_cons, if_neg hodd] at this
                  exact this
                clear hodd hcell hfz
                go_wp2
                go_roundw
                case rel => exact ⟨q + 1, xs', v', by omega, by omega, by go_num, HR, HX', hbel, hgr, hNr⟩
                case measure => simp [intOf]; omega
            · have HX' : Hid (xs' = xss ++ extF (f + 1) m i) := by
                have := HX.out
                rw [cands_done hgo, List.filter_nil, List.flatMap_nil, List.append_nil] at this
                exact this
              have hR : AllSt wr N bl gm bm be m v' (xss ++ extF (f + 1) m i) := by rw [← HX'.out]; exact HR.out
              have HR' := Lib.hid hR
              clear hR HX
              by_cases hlt : q < m.length
              · have c2 := hcell q hlt
                have hge : ¬ gi m q < 0 := fun h => hgo ⟨hlt, h⟩
                clear hgo hcell hfz
                go_wp2
                go_end0
                first | exact ⟨rfl, v', HR'.out, hbel⟩ | exact ⟨rfl, ⟨v', HR'.out⟩, hbel⟩
              · clear hgo hcell hfz
                go_wp2
                go_end0
                first | exact ⟨rfl, v', HR'.out, hbel⟩ | exact ⟨rfl, ⟨v', HR'.out⟩, hbel⟩
end Go.Proofs.Ytmmcpahaekpknaa
