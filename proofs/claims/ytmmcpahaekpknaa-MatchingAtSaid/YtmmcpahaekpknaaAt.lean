/-
  The contract of the closure inside matching.At, and of matching.At.
-/
import Derived.Test.YtmmcpahaekpknaaRank
import Derived.StillTailTactics
import Derived.Laws.EntriesVeiled
namespace Go.Proofs.Ytmmcpahaekpknaa
open Go.RowKit

/-- the variables m and fill of At, and what they hold -/
structure AtSt (w : World) (N bm be gm : Nat) (m : List Int) : Prop where
  hm : w.heap[bm]? = some (.cells #[.slice (some ⟨gm, 0, none⟩) m.length m.length] 34 (0, 0))
  he : w.heap[be]? = some (.cells #[.func (.func 33) #[] #[.pointer (some ⟨bm, 0, none⟩), .pointer (some ⟨be, 0, none⟩)]] 56 (0, 0))
  own : OI w N (.slice (some ⟨gm, 0, none⟩) m.length m.length) m

theorem AtSt.drew {w : World} {N bm be gm : Nat} {m : List Int} (h : AtSt w N bm be gm m) : AtSt w.drew N bm be gm m := ⟨h.hm, h.he, h.own⟩
theorem AtSt.store {w : World} {N bm be gm : Nat} {m : List Int} (hd : bm ≠ gm ∧ be ≠ gm) (h : AtSt w N bm be gm m) (j : Nat) (y : Int) :
    AtSt (w.setCell ⟨gm, j, none⟩ (.int .i64 y)) N bm be gm (m.set j y) := by
  obtain ⟨d1, d2⟩ := hd
  have hl : (m.set j y).length = m.length := by simp
  refine ⟨?_, ?_, ?_⟩
  · rw [Below.heap_setCell w _ _ bm (by simp; omega), hl]; exact h.hm
  · rw [Below.heap_setCell w _ _ be (by simp; omega)]; exact h.he
  · have := OR.stored (k := j) h.own y
    rw [hl] at this ⊢
    exact this

theorem cat_pos {n : Nat} (h : n ≤ 24) : (1 : Int) ≤ (catN n : Int) ∧ (catN n : Int) ≤ 4611686018427387904 := by
  have := cat_bounds (show n < 31 by omega)
  omega

/-- a region that only reads and calls quietly ahead of its last operations, which are in order -/
theorem still_tail {P : Program} {id : Nat} {Q : Exit → Act → World → Prop} {a : Act} {w : World} {l : List Oper} (n : Nat) (hm : P.follows .mixedOrders = true) (hB : Region.lexTailB .any l.toArray n = true)
    (h : wpStill P l.toArray w.drew (fun a' => wpList P l.toArray Q (l.drop n) a' w.drew) (l.take n) a) : (Code.region id l.toArray true).wp P Q a w :=
  wp_region_still_tail n hm hB h

/-- what the call leaves -/
def AtPost (w : World) (N bm be gm : Nat) (m : List Int) (e : Ending) (w' : World) : Prop := e = .returned (.tuple #[]) ∧ AtSt w' N bm be gm m ∧ Below N w w'

set_option maxHeartbeats 4000000 in
theorem at1_any (N bm be gm : Nat) (hd : bm ≠ gm ∧ be ≠ gm) (hNg : N ≤ gm) : ∀ (f lo n r : Nat) (m : List Int) (a b c : Int) (w : World), n < f → AtSt w N bm be gm m → a = lo → b = n → c = r → lo + 2 * n ≤ m.length → m.length ≤ 48 → r < catN n →
    Calls Try.prog 33 #[.int .i64 a, .int .i64 b, .int .i64 c, .pointer (some ⟨bm, 0, none⟩), .pointer (some ⟨be, 0, none⟩)] w (AtPost w N bm be gm (fillAt m lo (unr n r))) := by
  intro f
  induction f with
  | zero => intro lo n r m a b c w h; omega
  | succ f ih =>
    intro lo n r m a b c w hf hS ha hb hc hl h48 hr
    subst ha hb hc
    have IH := Lib.hid ih
    clear ih
    by_cases h0 : n = 0
    · subst h0
      have hres : AtPost w N bm be gm (fillAt m lo (unr 0 r)) (.returned (.tuple #[])) w := ⟨rfl, by rw [unr_zero, fillAt_nil]; exact hS, Below.refl _ _⟩
      have HR := Lib.hid hres
      clear hres hr hS
      go_enter Try.func33, Try.ntmps33
      go_wp2_with fail
      refine bodyPost_ret (results_none rfl _ _ _) rfl ?_
      exact HR.out
    · have hb0 : ((n : Int) == 0) = false := by rw [beq_eq_false_iff_ne]; omega
      have hn24 : n ≤ 24 := by omega
      obtain ⟨k, hk, hk1, hk2⟩ := conv_find n (by rw [conv_full n (by omega) (by omega)]; exact hr)
      have hfull := conv_full n (by omega) (by omega)
      have hcb := (cat_bounds (show n < 31 by omega)).2.1
      have hu := unr_eq (by omega) hk hk1 hk2
      have hq := quot_lt hk1 hk2
      have hpos := cat_pos (show n - 1 - k ≤ 24 by omega)
      have hmo : (r - convC n k) % catN (n - 1 - k) < catN (n - 1 - k) := Nat.mod_lt _ (by omega)
      have la := unr_len (k + 1) k _ (by omega) (by omega) hq
      have lb := unr_len (n - 1 - k + 1) (n - 1 - k) _ (by omega) (by omega) hmo
      have hr2 : (r : Int) ≤ 4611686018427387904 := by omega
      have HS := Lib.hid hS
      have HU := Lib.hid hu
      have HQ := Lib.hid hq
      have HM := Lib.hid hmo
      have HLA := Lib.hid la
      have HLB := Lib.hid lb
      have HK1 := Lib.hid hk1
      have HK2 := Lib.hid hk2
      have HF := Lib.hid hfull
      clear hS hu hq hmo la lb hk1 hk2 hfull h0 hpos
      go_enter Try.func33, Try.ntmps33
      go_wp2_with fail
      go_loop [2, 8] (fun s2 s8 => ∃ t : Nat, t ≤ k ∧ s8 = .int .i64 t ∧ s2 = .int .i64 ((r - convC n t : Nat) : Int)) (fun _ s8 => k - (intOf s8).toNat)
      case atStart => exact ⟨0, Nat.zero_le _, rfl, by simp [convC]⟩
      case round =>
        obtain ⟨t, ht, rfl, rfl⟩ := hrel
        have hcl : convC n (t + 1) ≤ convC n n := conv_le (by omega)
        have hcs : convC n (t + 1) = convC n t + catN t * catN (n - 1 - t) := rfl
        have hct : convC n t ≤ convC n k := conv_le ht
        have ef := HF.out
        have e1 := HK1.out
        have e2 := HK2.out
        have p1 : (0 : Int) ≤ (catN t : Int) * (catN (n - 1 - t) : Int) := Int.mul_nonneg (by omega) (by omega)
        have pc : ((catN t * catN (n - 1 - t) : Nat) : Int) = (catN t : Int) * (catN (n - 1 - t) : Int) := by simp
        have p3 : (catN t : Int) * (catN (n - 1 - t) : Int) ≤ 4611686018427387904 := by omega
        have g1 : ((r - convC n t : Nat) : Int) ≤ 4611686018427387904 := by omega
        have hn1 : (n : Int) - 1 - (t : Int) = ((n - 1 - t : Nat) : Int) := by omega
        have HN1 := Lib.hid hn1
        by_cases hlt : t < k
        · have hct2 : convC n (t + 1) ≤ convC n k := conv_le (by omega)
          have g2 : (catN t : Int) * (catN (n - 1 - t) : Int) ≤ ((r - convC n t : Nat) : Int) := by omega
          have g3 : ((r - convC n t : Nat) : Int) - (catN t : Int) * (catN (n - 1 - t) : Int) = ((r - convC n (t + 1) : Nat) : Int) := by omega
          have G3 := Lib.hid g3
          clear g3 hcs pc ef e1 e2 hn1 hcl hct hct2
          go_wp2_with fail
          refine (catalan_any t _ (by omega)).mono ?_
          rintro e w1 ⟨rfl, rfl⟩
          go_wp2_with fail
          rw [HN1.out]
          refine (catalan_any (n - 1 - t) _ (by omega)).mono ?_
          rintro e w1 ⟨rfl, rfl⟩
          go_wp2_with fail
          refine (catalan_any t _ (by omega)).mono ?_
          rintro e w1 ⟨rfl, rfl⟩
          go_wp2_with fail
          rw [HN1.out]
          refine (catalan_any (n - 1 - t) _ (by omega)).mono ?_
          rintro e w1 ⟨rfl, rfl⟩
          go_wp2_with fail
          go_round
          case rel => exact ⟨t + 1, by omega, by go_num, by rw [← G3.out]⟩
          case measure => simp [intOf]; omega
        · have htk : t = k := by omega
          subst htk
          have g2 : ¬ (catN t : Int) * (catN (n - 1 - t) : Int) ≤ ((r - convC n t : Nat) : Int) := by omega
          have HX : Hid (n - 1 - t ≤ 30) := by show n - 1 - t ≤ 30; omega
          clear hcs pc ef e1 e2 hn1 hcl hct
          go_wp2_with fail
          refine (catalan_any t _ (by omega)).mono ?_
          rintro e w1 ⟨rfl, rfl⟩
          go_wp2_with fail
          rw [HN1.out]
          refine (catalan_any (n - 1 - t) _ (by omega)).mono ?_
          rintro e w1 ⟨rfl, rfl⟩
          obtain ⟨b1, -, -⟩ := one_cell HS.out.hm
          obtain ⟨b2, -, -⟩ := one_cell HS.out.he
          obtain ⟨-, -, hgs, -, hcell, hfz⟩ := HS.out.own.ints_at (by omega)
          have c1 := hcell lo (by omega)
          have c2 := hcell (lo + 1 + 2 * t) (by omega)
          have f1 := hfz lo
          have f2 := hfz (lo + 1 + 2 * t)
          have ep : (lo : Int) + 2 * (t : Int) + 1 = ((lo + 1 + 2 * t : Nat) : Int) := by omega
          have EP := Lib.hid ep
          have i1 : (0 : Int) ≤ lo ∧ (lo : Int) < m.length := by omega
          have i2 : ((lo + 1 + 2 * t : Nat) : Int) < m.length := by omega
          have d3 : lo ≠ lo + 1 + 2 * t := by omega
          have d4 : lo + 1 + 2 * t ≠ lo := by omega
          obtain ⟨d1, d2⟩ := hd
          have d5 : gm ≠ bm := fun e => d1 e.symm
          have d6 : gm ≠ be := fun e => d2 e.symm
          clear ep hcell hfz hb0
          go_wp2_with fail
          clear p1 p3 g1 g2
          rw [EP.out]
          go_region
          go_wp2_with fail
          have hpos := cat_pos (show n - 1 - t ≤ 24 by omega)
          have hz : catN (n - 1 - t) ≠ 0 := by omega
          have hdle : (r - convC n t) / catN (n - 1 - t) ≤ r - convC n t := Nat.div_le_self _ _
          have hq1 : IntKind.i64.wrap (((r - convC n t : Nat) : Int) / ((catN (n - 1 - t) : Nat) : Int)) = (((r - convC n t) / catN (n - 1 - t) : Nat) : Int) := by
            rw [← Int.natCast_ediv]
            refine IntWalk.i64_in _ ?_
            generalize (r - convC n t) / catN (n - 1 - t) = q at hdle ⊢
            omega
          have HPOS := Lib.hid hpos
          have HDLE := Lib.hid hdle
          clear hpos hdle
          refine still_tail 8 (by kernel_rfl) (by kernel_rfl) ?_
          simp only [List.take_succ_cons, List.take_zero, List.drop_succ_cons, List.drop_zero]
          repeat still_step
          still_call (catalan_at (n - 1 - t) _ (by omega) (by omega))
          repeat still_step
          refine wpStill_nil ?_
          clear hq1
          go_wp2_with fail
          have hml : ((m.set lo ((lo + 1 + 2 * t : Nat) : Int)).set (lo + 1 + 2 * t) (lo : Int)).length = m.length := by simp
          have hst := ((HS.out.store ⟨d1, d2⟩ lo ((lo + 1 + 2 * t : Nat) : Int)).store ⟨d1, d2⟩ (lo + 1 + 2 * t) (lo : Int)).drew.drew
          have hst' : AtSt ((w.setCell ⟨gm, lo, none⟩ (.int .i64 ((lo : Int) + 1 + 2 * (t : Int)))).setCell ⟨gm, lo + 1 + 2 * t, none⟩ (.int .i64 lo)).drew.drew N bm be gm ((m.set lo ((lo + 1 + 2 * t : Nat) : Int)).set (lo + 1 + 2 * t) (lo : Int)) := by
            have e : ((lo + 1 + 2 * t : Nat) : Int) = (lo : Int) + 1 + 2 * (t : Int) := by omega
            rw [e] at hst ⊢
            exact hst
          refine (IH.out (lo + 1) t _ ((m.set lo ((lo + 1 + 2 * t : Nat) : Int)).set (lo + 1 + 2 * t) (lo : Int)) _ _ _ _ (by omega) hst' (by omega) rfl (Int.natCast_ediv _ _).symm (by rw [hml]; omega) (by omega) HQ.out).mono ?_
          rintro e w2 ⟨rfl, hs2, hb2⟩
          have hbe := (((Below.refl N w).setCell (p := ⟨gm, lo, none⟩) hNg (.int .i64 ((lo : Int) + 1 + 2 * (t : Int)))).setCell (p := ⟨gm, lo + 1 + 2 * t, none⟩) hNg (.int .i64 lo)).drew.drew.trans hb2
          have HS2 := Lib.hid hs2
          obtain ⟨ce2, -, -⟩ := one_cell hs2.he
          have hl2 : (fillAt ((m.set lo ((lo + 1 + 2 * t : Nat) : Int)).set (lo + 1 + 2 * t) (lo : Int)) (lo + 1) (unr t ((r - convC n t) / catN (n - 1 - t)))).length = m.length := by
            rw [fillAt_length (by rw [hml, HLA.out]; omega), hml]
          have HL2 := Lib.hid hl2
          have hpos' := HPOS.out
          have hmle : (r - convC n t) % catN (n - 1 - t) ≤ r - convC n t := Nat.mod_le _ _
          have hq2 : IntKind.i64.wrap (((r - convC n t : Nat) : Int) % ((catN (n - 1 - t) : Nat) : Int)) = (((r - convC n t) % catN (n - 1 - t) : Nat) : Int) := by
            rw [← Int.natCast_emod]
            refine IntWalk.i64_in _ ?_
            generalize (r - convC n t) % catN (n - 1 - t) = q at hmle ⊢
            omega
          clear hst hst' hs2 hb2 hml hl2 hpos' hmle
          go_wp2_with fail
          refine still_tail 8 (by kernel_rfl) (by kernel_rfl) ?_
          simp only [List.take_succ_cons, List.take_zero, List.drop_succ_cons, List.drop_zero]
          repeat still_step
          still_call (catalan_at (n - 1 - t) _ (by omega) (by omega))
          repeat still_step
          refine wpStill_nil ?_
          clear hq2
          go_wp2_with fail
          refine (IH.out (lo + 1 + 2 * t + 1) (n - 1 - t) ((r - convC n t) % catN (n - 1 - t)) _ _ _ _ _ (by omega) HS2.out.drew (by omega) (by omega) (Int.natCast_emod _ _).symm (by rw [HL2.out]; omega) (by rw [HL2.out]; omega) HM.out).mono ?_
          rintro e w3 ⟨rfl, hs3, hb3⟩
          have hfg := fill_glue (m := m) (i := lo) (k := t) (n := n - 1) (by omega) (by omega) HLA.out (by rw [HLB.out])
          rw [hfg, ← HU.out] at hs3
          have hbf := hbe.drew.trans hb3
          have HR := Lib.hid hs3
          clear hfg hs3 hb3
          go_wp2_with fail
          refine bodyPost_ret (results_none rfl _ _ _) rfl ?_
          exact ⟨rfl, HR.out, hbf⟩

set_option maxHeartbeats 1000000 in
theorem at_no (a b : Int) (w : World) (h : a < 0 ∨ 24 < a ∨ b < 0 ∨ (catN a.toNat : Int) ≤ b) :
    Calls Try.prog 25 #[.int .i64 a, .int .i64 b] w fun e w' => e = .returned (.tuple #[.slice none 0 0, .int .i64 2]) ∧ w = w' := by
  by_cases h1 : a < 0
  · clear h
    go_enter Try.func25, Try.ntmps25
    go_wp2_with fail
    go_ret2
    exact ⟨rfl, rfl⟩
  by_cases h2 : 24 < a
  · clear h
    go_enter Try.func25, Try.ntmps25
    go_wp2_with fail
    go_ret2
    exact ⟨rfl, rfl⟩
  by_cases h3 : b < 0
  · clear h
    go_enter Try.func25, Try.ntmps25
    go_wp2_with fail
    go_ret2
    exact ⟨rfl, rfl⟩
  have h4 : (catN a.toNat : Int) ≤ b := by omega
  have hk := catalan_at (a := a) a.toNat w (by omega) (by omega)
  have HK := Lib.hid hk
  clear h hk
  go_enter Try.func25, Try.ntmps25
  go_wp2_with fail
  refine HK.out.mono ?_
  rintro e w1 ⟨rfl, rfl⟩
  go_wp2_with fail
  go_ret2
  exact ⟨rfl, rfl⟩

set_option maxHeartbeats 1000000 in
theorem at_ok (n r : Nat) (a b : Int) (w : World) (ha : a = n) (hb : b = r) (hn : n ≤ 24) (hr : r < catN n) :
    Calls Try.prog 25 #[.int .i64 a, .int .i64 b] w fun e w' => ∃ v, e = .returned (.tuple #[v, .int .i64 0]) ∧ OI w' w.heap.size v (unr n r) ∧ Below w.heap.size w w' := by
  subst ha hb
  have hmk := make_ints 34 Try.underlying34 (2 * n) (by omega)
  have hmk' : ∀ w, (Instr.makeSlice 34 (.int .i64 (2 * (n : Int))) (.int .i64 (2 * (n : Int)))).run Try.prog w = .ok (.slice (some ⟨w.heap.size, 0, none⟩) (2 * n) (2 * n)) (w.alloc (.cells (List.replicate (2 * n) (Value.int .i64 0)).toArray 3)) := by
    intro w
    have := hmk w
    simpa using this
  clear hmk
  have h1 : (r : Int) < (catN n : Int) := by omega
  have h2 : ¬ (catN n : Int) ≤ (r : Int) := by omega
  have hcb := cat_pos hn
  have HH := Lib.hid hr
  clear hr
  go_enter Try.func25, Try.ntmps25
  go_wp2_with fail
  refine (catalan_any n _ (by omega)).mono ?_
  rintro e w1 ⟨rfl, rfl⟩
  go_wp2_with fail
  have hnew : OI (w.alloc (.cells (Array.replicate (2 * n) (Value.int .i64 0)) 3)) w.heap.size (.slice (some ⟨w.heap.size, 0, none⟩) (2 * n) (2 * n)) (List.replicate (2 * n) 0) := by
    have := OI.new w w.heap.size (2 * n) (Nat.le_refl _) (by unfold maxLen; omega)
    simpa using this
  have hst : AtSt (((w.alloc (.cells (Array.replicate (2 * n) (Value.int .i64 0)) 3)).alloc (.cells #[.slice (some ⟨w.heap.size, 0, none⟩) (2 * n) (2 * n)] 34)).alloc
      (.cells #[.func (.func 33) #[] #[.pointer (some ⟨w.heap.size + 1, 0, none⟩), .pointer (some ⟨w.heap.size + 1 + 1, 0, none⟩)]] 56)) w.heap.size (w.heap.size + 1) (w.heap.size + 1 + 1) w.heap.size (List.replicate (2 * n) 0) := by
    refine ⟨?_, ?_, ?_⟩
    · have h1 := heap_alloc_new (w.alloc (.cells (Array.replicate (2 * n) (Value.int .i64 0)) 3)) (.cells #[.slice (some ⟨w.heap.size, 0, none⟩) (2 * n) (2 * n)] 34)
      have h2 := Below.heap_alloc ((w.alloc (.cells (Array.replicate (2 * n) (Value.int .i64 0)) 3)).alloc (.cells #[.slice (some ⟨w.heap.size, 0, none⟩) (2 * n) (2 * n)] 34)) (.cells #[.func (.func 33) #[] #[.pointer (some ⟨w.heap.size + 1, 0, none⟩), .pointer (some ⟨w.heap.size + 1 + 1, 0, none⟩)]] 56) (w.heap.size + 1) (by simp)
      rw [h2]
      simpa using h1
    · have h1 := heap_alloc_new ((w.alloc (.cells (Array.replicate (2 * n) (Value.int .i64 0)) 3)).alloc (.cells #[.slice (some ⟨w.heap.size, 0, none⟩) (2 * n) (2 * n)] 34)) (.cells #[.func (.func 33) #[] #[.pointer (some ⟨w.heap.size + 1, 0, none⟩), .pointer (some ⟨w.heap.size + 1 + 1, 0, none⟩)]] 56)
      simpa using h1
    · have := (hnew.alloc (.cells #[.slice (some ⟨w.heap.size, 0, none⟩) (2 * n) (2 * n)] 34)).alloc (.cells #[.func (.func 33) #[] #[.pointer (some ⟨w.heap.size + 1, 0, none⟩), .pointer (some ⟨w.heap.size + 1 + 1, 0, none⟩)]] 56)
      simpa using this
  have hlr : (List.replicate (2 * n) (0 : Int)).length = 2 * n := by simp
  refine (at1_any w.heap.size (w.heap.size + 1) (w.heap.size + 1 + 1) w.heap.size (by omega) (Nat.le_refl _) (n + 1) 0 n r _ _ _ _ _ (by omega) hst rfl rfl rfl (by rw [hlr]; omega) (by rw [hlr]; omega) HH.out).mono ?_
  rintro e w2 ⟨rfl, hs2, hb2⟩
  have hul := unr_len (n + 1) n r (by omega) (by omega) HH.out
  have hfill : fillAt (List.replicate (2 * n) 0) 0 (unr n r) = unr n r := by
    unfold fillAt
    rw [hul]
    simp
  rw [hfill] at hs2
  obtain ⟨c1, -, -⟩ := one_cell hs2.hm
  have hown := hs2.own
  have hbf := (((Below.refl w.heap.size w).alloc (Nat.le_refl _) (.cells (Array.replicate (2 * n) (Value.int .i64 0)) 3)).alloc (by simp) (.cells #[.slice (some ⟨w.heap.size, 0, none⟩) (2 * n) (2 * n)] 34)).alloc (by simp; omega)
      (.cells #[.func (.func 33) #[] #[.pointer (some ⟨w.heap.size + 1, 0, none⟩), .pointer (some ⟨w.heap.size + 1 + 1, 0, none⟩)]] 56) |>.trans hb2
  have HO := Lib.hid hown
  clear hst hnew hs2 hb2 hown hfill hul hlr hmk'
  go_wp2_with fail
  go_ret2
  exact ⟨_, rfl, HO.out, hbf⟩
end Go.Proofs.Ytmmcpahaekpknaa
