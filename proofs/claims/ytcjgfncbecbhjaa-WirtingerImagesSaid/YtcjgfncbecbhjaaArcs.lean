/-
  The contract of wirtinger.arcs.
-/
import Derived.Test.YtcjgfncbecbhjaaArcM
import Derived.Deep.RegionHeld3
namespace Go.Proofs.Ytcjgfncbecbhjaa
open Go.RowKit Go.Maps

theorem make_map (n : Int) (w : World) : (Instr.makeMap 87 (some (.int .i64 n))).run Try.prog w = .ok (.map (some w.heap.size)) (w.alloc (.map #[] 0)) := by
  have h : Try.prog.underlying 87 = some (.map 3 3) := Try.underlying87
  simp [Instr.makeMap, underlying, h, asInt]
  rfl
theorem zero_int (w : World) : (zeroValue 3).run Try.prog w = .ok (.int .i64 0) w := by kernel_rfl
theorem keyed_int : Keyed Try.prog 3 := int_keyed Try.underlying3

theorem wf64 {n : Int} (h1 : 0 ≤ n) (h2 : n ≤ 1099511627776) : (Lit.int .i64 n).wf = true := by
  simp [Lit.wf, IntKind.min, IntKind.max, IntKind.signed, IntKind.bits]
  omega
theorem at_eq {D : DataW Unit} {x y c : Int} (h1 : D.atKey (.int .i64 x) (.lit (.int .i64 0)) = .lit (.int .i64 y)) (h2 : D.atKey (.int .i64 x) (.lit (.int .i64 0)) = .lit (.int .i64 c)) : c = y := by
  rw [h1] at h2
  injection h2 with h2
  injection h2 with _ h2
  exact h2.symm
theorem UfW.same {w w' : World} {b4 b6 gp N : Nat} {p : List Int} (h : UfW w b4 b6 gp N p) (he : ∀ b, b < w.heap.size → b = b4 ∨ b = b6 ∨ b = gp → w'.heap[b]? = w.heap[b]?) : UfW w' b4 b6 gp N p := by
  have l4 := World.block_lt_of_cell? w _ h.v4
  have l6 := World.block_lt_of_cell? w _ h.v6
  refine ⟨(World.cell?_of_block (a := ⟨b4, 0, none⟩) (he b4 l4 (.inl rfl))).trans h.v4, (World.cell?_of_block (a := ⟨b6, 0, none⟩) (he b6 l6 (.inr (.inl rfl)))).trans h.v6, ?_, h.len, h.ne4, h.ne6⟩
  exact h.own.keep fun g hg => he g (h.own.lt g hg).2 (by
    have : g = gp := by simpa [Value.ownBlock] using hg.symm
    exact .inr (.inr this))
theorem ownsMap_same {H : Type} {P : Program} {k : TypeId} {R : Value → Option (DataW H × List MemPlace)} {w w' : World} {b n : Nat} {D : DataW H} (h : w.ownsMap P k R b n D) (he : w'.heap[b]? = w.heap[b]?) : w'.ownsMap P k R b n D := by
  obtain ⟨es, clock, hb, F, hs, hD⟩ := h
  exact ⟨es, clock, he.trans hb, F, hs, hD⟩

theorem find_at {N : Nat} {R d : Nat → Nat} {b4 b6 gp : Nat} {hi : Int} {h : Nat} {p : List Int} {w : World} (hh : h < N) (he : hi = h) (hU : UfW w b4 b6 gp N p) (hF : UF N p R d) :
    Calls Try.prog 75 #[.int .i64 hi, .pointer (some ⟨b4, 0, none⟩), .pointer (some ⟨b6, 0, none⟩)] w fun e w' => e = .returned (.int .i64 (R h : Int)) ∧ ∃ p', UfW w' b4 b6 gp N p' ∧ UF N p' R d ∧ Onl gp w w' := by
  subst he
  exact find_any N R d b4 b6 gp (d h + 1) h p w (Nat.lt_succ_self _) hh hU hF
theorem uw_mk {w : World} {b4 b6 gp N : Nat} {p : List Int} (h : UfW w b4 b6 gp N p) : Hid (∃ p, UfW w b4 b6 gp N p) ∧ w.cell? ⟨b4, 0, none⟩ = some (.slice (some ⟨gp, 0, none⟩) N N) ∧ w.cell? ⟨b6, 0, none⟩ = some (.func (.func 75) #[] #[.pointer (some ⟨b4, 0, none⟩), .pointer (some ⟨b6, 0, none⟩)]) := ⟨⟨p, h⟩, h.v4, h.v6⟩
/-- while edges are laid -/
def ES (wA wr : World) (b4 b6 gp N : Nat) (es : List (Nat × Nat)) : Prop := ∃ p R d, UfW wr b4 b6 gp N p ∧ UC N es p R d ∧ Below gp wA wr ∧ wr.heap.size = gp + 3
theorem ES.step {wA wr wa wb : World} {b4 b6 gp N a b x y : Nat} {es : List (Nat × Nat)} {p p2 : List Int} {R d : Nat → Nat} (hbl : Below gp wA wr) (hsz : wr.heap.size = gp + 3) (hC : UC N es p R d) (hO1 : Onl gp wr.drew wa) (hO2 : Onl gp wa wb)
    (hU2 : UfW wb b4 b6 gp N p2) (hF2 : UF N p2 R d) (ha : a < N) (hb : b < N) (hx : R a = x) (hy : R b = y) : ES wA (wb.setCell ⟨gp, x, none⟩ (.int .i64 (y : Int))) b4 b6 gp N (es ++ [(a, b)]) := by
  subst hx hy
  have hO := (hO1.undrew.trans hO2).set (R a) (.int .i64 (R b : Int))
  exact ⟨_, _, _, hU2.store _ _, UC.join ⟨hF2, hC.cl, hC.es_⟩ ha hb, hbl.trans hO.bel, by rw [hO.size]; exact hsz⟩

/-- while the arcs are numbered -/
structure NS (wA wr : World) (b4 b6 gp N bm ga : Nat) (r : Nat → Nat → Bool) (R d : Nat → Nat) (k : Nat) (p : List Int) (D : DataW Unit) (q : List Int) : Prop where
  uw : UfW wr b4 b6 gp N p
  uf : UF N p R d
  map : wr.ownsMap Try.prog 3 (plainElem Try.prog 3) bm k D
  row : OI wr ga (.slice (some ⟨ga, 0, none⟩) N N) q
  qlen : q.length = N
  bel : Below gp wA wr
  kd : KD r R N k D
  val : ∀ x, x < k → gi q x = (clN r x : Int)
  apart : b4 = gp + 1 ∧ b6 = gp + 2 ∧ bm = gp + 3 ∧ ga = gp + 4
theorem NS.call {wA wr wa : World} {b4 b6 gp N bm ga : Nat} {r : Nat → Nat → Bool} {R d : Nat → Nat} {k : Nat} {p p1 : List Int} {D : DataW Unit} {q : List Int} (h : NS wA wr b4 b6 gp N bm ga r R d k p D q) (hU : UfW wa b4 b6 gp N p1) (hF : UF N p1 R d) (hO : Onl gp wr wa) : NS wA wa b4 b6 gp N bm ga r R d k p1 D q := by
  obtain ⟨e1, e2, e3, e4⟩ := h.apart
  refine ⟨hU, hF, ownsMap_same h.map (hO.keep bm (by omega)), h.row.keep fun g hg => hO.keep g (by
    have : g = ga := by simpa [Value.ownBlock] using hg.symm
    omega), h.qlen, h.bel.trans hO.bel, h.kd, h.val, h.apart⟩
theorem NS.at_ {wA w : World} {b4 b6 gp N bm ga : Nat} {r : Nat → Nat → Bool} {R d : Nat → Nat} {k : Nat} {p : List Int} {D : DataW Unit} {q : List Int} (h : NS wA w b4 b6 gp N bm ga r R d k p D q) {j : Nat} (hj : j < N) : w.cell? ⟨ga, j, none⟩ = some (.int .i64 (gi q j)) ∧ w.frozen? ⟨ga, j, none⟩ = false := by
  have hl := h.qlen
  obtain ⟨-, -, -, -, hc, hf⟩ := h.row.ints_at (by omega)
  exact ⟨hc j (by omega), hf j⟩
theorem NS.store {wA w : World} {b4 b6 gp N bm ga : Nat} {r : Nat → Nat → Bool} {R d : Nat → Nat} {k : Nat} {p : List Int} {D : DataW Unit} {q : List Int} (h : NS wA w b4 b6 gp N bm ga r R d k p D q) (hk : k < N) (hK : KD r R N (k + 1) D)
    {y : Int} (hy : y = (clN r k : Int)) : NS wA (w.setCell ⟨ga, k, none⟩ (.int .i64 y)) b4 b6 gp N bm ga r R d (k + 1) p D (q.set k y) := by
  subst hy
  obtain ⟨e1, e2, e3, e4⟩ := h.apart
  have h1 : OI w ga (.slice (some ⟨ga, 0, none⟩) q.length N) q := by rw [h.qlen]; exact h.row
  have h2 := OR.stored (k := k) h1 (clN r k : Int)
  rw [List.length_set, h.qlen] at h2
  refine ⟨h.uw.same fun b _ hb => Below.heap_setCell w _ _ b (by show b ≠ ga; omega), h.uf, (ownsMap_same h.map (Below.heap_setCell w _ _ bm (by show bm ≠ ga; omega))).mono (Nat.le_succ _), h2, by rw [List.length_set]; exact h.qlen, h.bel.setCell (by show gp ≤ ga; omega) _, hK, fun x hx => ?_, h.apart⟩
  rw [gi_set' (by rw [h.qlen]; exact hk)]
  split
  · rename_i e; rw [e]
  · exact h.val x (by omega)
/-- the map is written -/
theorem NS.put {wA w w1 : World} {b4 b6 gp N bm ga : Nat} {r : Nat → Nat → Bool} {R d : Nat → Nat} {k : Nat} {p : List Int} {D : DataW Unit} {q : List Int} (h : NS wA w b4 b6 gp N bm ga r R d k p D q) (hg : w.grownBy w1 (some bm)) :
    UfW w1 b4 b6 gp N p ∧ OI w1 ga (.slice (some ⟨ga, 0, none⟩) N N) q ∧ Below gp wA w1 := by
  obtain ⟨e1, e2, e3, e4⟩ := h.apart
  refine ⟨h.uw.same fun b hb hc => hg.block b hb (by simp; omega), h.row.keep fun g hgo => hg.block g (h.row.lt g hgo).2 (by
    have : g = ga := by simpa [Value.ownBlock] using hgo.symm
    simp; omega), h.bel.grown hg ?_ (fun j hj => by cases hj; omega)⟩
  have := World.block_lt_of_cell? w _ h.uw.v4
  have : b4 < w.heap.size := this
  omega
theorem NS.store2 {wA w w1 : World} {b4 b6 gp N bm ga : Nat} {r : Nat → Nat → Bool} {R d : Nat → Nat} {k : Nat} {p : List Int} {D D' : DataW Unit} {q : List Int} (h : NS wA w b4 b6 gp N bm ga r R d k p D q) (hm : w1.ownsMap Try.prog 3 (plainElem Try.prog 3) bm (k + 1) D') (hg : w.grownBy w1 (some bm)) (hk : k < N) (hK : KD r R N (k + 1) D')
    {y : Int} (hy : y = (clN r k : Int)) : NS wA (w1.setCell ⟨ga, k, none⟩ (.int .i64 y)) b4 b6 gp N bm ga r R d (k + 1) p D' (q.set k y) := by
  subst hy
  obtain ⟨hu, hr, hb⟩ := h.put hg
  obtain ⟨e1, e2, e3, e4⟩ := h.apart
  have h1 : OI w1 ga (.slice (some ⟨ga, 0, none⟩) q.length N) q := by rw [h.qlen]; exact hr
  have h2 := OR.stored (k := k) h1 (clN r k : Int)
  rw [List.length_set, h.qlen] at h2
  refine ⟨hu.same fun b _ hb => Below.heap_setCell w1 _ _ b (by show b ≠ ga; omega), h.uf, ownsMap_same hm (Below.heap_setCell w1 _ _ bm (by show bm ≠ ga; omega)), h2, by rw [List.length_set]; exact h.qlen, hb.setCell (by show gp ≤ ga; omega) _, hK, fun x hx => ?_, h.apart⟩
  rw [gi_set' (by rw [h.qlen]; exact hk)]
  split
  · rename_i e; rw [e]
  · exact h.val x (by omega)
/-- while the row is laid -/
structure R1 (wA wr : World) (b4 gp N : Nat) (p : List Int) : Prop where
  bel : Below gp wA wr
  v4 : wr.cell? ⟨b4, 0, none⟩ = some (.slice (some ⟨gp, 0, none⟩) N N)
  own : OI wr gp (.slice (some ⟨gp, 0, none⟩) N N) p
  len : p.length = N
  b4e : b4 = gp + 1
  size : wr.heap.size = gp + 2
theorem R1.at_ {wA w : World} {b4 gp N : Nat} {p : List Int} (h : R1 wA w b4 gp N p) {j : Nat} (hj : j < N) : w.cell? ⟨gp, j, none⟩ = some (.int .i64 (gi p j)) ∧ w.frozen? ⟨gp, j, none⟩ = false := by
  have hl := h.len
  obtain ⟨-, -, -, -, hc, hf⟩ := h.own.ints_at (by omega)
  exact ⟨hc j (by omega), hf j⟩
theorem R1.store {wA w : World} {b4 gp N : Nat} {p : List Int} (h : R1 wA w b4 gp N p) (j : Nat) (y : Int) : R1 wA (w.setCell ⟨gp, j, none⟩ (.int .i64 y)) b4 gp N (p.set j y) := by
  have h1 : OI w gp (.slice (some ⟨gp, 0, none⟩) p.length N) p := by rw [h.len]; exact h.own
  have h2 := OR.stored (k := j) h1 y
  rw [List.length_set, h.len] at h2
  have e := h.b4e
  exact ⟨h.bel.setCell (Nat.le_refl _) _, (World.cell?_of_block (a := ⟨b4, 0, none⟩) (Below.heap_setCell w ⟨gp, j, none⟩ _ b4 (by show b4 ≠ gp; omega))).trans h.v4, h2, by rw [List.length_set]; exact h.len, e, by rw [World.size_setCell]; exact h.size⟩
/-- the last captured variable is made -/
theorem R1.done {wA w : World} {b4 gp N : Nat} {p : List Int} (h : R1 wA w b4 gp N p) : UfW (w.alloc (.cells #[fnV b4 w.heap.size] 77)) b4 w.heap.size gp N p := by
  have hs := h.size
  have hb := h.b4e
  refine ⟨(World.cell?_of_block (a := ⟨b4, 0, none⟩) (Below.heap_alloc w _ b4 (by omega))).trans h.v4, ?_, h.own.alloc _, h.len, by omega, by omega⟩
  rw [cell_of_row _ _ _ _ _ _ (heap_alloc_new w _)]
  rfl
section
variable (A1 A2 : Option Addr) (c1 c2 : Nat) (sg mt : List Int) (L : Int) (w : World) (S : Nat → Prop) (hx : RI w S A1 sg) (hy : RI w S A2 mt) (hS : ∀ b, S b → b < w.heap.size)
include hx hy hS
set_option maxRecDepth 100000 in
set_option maxHeartbeats 8000000 in
theorem arcs_ok (hd : IsD sg mt L) :
    Calls Try.prog 43 #[.agg #[.slice A1 sg.length c1, .slice A2 mt.length c2, .int .i64 L]] w fun e w' => ∃ v, e = .returned (.tuple #[v, .int .i64 (arC sg mt : Int)]) ∧ OI w' w.heap.size v (arL sg mt) ∧ Below w.heap.size w w' := by
  have hmf : ∀ (fn : Fn) (first cap : Array Value) (w : World), (Instr.makeFunc fn first cap).run Try.prog w = .ok (.func fn first cap) w := fun _ _ _ _ => rfl
  have hsf := fun (a : Addr) (c : Array Value) (w : World) => run_store Try.prog w a (.func (.func 75) #[] c) .plain rfl
  have hmm := make_map
  have HD := Lib.hid (DBox.start (c1 := c1) (c2 := c2) (L := L) S hx hy hS)
  have H := Lib.hid hd
  obtain ⟨h1, h2, h3, h4, -, h6, -, -⟩ := hd
  have hmk := make_ints 22 Try.underlying22 mt.length (by omega)
  have HM4 := Lib.hid h2
  have hN : mt.length ≤ 256 := by omega
  have k0 := HD.out.c0
  have k1 := HD.out.c1
  have k2 := HD.out.c2
  clear hx hy hS h6 h2
  obtain ⟨wA, hwA⟩ : ∃ x, w.alloc (.cells #[.slice A1 sg.length c1, .slice A2 mt.length c2, .int .i64 L] 24) = x := ⟨_, rfl⟩
  have hsA : wA.heap.size = w.heap.size + 1 := by rw [← hwA]; simp
  have HBA : Hid (Below w.heap.size w wA) := by rw [← hwA]; exact (Below.refl _ _).alloc (Nat.le_refl _) _
  have HI0 : Hid (R1 wA ((wA.alloc (.cells (Array.replicate mt.length (Value.int .i64 0)) 3)).alloc (.cells #[.slice (some ⟨w.heap.size + 1, 0, none⟩) mt.length mt.length] 22)) (w.heap.size + 1 + 1) (w.heap.size + 1) mt.length (List.replicate mt.length 0)) := by
    refine ⟨((Below.refl _ _).alloc (by omega) _).alloc (by simp; omega) _, ?_, ?_, by simp, rfl, by simp; omega⟩
    · have e : w.heap.size + 1 + 1 = (wA.alloc (.cells (Array.replicate mt.length (Value.int .i64 0)) 3)).heap.size := by simp; omega
      rw [e, cell_of_row _ _ _ _ _ _ (heap_alloc_new _ _)]; rfl
    · have := (OI.new wA (w.heap.size + 1) mt.length (by omega) (by unfold maxLen; omega)).alloc (.cells #[.slice (some ⟨w.heap.size + 1, 0, none⟩) mt.length mt.length] 22)
      rw [hsA] at this
      simpa using this
  rw [hwA] at HD k0 k1 k2
  have HSA := Lib.hid hsA
  have HWA := Lib.hid hwA
  rw [← hwA] at k0 k1 k2
  clear hsA hwA
  go_enter Try.func43, Try.ntmps43
  go_wp2_with fail
  rw [HWA.out] at k0 k1 k2 ⊢
  obtain ⟨W, hW⟩ : ∃ W, (wA.alloc (.cells (Array.replicate mt.length (Value.int .i64 0)) 3)).alloc (.cells #[.slice (some ⟨w.heap.size + 1, 0, none⟩) mt.length mt.length] 22) = W := ⟨_, rfl⟩
  rw [hW] at HI0 ⊢
  clear hW k0 k1 k2 HWA
  have HX0 : Hid (∀ x, x < 0 → gi (List.replicate mt.length 0) x = (x : Int)) := fun x h => by omega
  go_loopw [22] (fun i wr => ∃ (k : Nat) (p : List Int), k ≤ mt.length ∧ i = .int .i64 k ∧ Hid (R1 wA wr (w.heap.size + 1 + 1) (w.heap.size + 1) mt.length p) ∧ Hid (∀ x, x < k → gi p x = (x : Int))) (fun i _ => mt.length - (intOf i).toNat)
  case atStart => exact ⟨0, _, Nat.zero_le _, rfl, HI0, HX0⟩
  case round =>
    clear HI0 HX0
    obtain ⟨k, p, hk, rfl, HI, HX⟩ := hrel
    have k4 := HI.out.v4
    by_cases hlt : k < mt.length
    · obtain ⟨k5, k6⟩ := HI.out.at_ hlt
      have HI' := Lib.hid (HI.out.store k (k : Int))
      have HX' : Hid (∀ x, x < k + 1 → gi (p.set k (k : Int)) x = (x : Int)) := fun x hx => by
        rw [gi_set' (by rw [HI.out.len]; exact hlt)]
        split
        · rename_i e; rw [e]
        · exact HX.out x (by omega)
      go_wp2_with fail
      go_roundw
      case rel => exact ⟨k + 1, _, by omega, by go_num, HI', HX'⟩
      case measure => simp [intOf]; omega
    · obtain rfl : mt.length = k := by omega
      obtain ⟨b6, hb6⟩ : ∃ b, wr.heap.size = b := ⟨_, rfl⟩
      have hU0 := HI.out.done
      rw [hb6] at hU0
      have hbx : Below (w.heap.size + 1) wA (wr.alloc (.cells #[fnV (w.heap.size + 1 + 1) b6] 77)) := HI.out.bel.alloc (by have := HI.out.size; omega) _
      have hdx := HD.out.below (hbx.mono (by rw [HSA.out]; exact Nat.le_refl _))
      have q0 := hdx.c0
      have q1 := hdx.c1
      have HE0 : Hid (ES wA (wr.alloc (.cells #[fnV (w.heap.size + 1 + 1) b6] 77)) (w.heap.size + 1 + 1) b6 (w.heap.size + 1) mt.length []) :=
        ⟨p, _, _, hU0, UC.start HI.out.len (fun x hx => HX.out x hx), hbx, by have := HI.out.size; simp; omega⟩
      unfold fnV at HE0 q0 q1
      clear hU0 hbx hdx
      have HB6 := Lib.hid hb6
      rw [← hb6] at HE0 q0 q1
      clear hb6
      go_wp2_with fail
      rw [HB6.out] at HE0 q0 q1 ⊢
      obtain ⟨W2, hW2⟩ : ∃ W, wr.alloc (.cells #[.func (.func 75) #[] #[.pointer (some ⟨w.heap.size + 1 + 1, 0, none⟩), .pointer (some ⟨b6, 0, none⟩)]] 77) = W := ⟨_, rfl⟩
      rw [hW2] at HE0 ⊢
      have HB6E : Hid (b6 = w.heap.size + 1 + 2) := by rw [← HB6.out]; exact HI.out.size
      clear hW2 q0 q1 HI HX k4 hlt hk HB6
      go_loopw [34] (fun i wr => ∃ k : Nat, k ≤ mt.length ∧ i = .int .i64 k ∧ Hid (ES wA wr (w.heap.size + 1 + 1) b6 (w.heap.size + 1) mt.length (eA mt k))) (fun i _ => mt.length - (intOf i).toNat)
      case atStart => exact ⟨0, Nat.zero_le _, rfl, HE0⟩
      case round =>
        clear HE0
        obtain ⟨k, hk, rfl, HE⟩ := hrel
        by_cases hlt : k < mt.length
        · obtain ⟨p, R, d, hU, hC, hbl, hsz⟩ := HE.out
          have hdx := HD.out.below (hbl.mono (by rw [HSA.out]; exact Nat.le_refl _))
          obtain ⟨b, off, rfl, -, hc⟩ := hdx.rm.at_ (k := k) hlt
          have k4 := hc k hlt
          obtain ⟨e1, e2, -, -⟩ := H.out.2.2.2.2.2.1.gn hlt
          rw [e1] at k4
          obtain ⟨m, hm⟩ : ∃ m, gn mt k = m := ⟨_, rfl⟩
          rw [hm] at k4 e2
          have HMM := Lib.hid hm
          have hr1 := hC.uf.Rlt k hlt
          obtain ⟨x, hx⟩ : ∃ x, R k = x := ⟨_, rfl⟩
          obtain ⟨y, hy⟩ : ∃ x, R m = x := ⟨_, rfl⟩
          rw [hx] at hr1
          have HXX := Lib.hid hx
          have HYY := Lib.hid hy
          have HU := Lib.hid hU.drew
          have HC := Lib.hid hC
          have HBL := Lib.hid hbl
          have HSZ := Lib.hid hsz
          have c4 := hU.v4
          have c6 := hU.v6
          unfold fnV at c6
          have i1 : (0 : Int) ≤ (x : Int) ∧ (x : Int) < (mt.length : Int) := by omega
          clear hU hC hbl hsz hdx hc hm hx hy e1
          go_wp2_with fail
          go_region_held3 (fun w' => Hid (∃ p, UfW w' (w.heap.size + 1 + 1) b6 (w.heap.size + 1) mt.length p) ∧ w'.cell? ⟨w.heap.size + 1 + 1, 0, none⟩ = some (.slice (some ⟨w.heap.size + 1, 0, none⟩) mt.length mt.length) ∧ w'.cell? ⟨b6, 0, none⟩ = some (.func (.func 75) #[] #[.pointer (some ⟨w.heap.size + 1 + 1, 0, none⟩), .pointer (some ⟨b6, 0, none⟩)]))
            (first | exact uw_mk HU.out | exact uw_mk hU1 | exact uw_mk hU2 | exact uw_mk (hU2.store _ _))
            (first
              | (go_at_call 75; with_reducible (show Calls _ _ #[Value.int .i64 (k : Int), _, _] _ _); ((refine (find_at hlt rfl HU.out HC.out.uf).mono ?_); rintro e9 wa ⟨rfl, p1, hU1, hF1, hO1⟩; rw [HXX.out]))
              | (go_at_call 75; with_reducible (show Calls _ _ #[Value.int .i64 (m : Int), _, _] _ _); ((refine (find_at e2 rfl hU1 hF1).mono ?_); rintro e9 wb ⟨rfl, p2, hU2, hF2, hO2⟩; rw [HYY.out]; obtain ⟨cb, fb⟩ := hU2.at_ hr1)))
          have HE2 : Hid (ES wA (wb.setCell ⟨w.heap.size + 1, x, none⟩ (.int .i64 (y : Int))) (w.heap.size + 1 + 1) b6 (w.heap.size + 1) mt.length (eA mt (k + 1))) := by
            rw [eA_succ, HMM.out]
            exact ES.step HBL.out HSZ.out HC.out hO1 hO2 hU2 hF2 hlt e2 HXX.out HYY.out
          clear hU1 hU2 hF1 hF2 hO1 hO2 cb fb
          go_wp2_with fail
          go_roundw
          case rel => exact ⟨k + 1, by omega, by go_num, HE2⟩
          case measure => simp [intOf]; omega
        · obtain rfl : mt.length = k := by omega
          obtain ⟨p, R, d, hU, hC, hbl, hsz⟩ := HE.out
          have hdx := HD.out.below (hbl.mono (by rw [HSA.out]; exact Nat.le_refl _))
          have q0 := hdx.c0
          have q1 := hdx.c1
          have HE0 : Hid (ES wA wr (w.heap.size + 1 + 1) b6 (w.heap.size + 1) mt.length (eA mt mt.length ++ eB 0)) := by
            unfold eB; rw [List.range_zero, List.map_nil, List.append_nil]; exact HE.out
          clear hU hC hbl hsz hdx hlt HE
          go_wp2_with fail
          clear q0 q1
          go_loopw [51] (fun i wr => ∃ k : Nat, k ≤ sg.length ∧ i = .int .i64 k ∧ Hid (ES wA wr (w.heap.size + 1 + 1) b6 (w.heap.size + 1) mt.length (eA mt mt.length ++ eB k))) (fun i _ => sg.length - (intOf i).toNat)
          case atStart => exact ⟨0, Nat.zero_le _, rfl, HE0⟩
          case round =>
            clear HE0
            obtain ⟨k, hk, rfl, HE⟩ := hrel
            by_cases hlt : k < sg.length
            · obtain ⟨p, R, d, hU, hC, hbl, hsz⟩ := HE.out
              have hm4 := HM4.out
              have hl1 : 4 * k + 1 < mt.length := by omega
              have hl3 : 4 * k + 3 < mt.length := by omega
              have hr1 := hC.uf.Rlt _ hl1
              obtain ⟨x, hx⟩ : ∃ x, R (4 * k + 1) = x := ⟨_, rfl⟩
              obtain ⟨y, hy⟩ : ∃ x, R (4 * k + 3) = x := ⟨_, rfl⟩
              rw [hx] at hr1
              have HXX := Lib.hid hx
              have HYY := Lib.hid hy
              have HU := Lib.hid hU.drew
              have HC := Lib.hid hC
              have HBL := Lib.hid hbl
              have HSZ := Lib.hid hsz
              have c4 := hU.v4
              have c6 := hU.v6
              unfold fnV at c6
              have i1 : (0 : Int) ≤ (x : Int) ∧ (x : Int) < (mt.length : Int) := by omega
              have s1 : IntKind.i64.wrap (4 * (k : Int)) = 4 * (k : Int) := IntWalk.i64_in _ (by omega)
              have s2 : IntKind.i64.wrap (4 * (k : Int) + 1) = 4 * (k : Int) + 1 := IntWalk.i64_in _ (by omega)
              have s3 : IntKind.i64.wrap (4 * (k : Int) + 3) = 4 * (k : Int) + 3 := IntWalk.i64_in _ (by omega)
              clear hU hC hbl hsz hx hy hm4
              go_wp2_with fail
              go_region_held3 (fun w' => Hid (∃ p, UfW w' (w.heap.size + 1 + 1) b6 (w.heap.size + 1) mt.length p) ∧ w'.cell? ⟨w.heap.size + 1 + 1, 0, none⟩ = some (.slice (some ⟨w.heap.size + 1, 0, none⟩) mt.length mt.length) ∧ w'.cell? ⟨b6, 0, none⟩ = some (.func (.func 75) #[] #[.pointer (some ⟨w.heap.size + 1 + 1, 0, none⟩), .pointer (some ⟨b6, 0, none⟩)]))
                (first | exact uw_mk HU.out | exact uw_mk hU1 | exact uw_mk hU2 | exact uw_mk (hU2.store _ _))
                (first
                  | (go_at_call 75; with_reducible (show Calls _ _ #[Value.int .i64 (4 * (k : Int) + 1), _, _] _ _); ((refine (find_at hl1 (by omega) HU.out HC.out.uf).mono ?_); rintro e9 wa ⟨rfl, p1, hU1, hF1, hO1⟩; rw [HXX.out]))
                  | (go_at_call 75; with_reducible (show Calls _ _ #[Value.int .i64 (4 * (k : Int) + 3), _, _] _ _); ((refine (find_at hl3 (by omega) hU1 hF1).mono ?_); rintro e9 wb ⟨rfl, p2, hU2, hF2, hO2⟩; rw [HYY.out]; obtain ⟨cb, fb⟩ := hU2.at_ hr1)))
              have HE2 : Hid (ES wA (wb.setCell ⟨w.heap.size + 1, x, none⟩ (.int .i64 (y : Int))) (w.heap.size + 1 + 1) b6 (w.heap.size + 1) mt.length (eA mt mt.length ++ eB (k + 1))) := by
                rw [eB_succ, ← List.append_assoc]
                exact ES.step HBL.out HSZ.out HC.out hO1 hO2 hU2 hF2 hl1 hl3 HXX.out HYY.out
              clear hU1 hU2 hF1 hF2 hO1 hO2 cb fb s1 s2 s3
              go_wp2_with fail
              go_roundw
              case rel => exact ⟨k + 1, by omega, by go_num, HE2⟩
              case measure => simp [intOf]; omega
            · obtain rfl : sg.length = k := by omega
              obtain ⟨p, R, d, hU, hC, hbl, hsz⟩ := HE.out
              have hdx := HD.out.below (hbl.mono (by rw [HSA.out]; exact Nat.le_refl _))
              have hdm := hdx.below ((Below.refl _ _).alloc (Nat.le_refl _) (.map #[] 0))
              have q0 := hdx.c0
              have q1 := hdm.c1
              have HEV : Hid (EqvB (arR sg mt) mt.length) := jl_eqv hC.es_
              have HCL : Hid (∀ x y, x < mt.length → y < mt.length → (R x = R y ↔ arR sg mt x y = true)) := hC.cl
              have HRL : Hid (∀ x, x < mt.length → R x < mt.length) := hC.uf.Rlt
              have HN0 : Hid (NS wA ((wr.alloc (.map #[] 0)).alloc (.cells (Array.replicate mt.length (Value.int .i64 0)) 3)) (w.heap.size + 1 + 1) b6 (w.heap.size + 1) mt.length wr.heap.size (wr.heap.size + 1) (arR sg mt) R d 0 p (.map []) (List.replicate mt.length 0)) := by
                have hb6 := HB6E.out
                refine ⟨hU.same fun b hb _ => (Below.heap_alloc _ _ b (by simp; omega)).trans (Below.heap_alloc _ _ b hb), hC.uf, (World.ownsMap_made wr _ _ _).alloc _, ?_, by simp, (hbl.alloc (by omega) _).alloc (by simp; omega) _, KD.start _ _ _, fun x hx => by omega, ⟨rfl, hb6, by omega, by omega⟩⟩
                have := OI.new (wr.alloc (.map #[] 0)) (wr.heap.size + 1) mt.length (by simp) (by unfold maxLen; omega)
                simpa using this
              clear hU hC hbl hsz hdx hdm hlt HE
              go_wp2_with fail
              obtain ⟨bm, hbm⟩ : ∃ b, wr.heap.size = b := ⟨_, rfl⟩
              obtain ⟨W3, hW3⟩ : ∃ W, (wr.alloc (.map #[] 0)).alloc (.cells (Array.replicate mt.length (Value.int .i64 0)) 3) = W := ⟨_, rfl⟩
              rw [hW3, hbm] at HN0
              rw [hW3, hbm]
              clear hW3 hbm q0 q1 hmk hmm hmf hsf
              go_loopw [77] (fun i wr => ∃ (k : Nat) (p : List Int) (D : DataW Unit) (q : List Int), k ≤ mt.length ∧ i = .int .i64 k ∧ Hid (NS wA wr (w.heap.size + 1 + 1) b6 (w.heap.size + 1) mt.length bm (bm + 1) (arR sg mt) R d k p D q)) (fun i _ => mt.length - (intOf i).toNat)
              case atStart => exact ⟨0, _, _, _, Nat.zero_le _, rfl, HN0⟩
              case round =>
                clear HN0
                obtain ⟨k, p, D, q, hk, rfl, HNS⟩ := hrel
                by_cases hlt : k < mt.length
                · have c4 := HNS.out.uw.v4
                  have c6 := HNS.out.uw.v6
                  unfold fnV at c6
                  obtain ⟨x, hx⟩ : ∃ x, R k = x := ⟨_, rfl⟩
                  have hxl := HRL.out k hlt
                  rw [hx] at hxl
                  have HXX := Lib.hid hx
                  clear hx
                  go_wp2_with fail
                  refine (find_at hlt rfl HNS.out.uw HNS.out.uf).mono ?_
                  rintro e wa ⟨rfl, p1, hU1, hF1, hO1⟩
                  rw [HXX.out]
                  have HN1 := Lib.hid (HNS.out.call hU1 hF1 hO1)
                  clear hU1 hF1 hO1 HNS c4 c6
                  obtain ⟨k5, k6⟩ := HN1.out.at_ hlt
                  have hkey : keyOf Try.prog 3 (.int .i64 (x : Int)) = some (.int .i64 (x : Int)) := keyOf_int_mk Try.underlying3 (wf64 (by omega) (by omega))
                  have hown := HN1.out.map
                  have hhas := HN1.out.kd.has_ k hlt
                  rw [HXX.out] at hhas
                  by_cases hl : lo (arR sg mt) k < k
                  · rw [decide_eq_true hl] at hhas
                    have hK := HN1.out.kd.old HEV.out hlt hl
                    have HVA := Lib.hid (hK.at_ k hlt (by omega))
                    have HKK := Lib.hid hK
                    clear hK
                    go_wp2_with (first
                      | (at_lookup; refine wpList_lookup_own_ok_int _ rfl _ _ 87 rfl 3 3 .i64 keyed_int Try.underlying87 Try.underlying3 (zero_int _) bm k _ rfl hown _ _ rfl hkey ?_; intro c hat hwc)
                      | (at_lookup; refine wpList_lookup_own_int _ rfl _ _ 87 rfl 3 3 .i64 keyed_int Try.underlying87 Try.underlying3 (zero_int _) bm k _ rfl hown _ _ rfl hkey ?_; intro c2 hat2 hwc2)
                      | go_in)
                    have HV2 := HVA.out
                    rw [HXX.out] at HV2
                    have HN2 := Lib.hid (HN1.out.store hlt HKK.out (at_eq HV2 hat2))
                    clear hat2 hwc2 hat hwc HV2 HVA hown hhas hkey k5 k6
                    go_roundw
                    case rel => exact ⟨k + 1, _, _, _, by omega, by go_num, HN2⟩
                    case measure => simp [intOf]; omega
                  · rw [decide_eq_false hl] at hhas
                    have hK := HN1.out.kd.new HEV.out HCL.out hlt hl
                    have hsz : ((Maps.size D : Nat) : Int) = (clN (arR sg mt) k : Int) := by
                      have h1 := (lo_spec HEV.out hlt).1
                      have : lo (arR sg mt) k = k := by omega
                      rw [HN1.out.kd.size]; unfold clN; rw [this]
                    obtain ⟨m, hm⟩ : ∃ m, Maps.size D = m := ⟨_, rfl⟩
                    have hmk : m ≤ k := by rw [← hm, HN1.out.kd.size]; exact cnt_le _ _
                    rw [← hsz, hm] at hK
                    have HVA := Lib.hid (hK.at_ k hlt (by have := (lo_spec HEV.out hlt).1; omega))
                    rw [HXX.out] at hK HVA
                    have HKK := Lib.hid hK
                    have HMM := Lib.hid hm
                    clear hK hsz
                    go_wp2_with (first
                      | (at_lookup; refine wpList_lookup_own_ok_int _ rfl _ _ 87 rfl 3 3 .i64 keyed_int Try.underlying87 Try.underlying3 (zero_int _) bm k _ rfl hown _ _ rfl hkey ?_; intro c hat hwc)
                      | (at_len; refine wpList_len_own _ rfl _ 87 rfl 3 3 Try.underlying87 _ bm k _ rfl hown ?_; rw [HMM.out])
                      | (at_mapUpdate; refine wpList_mapUpdate_own _ rfl _ _ _ 87 rfl 3 3 keyed_int Try.underlying87 _ bm k _ rfl hown (by unfold maxLen; omega) _ _ _ rfl rfl hkey _ [] (plainElem_int Try.underlying3 (wf64 (by omega) (by omega))) ?_; intro w8 hown8 hgrow8; obtain ⟨-, HR8, -⟩ := HN1.out.put hgrow8; obtain ⟨-, -, -, -, hc8, hf8⟩ := HR8.ints_at (by have := HN1.out.qlen; omega); replace hc8 := hc8 k (by have := HN1.out.qlen; omega); replace hf8 := hf8 k)
                      | (at_lookup; refine wpList_lookup_own_int _ rfl _ _ 87 rfl 3 3 .i64 keyed_int Try.underlying87 Try.underlying3 (zero_int _) bm (k + 1) _ rfl hown8 _ _ rfl hkey ?_; intro c2 hat2 hwc2)
                      | go_in)
                    have HV2 := HVA.out
                    have HN2 := Lib.hid (HN1.out.store2 hown8 hgrow8 hlt HKK.out (at_eq HV2 hat2))
                    clear hat2 hwc2 hat hwc HV2 HVA hown hhas hkey k5 k6 hown8 hgrow8 HR8 hc8 hf8
                    go_roundw
                    case rel => exact ⟨k + 1, _, _, _, by omega, by go_num, HN2⟩
                    case measure => simp [intOf]; omega
                · obtain rfl : mt.length = k := by omega
                  have hown := HNS.out.map
                  obtain ⟨m, hm⟩ : ∃ m, Maps.size D = m := ⟨_, rfl⟩
                  have hmc : m = arC sg mt := by rw [← hm, HNS.out.kd.size]; rfl
                  have HMM := Lib.hid hm
                  clear hm
                  go_wp2_with (first
                    | (at_len; refine wpList_len_own _ rfl _ 87 rfl 3 3 Try.underlying87 _ bm mt.length _ rfl hown ?_; rw [HMM.out])
                    | go_in)
                  go_ret2
                  have hq : q = arL sg mt := by
                    refine ext_gi (by rw [HNS.out.qlen]; simp [arL]) fun j hj => ?_
                    rw [HNS.out.qlen] at hj
                    rw [HNS.out.val j hj]
                    unfold arL arN
                    simp [gi, hj]
                  obtain ⟨-, -, -, e4⟩ := HNS.out.apart
                  refine ⟨.slice (some ⟨bm + 1, 0, none⟩) mt.length mt.length, by rw [← hmc]; rfl, ?_, HBA.out.trans (HNS.out.bel.mono (by omega))⟩
                  rw [← hq]
                  exact HNS.out.row.mono (by omega)
end
end Go.Proofs.Ytcjgfncbecbhjaa

