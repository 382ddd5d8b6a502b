/-
  The contract of wirtinger.Of.
-/
import Derived.Test.YtcjgfncbecbhjaaOfM
import Derived.Test.YtcjgfncbecbhjaaRLists
import Derived.Deep.DeepCutAuto
import Derived.Deep.RegionLaw
namespace Go.Proofs.Ytcjgfncbecbhjaa
open Go.RowKit

/-- a block that holds a group -/
def GBox (w : World) (b : Nat) (g : Int) (v2 v3 : Value) : Prop := w.heap[b]? = some (.cells #[.int .i64 g, v2, v3] 35 (0, 0))
theorem GBox.cells {w : World} {b : Nat} {g : Int} {v2 v3 : Value} (h : GBox w b g v2 v3) : w.cell? ⟨b, 0, none⟩ = some (.int .i64 g) ∧ w.cell? ⟨b, 1, none⟩ = some v2 ∧ w.cell? ⟨b, 2, none⟩ = some v3 := by
  unfold GBox at h
  exact ⟨by rw [cell_of_row _ _ _ _ _ _ h]; rfl, by rw [cell_of_row _ _ _ _ _ _ h]; rfl, by rw [cell_of_row _ _ _ _ _ _ h]; rfl⟩
theorem GBox.free {w : World} {b : Nat} {g : Int} {v2 v3 : Value} (h : GBox w b g v2 v3) (k : Nat) : w.frozen? ⟨b, k, none⟩ = false := by
  unfold GBox at h
  simp [World.frozen?, h]
theorem GBox.lt {w : World} {b : Nat} {g : Int} {v2 v3 : Value} (h : GBox w b g v2 v3) : b < w.heap.size := lt_of_block h
theorem GBox.keep {w w' : World} {b : Nat} {g : Int} {v2 v3 : Value} (h : GBox w b g v2 v3) (hk : w'.heap[b]? = w.heap[b]?) : GBox w' b g v2 v3 := hk.trans h
theorem of_keep {w2 w' : World} {bd : Nat} {A1 A2 : Option Addr} {c1 c2 : Nat} {sg mt : List Int} {L : Int} (h : DBox w2 bd A1 A2 c1 c2 sg mt L) (hb : Below w2.heap.size w2 w') : Hid (Below w2.heap.size w2 w') ∧ w'.cell? ⟨bd, 2, none⟩ = some (.int .i64 L) := ⟨hb, (h.below hb).c2⟩
/-- the group and its row of components are made -/
structure O4 (w2 w : World) (gb cb n : Nat) (q : List Int) : Prop where
  bel : Below w2.heap.size w2 w
  gbx : GBox w gb (n : Int) (.slice (some ⟨cb, 0, none⟩) n n) (.slice none 0 0)
  row : OI w cb (.slice (some ⟨cb, 0, none⟩) n n) q
  len : q.length = n
  ge : w2.heap.size ≤ gb ∧ w2.heap.size ≤ cb ∧ cb < w.heap.size ∧ gb ≠ cb
theorem O4.mk1 (w2 : World) (n : Nat) (g : Int) (hg : g = (n : Int)) (hn : n ≤ maxLen) : O4 w2 ((w2.alloc (.cells (Array.replicate n (Value.int .i64 0)) 3)).alloc (.cells #[.int .i64 g, .slice (some ⟨w2.heap.size, 0, none⟩) n n, .slice none 0 0] 35)).drew (w2.heap.size + 1) w2.heap.size n (List.replicate n 0) := by
  subst hg
  refine ⟨((Below.refl _ _).alloc (Nat.le_refl _) _).alloc (by simp) _ |>.drew, ?_, ?_, by simp, ⟨by omega, by omega, by simp; omega, by omega⟩⟩
  · have := heap_alloc_new (w2.alloc (.cells (Array.replicate n (Value.int .i64 0)) 3)) (.cells #[.int .i64 (n : Int), .slice (some ⟨w2.heap.size, 0, none⟩) n n, .slice none 0 0] 35)
    show ((w2.alloc _).alloc _).heap[_]? = _
    simpa using this
  · have := (OI.new w2 w2.heap.size n (Nat.le_refl _) hn).alloc (.cells #[.int .i64 (n : Int), .slice (some ⟨w2.heap.size, 0, none⟩) n n, .slice none 0 0] 35)
    exact OR.drewN (by simpa using this) 1
theorem O4.mk2 (w2 : World) (n : Nat) (g : Int) (hg : g = (n : Int)) (hn : n ≤ maxLen) : O4 w2 ((w2.alloc (.cells #[.int .i64 g, .slice (some ⟨w2.heap.size + 1, 0, none⟩) n n, .slice none 0 0] 35)).alloc (.cells (Array.replicate n (Value.int .i64 0)) 3)).drew w2.heap.size (w2.heap.size + 1) n (List.replicate n 0) := by
  subst hg
  refine ⟨((Below.refl _ _).alloc (Nat.le_refl _) _).alloc (by simp) _ |>.drew, ?_, ?_, by simp, ⟨by omega, by omega, by simp, by omega⟩⟩
  · have := heap_alloc_new w2 (.cells #[.int .i64 (n : Int), .slice (some ⟨w2.heap.size + 1, 0, none⟩) n n, .slice none 0 0] 35)
    exact GBox.keep (by simpa [GBox] using this) (Below.heap_alloc _ _ _ (by simp))
  · have := OI.new (w2.alloc (.cells #[.int .i64 (n : Int), .slice (some ⟨w2.heap.size + 1, 0, none⟩) n n, .slice none 0 0] 35)) (w2.heap.size + 1) n (by simp) hn
    exact OR.drewN (by simpa using this) 1
/-- while the row of the components is filled -/
structure CpS (w3 w : World) (cb n : Nat) (q : List Int) : Prop where
  onl : Onl cb w3 w
  row : OI w cb (.slice (some ⟨cb, 0, none⟩) n n) q
  len : q.length = n
theorem CpS.at_ {w3 w : World} {cb n : Nat} {q : List Int} (h : CpS w3 w cb n q) {j : Nat} (hj : j < n) : w.cell? ⟨cb, j, none⟩ = some (.int .i64 (gi q j)) ∧ w.frozen? ⟨cb, j, none⟩ = false := by
  have hl := h.len
  obtain ⟨-, -, -, -, hc, hf⟩ := h.row.ints_at (by omega)
  exact ⟨hc j (by omega), hf j⟩
theorem CpS.drew {w3 w : World} {cb n : Nat} {q : List Int} (h : CpS w3 w cb n q) : CpS w3 w.drew cb n q := ⟨h.onl.drew, h.row.drewN 1, h.len⟩
theorem CpS.store {w3 w : World} {cb n : Nat} {q : List Int} (h : CpS w3 w cb n q) (j : Nat) (y : Int) : CpS w3 (w.setCell ⟨cb, j, none⟩ (.int .i64 y)) cb n (q.set j y) := by
  have h1 : OI w cb (.slice (some ⟨cb, 0, none⟩) q.length n) q := by rw [h.len]; exact h.row
  have h2 := OR.stored (k := j) h1 y
  rw [List.length_set, h.len] at h2
  exact ⟨h.onl.set j _, h2, by rw [List.length_set]; exact h.len⟩
theorem word_info : (Try.prog.info? 42).map (fun i => (i.zero, i.size, i.bytes)) = some (some (.slice none 0 0), 1, 24) := by kernel_rfl
/-- while the relators are laid -/
structure WdS (w4 w : World) (gb : Nat) (g : Int) (v2 v3 : Value) (wss : List (List Int)) : Prop where
  bel : Below gb w4 w
  keep : ∀ b, b < w4.heap.size → b ≠ gb → w.heap[b]? = w4.heap[b]?
  gbx : GBox w gb g v2 v3
  row : RR 42 w w4.heap.size (fun _ => False) v3 wss
theorem WdS.below {w4 w w' : World} {gb : Nat} {g : Int} {v2 v3 : Value} {wss : List (List Int)} (h : WdS w4 w gb g v2 v3 wss) (hb : Below w.heap.size w w') (hg : gb < w4.heap.size) : WdS w4 w' gb g v2 v3 wss := by
  have hs := h.bel.size
  exact ⟨h.bel.trans (hb.mono (by omega)), fun b h1 h2 => (hb.block b (by omega)).trans (h.keep b h1 h2), h.gbx.keep (hb.block gb h.gbx.lt), h.row.below hb (Nat.le_refl _)⟩
theorem GBox.set2 {w : World} {b : Nat} {g : Int} {v2 v3 : Value} (h : GBox w b g v2 v3) (v : Value) : GBox (w.setCell ⟨b, 2, none⟩ v) b g v2 v := by
  unfold GBox at h ⊢
  have hlt := lt_of_block h
  have h' : w.heap[b] = .cells #[.int .i64 g, v2, v3] 35 (0, 0) := by simpa [Array.getElem?_eq_getElem hlt] using h
  show (w.heap.modify b _)[b]? = _
  rw [Array.getElem?_eq_getElem (by simpa using hlt), Array.getElem_modify_self, h']
  rfl
theorem GBox.set0 {w : World} {b : Nat} {g : Int} {v2 v3 : Value} (h : GBox w b g v2 v3) (y : Int) : GBox (w.setCell ⟨b, 0, none⟩ (.int .i64 y)) b y v2 v3 := by
  unfold GBox at h ⊢
  have hlt := lt_of_block h
  have h' : w.heap[b] = .cells #[.int .i64 g, v2, v3] 35 (0, 0) := by simpa [Array.getElem?_eq_getElem hlt] using h
  show (w.heap.modify b _)[b]? = _
  rw [Array.getElem?_eq_getElem (by simpa using hlt), Array.getElem_modify_self, h']
  rfl
theorem GBox.set1 {w : World} {b : Nat} {g : Int} {v2 v3 : Value} (h : GBox w b g v2 v3) (v : Value) : GBox (w.setCell ⟨b, 1, none⟩ v) b g v v3 := by
  unfold GBox at h ⊢
  have hlt := lt_of_block h
  have h' : w.heap[b] = .cells #[.int .i64 g, v2, v3] 35 (0, 0) := by simpa [Array.getElem?_eq_getElem hlt] using h
  show (w.heap.modify b _)[b]? = _
  rw [Array.getElem?_eq_getElem (by simpa using hlt), Array.getElem_modify_self, h']
  rfl
/-- a block is written, three cells of it -/
theorem three_sets {w : World} {b : Nat} (u0 u1 u2 : Value) {k : Nat} (hk : k ≠ b) : (((w.setCell ⟨b, 0, none⟩ u0).setCell ⟨b, 1, none⟩ u1).setCell ⟨b, 2, none⟩ u2).heap[k]? = w.heap[k]? := by
  rw [Below.heap_setCell _ _ _ k hk, Below.heap_setCell _ _ _ k hk, Below.heap_setCell _ _ _ k hk]
theorem WdS.push {w4 wb w6 : World} {gb : Nat} {g : Int} {v2 vs vr v' : Value} {wss : List (List Int)} {x : List Int} {vl : List Value} (h : WdS w4 wb gb g v2 vs wss) (hg : gb < w4.heap.size) (hv : RRv 42 wb w4.heap.size (fun _ => False) vs vl wss)
    (hu : OI wb w4.heap.size vr x) (ho : OR 42 id w6 w4.heap.size v' (vl ++ [vr])) (hgr : (wb.alloc (.cells #[vr] 42)).grownBy w6 vs.ownBlock) (hob : v'.ownBlock = vs.ownBlock ∨ v'.ownBlock = some (wb.heap.size + 1)) :
    WdS w4 (w6.setCell ⟨gb, 2, none⟩ v') gb g v2 v' (wss ++ [x]) := by
  have hne : ∀ b, b < w4.heap.size → some b ≠ vs.ownBlock := fun b hb e => by
    have := (hv.1.lt b e.symm).1
    omega
  have hs := h.bel.size
  have hk : ∀ b, b < w4.heap.size → w6.heap[b]? = wb.heap[b]? := fun b hb => (hgr.block b (by simp; omega) (hne b hb)).trans (Below.heap_alloc _ _ b (by omega))
  have hp : RRv 42 w6 w4.heap.size (fun _ => False) v' (vl ++ [vr]) (wss ++ [x]) := hv.push (by decide) hu (fun _ _ h => h) (fun _ h => h.elim) ho hgr hob
  have hb6 : Below gb w4 w6 := (h.bel.alloc (by omega) _).grown hgr (by simp; omega) (fun j hj => by have := (hv.1.lt j hj).1; omega)
  refine ⟨hb6.setCell (Nat.le_refl _) _, fun b h1 h2 => (Below.heap_setCell _ _ _ b h2).trans ((hk b h1).trans (h.keep b h1 h2)), (h.gbx.keep (hk gb hg)).set2 v', ?_⟩
  exact RR.keep ⟨_, hp⟩ fun b h1 _ _ => Below.heap_setCell _ _ _ b (by show b ≠ gb; omega)
theorem WdS.field {w4 wb w6 : World} {gb : Nat} {g : Int} {v2 vs vr : Value} {wss : List (List Int)} {vl : List Value} (h : WdS w4 wb gb g v2 vs wss) (hg : gb < w4.heap.size) (hv : RRv 42 wb w4.heap.size (fun _ => False) vs vl wss)
    (hgr : (wb.alloc (.cells #[vr] 42)).grownBy w6 vs.ownBlock) : w6.cell? ⟨gb, 2, none⟩ = some vs ∧ w6.frozen? ⟨gb, 2, none⟩ = false := by
  have hs := h.bel.size
  have hk : w6.heap[gb]? = wb.heap[gb]? := (hgr.block gb (by simp; omega) (fun e => by have := (hv.1.lt gb e.symm).1; omega)).trans (Below.heap_alloc _ _ gb (by omega))
  exact ⟨(h.gbx.keep hk).cells.2.2, (h.gbx.keep hk).free 2⟩
theorem bd4 {a b c d : Int} (ha : -1000 ≤ a ∧ a ≤ 1000) (hb : -1000 ≤ b ∧ b ≤ 1000) (hc : -1000 ≤ c ∧ c ≤ 1000) (hd : -1000 ≤ d ∧ d ≤ 1000) : Bd [a, b, c, d] := by
  intro k hk
  simp only [List.length_cons, List.length_nil] at hk
  rcases (by omega : k = 0 ∨ k = 1 ∨ k = 2 ∨ k = 3) with rfl | rfl | rfl | rfl <;> simp [gi] <;> omega
/-- four letters are appended to an empty word -/
theorem app4 {ops : Array Oper} {rest : List Oper} {o : Oper} {a : Act} {Q : Exit → Act → World → Prop} {w : World} {s x : Operand} {t : TypeId} {n1 n2 n3 n4 : Int}
    (hgd : o.guard = none) (ho : o.op = .call { callee := .builtin .append, args := #[s, x], argTypes := #[t, t] })
    (ht : Try.prog.underlying t = some (.slice 3)) (hs : a.eval s = .slice none 0 0) (hx : a.eval x = .slice (some ⟨w.heap.size, 0, none⟩) 4 4)
    (h : ∀ v' w', OI w' w.heap.size v' [n1, n2, n3, n4] → Below w.heap.size w w' → wpList Try.prog ops Q rest (a.put o.dst v') w') :
    wpList Try.prog ops Q (o :: rest) a (w.alloc (.cells #[.int .i64 n1, .int .i64 n2, .int .i64 n3, .int .i64 n4] 3)) := by
  refine wpList_plain hgd fun _ hK => ?_
  obtain ⟨i0, hi, hz0, hz1, hz2⟩ := info_parts int_info
  have hr := heap_alloc_new w (.cells #[.int .i64 n1, .int .i64 n2, .int .i64 n3, .int .i64 n4] 3)
  have hcells : ∀ j u, ([n1, n2, n3, n4].map (Value.int .i64))[j]? = some u → (w.alloc (.cells #[.int .i64 n1, .int .i64 n2, .int .i64 n3, .int .i64 n4] 3)).cell? ((⟨w.heap.size, 0, none⟩ : Addr).add j) = some u := by
    intro j u hu
    rw [Addr.add_lit, Nat.zero_add, cell_of_row _ _ _ _ _ _ hr]
    simpa using hu
  have hown : OI (w.alloc (.cells #[.int .i64 n1, .int .i64 n2, .int .i64 n3, .int .i64 n4] 3)) w.heap.size (.slice none 0 0) [] := OR.nil _ _
  obtain ⟨v', w', hrun, h2, h3, _, h5⟩ := run_append_own_at (P := Try.prog) (w.alloc (.cells #[.int .i64 n1, .int .i64 n2, .int .i64 n3, .int .i64 n4] 3)) w.heap.size t o.type 3 i0 (.int .i64 0) 1 8 ht hi hz0 hz1 hz2 rfl (by decide) (.slice none 0 0) 0 _ hown
    ⟨w.heap.size, 0, none⟩ 4 4 ([n1, n2, n3, n4].map (Value.int .i64)) (by simp) hcells (ints_oneCell _ _) (by unfold maxLen; omega) (by omega) (by simp)
  have h6 : OI w' w.heap.size v' [n1, n2, n3, n4] := by
    show OR _ _ _ _ _ _
    unfold OR
    simpa using h2
  unfold Oper.wp execOp
  simp only [ho, resolve, invoke, builtin, Sem.run_bind, Sem.run_pure, Result.andThen_ok, List.map_toArray, List.map_cons, List.map_nil, hs, hx, hrun]
  exact hK _ _ (h v' w' h6 (((Below.refl w.heap.size w).alloc (Nat.le_refl _) _).grown h3 (by simp) (fun j hj => by simp [Value.ownBlock] at hj)))
section
variable (A1 A2 : Option Addr) (c1 c2 : Nat) (sg mt : List Int) (L : Int) (w : World) (S : Nat → Prop) (hx : RI w S A1 sg) (hy : RI w S A2 mt) (hS : ∀ b, S b → b < w.heap.size)
include hx hy hS
set_option maxRecDepth 100000 in
set_option maxHeartbeats 8000000 in
theorem of_ok (hd : IsD sg mt L) :
    Calls Try.prog 18 #[.agg #[.slice A1 sg.length c1, .slice A2 mt.length c2, .int .i64 L]] w fun e w' => ∃ v2 v3, e = .returned (.tuple #[.agg #[.int .i64 ((arC sg mt : Int) + L), v2, v3], .int .i64 0]) ∧ OI w' w.heap.size v2 (cmpL sg mt L.toNat) ∧ RR 42 w' w.heap.size (fun _ => False) v3 (wrdL sg mt sg.length) ∧ Below w.heap.size w w' := by
  have HD := Lib.hid (DBox.start (c1 := c1) (c2 := c2) (L := L) S hx hy hS)
  have H := Lib.hid hd
  have hcn : arC sg mt ≤ 256 := by
    have h1 := cnt_le (headB (arR sg mt)) mt.length
    have h2 := hd.1
    have h3 := hd.2.1
    unfold arC; omega
  obtain ⟨m, hm⟩ : ∃ m, arC sg mt = m := ⟨_, rfl⟩
  rw [hm] at hcn ⊢
  have HM := Lib.hid hm
  obtain ⟨l, rfl⟩ : ∃ l : Nat, L = (l : Int) := ⟨L.toNat, by have := hd.2.2.1; omega⟩
  have hL2 : l ≤ 64 := by have := hd.2.2.2.1; omega
  have hm1 : sg.length ≤ maxLen := by have := hd.1; unfold maxLen; omega
  have hm2 : mt.length ≤ maxLen := by have := hd.1; have := hd.2.1; unfold maxLen; omega
  have hs1 : IntKind.i64.wrap ((m : Int) + (l : Int)) = (m : Int) + (l : Int) := IntWalk.i64_in _ (by omega)
  clear hx hy hS hd hm
  go_enter Try.func18, Try.ntmps18
  go_wp2_with fail
  refine (dvalid_is _ true ((HD.out.below ((Below.refl _ _).alloc (Nat.le_refl _) _)).rs) ((HD.out.below ((Below.refl _ _).alloc (Nat.le_refl _) _)).rm) (fun _ h => h) hm1 hm2 (decide_eq_true H.out)).mono ?_
  rintro e w1 ⟨rfl, hb1⟩
  have HD1 := Lib.hid ((HD.out.below ((Below.refl _ _).alloc (Nat.le_refl _) _)).below hb1)
  have HG1 : Hid (GBox w1 (w.heap.size + 1) 0 (.slice none 0 0) (.slice none 0 0)) := by
    have := heap_alloc_new (w.alloc (.cells #[.slice A1 sg.length c1, .slice A2 mt.length c2, .int .i64 (l : Int)] 24)) (.cells #[.int .i64 0, .slice none 0 0, .slice none 0 0] 35)
    refine GBox.keep (by simpa [GBox] using this) (hb1.block _ (by simp))
  have k0 := HD1.out.c0
  have k1 := HD1.out.c1
  have k2 := HD1.out.c2
  have HB1 : Hid (Below w.heap.size w w1) := (((Below.refl w.heap.size w).alloc (Nat.le_refl _) _).alloc (by simp) _).trans (hb1.mono (by simp; omega))
  have hz1 : w.heap.size + 2 ≤ w1.heap.size := by have := hb1.size; simp at this; omega
  clear hb1 HD
  go_wp2_with fail
  refine (arcs_ok A1 A2 c1 c2 sg mt (l : Int) w1 (· < w1.heap.size) HD1.out.rs HD1.out.rm (fun _ h => h) H.out).mono ?_
  rintro e w2 ⟨va, rfl, ho, hb2⟩
  rw [HM.out]
  have hz2 : w.heap.size + 2 ≤ w2.heap.size := by have := hb2.size; omega
  have HO2 := Lib.hid (ho.mono (Nat.le_trans (Nat.le_add_right _ 2) hz1))
  have HB2 := Lib.hid (HB1.out.trans (hb2.mono (by omega)))
  have HD2 := Lib.hid (HD1.out.below hb2)
  have HG2 : Hid (GBox w2 (w.heap.size + 1) 0 (.slice none 0 0) (.slice none 0 0)) := HG1.out.keep (hb2.block _ (by omega))
  clear k0 k1 k2 ho hb2 HD1 HB1 HG1 hz1
  have k2 := HD2.out.c2
  have hmk : ∀ w : World, (Instr.makeSlice 22 (.int .i64 ((m : Int) + (l : Int))) (.int .i64 ((m : Int) + (l : Int)))).run Try.prog w = .ok (.slice (some ⟨w.heap.size, 0, none⟩) (m + l) (m + l)) (w.alloc (.cells (List.replicate (m + l) (Value.int .i64 0)).toArray 3)) := fun w => by
    have := make_ints 22 Try.underlying22 (m + l) (by omega) w
    rwa [Int.natCast_add] at this
  go_wp2_with fail
  go_cut [6] (fun v wx => ∃ gb cb : Nat, v = .pointer (some ⟨gb, 0, none⟩) ∧ Hid (O4 w2 wx gb cb (m + l) (List.replicate (m + l) 0)))
  case first =>
    go_region_held3 (fun w' => Hid (Below w2.heap.size w2 w') ∧ w'.cell? ⟨w.heap.size, 2, none⟩ = some (.int .i64 (l : Int))) ((refine of_keep HD2.out ?_; (repeat (first | exact Below.refl _ _ | refine Below.drew ?_ | refine Below.alloc ?_ (by simp <;> omega) _)))) (fail)
    all_goals
      go_wp2_with fail
      go_meet
    case rel => exact ⟨_, _, rfl, O4.mk1 w2 (m + l) _ (by simp) (by unfold maxLen; omega)⟩
    case rel => exact ⟨_, _, rfl, O4.mk2 w2 (m + l) _ (by simp) (by unfold maxLen; omega)⟩
  case rest =>
    obtain ⟨gb, cb, rfl, HO4⟩ := hcut
    have HDc := Lib.hid (HD2.out.below HO4.out.bel)
    have k0 := HDc.out.c0
    have k1 := HDc.out.c1
    have k2 := HDc.out.c2
    clear hmk hs1
    go_wp2_with fail
    refine (strands_ok A1 A2 c1 c2 sg mt (l : Int) wc (· < wc.heap.size) HDc.out.rs HDc.out.rm (fun _ h => h) H.out).mono ?_
    rintro e w3 ⟨vs, rfl, hr, hb3⟩
    have HB3 := Lib.hid (HO4.out.bel.trans (hb3.mono HO4.out.bel.size))
    have HD3 := Lib.hid (HDc.out.below hb3)
    have HG3 : Hid (GBox w3 (w.heap.size + 1) 0 (.slice none 0 0) (.slice none 0 0)) := HG2.out.keep (HB3.out.block _ (by omega))
    have HGG : Hid (GBox w3 gb ((m + l : Nat) : Int) (.slice (some ⟨cb, 0, none⟩) (m + l) (m + l)) (.slice none 0 0)) := HO4.out.gbx.keep (hb3.block _ HO4.out.gbx.lt)
    have HC3 : Hid (CpS w3 w3 cb (m + l) (cpK sg mt 0 (List.replicate (m + l) 0))) := ⟨Onl.refl _ _, HO4.out.row.keep fun g hg => hb3.block g (HO4.out.row.lt g hg).2, by rw [cpK_len]; simp⟩
    have HGE := Lib.hid HO4.out.ge
    obtain ⟨Aa, ca, hva, -, -, hra⟩ := HO2.out.reads
    rw [arL_len] at hva
    subst hva
    have HRA := Lib.hid (hra.keep (w' := w3) fun b hb => HB3.out.block b hb.2)
    clear hra
    obtain ⟨As, cs, rfl, hrl⟩ := hr.reads
    have HRL := Lib.hid hrl
    have HBB := Lib.hid (HB2.out.trans (HB3.out.mono (by omega)))
    have hz3 := hb3.size
    obtain ⟨ns, hns⟩ : ∃ n, (strandsL sg mt).length = n := ⟨_, rfl⟩
    have hnsb : ns ≤ 256 := by
      have h1 := strandsL_most sg mt
      have h2 := H.out.1
      have h3 := H.out.2.1
      omega
    rw [rows_cycs_length, hns]
    have HNS := Lib.hid hns
    clear hr hrl hb3 HO4 HDc k0 k1 k2 hns HO2 HG2 HB2
    go_wp2_with fail
    go_loopw [42] (fun i wr => ∃ k : Nat, k ≤ ns ∧ i = .int .i64 k ∧ Hid (CpS w3 wr cb (m + l) (cpK sg mt k (List.replicate (m + l) 0)))) (fun i _ => ns - (intOf i).toNat)
    case atStart => exact ⟨0, Nat.zero_le _, rfl, HC3⟩
    case round =>
      clear HC3
      obtain ⟨i, hi, rfl, HC⟩ := hrel
      by_cases hlt : i < ns
      · have hil : i < (strandsL sg mt).length := by rw [HNS.out]; exact hlt
        have hRL := HRL.out.keep (w' := wr) (fun b hb => HC.out.onl.keep b (by have := HGE.out.2.2.1; omega))
        obtain ⟨b, off, rfl, -, hc⟩ := hRL.at_ (k := i) (by rw [rows_cycs_length]; exact hil)
        obtain ⟨Ak, ck, k3, r3, -⟩ := hc i (by rw [rows_cycs_length]; exact hil)
        rw [rows_getD hil, stN_eq hil] at k3 r3
        rw [ints_length] at k3
        have HR7 := Lib.hid r3
        obtain ⟨lj, hlj⟩ : ∃ n, (stN sg mt i).length = n := ⟨_, rfl⟩
        have hljb : lj ≤ 256 := by
          have h1 := stN_len H.out.2.2.2.2.2.1 H.out.2.1 hil
          have h2 := H.out.1
          have h3 := H.out.2.1
          omega
        rw [hlj] at k3
        have HLJ := Lib.hid hlj
        have HIL := Lib.hid hil
        have HW7 := HC
        rw [← cpJ_zero sg mt i (cpK sg mt i (List.replicate (m + l) 0))] at HC
        clear hc hRL hlj r3 hil
        go_wp2_with fail
        clear k3
        obtain ⟨w7, rfl⟩ : ∃ x : World, x = wr := ⟨_, rfl⟩
        go_loopw [49] (fun j' wr => ∃ j : Nat, j ≤ lj ∧ j' = .int .i64 j ∧ Hid (CpS w3 wr cb (m + l) (cpJ sg mt i j (cpK sg mt i (List.replicate (m + l) 0))))) (fun j' _ => lj - (intOf j').toNat)
        case atStart => exact ⟨0, Nat.zero_le _, rfl, HC⟩
        case round =>
          clear HC
          obtain ⟨j, hj, rfl, HC⟩ := hrel
          by_cases hjl : j < lj
          · have hjf : j < (stN sg mt i).length := by rw [HLJ.out]; exact hjl
            have hr := HR7.out.keep (w' := wr) (fun b hb => (HC.out.onl.keep b (by have := HGE.out.2.2.1; omega)).trans (HW7.out.onl.keep b (by have := HGE.out.2.2.1; omega)).symm)
            obtain ⟨b2, off2, rfl, -, hc⟩ := hr.at_ (k := j) (by rw [ints_length]; exact hjf)
            have k4 := hc j (by rw [ints_length]; exact hjf)
            rw [gi_ints hjf] at k4
            have hst := cpJ_succ (cpK sg mt i (List.replicate (m + l) 0)) hjf
            have hxl := stN_lt H.out.2.2.2.2.2.1 H.out.2.1 HIL.out (gN (stN sg mt i) j) (by rw [gN_lt hjf]; exact List.getElem_mem hjf)
            have hal := arN_lt H.out.2.2.2.2.2.1 H.out.2.1 hxl
            rw [HM.out] at hal
            have hra := HRA.out.keep (w' := wr) (fun b hb => HC.out.onl.keep b (by have := HGE.out.2.1; omega))
            obtain ⟨x, hx⟩ : ∃ x, gN (stN sg mt i) j = x := ⟨_, rfl⟩
            rw [hx] at k4 hst hxl hal
            obtain ⟨b3, off3, rfl, -, hc3⟩ := hra.at_ (k := x) (by rw [arL_len]; exact hxl)
            have k5 := hc3 x (by rw [arL_len]; exact hxl)
            rw [gi_arL hxl] at k5
            obtain ⟨y, hy⟩ : ∃ y, arN sg mt x = y := ⟨_, rfl⟩
            rw [hy] at k5 hst hal
            have hyl : y < m + l := by omega
            obtain ⟨c5, f5⟩ := HC.out.at_ hyl
            have g1 := (HGG.out.keep (w' := wr) (HC.out.onl.keep gb HGE.out.2.2.2)).cells.2.1
            have HC' := Lib.hid (HC.out.store y (i : Int))
            rw [← hst] at HC'
            have i1 : (0 : Int) ≤ (x : Int) ∧ (x : Int) < (mt.length : Int) := by omega
            have i2 : (0 : Int) ≤ (y : Int) ∧ (y : Int) < ((m + l : Nat) : Int) := by omega
            clear hr hc hst hra hc3 hx hy hjf HC
            go_wp2_with fail
            go_region
            go_wp2_with fail
            go_roundw
            case rel => exact ⟨j + 1, by omega, by go_num, Lib.hid HC'.out.drew⟩
            case measure => simp [intOf]; omega
          · obtain rfl : lj = j := by omega
            have HC' : Hid (CpS w3 wr cb (m + l) (cpK sg mt (i + 1) (List.replicate (m + l) 0))) := by
              rw [cpK_succ, HLJ.out]; exact HC.out
            clear HC hjl HR7 HW7
            go_wp2_with fail
            go_roundw
            case rel => exact ⟨i + 1, by omega, by go_num, HC'⟩
            case measure => simp [intOf]; omega
      · obtain rfl : ns = i := by omega
        have HB2r := Lib.hid (HB3.out.trans (HC.out.onl.bel.mono HGE.out.2.1))
        have k2 := (HD2.out.below HB2r.out).c2
        have HC4 : Hid (CpS w3 wr cb (m + l) (cpO m ns 0 (cpK sg mt ns (List.replicate (m + l) 0)))) := HC.out
        clear HC hlt HRL
        go_wp2_with fail
        clear k2
        go_loopw [65] (fun i wr => ∃ k : Nat, k ≤ l ∧ i = .int .i64 k ∧ Hid (CpS w3 wr cb (m + l) (cpO m ns k (cpK sg mt ns (List.replicate (m + l) 0))))) (fun i _ => l - (intOf i).toNat)
        case atStart => exact ⟨0, Nat.zero_le _, rfl, HC4⟩
        case round =>
          clear HC4 HB2r
          obtain ⟨k, hk, rfl, HC⟩ := hrel
          by_cases hlt : k < l
          · have hyl : m + k < m + l := by omega
            obtain ⟨c5, f5⟩ := HC.out.at_ hyl
            have g1 := (HGG.out.keep (w' := wr) (HC.out.onl.keep gb HGE.out.2.2.2)).cells.2.1
            have HC' := Lib.hid (HC.out.store (m + k) ((ns : Int) + (k : Int)))
            rw [← cpO_succ] at HC'
            have i1 : (0 : Int) ≤ (m : Int) + (k : Int) := by omega
            have i2 : (m : Int) + (k : Int) < ((m + l : Nat) : Int) := by omega
            have i3 : ((m : Int) + (k : Int)).toNat = m + k := by omega
            have s1 : IntKind.i64.wrap ((m : Int) + (k : Int)) = (m : Int) + (k : Int) := IntWalk.i64_in _ (by omega)
            have s2 : IntKind.i64.wrap ((ns : Int) + (k : Int)) = (ns : Int) + (k : Int) := IntWalk.i64_in _ (by omega)
            clear HC
            go_wp2_with fail
            go_roundw
            case rel => exact ⟨k + 1, by omega, by go_num, HC'⟩
            case measure => simp [intOf]; omega
          · obtain rfl : l = k := by omega
            have HB4 := Lib.hid (HB3.out.trans (HC.out.onl.bel.mono HGE.out.2.1))
            have HD4 := Lib.hid (HD2.out.below HB4.out)
            have HRS := Lib.hid (HD2.out.rs.keep (w' := wr) (fun b hb => HB4.out.block b hb))
            have k0 := HD4.out.c0
            have hsz4 := HC.out.onl.size
            have HRA4 := Lib.hid (HRA.out.keep (w' := wr) (fun b hb => HC.out.onl.keep b (by have := HGE.out.2.1; omega)))
            have HG4 : Hid (GBox wr (w.heap.size + 1) 0 (.slice none 0 0) (.slice none 0 0)) := HG3.out.keep (HC.out.onl.keep _ (by have := HGE.out.2.1; omega))
            have HGG4 := Lib.hid (HGG.out.keep (w' := wr) (HC.out.onl.keep gb HGE.out.2.2.2))
            have HR4 : Hid (OI wr cb (.slice (some ⟨cb, 0, none⟩) (m + l) (m + l)) (cmpL sg mt l)) := by
              unfold cmpL; rw [HM.out, HNS.out]; exact HC.out.row
            have HBW := Lib.hid (HBB.out.trans (HC.out.onl.bel.mono (by have := HGE.out.2.1; omega)))
            have HGL : Hid (w2.heap.size ≤ gb ∧ gb < wr.heap.size ∧ w2.heap.size ≤ cb ∧ cb < wr.heap.size ∧ gb ≠ cb) := ⟨HGE.out.1, HGG4.out.lt, HGE.out.2.1, by have := HGE.out.2.2.1; omega, HGE.out.2.2.2⟩
            obtain ⟨w4, rfl⟩ : ∃ x : World, x = wr := ⟨_, rfl⟩
            have HW0 : Hid (WdS w4 w4 gb ((m + l : Nat) : Int) (.slice (some ⟨cb, 0, none⟩) (m + l) (m + l)) (.slice none 0 0) (wrdL sg mt 0)) := ⟨Below.refl _ _, fun _ _ _ => rfl, HGG4.out, RR.nil _ _ _⟩
            clear HC hlt HRA HG3 HGG HGE HB3 HBB HD2 HD3 hsz4 hk hi
            go_wp2_with fail
            clear k0
            go_loopw [82] (fun i wr => ∃ (k : Nat) (vs : Value), k ≤ sg.length ∧ i = .int .i64 k ∧ Hid (WdS w4 wr gb ((m + l : Nat) : Int) (.slice (some ⟨cb, 0, none⟩) (m + l) (m + l)) vs (wrdL sg mt k))) (fun i _ => sg.length - (intOf i).toNat)
            case atStart => exact ⟨0, _, Nat.zero_le _, rfl, HW0⟩
            case round =>
              clear HW0
              obtain ⟨k, vs, hk, rfl, HW⟩ := hrel
              by_cases hlt : k < sg.length
              · have hsgr := HRS.out.keep (w' := wr) (fun b hb => HW.out.keep b (by have := HGL.out; omega) (by have := HGL.out; omega))
                have harc := HRA4.out.keep (w' := wr) (fun b hb => HW.out.keep b (by have := HGL.out; omega) (by have := HGL.out; omega))
                have hm4 := H.out.2.1
                have h64 := H.out.1
                obtain ⟨b, off, rfl, -, hc⟩ := hsgr.at_ hlt
                have c1 := hc k hlt
                obtain ⟨b3, off3, rfl, -, hc3⟩ := harc.at_ (k := 4 * k) (by rw [arL_len]; omega)
                have a0 := hc3 (4 * k) (by rw [arL_len]; omega)
                have a2 := hc3 (4 * k + 2) (by rw [arL_len]; omega)
                have a1 := hc3 (4 * k + 1) (by rw [arL_len]; omega)
                rw [gi_arL (by omega)] at a0 a1 a2
                have hx0 := arN_lt H.out.2.2.2.2.2.1 H.out.2.1 (show 4 * k < mt.length by omega)
                have hx1 := arN_lt H.out.2.2.2.2.2.1 H.out.2.1 (show 4 * k + 1 < mt.length by omega)
                have hx2 := arN_lt H.out.2.2.2.2.2.1 H.out.2.1 (show 4 * k + 2 < mt.length by omega)
                rw [HM.out] at hx0 hx1 hx2
                have hrel : relL sg mt k = if 0 < gi sg k then [-((arN sg mt (4 * k + 2) : Int) + 1), -((arN sg mt (4 * k + 1) : Int) + 1), (arN sg mt (4 * k) : Int) + 1, (arN sg mt (4 * k + 1) : Int) + 1]
                  else [-((arN sg mt (4 * k + 2) : Int) + 1), (arN sg mt (4 * k + 1) : Int) + 1, (arN sg mt (4 * k) : Int) + 1, -((arN sg mt (4 * k + 1) : Int) + 1)] := rfl
                obtain ⟨x0, hy0⟩ : ∃ x, arN sg mt (4 * k) = x := ⟨_, rfl⟩
                obtain ⟨x1, hy1⟩ : ∃ x, arN sg mt (4 * k + 1) = x := ⟨_, rfl⟩
                obtain ⟨x2, hy2⟩ : ∃ x, arN sg mt (4 * k + 2) = x := ⟨_, rfl⟩
                obtain ⟨sn, hsn⟩ : ∃ x, gi sg k = x := ⟨_, rfl⟩
                rw [hy0] at a0 hx0 hrel
                rw [hy1] at a1 hx1 hrel
                rw [hy2] at a2 hx2 hrel
                rw [hsn] at c1 hrel
                have HREL := Lib.hid hrel
                have HBP : Hid (Bd [-((x2 : Int) + 1), -((x1 : Int) + 1), (x0 : Int) + 1, (x1 : Int) + 1]) := bd4 (by omega) (by omega) (by omega) (by omega)
                have HBN : Hid (Bd [-((x2 : Int) + 1), (x1 : Int) + 1, (x0 : Int) + 1, -((x1 : Int) + 1)]) := bd4 (by omega) (by omega) (by omega) (by omega)
                have g2 := HW.out.gbx.cells.2.2
                have s0 : IntKind.i64.wrap (4 * (k : Int)) = 4 * (k : Int) := IntWalk.i64_in _ (by omega)
                have s1 : IntKind.i64.wrap (4 * (k : Int) + 1) = 4 * (k : Int) + 1 := IntWalk.i64_in _ (by omega)
                have s2 : IntKind.i64.wrap (4 * (k : Int) + 2) = 4 * (k : Int) + 2 := IntWalk.i64_in _ (by omega)
                have s3 : IntKind.i64.wrap ((x0 : Int) + 1) = (x0 : Int) + 1 := IntWalk.i64_in _ (by omega)
                have s4 : IntKind.i64.wrap ((x1 : Int) + 1) = (x1 : Int) + 1 := IntWalk.i64_in _ (by omega)
                have s5 : IntKind.i64.wrap ((x2 : Int) + 1) = (x2 : Int) + 1 := IntWalk.i64_in _ (by omega)
                have t0 : (0 : Int) ≤ 4 * (k : Int) ∧ 4 * (k : Int) < mt.length := by omega
                have t1 : (0 : Int) ≤ 4 * (k : Int) + 1 ∧ 4 * (k : Int) + 1 < mt.length := by omega
                have t2 : (0 : Int) ≤ 4 * (k : Int) + 2 ∧ 4 * (k : Int) + 2 < mt.length := by omega
                have r0 : (4 * (k : Int)).toNat = 4 * k := by omega
                have r1 : (4 * (k : Int) + 1).toNat = 4 * k + 1 := by omega
                have r2 : (4 * (k : Int) + 2).toNat = 4 * k + 2 := by omega
                clear hsgr harc hc hc3 hy0 hy1 hy2 hsn hrel hm4
                go_wp2_with fail
                go_quiet (fail)
                obtain ⟨wq, hwq⟩ : ∃ wq, wr.drewN nq = wq := ⟨_, rfl⟩
                rw [hwq]
                have hbq : Below wr.heap.size wr wq := by rw [← hwq]; exact below_drewN (Below.refl _ _) _
                have HWq := Lib.hid (HW.out.below hbq HGL.out.2.1)
                clear hwq hbq HW s0 s1 s2 s3 s4 s5 t0 t1 t2 r0 r1 r2 a0 a1 a2 c1 g2
                have n0 : IntKind.i64.wrap (-((x2 : Int) + 1)) = -((x2 : Int) + 1) := IntWalk.i64_in _ (by omega)
                have n1 : IntKind.i64.wrap (-((x1 : Int) + 1)) = -((x1 : Int) + 1) := IntWalk.i64_in _ (by omega)
                by_cases hsg : 0 < sn
                · go_wp2_with (at_builtin; refine app4 rfl rfl Try.underlying42 rfl rfl ?_; intro v' wa ho hb)
                  have hys : relL sg mt k = [-((x2 : Int) + 1), -((x1 : Int) + 1), (x0 : Int) + 1, (x1 : Int) + 1] := by rw [HREL.out, if_pos hsg]
                  obtain ⟨ys, hyy⟩ : ∃ ys, relL sg mt k = ys := ⟨_, rfl⟩
                  have hBd : Bd ys := by rw [← hyy, hys]; exact HBP.out
                  have hyl : ys.length = 4 := by rw [← hyy, hys]; rfl
                  rw [← hys, hyy] at ho
                  have HWa := Lib.hid (HWq.out.below hb HGL.out.2.1)
                  obtain ⟨Av, cv, rfl, -, -, hrv⟩ := ho.reads
                  have HRV : Hid (RI wa.drew (· < wa.heap.size) Av ys) := hrv.imp (T := (· < wa.heap.size)) fun b hb => hb.2
                  have HYY := Lib.hid hyy
                  have HBD := Lib.hid hBd
                  have HYL : Hid (ys.length < 1099511627776) := Lib.hid (by omega)
                  have HKL : Hid (∀ n, n = k → n < 1099511627776) := fun n hn => by omega
                  have hgb := HGL.out.2.1
                  have hsa : w4.heap.size ≤ wa.heap.size := HWa.out.bel.size
                  have g2 := HWa.out.gbx.cells.2.2
                  clear ho hb hrv hBd hys hyy hyl n0 n1 HWq HREL
                  have HCALL : Hid (Calls Try.prog 48 #[.slice Av ys.length cv] wa.drew fun e wb => ∃ (Ar : Option Addr) (nr cr : Nat) (vl : List Value), e = .returned (.slice Ar nr cr) ∧ Hid (WdS w4 wb gb ((m + l : Nat) : Int) (.slice (some ⟨cb, 0, none⟩) (m + l) (m + l)) vs (wrdL sg mt k)) ∧
                      Hid (RRv 42 wb w4.heap.size (fun _ => False) vs vl (wrdL sg mt k)) ∧ Hid (OI wb w4.heap.size (.slice Ar nr cr) (redL ys)) ∧ vl.length = k ∧ wb.cell? ⟨gb, 2, none⟩ = some vs ∧ gb < wb.heap.size) := by
                    refine (reduce_any Av cv ys wa.drew (· < wa.heap.size) HRV.out (fun _ h => h) HYL.out HBD.out).mono ?_
                    rintro e9 wb ⟨vr, rfl, hor, hbr⟩
                    have hWb := (HWa.out.below ((Below.refl _ _).drew.trans hbr) hgb)
                    obtain ⟨vl, hvl⟩ := hWb.row
                    have hvn := hvl.2.2.1
                    rw [wrdL_len] at hvn
                    have hor2 := hor.mono hsa
                    obtain ⟨Ar, cr, rfl, -, -, -⟩ := hor.shape
                    exact ⟨Ar, _, cr, vl, rfl, hWb, hvl, hor2, hvn, hWb.gbx.cells.2.2, Nat.lt_of_lt_of_le hgb hWb.bel.size⟩
                  go_wp2_with fail
                  go_region_law (first
                    | (go_simp; go_at_call 48; (refine HCALL.out.mono ?_; rintro e9 wb ⟨Ar, nr, cr, vl, rfl, HWb, HVL, HOR, hvn, g3, hgb2⟩))
                    | (refine step_app_row (f := id) (y := Value.slice Ar nr cr) word_info rfl (by decide) rfl HVL.out.1 (HKL.out _ hvn) HWb.out.bel.size rfl rfl Try.underlying33 rfl rfl ?_; intro v6 w6 ho6 hg6 hob6; obtain ⟨g6, f6⟩ := HWb.out.field hgb HVL.out hg6; have HO6 := Lib.hid ho6; have HG6 := Lib.hid hg6; have HOB6 := Lib.hid hob6; obtain ⟨A6, c6, hv6, -, -, -⟩ := ho6.shape; clear ho6 hg6 hob6; (generalize List.length _ = n6 at hv6); subst hv6))
                  all_goals
                    have hW6 := Lib.hid (WdS.push HWb.out hgb HVL.out HOR.out HO6.out HG6.out HOB6.out)
                    rw [← HYY.out, ← wrdL_succ] at hW6
                    clear HWb HVL HOR HO6 HG6 HOB6 HCALL HKL HRV g3 g6 f6
                    go_wp2_with fail
                    go_roundw
                    case rel => exact ⟨k + 1, _, by omega, by go_num, hW6⟩
                    case measure => simp [intOf]; omega
                · go_wp2_with (at_builtin; refine app4 rfl rfl Try.underlying42 rfl rfl ?_; intro v' wa ho hb)
                  have hys : relL sg mt k = [-((x2 : Int) + 1), (x1 : Int) + 1, (x0 : Int) + 1, -((x1 : Int) + 1)] := by rw [HREL.out, if_neg (by omega)]
                  obtain ⟨ys, hyy⟩ : ∃ ys, relL sg mt k = ys := ⟨_, rfl⟩
                  have hBd : Bd ys := by rw [← hyy, hys]; exact HBN.out
                  have hyl : ys.length = 4 := by rw [← hyy, hys]; rfl
                  rw [← hys, hyy] at ho
                  have HWa := Lib.hid (HWq.out.below hb HGL.out.2.1)
                  obtain ⟨Av, cv, rfl, -, -, hrv⟩ := ho.reads
                  have HRV : Hid (RI wa.drew (· < wa.heap.size) Av ys) := hrv.imp (T := (· < wa.heap.size)) fun b hb => hb.2
                  have HYY := Lib.hid hyy
                  have HBD := Lib.hid hBd
                  have HYL : Hid (ys.length < 1099511627776) := Lib.hid (by omega)
                  have HKL : Hid (∀ n, n = k → n < 1099511627776) := fun n hn => by omega
                  have hgb := HGL.out.2.1
                  have hsa : w4.heap.size ≤ wa.heap.size := HWa.out.bel.size
                  have g2 := HWa.out.gbx.cells.2.2
                  clear ho hb hrv hBd hys hyy hyl n0 n1 HWq HREL
                  have HCALL : Hid (Calls Try.prog 48 #[.slice Av ys.length cv] wa.drew fun e wb => ∃ (Ar : Option Addr) (nr cr : Nat) (vl : List Value), e = .returned (.slice Ar nr cr) ∧ Hid (WdS w4 wb gb ((m + l : Nat) : Int) (.slice (some ⟨cb, 0, none⟩) (m + l) (m + l)) vs (wrdL sg mt k)) ∧
                      Hid (RRv 42 wb w4.heap.size (fun _ => False) vs vl (wrdL sg mt k)) ∧ Hid (OI wb w4.heap.size (.slice Ar nr cr) (redL ys)) ∧ vl.length = k ∧ wb.cell? ⟨gb, 2, none⟩ = some vs ∧ gb < wb.heap.size) := by
                    refine (reduce_any Av cv ys wa.drew (· < wa.heap.size) HRV.out (fun _ h => h) HYL.out HBD.out).mono ?_
                    rintro e9 wb ⟨vr, rfl, hor, hbr⟩
                    have hWb := (HWa.out.below ((Below.refl _ _).drew.trans hbr) hgb)
                    obtain ⟨vl, hvl⟩ := hWb.row
                    have hvn := hvl.2.2.1
                    rw [wrdL_len] at hvn
                    have hor2 := hor.mono hsa
                    obtain ⟨Ar, cr, rfl, -, -, -⟩ := hor.shape
                    exact ⟨Ar, _, cr, vl, rfl, hWb, hvl, hor2, hvn, hWb.gbx.cells.2.2, Nat.lt_of_lt_of_le hgb hWb.bel.size⟩
                  go_wp2_with fail
                  go_region_law (first
                    | (go_simp; go_at_call 48; (refine HCALL.out.mono ?_; rintro e9 wb ⟨Ar, nr, cr, vl, rfl, HWb, HVL, HOR, hvn, g3, hgb2⟩))
                    | (refine step_app_row (f := id) (y := Value.slice Ar nr cr) word_info rfl (by decide) rfl HVL.out.1 (HKL.out _ hvn) HWb.out.bel.size rfl rfl Try.underlying33 rfl rfl ?_; intro v6 w6 ho6 hg6 hob6; obtain ⟨g6, f6⟩ := HWb.out.field hgb HVL.out hg6; have HO6 := Lib.hid ho6; have HG6 := Lib.hid hg6; have HOB6 := Lib.hid hob6; obtain ⟨A6, c6, hv6, -, -, -⟩ := ho6.shape; clear ho6 hg6 hob6; (generalize List.length _ = n6 at hv6); subst hv6))
                  all_goals
                    have hW6 := Lib.hid (WdS.push HWb.out hgb HVL.out HOR.out HO6.out HG6.out HOB6.out)
                    rw [← HYY.out, ← wrdL_succ] at hW6
                    clear HWb HVL HOR HO6 HG6 HOB6 HCALL HKL HRV g3 g6 f6
                    go_wp2_with fail
                    go_roundw
                    case rel => exact ⟨k + 1, _, by omega, by go_num, hW6⟩
                    case measure => simp [intOf]; omega
              · obtain rfl : sg.length = k := by omega
                obtain ⟨g0, g1, g2⟩ := HW.out.gbx.cells
                have HGr := Lib.hid (HG4.out.keep (w' := wr) (HW.out.keep _ (by have := HGL.out; omega) (by have := HGL.out; omega)))
                obtain ⟨z0, z1, z2⟩ := HGr.out.cells
                have f0 := HGr.out.free 0
                have f1 := HGr.out.free 1
                have f2 := HGr.out.free 2
                obtain ⟨Av, cv, hvs, -, -, -⟩ := HW.out.row.shape
                generalize List.length _ = nv at hvs
                subst hvs
                go_wp2_with fail
                have HF := Lib.hid (((HGr.out.set0 ((m : Int) + (l : Int))).set1 (.slice (some ⟨cb, 0, none⟩) (m + l) (m + l))).set2 (.slice Av nv cv))
                have HFR : Hid (OI _ cb (.slice (some ⟨cb, 0, none⟩) (m + l) (m + l)) (cmpL sg mt l)) := HR4.out.keep (w' := ((wr.setCell ⟨w.heap.size + 1, 0, none⟩ (.int .i64 ((m : Int) + (l : Int)))).setCell ⟨w.heap.size + 1, 1, none⟩ (.slice (some ⟨cb, 0, none⟩) (m + l) (m + l))).setCell ⟨w.heap.size + 1, 2, none⟩ (.slice Av nv cv)) fun g hg => by
                  have : g = cb := by simpa [Value.ownBlock] using hg.symm
                  subst this
                  have := HGL.out
                  exact (three_sets _ _ _ (by omega)).trans (HW.out.keep _ (by omega) (by omega))
                have HFW : Hid (RR 42 (((wr.setCell ⟨w.heap.size + 1, 0, none⟩ (.int .i64 ((m : Int) + (l : Int)))).setCell ⟨w.heap.size + 1, 1, none⟩ (.slice (some ⟨cb, 0, none⟩) (m + l) (m + l))).setCell ⟨w.heap.size + 1, 2, none⟩ (.slice Av nv cv)) w4.heap.size (fun _ => False) (.slice Av nv cv) (wrdL sg mt sg.length)) := HW.out.row.keep fun b h1 _ _ => three_sets _ _ _ (by have := HGL.out; omega)
                have HFB : Hid (Below w.heap.size w (((wr.setCell ⟨w.heap.size + 1, 0, none⟩ (.int .i64 ((m : Int) + (l : Int)))).setCell ⟨w.heap.size + 1, 1, none⟩ (.slice (some ⟨cb, 0, none⟩) (m + l) (m + l))).setCell ⟨w.heap.size + 1, 2, none⟩ (.slice Av nv cv))) :=
                  (((HBW.out.trans (HW.out.bel.mono (by have := HGL.out; omega))).setCell (by simp) _).setCell (by simp) _).setCell (by simp) _
                generalize (((wr.setCell ⟨w.heap.size + 1, 0, none⟩ (.int .i64 ((m : Int) + (l : Int)))).setCell ⟨w.heap.size + 1, 1, none⟩ (.slice (some ⟨cb, 0, none⟩) (m + l) (m + l))).setCell ⟨w.heap.size + 1, 2, none⟩ (.slice Av nv cv)) = wf at HF HFR HFW HFB ⊢
                obtain ⟨y0, y1, y2⟩ := HF.out.cells
                clear g0 g1 g2 z0 z1 z2 f0 f1 f2
                refine bodyPost_ret (v := .tuple #[.agg #[.int .i64 ((m : Int) + (l : Int)), .slice (some ⟨cb, 0, none⟩) (m + l) (m + l), .slice Av nv cv], .int .i64 0]) (by simp [results, Try.results18, go_sem, y0, y1, y2]; done) rfl ?_
                exact ⟨_, _, rfl, HFR.out.mono (by have := HGL.out; omega), HFW.out.mono (by have := HGL.out; omega), HFB.out⟩
end
end Go.Proofs.Ytcjgfncbecbhjaa

