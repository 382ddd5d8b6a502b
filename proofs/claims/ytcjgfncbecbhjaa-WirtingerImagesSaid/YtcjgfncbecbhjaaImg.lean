/-
  Permutations of three points in memory; the contract of image.
-/
import Derived.Test.YtcjgfncbecbhjaaPerm
namespace Go.Proofs.Ytcjgfncbecbhjaa
open Go.RowKit

def vI (d i : Nat) : Value := .int .i64 (vl d i : Int)
def flatT (ds : List Nat) : List Value := ds.flatMap fun d => [vI d 0, vI d 1, vI d 2]
theorem flatT_length (ds : List Nat) : (flatT ds).length = ds.length * 3 := by
  induction ds with
  | nil => rfl
  | cons p ps ih => unfold flatT at ih ⊢; rw [List.flatMap_cons, List.length_append, ih]; simp; omega
theorem flatT_append (ds : List Nat) (d : Nat) : flatT (ds ++ [d]) = flatT ds ++ [vI d 0, vI d 1, vI d 2] := by simp [flatT]
theorem flatT_at : ∀ (ds : List Nat) {k : Nat} (_ : k < ds.length), (flatT ds)[k * 3]? = some (vI (gN ds k) 0) ∧ (flatT ds)[k * 3 + 1]? = some (vI (gN ds k) 1) ∧ (flatT ds)[k * 3 + 2]? = some (vI (gN ds k) 2)
  | [], k, hk => by simp at hk
  | p :: ps, 0, _ => by simp [flatT, gN]
  | p :: ps, k + 1, hk => by
    have := flatT_at ps (k := k) (by simpa using hk)
    have e : flatT (p :: ps) = vI p 0 :: vI p 1 :: vI p 2 :: flatT ps := by simp [flatT]
    have e2 : gN (p :: ps) (k + 1) = gN ps k := by simp [gN]
    rw [e, e2, show (k + 1) * 3 = k * 3 + 1 + 1 + 1 by omega]
    simpa using this

def OT (w : World) (B : Nat) (v : Value) (ds : List Nat) : Prop := w.ownsRow B 61 3 v ds.length (flatT ds)
/-- a slice at A reads ds -/
def RT (w : World) (S : Nat → Prop) (A : Option Addr) (ds : List Nat) : Prop :=
  ds ≠ [] → ∃ b off, A = some ⟨b, off, none⟩ ∧ S b ∧ ∀ k, k < ds.length → w.cell? ⟨b, off + k * 3, none⟩ = some (vI (gN ds k) 0) ∧ w.cell? ⟨b, off + k * 3 + 1, none⟩ = some (vI (gN ds k) 1) ∧ w.cell? ⟨b, off + k * 3 + 2, none⟩ = some (vI (gN ds k) 2)
theorem trip_info : (Try.prog.info? 61).map (fun i => (i.zero, i.size, i.bytes)) = some (some (.agg #[.int .i64 0, .int .i64 0, .int .i64 0]), 3, 24) := by kernel_rfl

section
variable {w w' : World} {S T : Nat → Prop} {A : Option Addr} {ds : List Nat}
theorem RT.at_ {k : Nat} (h : RT w S A ds) (hk : k < ds.length) : ∃ b off, A = some ⟨b, off, none⟩ ∧ S b ∧ ∀ k, k < ds.length → w.cell? ⟨b, off + k * 3, none⟩ = some (vI (gN ds k) 0) ∧ w.cell? ⟨b, off + k * 3 + 1, none⟩ = some (vI (gN ds k) 1) ∧ w.cell? ⟨b, off + k * 3 + 2, none⟩ = some (vI (gN ds k) 2) :=
  h (by intro e; subst e; simp at hk)
theorem RT.imp (h : RT w S A ds) (hS : ∀ b, S b → T b) : RT w T A ds := fun hne => by
  obtain ⟨b, off, e, hb, hc⟩ := h hne
  exact ⟨b, off, e, hS b hb, hc⟩
theorem RT.keep (h : RT w S A ds) (hk : ∀ b, S b → w'.heap[b]? = w.heap[b]?) : RT w' S A ds := fun hne => by
  obtain ⟨b, off, e, hb, hc⟩ := h hne
  have hc' : ∀ {o : Nat} {v : Value}, w.cell? ⟨b, o, none⟩ = some v → w'.cell? ⟨b, o, none⟩ = some v := fun {o v} hv => (World.cell?_of_block (a := ⟨b, o, none⟩) (hk b hb)).trans hv
  exact ⟨b, off, e, hb, fun k hlt => ⟨hc' (hc k hlt).1, hc' (hc k hlt).2.1, hc' (hc k hlt).2.2⟩⟩
end
section
variable {w w' : World} {B : Nat} {v : Value} {ds : List Nat}
theorem OT.nil (w : World) (B : Nat) : OT w B (.slice none 0 0) [] := World.ownsRow_nil w B _ _
theorem OT.shape (h : OT w B v ds) : ∃ A c, v = .slice A ds.length c ∧ ds.length ≤ c ∧ c ≤ maxLen := by
  rcases h.2 with ⟨rfl, hn⟩ | ⟨g, c, cur, rfl, hb, hh, hnc, hcm, hcs, ht⟩
  · exact ⟨none, 0, by rw [hn], by omega, Nat.zero_le _⟩
  · exact ⟨_, c, rfl, hnc, hcm⟩
theorem OT.lt (h : OT w B v ds) : ∀ g, v.ownBlock = some g → B ≤ g ∧ g < w.heap.size := World.ownsRow.lt h
theorem OT.keep (h : OT w B v ds) (hg : ∀ g, v.ownBlock = some g → w'.heap[g]? = w.heap[g]?) : OT w' B v ds := by
  refine ⟨h.1, ?_⟩
  rcases h.2 with h2 | ⟨g, c, cur, rfl, hb, hh, hr⟩
  · exact .inl h2
  · exact .inr ⟨g, c, cur, rfl, hb, by rw [hg g rfl]; exact hh, hr⟩
theorem OT.mono {B' : Nat} (h : OT w B v ds) (hB : B' ≤ B) : OT w B' v ds := by
  refine ⟨h.1, ?_⟩
  rcases h.2 with h2 | ⟨g, c, cur, rfl, hb, hh, hr⟩
  · exact .inl h2
  · exact .inr ⟨g, c, cur, rfl, by omega, hh, hr⟩
theorem OT.below {C : Nat} (h : OT w B v ds) (hb : Below C w w') (hC : w.heap.size ≤ C) : OT w' B v ds :=
  h.keep fun g hg => hb.block g (by have := (h.lt g hg).2; omega)
theorem OT.alloc (h : OT w B v ds) (o : Obj) : OT (w.alloc o) B v ds := World.ownsRow.alloc h o
theorem OT.reads (h : OT w B v ds) : ∃ A c, v = .slice A ds.length c ∧ RT w (fun b => B ≤ b ∧ b < w.heap.size) A ds := by
  have h0 := h
  rcases h.2 with ⟨rfl, hn⟩ | ⟨g, c, cur, rfl, hb, hh, hnc, hcm, hcs, ht⟩
  · refine ⟨none, 0, by rw [hn], fun hne => ?_⟩
    exact absurd (List.eq_nil_of_length_eq_zero hn) hne
  · refine ⟨_, c, rfl, fun _ => ⟨g, 0, rfl, ⟨hb, ?_⟩, fun k hk => ?_⟩⟩
    · rcases Nat.lt_or_ge g w.heap.size with h | h
      · exact h
      · rw [Array.getElem?_eq_none h] at hh; cases hh
    · obtain ⟨e1, e2, e3⟩ := flatT_at ds hk
      rw [Nat.zero_add]
      exact ⟨(World.ownsRow.cellAt h0 (k * 3) (by omega)).trans e1, (World.ownsRow.cellAt h0 (k * 3 + 1) (by omega)).trans e2, (World.ownsRow.cellAt h0 (k * 3 + 2) (by omega)).trans e3⟩
theorem OT.grown_below {W : World} (h : OT w B v ds) (hb : Below B W w) (hB : B ≤ w.heap.size) (hg : w.grownBy w' v.ownBlock) : Below B W w' :=
  hb.grown hg hB fun k hk => (h.lt k hk).1
theorem wp_app_trip {o : Oper} {a : Act} {K : Act → World → Prop} {Q : Exit → Act → World → Prop} {s x : Operand} {t : TypeId} {d g : Nat}
    (hown : OT w B v ds) (hl : ds.length < 1099511627776) (hB : B ≤ w.heap.size) (hh : w.heap[g]? = some (.cells #[vI d 0, vI d 1, vI d 2] 61 (0, 0)))
    (ho : o.op = .call { callee := .builtin .append, args := #[s, x], argTypes := #[t, t] })
    (ht : Try.prog.underlying t = some (.slice 61)) (hs : a.eval s = v) (hx : a.eval x = .slice (some ⟨g, 0, none⟩) 1 1)
    (h : ∀ v' w', OT w' B v' (ds ++ [d]) → w.grownBy w' v.ownBlock → (v'.ownBlock = v.ownBlock ∨ v'.ownBlock = some w.heap.size) → K (a.put o.dst v') w') :
    o.wp Try.prog a w K Q := by
  obtain ⟨i0, hi, hz0, hz1, hz2⟩ := info_parts trip_info
  have hnew : ∀ (j : Nat) (u : Value), [vI d 0, vI d 1, vI d 2][j]? = some u → w.cell? ((⟨g, 0, none⟩ : Addr).add j) = some u := by
    intro j u hu
    have e : ((⟨g, 0, none⟩ : Addr).add j) = ⟨g, j, none⟩ := by
      unfold Addr.add
      split
      · rename_i h0; subst h0; rfl
      · simp
    rw [e, cell_of_row _ _ _ _ _ _ hh]
    simpa using hu
  obtain ⟨v', w', hrun, h2, h3, _, h5⟩ := run_append_own_at (P := Try.prog) w B t o.type 61 i0 _ 3 24 ht hi hz0 hz1 hz2 rfl (by decide) v ds.length _ hown
    ⟨g, 0, none⟩ 1 1 [vI d 0, vI d 1, vI d 2] rfl hnew (by intro u hu; simp at hu; rcases hu with rfl | rfl | rfl <;> rfl) (by unfold maxLen; omega) (by omega) hB
  unfold Oper.wp execOp
  simp only [ho, resolve, invoke, builtin, Sem.run_bind, Sem.run_pure, Result.andThen_ok, List.map_toArray, List.map_cons, List.map_nil, hs, hx, hrun]
  refine h v' w' ?_ h3 h5
  unfold OT
  rw [flatT_append, List.length_append]
  exact h2
/-- in a region that draws its order -/
theorem step_app_trip {ops : Array Oper} {o : Oper} {a : Act} {K : Act → World → Prop} {Q : Exit → Act → World → Prop} {E : Prop} {s x : Operand} {t : TypeId} {d g : Nat}
    (hown : OT w B v ds) (hl : ds.length < 1099511627776) (hB : B ≤ w.heap.size) (hh : w.heap[g]? = some (.cells #[vI d 0, vI d 1, vI d 2] 61 (0, 0)))
    (hgd : o.guard = none) (ho : o.op = .call { callee := .builtin .append, args := #[s, x], argTypes := #[t, t] })
    (ht : Try.prog.underlying t = some (.slice 61)) (hs : a.eval s = v) (hx : a.eval x = .slice (some ⟨g, 0, none⟩) 1 1)
    (h : ∀ v' w', OT w' B v' (ds ++ [d]) → w.grownBy w' v.ownBlock → (v'.ownBlock = v.ownBlock ∨ v'.ownBlock = some w.heap.size) → K (a.put o.dst v') w') :
    if Region.wanted o (yielded ops a.tmps) = true then Oper.wp Try.prog o a w K Q else E := by
  have hw : Region.wanted o (yielded ops a.tmps) = true := by simp [Region.wanted, hgd]
  rw [if_pos hw]
  exact wp_app_trip hown hl hB hh ho ht hs hx h
end
/-! ### two permutations compared -/
theorem eq_intD (d : Nat) (x y : Int) (w : World) : (Op.equalIn (d + 1) 3 (.int .i64 x) (.int .i64 y)).run Try.prog w = .ok (x == y) w := by
  simp [Op.equalIn, run_underlying Try.underlying3]
theorem eq_trip_d (d : Nat) (x y z u v t : Int) (w : World) : (Op.equalIn (d + 1 + 1) 61 (.agg #[.int .i64 x, .int .i64 y, .int .i64 z]) (.agg #[.int .i64 u, .int .i64 v, .int .i64 t])).run Try.prog w = .ok (x == u && (y == v && z == t)) w := by
  have hu : Try.prog.underlying 61 = some (.array 3 3) := by kernel_rfl
  have hs : ∀ w, (sizeOf 3).run Try.prog w = .ok 1 w := fun _ => by kernel_rfl
  have hp0 : ∀ (a b c : Value) w, (part 3 #[a, b, c] (0 * 1)).run Try.prog w = .ok a w := fun _ _ _ _ => by kernel_rfl
  have hp1 : ∀ (a b c : Value) w, (part 3 #[a, b, c] ((0 + 1) * 1)).run Try.prog w = .ok b w := fun _ _ _ _ => by kernel_rfl
  have hp2 : ∀ (a b c : Value) w, (part 3 #[a, b, c] ((0 + 1 + 1) * 1)).run Try.prog w = .ok c w := fun _ _ _ _ => by kernel_rfl
  rw [Op.equalIn]
  simp only [Sem.run_bind, run_underlying hu, Result.andThen_ok, hs, Std.Legacy.Range.forIn_eq_forIn_range', Std.Legacy.Range.size]
  simp only [show (3 - 0 + 1 - 1) / 1 = 3 from rfl, List.range']
  simp only [List.forIn_cons, List.forIn_nil, Sem.run_bind, Result.andThen_ok, hp0, eq_intD]
  cases x == u
  · simp
  · simp only [Bool.not_true, Bool.false_eq_true, if_false, Sem.run_pure, Sem.run_bind, Result.andThen_ok, hp1, eq_intD]
    cases y == v
    · simp
    · simp only [Bool.not_true, Bool.false_eq_true, if_false, Sem.run_pure, Sem.run_bind, Result.andThen_ok, hp2, eq_intD]
      cases z == t <;> simp
/-- permutations are equal exactly if their numbers are -/
theorem eq_perm {p q : Nat} (hp : p < 6) (hq : q < 6) (w : World) : (Op.equalIn 10000 61 (.agg #[vI p 0, vI p 1, vI p 2]) (.agg #[vI q 0, vI q 1, vI q 2])).run Try.prog w = .ok (decide (p = q)) w := by
  have h : ((vl p 0 : Int) == (vl q 0 : Int) && ((vl p 1 : Int) == (vl q 1 : Int) && (vl p 2 : Int) == (vl q 2 : Int))) = decide (p = q) := by
    rw [Bool.eq_iff_iff]
    simp only [Bool.and_eq_true, beq_iff_eq, decide_eq_true_eq]
    constructor
    · rintro ⟨a, b, c⟩; exact vl_inj p hp q hq (by omega) (by omega) (by omega)
    · rintro rfl; exact ⟨rfl, rfl, rfl⟩
  rw [← h]
  exact eq_trip_d 9998 _ _ _ _ _ _ w

/-- three ints -/
def tA (f : Nat → Nat) : Array Value := #[.int .i64 (f 0 : Int), .int .i64 (f 1 : Int), .int .i64 (f 2 : Int)]
/-- block b holds three ints -/
def TBox (w : World) (b : Nat) (f : Nat → Nat) : Prop := w.heap[b]? = some (.cells (tA f) 61 (0, 0))
section
variable {w w' : World} {b : Nat} {f : Nat → Nat}
theorem TBox.cell (h : TBox w b f) {j : Nat} (hj : j < 3) : w.cell? ⟨b, j, none⟩ = some (.int .i64 (f j : Int)) := by
  unfold TBox tA at h
  rw [cell_of_row _ _ _ _ _ _ h]
  rcases (show j = 0 ∨ j = 1 ∨ j = 2 by omega) with rfl | rfl | rfl <;> rfl
theorem TBox.free (h : TBox w b f) (k : Nat) : w.frozen? ⟨b, k, none⟩ = false := by
  unfold TBox at h
  simp [World.frozen?, h]
theorem TBox.lt (h : TBox w b f) : b < w.heap.size := lt_of_block h
theorem TBox.keep (h : TBox w b f) (hk : w'.heap[b]? = w.heap[b]?) : TBox w' b f := hk.trans h
theorem TBox.congr {g : Nat → Nat} (h : TBox w b f) (e : ∀ j, j < 3 → f j = g j) : TBox w b g := by
  unfold TBox tA at h ⊢
  rw [e 0 (by omega), e 1 (by omega), e 2 (by omega)] at h
  exact h
theorem TBox.set (h : TBox w b f) {j : Nat} (hj : j < 3) (k : Nat) : TBox (w.setCell ⟨b, j, none⟩ (.int .i64 (k : Int))) b (fun i => if i = j then k else f i) := by
  unfold TBox at h ⊢
  have hlt := lt_of_block h
  have h' : w.heap[b] = .cells (tA f) 61 (0, 0) := by simpa [Array.getElem?_eq_getElem hlt] using h
  show (w.heap.modify b _)[b]? = _
  rw [Array.getElem?_eq_getElem (by simpa using hlt), Array.getElem_modify_self, h']
  rcases (show j = 0 ∨ j = 1 ∨ j = 2 by omega) with rfl | rfl | rfl <;> rfl
theorem TBox.set3 (h : TBox w b f) (g : Nat → Nat) : TBox (((w.setCell ⟨b, 0, none⟩ (.int .i64 (g 0 : Int))).setCell ⟨b, 1, none⟩ (.int .i64 (g 1 : Int))).setCell ⟨b, 2, none⟩ (.int .i64 (g 2 : Int))) b g := by
  refine (((h.set (j := 0) (by omega) (g 0)).set (j := 1) (by omega) (g 1)).set (j := 2) (by omega) (g 2)).congr fun j hj => ?_
  rcases (show j = 0 ∨ j = 1 ∨ j = 2 by omega) with rfl | rfl | rfl <;> simp
theorem TBox.new (w : World) (f : Nat → Nat) : TBox (w.alloc (.cells (tA f) 61)) w.heap.size f := heap_alloc_new _ _
end
/-- p, in place followed by q, after k points -/
def pkF (s t k j : Nat) : Nat := if j < k then vl t (vl s j) else vl s j
/-- the inverse, after k points -/
def fiF (d k j : Nat) : Nat := if vl (invD d) j < k then vl (invD d) j else 0
theorem fi_step : ∀ d, d < 6 → ∀ k, k < 3 → ∀ j, j < 3 → fiF d (k + 1) j = if j = vl d k then k else fiF d k j := by decide
theorem fi_end : ∀ d, d < 6 → ∀ j, j < 3 → fiF d 3 j = vl (invD d) j := by decide
theorem pk_step (s t k j : Nat) : pkF s t (k + 1) j = if j = k then vl t (vl s k) else pkF s t k j := by
  unfold pkF
  by_cases e : j = k
  · subst e; simp
  · rw [if_neg e]
    by_cases h : j < k
    · rw [if_pos h, if_pos (by omega)]
    · rw [if_neg h, if_neg (by omega)]
theorem imgF_take {l : List Nat} {w : List Int} {k : Nat} (h : k < w.length) : imgD l (w.take (k + 1)) = mulD (imgD l (w.take k)) (ltD l (gi w k)) := by
  unfold imgD imgF
  rw [List.take_succ_eq_append_getElem h, List.foldl_append]
  simp [gi, h]
theorem WL.take {n : Nat} {w : List Int} (h : WL n w) (k : Nat) : WL n (w.take k) := fun x hx => h x (List.mem_of_mem_take hx)

/-- while a word is read: d the image so far -/
structure ImS (w wr : World) (d : Nat) : Prop where
  bel : Below w.heap.size w wr
  res : TBox wr w.heap.size (fun _ => 0)
  p : TBox wr (w.heap.size + 1) (vl d)
theorem idx0 (a b c : Value) (w : World) : (Instr.index 61 (.agg #[a, b, c]) (.int .i64 0)).run Try.prog w = .ok a w := by kernel_rfl
theorem idx1 (a b c : Value) (w : World) : (Instr.index 61 (.agg #[a, b, c]) (.int .i64 1)).run Try.prog w = .ok b w := by kernel_rfl
theorem idx2 (a b c : Value) (w : World) : (Instr.index 61 (.agg #[a, b, c]) (.int .i64 2)).run Try.prog w = .ok c w := by kernel_rfl
/-- while p is followed by t -/
structure ImQ (w wr : World) (bq t : Nat) (f : Nat → Nat) : Prop where
  bel : Below w.heap.size w wr
  res : TBox wr w.heap.size (fun _ => 0)
  p : TBox wr (w.heap.size + 1) f
  q : TBox wr bq (vl t)
  ge : w.heap.size + 2 ≤ bq
theorem ImQ.set {w wr : World} {bq t : Nat} {f : Nat → Nat} (h : ImQ w wr bq t f) {j : Nat} (hj : j < 3) (k : Nat) : ImQ w (wr.setCell ⟨w.heap.size + 1, j, none⟩ (.int .i64 (k : Int))) bq t (fun i => if i = j then k else f i) :=
  ⟨h.bel.setCell (by show w.heap.size ≤ w.heap.size + 1; omega) _, h.res.keep (Below.heap_setCell wr _ _ _ (by show w.heap.size ≠ w.heap.size + 1; omega)), h.p.set hj k, h.q.keep (Below.heap_setCell wr _ _ _ (by show bq ≠ w.heap.size + 1; have := h.ge; omega)), h.ge⟩
/-- while the inverse is laid -/
structure ImV (w wr : World) (bq t : Nat) (f g : Nat → Nat) : Prop where
  q : ImQ w wr bq t f
  v : TBox wr (bq + 1) g
theorem ImV.set {w wr : World} {bq t : Nat} {f g : Nat → Nat} (h : ImV w wr bq t f g) {j : Nat} (hj : j < 3) (k : Nat) : ImV w (wr.setCell ⟨bq + 1, j, none⟩ (.int .i64 (k : Int))) bq t f (fun i => if i = j then k else g i) :=
  have hge := h.q.ge
  ⟨⟨h.q.bel.setCell (by show w.heap.size ≤ bq + 1; omega) _, h.q.res.keep (Below.heap_setCell wr _ _ _ (by show w.heap.size ≠ bq + 1; omega)), h.q.p.keep (Below.heap_setCell wr _ _ _ (by show w.heap.size + 1 ≠ bq + 1; omega)), h.q.q.keep (Below.heap_setCell wr _ _ _ (by show bq ≠ bq + 1; omega)), hge⟩, h.v.set hj k⟩
theorem ImV.put {w wr : World} {bq t u : Nat} {f g : Nat → Nat} (h : ImV w wr bq t f g) (hg : ∀ j, j < 3 → g j = vl u j) : ImQ w (((wr.setCell ⟨bq, 0, none⟩ (.int .i64 (g 0 : Int))).setCell ⟨bq, 1, none⟩ (.int .i64 (g 1 : Int))).setCell ⟨bq, 2, none⟩ (.int .i64 (g 2 : Int))) bq u f :=
  have hge := h.q.ge
  ⟨((h.q.bel.setCell (by show w.heap.size ≤ bq; omega) _).setCell (by show w.heap.size ≤ bq; omega) _).setCell (by show w.heap.size ≤ bq; omega) _, h.q.res.keep (three_sets _ _ _ (by omega)), h.q.p.keep (three_sets _ _ _ (by omega)), (h.q.q.set3 g).congr hg, hge⟩
theorem ImQ.done {w wr : World} {bq t d : Nat} (h : ImQ w wr bq t (pkF d t 3)) (hd : d < 6) (ht : t < 6) : ImS w wr (mulD d t) :=
  ⟨h.bel, h.res, h.p.congr fun j hj => by rw [mul_vl d hd t ht j hj]; unfold pkF; rw [if_pos hj]⟩
set_option maxRecDepth 100000 in
set_option maxHeartbeats 8000000 in
theorem image_any (A Al : Option Addr) (c cl : Nat) (ys : List Int) (ls : List Nat) (w : World) (S T : Nat → Prop) (hx : RI w S A ys) (hS : ∀ b, S b → b < w.heap.size) (hl : RT w T Al ls) (hT : ∀ b, T b → b < w.heap.size)
    (hm : ys.length ≤ 1000000) (hn : ls.length ≤ 1000) (hw : WL ls.length ys) (hd : DgL ls) :
    Calls Try.prog 41 #[.slice A ys.length c, .slice Al ls.length cl] w fun e w' => e = .returned (.agg #[vI (imgD ls ys) 0, vI (imgD ls ys) 1, vI (imgD ls ys) 2]) ∧ Below w.heap.size w w' := by
  have HX := Lib.hid hx
  have HL := Lib.hid hl
  have HS := Lib.hid hS
  have HT := Lib.hid hT
  have HW := Lib.hid hw
  have HG := Lib.hid hd
  clear hx hl hS hT hw hd
  go_enter Try.func41, Try.ntmps41
  go_wp2_with fail
  have hI0 : Hid (ImS w ((w.alloc (.cells #[.int .i64 0, .int .i64 0, .int .i64 0] 61)).alloc (.cells #[.int .i64 0, .int .i64 1, .int .i64 2] 61)) (imgD ls (ys.take 0))) := by
    refine ⟨((Below.refl w.heap.size w).alloc (Nat.le_refl _) _).alloc (by simp) _, ?_, ?_⟩
    · exact (TBox.new w (fun _ => 0)).keep (Below.heap_alloc _ _ _ (by simp))
    · have h := TBox.new (w.alloc (.cells #[.int .i64 0, .int .i64 0, .int .i64 0] 61)) (vl 0)
      have e : (w.alloc (.cells #[.int .i64 0, .int .i64 0, .int .i64 0] 61)).heap.size = w.heap.size + 1 := by simp
      rw [e] at h; exact h
  go_loopw [17] (fun i' wr => ∃ k : Nat, k ≤ ys.length ∧ i' = .int .i64 k ∧ Hid (ImS w wr (imgD ls (ys.take k)))) (fun i' _ => ys.length - (intOf i').toNat)
  case atStart => exact ⟨0, Nat.zero_le _, rfl, hI0⟩
  case round =>
    clear hI0
    obtain ⟨k, hk, rfl, HI⟩ := hrel
    by_cases hlt : k < ys.length
    · have hr := HX.out.keep (w' := wr) (fun b h => HI.out.bel.block b (HS.out b h))
      obtain ⟨b, off, rfl, -, hc⟩ := hr.at_ hlt
      have c1 := hc k hlt
      have hwx := HW.out (gi ys k) (by rw [gi_lt hlt]; exact List.getElem_mem hlt)
      have hst := imgF_take (l := ls) hlt
      have hd6 := imgD_lt HG.out (HW.out.take k)
      obtain ⟨x, hxx⟩ : ∃ x, gi ys k = x := ⟨_, rfl⟩
      rw [hxx] at c1 hwx hst
      obtain ⟨hx0, hgl⟩ := hwx
      have hgx : ga x = x.natAbs - 1 := rfl
      have hltd : ltD ls x = if x < 0 then invD (gN ls (ga x)) else gN ls (ga x) := rfl
      obtain ⟨g, hg⟩ : ∃ g, ga x = g := ⟨_, rfl⟩
      rw [hg] at hgl hgx hltd
      have ht6 := HG.out g hgl
      have hrl := HL.out.keep (w' := wr) (fun b h => HI.out.bel.block b (HT.out b h))
      obtain ⟨b2, off2, rfl, -, hcc⟩ := hrl.at_ hgl
      obtain ⟨q0, q1, q2⟩ := hcc g hgl
      obtain ⟨t, ht⟩ : ∃ t, gN ls g = t := ⟨_, rfl⟩
      rw [ht] at q0 q1 q2 ht6 hltd
      unfold vI at q0 q1 q2
      obtain ⟨d, hd⟩ : ∃ d, imgD ls (ys.take k) = d := ⟨_, rfl⟩
      rw [hd] at hst hd6 HI
      have i0 : ¬ (g : Int) < 0 := by omega
      have i1 : ¬ (ls.length : Int) ≤ (g : Int) := by omega
      have i2 : (0 : Int) ≤ (g : Int) ∧ (g : Int) < (ls.length : Int) := by omega
      clear hr hc hrl hcc hxx hg ht hd
      by_cases hneg : x < 0
      · rw [if_pos hneg] at hltd
        have n1 : IntKind.i64.wrap (-x) = (g : Int) + 1 := by rw [show -x = (g : Int) + 1 by omega]; exact IntWalk.i64_in _ (by omega)
        have n2 : IntKind.i64.wrap ((g : Int) + 1 - 1) = (g : Int) := by rw [show (g : Int) + 1 - 1 = (g : Int) by omega]; exact IntWalk.i64_in _ (by omega)
        have h5 : x < (g : Int) + 1 := by omega
        have h6 : ¬ (g : Int) + 1 < x := by omega
        clear hgx hx0
        rw [hltd] at hst
        have HST := Lib.hid hst
        have hu6 := inv_lt t ht6
        have HV0 : Hid (ImV w ((wr.alloc (.cells (tA (vl t)) 61)).alloc (.cells #[.int .i64 0, .int .i64 0, .int .i64 0] 61)) wr.heap.size t (vl d) (fiF t 0)) := by
          have hp := HI.out.p.lt
          have hz := HI.out.bel.size
          have hz1 : wr.heap.size < (wr.alloc (.cells (tA (vl t)) 61)).heap.size := by simp
          refine ⟨⟨(HI.out.bel.alloc hz _).alloc (by omega) _, (HI.out.res.keep (Below.heap_alloc _ _ _ HI.out.res.lt)).keep (Below.heap_alloc _ _ _ (by omega)), (HI.out.p.keep (Below.heap_alloc _ _ _ hp)).keep (Below.heap_alloc _ _ _ (by omega)), (TBox.new wr (vl t)).keep (Below.heap_alloc _ _ _ hz1), by omega⟩, ?_⟩
          have h := TBox.new (wr.alloc (.cells (tA (vl t)) 61)) (fun _ => 0)
          have e : (wr.alloc (.cells (tA (vl t)) 61)).heap.size = wr.heap.size + 1 := by simp
          rw [e] at h
          exact h.congr (fun j _ => by unfold fiF; rw [if_neg (by omega)])
        clear hst hltd
        go_wp2_with fail
        obtain ⟨bq, hbq⟩ : ∃ b, wr.heap.size = b := ⟨_, rfl⟩
        have HV := HV0
        rw [hbq] at HV ⊢
        clear HV0 hbq c1 q0 q1 q2 n1 n2 HI
        go_loopw [42] (fun i' wr => ∃ i : Nat, i ≤ 3 ∧ i' = .int .i64 i ∧ Hid (ImV w wr bq t (vl d) (fiF t i))) (fun i' _ => 3 - (intOf i').toNat)
        case atStart => exact ⟨0, by omega, rfl, HV⟩
        case round =>
          clear HV
          obtain ⟨i, hi, rfl, HV⟩ := hrel
          by_cases hil : i < 3
          · have hy3 := vl_lt t ht6 i hil
            have HP := Lib.hid (fi_step t ht6 i hil)
            have p2 := HV.out.v.free (vl t i)
            have p1 := HV.out.v.cell hy3
            have HV2 := Lib.hid (HV.out.set hy3 i)
            rcases (show i = 0 ∨ i = 1 ∨ i = 2 by omega) with rfl | rfl | rfl
            · obtain ⟨y, hy⟩ : ∃ y, vl t 0 = y := ⟨_, rfl⟩
              simp only [hy] at hy3 HP p1 p2 HV2
              rw [hy]
              have HV3 : Hid (ImV w _ bq t (vl d) (fiF t (0 + 1))) := ⟨HV2.out.q, HV2.out.v.congr (fun j hj => (HP.out j hj).symm)⟩
              have j1 : (0 : Int) ≤ (y : Int) ∧ (y : Int) < 3 := by omega
              clear HP HV2 hy HV
              have hix := idx0
              go_wp2_with fail
              go_roundw
              case rel => exact ⟨0 + 1, by omega, by go_num, HV3⟩
              case measure => simp [intOf]
            · obtain ⟨y, hy⟩ : ∃ y, vl t 1 = y := ⟨_, rfl⟩
              simp only [hy] at hy3 HP p1 p2 HV2
              rw [hy]
              have HV3 : Hid (ImV w _ bq t (vl d) (fiF t (1 + 1))) := ⟨HV2.out.q, HV2.out.v.congr (fun j hj => (HP.out j hj).symm)⟩
              have j1 : (0 : Int) ≤ (y : Int) ∧ (y : Int) < 3 := by omega
              clear HP HV2 hy HV
              have hix := idx1
              go_wp2_with fail
              go_roundw
              case rel => exact ⟨1 + 1, by omega, by go_num, HV3⟩
              case measure => simp [intOf]
            · obtain ⟨y, hy⟩ : ∃ y, vl t 2 = y := ⟨_, rfl⟩
              simp only [hy] at hy3 HP p1 p2 HV2
              rw [hy]
              have HV3 : Hid (ImV w _ bq t (vl d) (fiF t (2 + 1))) := ⟨HV2.out.q, HV2.out.v.congr (fun j hj => (HP.out j hj).symm)⟩
              have j1 : (0 : Int) ≤ (y : Int) ∧ (y : Int) < 3 := by omega
              clear HP HV2 hy HV
              have hix := idx2
              go_wp2_with fail
              go_roundw
              case rel => exact ⟨2 + 1, by omega, by go_num, HV3⟩
              case measure => simp [intOf]
          · obtain rfl : i = 3 := by omega
            have r0 := HV.out.v.cell (j := 0) (by omega)
            have r1 := HV.out.v.cell (j := 1) (by omega)
            have r2 := HV.out.v.cell (j := 2) (by omega)
            have f0 := HV.out.q.q.free 0
            have f1 := HV.out.q.q.free 1
            have f2 := HV.out.q.q.free 2
            have g0 := HV.out.q.q.cell (j := 0) (by omega)
            have g1 := HV.out.q.q.cell (j := 1) (by omega)
            have g2 := HV.out.q.q.cell (j := 2) (by omega)
            have hput := HV.out.put (fi_end t ht6)
            have HQ0 : Hid (ImQ w _ bq (invD t) (pkF d (invD t) 0)) := ⟨hput.bel, hput.res, hput.p.congr (fun j _ => by unfold pkF; simp), hput.q, hput.ge⟩
            obtain ⟨u, hu⟩ : ∃ u, invD t = u := ⟨_, rfl⟩
            rw [hu] at HQ0 HST hu6
            clear hput hil HV hu
            go_wp2_with fail
            clear r0 r1 r2 f0 f1 f2 g0 g1 g2
            have HQ := HQ0
            clear HQ0
            go_loopw [51] (fun i' wr => ∃ i : Nat, i ≤ 3 ∧ i' = .int .i64 i ∧ Hid (ImQ w wr bq u (pkF d u i))) (fun i' _ => 3 - (intOf i').toNat)
            case atStart => exact ⟨0, by omega, rfl, HQ⟩
            case round =>
              clear HQ
              obtain ⟨i, hi, rfl, HQ⟩ := hrel
              by_cases hil : i < 3
              · have p1 := HQ.out.p.cell hil
                have p2 := HQ.out.p.free i
                have e1 : pkF d u i i = vl d i := by unfold pkF; rw [if_neg (by omega)]
                rw [e1] at p1
                have hy3 := vl_lt d hd6 i hil
                have HP := Lib.hid (pk_step d u i)
                obtain ⟨y, hy⟩ : ∃ y, vl d i = y := ⟨_, rfl⟩
                rw [hy] at p1 hy3 HP
                have p3 := HQ.out.q.cell hy3
                have HQ' := Lib.hid ((HQ.out.set hil (vl u y)).p)
                have HQ2 : Hid (ImQ w _ bq u (pkF d u (i + 1))) := ⟨(HQ.out.set hil (vl u y)).bel, (HQ.out.set hil (vl u y)).res, HQ'.out.congr (fun j _ => (HP.out j).symm), (HQ.out.set hil (vl u y)).q, (HQ.out.set hil (vl u y)).ge⟩
                have j1 : (0 : Int) ≤ (y : Int) ∧ (y : Int) < 3 := by omega
                have j2 : (0 : Int) ≤ (i : Int) ∧ (i : Int) < 3 := by omega
                have j3 : ((y : Int)).toNat = y := rfl
                clear e1 HQ' HP hy HQ
                go_wp2_with fail
                go_roundw
                case rel => exact ⟨i + 1, by omega, by go_num, HQ2⟩
                case measure => simp [intOf]; omega
              · obtain rfl : i = 3 := by omega
                have HI' : Hid (ImS w wr (imgD ls (ys.take (k + 1)))) := by rw [HST.out]; exact HQ.out.done hd6 hu6
                clear HQ hil
                go_wp2_with fail
                go_roundw
                case rel => exact ⟨k + 1, by omega, by go_num, HI'⟩
                case measure => simp [intOf]; omega
      · rw [if_neg hneg] at hltd
        have n1 : IntKind.i64.wrap (-x) = -x := IntWalk.i64_in _ (by omega)
        have n2 : IntKind.i64.wrap (x - 1) = (g : Int) := by rw [show x - 1 = (g : Int) by omega]; exact IntWalk.i64_in _ (by omega)
        have h5 : -x < x := by omega
        have h6 : ¬ x < -x := by omega
        clear hgx hx0
        rw [hltd] at hst
        have HST := Lib.hid hst
        have HQ0 : Hid (ImQ w (wr.alloc (.cells (tA (vl t)) 61)) wr.heap.size t (pkF d t 0)) :=
          ⟨HI.out.bel.alloc HI.out.bel.size _, HI.out.res.keep (Below.heap_alloc _ _ _ HI.out.res.lt), (HI.out.p.keep (Below.heap_alloc _ _ _ HI.out.p.lt)).congr (fun j _ => by unfold pkF; simp), TBox.new wr (vl t), by have := HI.out.p.lt; omega⟩
        clear hst hltd
        go_wp2_with fail
        obtain ⟨bq, hbq⟩ : ∃ b, wr.heap.size = b := ⟨_, rfl⟩
        have HQ := HQ0
        rw [hbq] at HQ ⊢
        clear HQ0 hbq c1 q0 q1 q2 n1 n2 HI
        go_loopw [51] (fun i' wr => ∃ i : Nat, i ≤ 3 ∧ i' = .int .i64 i ∧ Hid (ImQ w wr bq t (pkF d t i))) (fun i' _ => 3 - (intOf i').toNat)
        case atStart => exact ⟨0, by omega, rfl, HQ⟩
        case round =>
          clear HQ
          obtain ⟨i, hi, rfl, HQ⟩ := hrel
          by_cases hil : i < 3
          · have p1 := HQ.out.p.cell hil
            have p2 := HQ.out.p.free i
            have e1 : pkF d t i i = vl d i := by unfold pkF; rw [if_neg (by omega)]
            rw [e1] at p1
            have hy3 := vl_lt d hd6 i hil
            have HP := Lib.hid (pk_step d t i)
            obtain ⟨y, hy⟩ : ∃ y, vl d i = y := ⟨_, rfl⟩
            rw [hy] at p1 hy3 HP
            have p3 := HQ.out.q.cell hy3
            have HQ' := Lib.hid ((HQ.out.set hil (vl t y)).p)
            have HQ2 : Hid (ImQ w _ bq t (pkF d t (i + 1))) := ⟨(HQ.out.set hil (vl t y)).bel, (HQ.out.set hil (vl t y)).res, HQ'.out.congr (fun j _ => (HP.out j).symm), (HQ.out.set hil (vl t y)).q, (HQ.out.set hil (vl t y)).ge⟩
            have j1 : (0 : Int) ≤ (y : Int) ∧ (y : Int) < 3 := by omega
            have j2 : (0 : Int) ≤ (i : Int) ∧ (i : Int) < 3 := by omega
            have j3 : ((y : Int)).toNat = y := rfl
            clear e1 HQ' HP hy HQ
            go_wp2_with fail
            go_roundw
            case rel => exact ⟨i + 1, by omega, by go_num, HQ2⟩
            case measure => simp [intOf]; omega
          · obtain rfl : i = 3 := by omega
            have HI' : Hid (ImS w wr (imgD ls (ys.take (k + 1)))) := by rw [HST.out]; exact HQ.out.done hd6 ht6
            clear HQ hil
            go_wp2_with fail
            go_roundw
            case rel => exact ⟨k + 1, by omega, by go_num, HI'⟩
            case measure => simp [intOf]; omega
    · obtain rfl : ys.length = k := by omega
      rw [List.take_length] at HI
      have r0 := HI.out.p.cell (j := 0) (by omega)
      have r1 := HI.out.p.cell (j := 1) (by omega)
      have r2 := HI.out.p.cell (j := 2) (by omega)
      have f0 := HI.out.res.free 0
      have f1 := HI.out.res.free 1
      have f2 := HI.out.res.free 2
      have g0 := HI.out.res.cell (j := 0) (by omega)
      have g1 := HI.out.res.cell (j := 1) (by omega)
      have g2 := HI.out.res.cell (j := 2) (by omega)
      clear hlt
      go_wp2_with fail
      have HF := Lib.hid (HI.out.res.set3 (vl (imgD ls ys)))
      have HFB : Hid (Below w.heap.size w (((wr.setCell ⟨w.heap.size, 0, none⟩ (.int .i64 (vl (imgD ls ys) 0 : Int))).setCell ⟨w.heap.size, 1, none⟩ (.int .i64 (vl (imgD ls ys) 1 : Int))).setCell ⟨w.heap.size, 2, none⟩ (.int .i64 (vl (imgD ls ys) 2 : Int)))) :=
        ((HI.out.bel.setCell (Nat.le_refl _) _).setCell (Nat.le_refl _) _).setCell (Nat.le_refl _) _
      generalize (((wr.setCell ⟨w.heap.size, 0, none⟩ (.int .i64 (vl (imgD ls ys) 0 : Int))).setCell ⟨w.heap.size, 1, none⟩ (.int .i64 (vl (imgD ls ys) 1 : Int))).setCell ⟨w.heap.size, 2, none⟩ (.int .i64 (vl (imgD ls ys) 2 : Int))) = wf at HF HFB ⊢
      have y0 := HF.out.cell (j := 0) (by omega)
      have y1 := HF.out.cell (j := 1) (by omega)
      have y2 := HF.out.cell (j := 2) (by omega)
      clear r0 r1 r2 f0 f1 f2 g0 g1 g2
      refine bodyPost_ret (v := .agg #[.int .i64 (vl (imgD ls ys) 0 : Int), .int .i64 (vl (imgD ls ys) 1 : Int), .int .i64 (vl (imgD ls ys) 2 : Int)]) (by simp [results, Try.results41, go_sem, y0, y1, y2]; done) rfl ?_
      exact ⟨rfl, HFB.out⟩
end Go.Proofs.Ytcjgfncbecbhjaa

