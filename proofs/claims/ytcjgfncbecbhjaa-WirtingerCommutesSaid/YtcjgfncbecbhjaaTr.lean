/-
  A fresh row of permutations of three points: what a list of type [][3]int is.
-/
import Derived.Test.YtcjgfncbecbhjaaPerm
namespace Go.Proofs.Ytcjgfncbecbhjaa
open Go.RowKit

def vI (d i : Nat) : Value := .int .i64 (vl d i : Int)
def flatT (ds : List Nat) : List Value := ds.flatMap fun d => [vI d 0, vI d 1, vI d 2]
theorem flatT_length (ds : List Nat) : (flatT ds).length = ds.length * 3 := by
  induction ds with
  | nil => rfl
  | cons p ps ih => unfold flatT at ih ⊢; rw [List.flatMap_cons, List.length_append, ih]; simp; omega
theorem flatT_append (ds : List Nat) (d : Nat) : flatT (ds ++ [d]) = flatT ds ++ [vI d 0, vI d 1, vI d 2] := by simp [flatT]
theorem flatT_at : ∀ (ds : List Nat) {k : Nat} (_ : k < ds.length), (flatT ds)[k * 3]? = some (vI (gN ds k) 0) ∧ (flatT ds)[k * 3 + 1]? = some (vI (gN ds k) 1) ∧ (flatT ds)[k * 3 + 2]? = some (vI (gN ds k) 2)
  | [], k, hk => by simp at hk
  | p :: ps, 0, _ => by simp [flatT, gN]
  | p :: ps, k + 1, hk => by
    have := flatT_at ps (k := k) (by simpa using hk)
    have e : flatT (p :: ps) = vI p 0 :: vI p 1 :: vI p 2 :: flatT ps := by simp [flatT]
    have e2 : gN (p :: ps) (k + 1) = gN ps k := by simp [gN]
    rw [e, e2, show (k + 1) * 3 = k * 3 + 1 + 1 + 1 by omega]
    simpa using this

def OT (w : World) (B : Nat) (v : Value) (ds : List Nat) : Prop := w.ownsRow B 61 3 v ds.length (flatT ds)
/-- a slice at A reads ds -/
def RT (w : World) (S : Nat → Prop) (A : Option Addr) (ds : List Nat) : Prop :=
  ds ≠ [] → ∃ b off, A = some ⟨b, off, none⟩ ∧ S b ∧ ∀ k, k < ds.length → w.cell? ⟨b, off + k * 3, none⟩ = some (vI (gN ds k) 0) ∧ w.cell? ⟨b, off + k * 3 + 1, none⟩ = some (vI (gN ds k) 1) ∧ w.cell? ⟨b, off + k * 3 + 2, none⟩ = some (vI (gN ds k) 2)
theorem trip_info : (Try.prog.info? 61).map (fun i => (i.zero, i.size, i.bytes)) = some (some (.agg #[.int .i64 0, .int .i64 0, .int .i64 0]), 3, 24) := by kernel_rfl

section
variable {w w' : World} {S T : Nat → Prop} {A : Option Addr} {ds : List Nat}
theorem RT.at_ {k : Nat} (h : RT w S A ds) (hk : k < ds.length) : ∃ b off, A = some ⟨b, off, none⟩ ∧ S b ∧ ∀ k, k < ds.length → w.cell? ⟨b, off + k * 3, none⟩ = some (vI (gN ds k) 0) ∧ w.cell? ⟨b, off + k * 3 + 1, none⟩ = some (vI (gN ds k) 1) ∧ w.cell? ⟨b, off + k * 3 + 2, none⟩ = some (vI (gN ds k) 2) :=
  h (by intro e; subst e; simp at hk)
theorem RT.imp (h : RT w S A ds) (hS : ∀ b, S b → T b) : RT w T A ds := fun hne => by
  obtain ⟨b, off, e, hb, hc⟩ := h hne
  exact ⟨b, off, e, hS b hb, hc⟩
theorem RT.keep (h : RT w S A ds) (hk : ∀ b, S b → w'.heap[b]? = w.heap[b]?) : RT w' S A ds := fun hne => by
  obtain ⟨b, off, e, hb, hc⟩ := h hne
  have hc' : ∀ {o : Nat} {v : Value}, w.cell? ⟨b, o, none⟩ = some v → w'.cell? ⟨b, o, none⟩ = some v := fun {o v} hv => (World.cell?_of_block (a := ⟨b, o, none⟩) (hk b hb)).trans hv
  exact ⟨b, off, e, hb, fun k hlt => ⟨hc' (hc k hlt).1, hc' (hc k hlt).2.1, hc' (hc k hlt).2.2⟩⟩
end
section
variable {w w' : World} {B : Nat} {v : Value} {ds : List Nat}
theorem OT.nil (w : World) (B : Nat) : OT w B (.slice none 0 0) [] := World.ownsRow_nil w B _ _
theorem OT.shape (h : OT w B v ds) : ∃ A c, v = .slice A ds.length c ∧ ds.length ≤ c ∧ c ≤ maxLen := by
  rcases h.2 with ⟨rfl, hn⟩ | ⟨g, c, cur, rfl, hb, hh, hnc, hcm, hcs, ht⟩
  · exact ⟨none, 0, by rw [hn], by omega, Nat.zero_le _⟩
  · exact ⟨_, c, rfl, hnc, hcm⟩
theorem OT.lt (h : OT w B v ds) : ∀ g, v.ownBlock = some g → B ≤ g ∧ g < w.heap.size := World.ownsRow.lt h
theorem OT.keep (h : OT w B v ds) (hg : ∀ g, v.ownBlock = some g → w'.heap[g]? = w.heap[g]?) : OT w' B v ds := by
  refine ⟨h.1, ?_⟩
  rcases h.2 with h2 | ⟨g, c, cur, rfl, hb, hh, hr⟩
  · exact .inl h2
  · exact .inr ⟨g, c, cur, rfl, hb, by rw [hg g rfl]; exact hh, hr⟩
theorem OT.mono {B' : Nat} (h : OT w B v ds) (hB : B' ≤ B) : OT w B' v ds := by
  refine ⟨h.1, ?_⟩
  rcases h.2 with h2 | ⟨g, c, cur, rfl, hb, hh, hr⟩
  · exact .inl h2
  · exact .inr ⟨g, c, cur, rfl, by omega, hh, hr⟩
theorem OT.below {C : Nat} (h : OT w B v ds) (hb : Below C w w') (hC : w.heap.size ≤ C) : OT w' B v ds :=
  h.keep fun g hg => hb.block g (by have := (h.lt g hg).2; omega)
theorem OT.alloc (h : OT w B v ds) (o : Obj) : OT (w.alloc o) B v ds := World.ownsRow.alloc h o
theorem OT.reads (h : OT w B v ds) : ∃ A c, v = .slice A ds.length c ∧ RT w (fun b => B ≤ b ∧ b < w.heap.size) A ds := by
  have h0 := h
  rcases h.2 with ⟨rfl, hn⟩ | ⟨g, c, cur, rfl, hb, hh, hnc, hcm, hcs, ht⟩
  · refine ⟨none, 0, by rw [hn], fun hne => ?_⟩
    exact absurd (List.eq_nil_of_length_eq_zero hn) hne
  · refine ⟨_, c, rfl, fun _ => ⟨g, 0, rfl, ⟨hb, ?_⟩, fun k hk => ?_⟩⟩
    · rcases Nat.lt_or_ge g w.heap.size with h | h
      · exact h
      · rw [Array.getElem?_eq_none h] at hh; cases hh
    · obtain ⟨e1, e2, e3⟩ := flatT_at ds hk
      rw [Nat.zero_add]
      exact ⟨(World.ownsRow.cellAt h0 (k * 3) (by omega)).trans e1, (World.ownsRow.cellAt h0 (k * 3 + 1) (by omega)).trans e2, (World.ownsRow.cellAt h0 (k * 3 + 2) (by omega)).trans e3⟩
theorem OT.grown_below {W : World} (h : OT w B v ds) (hb : Below B W w) (hB : B ≤ w.heap.size) (hg : w.grownBy w' v.ownBlock) : Below B W w' :=
  hb.grown hg hB fun k hk => (h.lt k hk).1
theorem wp_app_trip {o : Oper} {a : Act} {K : Act → World → Prop} {Q : Exit → Act → World → Prop} {s x : Operand} {t : TypeId} {d g : Nat}
    (hown : OT w B v ds) (hl : ds.length < 1099511627776) (hB : B ≤ w.heap.size) (hh : w.heap[g]? = some (.cells #[vI d 0, vI d 1, vI d 2] 61 (0, 0)))
    (ho : o.op = .call { callee := .builtin .append, args := #[s, x], argTypes := #[t, t] })
    (ht : Try.prog.underlying t = some (.slice 61)) (hs : a.eval s = v) (hx : a.eval x = .slice (some ⟨g, 0, none⟩) 1 1)
    (h : ∀ v' w', OT w' B v' (ds ++ [d]) → w.grownBy w' v.ownBlock → (v'.ownBlock = v.ownBlock ∨ v'.ownBlock = some w.heap.size) → K (a.put o.dst v') w') :
    o.wp Try.prog a w K Q := by
  obtain ⟨i0, hi, hz0, hz1, hz2⟩ := info_parts trip_info
  have hnew : ∀ (j : Nat) (u : Value), [vI d 0, vI d 1, vI d 2][j]? = some u → w.cell? ((⟨g, 0, none⟩ : Addr).add j) = some u := by
    intro j u hu
    have e : ((⟨g, 0, none⟩ : Addr).add j) = ⟨g, j, none⟩ := by
      unfold Addr.add
      split
      · rename_i h0; subst h0; rfl
      · simp
    rw [e, cell_of_row _ _ _ _ _ _ hh]
    simpa using hu
  obtain ⟨v', w', hrun, h2, h3, _, h5⟩ := run_append_own_at (P := Try.prog) w B t o.type 61 i0 _ 3 24 ht hi hz0 hz1 hz2 rfl (by decide) v ds.length _ hown
    ⟨g, 0, none⟩ 1 1 [vI d 0, vI d 1, vI d 2] rfl hnew (by intro u hu; simp at hu; rcases hu with rfl | rfl | rfl <;> rfl) (by unfold maxLen; omega) (by omega) hB
  unfold Oper.wp execOp
  simp only [ho, resolve, invoke, builtin, Sem.run_bind, Sem.run_pure, Result.andThen_ok, List.map_toArray, List.map_cons, List.map_nil, hs, hx, hrun]
  refine h v' w' ?_ h3 h5
  unfold OT
  rw [flatT_append, List.length_append]
  exact h2
/-- in a region that draws its order -/
theorem step_app_trip {ops : Array Oper} {o : Oper} {a : Act} {K : Act → World → Prop} {Q : Exit → Act → World → Prop} {E : Prop} {s x : Operand} {t : TypeId} {d g : Nat}
    (hown : OT w B v ds) (hl : ds.length < 1099511627776) (hB : B ≤ w.heap.size) (hh : w.heap[g]? = some (.cells #[vI d 0, vI d 1, vI d 2] 61 (0, 0)))
    (hgd : o.guard = none) (ho : o.op = .call { callee := .builtin .append, args := #[s, x], argTypes := #[t, t] })
    (ht : Try.prog.underlying t = some (.slice 61)) (hs : a.eval s = v) (hx : a.eval x = .slice (some ⟨g, 0, none⟩) 1 1)
    (h : ∀ v' w', OT w' B v' (ds ++ [d]) → w.grownBy w' v.ownBlock → (v'.ownBlock = v.ownBlock ∨ v'.ownBlock = some w.heap.size) → K (a.put o.dst v') w') :
    if Region.wanted o (yielded ops a.tmps) = true then Oper.wp Try.prog o a w K Q else E := by
  have hw : Region.wanted o (yielded ops a.tmps) = true := by simp [Region.wanted, hgd]
  rw [if_pos hw]
  exact wp_app_trip hown hl hB hh ho ht hs hx h
end
/-! ### two permutations compared -/
theorem eq_intD (d : Nat) (x y : Int) (w : World) : (Op.equalIn (d + 1) 3 (.int .i64 x) (.int .i64 y)).run Try.prog w = .ok (x == y) w := by
  simp [Op.equalIn, run_underlying Try.underlying3]
theorem eq_trip_d (d : Nat) (x y z u v t : Int) (w : World) : (Op.equalIn (d + 1 + 1) 61 (.agg #[.int .i64 x, .int .i64 y, .int .i64 z]) (.agg #[.int .i64 u, .int .i64 v, .int .i64 t])).run Try.prog w = .ok (x == u && (y == v && z == t)) w := by
  have hu : Try.prog.underlying 61 = some (.array 3 3) := by kernel_rfl
  have hs : ∀ w, (sizeOf 3).run Try.prog w = .ok 1 w := fun _ => by kernel_rfl
  have hp0 : ∀ (a b c : Value) w, (part 3 #[a, b, c] (0 * 1)).run Try.prog w = .ok a w := fun _ _ _ _ => by kernel_rfl
  have hp1 : ∀ (a b c : Value) w, (part 3 #[a, b, c] ((0 + 1) * 1)).run Try.prog w = .ok b w := fun _ _ _ _ => by kernel_rfl
  have hp2 : ∀ (a b c : Value) w, (part 3 #[a, b, c] ((0 + 1 + 1) * 1)).run Try.prog w = .ok c w := fun _ _ _ _ => by kernel_rfl
  rw [Op.equalIn]
  simp only [Sem.run_bind, run_underlying hu, Result.andThen_ok, hs, Std.Legacy.Range.forIn_eq_forIn_range', Std.Legacy.Range.size]
  simp only [show (3 - 0 + 1 - 1) / 1 = 3 from rfl, List.range']
  simp only [List.forIn_cons, List.forIn_nil, Sem.run_bind, Result.andThen_ok, hp0, eq_intD]
  cases x == u
  · simp
  · simp only [Bool.not_true, Bool.false_eq_true, if_false, Sem.run_pure, Sem.run_bind, Result.andThen_ok, hp1, eq_intD]
    cases y == v
    · simp
    · simp only [Bool.not_true, Bool.false_eq_true, if_false, Sem.run_pure, Sem.run_bind, Result.andThen_ok, hp2, eq_intD]
      cases z == t <;> simp
/-- permutations are equal exactly if their numbers are -/
theorem eq_perm {p q : Nat} (hp : p < 6) (hq : q < 6) (w : World) : (Op.equalIn 10000 61 (.agg #[vI p 0, vI p 1, vI p 2]) (.agg #[vI q 0, vI q 1, vI q 2])).run Try.prog w = .ok (decide (p = q)) w := by
  have h : ((vl p 0 : Int) == (vl q 0 : Int) && ((vl p 1 : Int) == (vl q 1 : Int) && (vl p 2 : Int) == (vl q 2 : Int))) = decide (p = q) := by
    rw [Bool.eq_iff_iff]
    simp only [Bool.and_eq_true, beq_iff_eq, decide_eq_true_eq]
    constructor
    · rintro ⟨a, b, c⟩; exact vl_inj p hp q hq (by omega) (by omega) (by omega)
    · rintro rfl; exact ⟨rfl, rfl, rfl⟩
  rw [← h]
  exact eq_trip_d 9998 _ _ _ _ _ _ w
end Go.Proofs.Ytcjgfncbecbhjaa

