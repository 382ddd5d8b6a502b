/-
  A fresh row of pairs of integers: what a result of type [][2]int is.
-/
import Derived.Test.YtaghemilihaiaaaBase
namespace Go.Proofs.Ytaghemilihaiaaa
open Go.RowKit

def flatP (ps : List (Int × Int)) : List Value := ps.flatMap fun p => [.int .i64 p.1, .int .i64 p.2]
theorem flatP_length (ps : List (Int × Int)) : (flatP ps).length = ps.length * 2 := by
  induction ps with
  | nil => rfl
  | cons p ps ih => unfold flatP at ih ⊢; rw [List.flatMap_cons, List.length_append, ih]; simp; omega
theorem flatP_append (ps : List (Int × Int)) (p : Int × Int) : flatP (ps ++ [p]) = flatP ps ++ [.int .i64 p.1, .int .i64 p.2] := by simp [flatP]
theorem flatP_at : ∀ (ps : List (Int × Int)) {k : Nat} (hk : k < ps.length), (flatP ps)[2 * k]? = some (.int .i64 ps[k].1) ∧ (flatP ps)[2 * k + 1]? = some (.int .i64 ps[k].2)
  | [], k, hk => by simp at hk
  | p :: ps, 0, _ => by simp [flatP]
  | p :: ps, k + 1, hk => by
    have := flatP_at ps (k := k) (by simpa using hk)
    have e : flatP (p :: ps) = .int .i64 p.1 :: .int .i64 p.2 :: flatP ps := by simp [flatP]
    rw [e, show 2 * (k + 1) = 2 * k + 1 + 1 by omega, List.getElem?_cons_succ, List.getElem?_cons_succ, List.getElem?_cons_succ, List.getElem?_cons_succ]
    simpa using this

def OP (w : World) (B : Nat) (v : Value) (ps : List (Int × Int)) : Prop := w.ownsRow B 41 2 v ps.length (flatP ps)

theorem pair_info : (Try.prog.info? 41).map (fun i => (i.zero, i.size, i.bytes)) = some (some (.agg #[.int .i64 0, .int .i64 0]), 2, 16) := by kernel_rfl

section
variable {w w' : World} {B : Nat} {v : Value} {ps : List (Int × Int)}
theorem OP.nil (w : World) (B : Nat) : OP w B (.slice none 0 0) [] := World.ownsRow_nil w B _ _
theorem OP.shape (h : OP w B v ps) : ∃ A c, v = .slice A ps.length c ∧ ps.length ≤ c ∧ c ≤ maxLen := by
  rcases h.2 with ⟨rfl, hn⟩ | ⟨g, c, cur, rfl, hb, hh, hnc, hcm, hcs, ht⟩
  · exact ⟨none, 0, by rw [hn], by omega, Nat.zero_le _⟩
  · exact ⟨_, c, rfl, hnc, hcm⟩
theorem OP.lt (h : OP w B v ps) : ∀ g, v.ownBlock = some g → B ≤ g ∧ g < w.heap.size := World.ownsRow.lt h
theorem OP.keep (h : OP w B v ps) (hg : ∀ g, v.ownBlock = some g → w'.heap[g]? = w.heap[g]?) : OP w' B v ps := by
  refine ⟨h.1, ?_⟩
  rcases h.2 with h2 | ⟨g, c, cur, rfl, hb, hh, hr⟩
  · exact .inl h2
  · exact .inr ⟨g, c, cur, rfl, hb, by rw [hg g rfl]; exact hh, hr⟩
theorem OP.mono {B' : Nat} (h : OP w B v ps) (hB : B' ≤ B) : OP w B' v ps := by
  refine ⟨h.1, ?_⟩
  rcases h.2 with h2 | ⟨g, c, cur, rfl, hb, hh, hr⟩
  · exact .inl h2
  · exact .inr ⟨g, c, cur, rfl, by omega, hh, hr⟩
theorem OP.below {C : Nat} (h : OP w B v ps) (hb : Below C w w') (hC : w.heap.size ≤ C) : OP w' B v ps :=
  h.keep fun g hg => hb.block g (by have := (h.lt g hg).2; omega)
theorem OP.alloc (h : OP w B v ps) (o : Obj) : OP (w.alloc o) B v ps := World.ownsRow.alloc h o
theorem OP.at_ (h : OP w B v ps) {k : Nat} (hk : k < ps.length) : ∃ g c, v = .slice (some ⟨g, 0, none⟩) ps.length c ∧ B ≤ g ∧ g < w.heap.size ∧ ps.length ≤ c ∧
    ∀ k (hk : k < ps.length), w.cell? ⟨g, 2 * k, none⟩ = some (.int .i64 ps[k].1) ∧ w.cell? ⟨g, 2 * k + 1, none⟩ = some (.int .i64 ps[k].2) := by
  have h0 := h
  rcases h.2 with ⟨rfl, hn⟩ | ⟨g, c, cur, rfl, hb, hh, hnc, hcm, hcs, ht⟩
  · omega
  · refine ⟨g, c, rfl, hb, ?_, hnc, fun k hk => ?_⟩
    · rcases Nat.lt_or_ge g w.heap.size with h | h
      · exact h
      · rw [Array.getElem?_eq_none h] at hh; cases hh
    · obtain ⟨e1, e2⟩ := flatP_at ps hk
      exact ⟨(World.ownsRow.cellAt h0 (2 * k) (by omega)).trans e1, (World.ownsRow.cellAt h0 (2 * k + 1) (by omega)).trans e2⟩
theorem OP.grown_below {W : World} (h : OP w B v ps) (hb : Below B W w) (hB : B ≤ w.heap.size) (o : Obj) (hg : (w.alloc o).grownBy w' v.ownBlock) : Below B W w' :=
  (hb.alloc hB o).grown hg (by simp; omega) fun k hk => (h.lt k hk).1

theorem wp_app_pair {o : Oper} {a : Act} {K : Act → World → Prop} {Q : Exit → Act → World → Prop} {s x : Operand} {t : TypeId} {y z : Int}
    (hown : OP w B v ps) (hl : ps.length < 1099511627776) (hB : B ≤ w.heap.size)
    (ho : o.op = .call { callee := .builtin .append, args := #[s, x], argTypes := #[t, t] })
    (ht : Try.prog.underlying t = some (.slice 41)) (hs : a.eval s = v) (hx : a.eval x = .slice (some ⟨w.heap.size, 0, none⟩) 1 1)
    (h : ∀ v' w', OP w' B v' (ps ++ [(y, z)]) → (w.alloc (.cells #[.int .i64 y, .int .i64 z] 41)).grownBy w' v.ownBlock → (v'.ownBlock = v.ownBlock ∨ v'.ownBlock = some (w.heap.size + 1)) → K (a.put o.dst v') w') :
    o.wp Try.prog a (w.alloc (.cells #[.int .i64 y, .int .i64 z] 41)) K Q := by
  obtain ⟨i0, hi, hz0, hz1, hz2⟩ := info_parts pair_info
  have hown' : (w.alloc (.cells #[.int .i64 y, .int .i64 z] 41)).ownsRow B 41 2 v ps.length (flatP ps) := World.ownsRow.alloc hown _
  have hnew : ∀ (j : Nat) (u : Value), [Value.int .i64 y, Value.int .i64 z][j]? = some u → (w.alloc (.cells #[.int .i64 y, .int .i64 z] 41)).cell? ((⟨w.heap.size, 0, none⟩ : Addr).add j) = some u := by
    intro j u hu
    have e : ((⟨w.heap.size, 0, none⟩ : Addr).add j) = ⟨w.heap.size, j, none⟩ := by
      unfold Addr.add
      split
      · rename_i h0; subst h0; rfl
      · simp
    rw [e, cell_of_row _ _ _ _ _ _ (heap_alloc_new w _)]
    simpa using hu
  obtain ⟨v', w', hrun, h2, h3, _, h5⟩ := run_append_own_at (P := Try.prog) (w.alloc (.cells #[.int .i64 y, .int .i64 z] 41)) B t o.type 41 i0 _ 2 16 ht hi hz0 hz1 hz2 rfl (by decide) v ps.length _ hown'
    ⟨w.heap.size, 0, none⟩ 1 1 [.int .i64 y, .int .i64 z] rfl hnew (by intro u hu; simp at hu; rcases hu with rfl | rfl <;> rfl) (by unfold maxLen; omega) (by omega) (by simp; omega)
  unfold Oper.wp execOp
  simp only [ho, resolve, invoke, builtin, Sem.run_bind, Sem.run_pure, Result.andThen_ok, List.map_toArray, List.map_cons, List.map_nil, hs, hx, hrun]
  refine h v' w' ?_ h3 (by simpa using h5)
  unfold OP
  rw [flatP_append, List.length_append]
  exact h2
theorem app_pair {ops : Array Oper} {rest : List Oper} {o : Oper} {a : Act} {Q : Exit → Act → World → Prop} {s x : Operand} {t : TypeId} {y z : Int}
    (hown : OP w B v ps) (hl : ps.length < 1099511627776) (hB : B ≤ w.heap.size)
    (hgd : o.guard = none) (ho : o.op = .call { callee := .builtin .append, args := #[s, x], argTypes := #[t, t] })
    (ht : Try.prog.underlying t = some (.slice 41)) (hs : a.eval s = v) (hx : a.eval x = .slice (some ⟨w.heap.size, 0, none⟩) 1 1)
    (h : ∀ v' w', OP w' B v' (ps ++ [(y, z)]) → (w.alloc (.cells #[.int .i64 y, .int .i64 z] 41)).grownBy w' v.ownBlock → (v'.ownBlock = v.ownBlock ∨ v'.ownBlock = some (w.heap.size + 1)) →
      wpList Try.prog ops Q rest (a.put o.dst v') w') :
    wpList Try.prog ops Q (o :: rest) a (w.alloc (.cells #[.int .i64 y, .int .i64 z] 41)) :=
  wpList_plain hgd fun _ hK => wp_app_pair hown hl hB ho ht hs hx fun v' w' h2 h3 h5 => hK _ _ (h v' w' h2 h3 h5)
theorem wp_app_pairW {o : Oper} {a : Act} {K : Act → World → Prop} {Q : Exit → Act → World → Prop} {s x : Operand} {t : TypeId} {y z : Int} {g : Nat}
    (hown : OP w B v ps) (hl : ps.length < 1099511627776) (hB : B ≤ w.heap.size) (hh : w.heap[g]? = some (.cells #[.int .i64 y, .int .i64 z] 41 (0, 0)))
    (ho : o.op = .call { callee := .builtin .append, args := #[s, x], argTypes := #[t, t] })
    (ht : Try.prog.underlying t = some (.slice 41)) (hs : a.eval s = v) (hx : a.eval x = .slice (some ⟨g, 0, none⟩) 1 1)
    (h : ∀ v' w', OP w' B v' (ps ++ [(y, z)]) → w.grownBy w' v.ownBlock → (v'.ownBlock = v.ownBlock ∨ v'.ownBlock = some w.heap.size) → K (a.put o.dst v') w') :
    o.wp Try.prog a w K Q := by
  obtain ⟨i0, hi, hz0, hz1, hz2⟩ := info_parts pair_info
  have hnew : ∀ (j : Nat) (u : Value), [Value.int .i64 y, Value.int .i64 z][j]? = some u → w.cell? ((⟨g, 0, none⟩ : Addr).add j) = some u := by
    intro j u hu
    have e : ((⟨g, 0, none⟩ : Addr).add j) = ⟨g, j, none⟩ := by
      unfold Addr.add
      split
      · rename_i h0; subst h0; rfl
      · simp
    rw [e, cell_of_row _ _ _ _ _ _ hh]
    simpa using hu
  obtain ⟨v', w', hrun, h2, h3, _, h5⟩ := run_append_own_at (P := Try.prog) w B t o.type 41 i0 _ 2 16 ht hi hz0 hz1 hz2 rfl (by decide) v ps.length _ hown
    ⟨g, 0, none⟩ 1 1 [.int .i64 y, .int .i64 z] rfl hnew (by intro u hu; simp at hu; rcases hu with rfl | rfl <;> rfl) (by unfold maxLen; omega) (by omega) hB
  unfold Oper.wp execOp
  simp only [ho, resolve, invoke, builtin, Sem.run_bind, Sem.run_pure, Result.andThen_ok, List.map_toArray, List.map_cons, List.map_nil, hs, hx, hrun]
  refine h v' w' ?_ h3 h5
  unfold OP
  rw [flatP_append, List.length_append]
  exact h2
/-- in a region that draws its order -/
theorem step_app_pair {ops : Array Oper} {o : Oper} {a : Act} {K : Act → World → Prop} {Q : Exit → Act → World → Prop} {E : Prop} {s x : Operand} {t : TypeId} {y z : Int} {g : Nat}
    (hown : OP w B v ps) (hl : ps.length < 1099511627776) (hB : B ≤ w.heap.size) (hh : w.heap[g]? = some (.cells #[.int .i64 y, .int .i64 z] 41 (0, 0)))
    (hgd : o.guard = none) (ho : o.op = .call { callee := .builtin .append, args := #[s, x], argTypes := #[t, t] })
    (ht : Try.prog.underlying t = some (.slice 41)) (hs : a.eval s = v) (hx : a.eval x = .slice (some ⟨g, 0, none⟩) 1 1)
    (h : ∀ v' w', OP w' B v' (ps ++ [(y, z)]) → w.grownBy w' v.ownBlock → (v'.ownBlock = v.ownBlock ∨ v'.ownBlock = some w.heap.size) → K (a.put o.dst v') w') :
    if Region.wanted o (yielded ops a.tmps) = true then Oper.wp Try.prog o a w K Q else E := by
  have hw : Region.wanted o (yielded ops a.tmps) = true := by simp [Region.wanted, hgd]
  rw [if_pos hw]
  exact wp_app_pairW hown hl hB hh ho ht hs hx h
end
/-! ### two pairs compared -/
theorem eq_int (d : Nat) (x y : Int) (w : World) : (Op.equalIn (d + 1) 3 (.int .i64 x) (.int .i64 y)).run Try.prog w = .ok (x == y) w := by
  simp [Op.equalIn, run_underlying Try.underlying3]
theorem eq_pair_d (d : Nat) (x y u v : Int) (w : World) : (Op.equalIn (d + 1 + 1) 41 (.agg #[.int .i64 x, .int .i64 y]) (.agg #[.int .i64 u, .int .i64 v])).run Try.prog w = .ok (x == u && y == v) w := by
  have hu : Try.prog.underlying 41 = some (.array 2 3) := by kernel_rfl
  have hs : ∀ w, (sizeOf 3).run Try.prog w = .ok 1 w := fun _ => by kernel_rfl
  have hp0 : ∀ (a b : Value) w, (part 3 #[a, b] (0 * 1)).run Try.prog w = .ok a w := fun _ _ _ => by kernel_rfl
  have hp1 : ∀ (a b : Value) w, (part 3 #[a, b] ((0 + 1) * 1)).run Try.prog w = .ok b w := fun _ _ _ => by kernel_rfl
  rw [Op.equalIn]
  simp only [Sem.run_bind, run_underlying hu, Result.andThen_ok, hs, Std.Legacy.Range.forIn_eq_forIn_range', Std.Legacy.Range.size]
  simp only [show (2 - 0 + 1 - 1) / 1 = 2 from rfl, List.range']
  simp only [List.forIn_cons, List.forIn_nil, Sem.run_bind, Result.andThen_ok, hp0, eq_int]
  cases x == u
  · simp
  · simp only [Bool.not_true, Bool.false_eq_true, if_false, Sem.run_pure, Sem.run_bind, Result.andThen_ok, hp1, eq_int]
    cases y == v <;> simp
theorem eq_pair (x y u v : Int) (w : World) : (Op.equalIn 10000 41 (.agg #[.int .i64 x, .int .i64 y]) (.agg #[.int .i64 u, .int .i64 v])).run Try.prog w = .ok (x == u && y == v) w := eq_pair_d 9998 x y u v w
end Go.Proofs.Ytaghemilihaiaaa

