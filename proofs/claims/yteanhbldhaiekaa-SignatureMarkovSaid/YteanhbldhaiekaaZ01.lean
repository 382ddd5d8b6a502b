/-
  Words and small laws that all proofs of this seat use: a slice of integers that reads as a list, a fresh row of integers, frames.
-/
import Derived.Test.YteanhbldhaiekaaRows
import Derived.WalkKit
import Derived.WalkSpells
import Derived.WalkLawsBesides
import Derived.Lib.Hide
import Derived.Deep.QuietTactic
import Derived.BigQuiet
import Derived.Maps.AppendAt
import Derived.Deep.LoopGhost
namespace Go.Proofs.Yteanhbldhaiekaa
open Go.RowKit

/-! ### lists of integers by index -/
def gi (xs : List Int) (k : Nat) : Int := xs.getD k 0

theorem gi_lt {xs : List Int} {k : Nat} (h : k < xs.length) : gi xs k = xs[k] := by simp [gi, h]
theorem map_gi {xs : List Int} {k : Nat} (h : k < xs.length) : (xs.map (Value.int .i64))[k]? = some (.int .i64 (gi xs k)) := by
  simp [gi, h]
theorem gi_append_lt {xs ys : List Int} {k : Nat} (h : k < xs.length) : gi (xs ++ ys) k = gi xs k := by
  simp [gi, List.getElem?_append_left h]
theorem gi_append_at (xs : List Int) (y : Int) : gi (xs ++ [y]) xs.length = y := by simp [gi]
theorem gi_set {xs : List Int} {i k : Nat} {y : Int} (hi : i < xs.length) : gi (xs.set i y) k = if k = i then y else gi xs k := by
  by_cases h : k = i
  · subst h; simp [gi, hi]
  · simp only [h, if_false]
    unfold gi
    rw [List.getD_eq_getElem?_getD, List.getD_eq_getElem?_getD, List.getElem?_set_ne (fun e => h e.symm)]
theorem ext_gi {xs ys : List Int} (hl : xs.length = ys.length) (h : ∀ k, k < xs.length → gi xs k = gi ys k) : xs = ys := by
  apply List.ext_getElem hl
  intro k h1 h2
  have := h k h1
  rwa [gi_lt h1, gi_lt h2] at this
theorem gi_replicate {n k : Nat} {y : Int} (h : k < n) : gi (List.replicate n y) k = y := by simp [gi, h]

theorem drewN2 (w : World) (n m : Nat) : (w.drewN n).drewN m = w.drewN (n + m) := by simp
theorem ret_bool {a b : Bool} (h : a = b) : Ending.returned (.bool a) = .returned (.bool b) := by rw [h]
theorem ret_val {v v' : Value} (h : v = v') : Ending.returned v = .returned v' := by rw [h]
theorem ret_i2 {a b c d : Int} (h : a = b) (h' : c = d) : Ending.returned (.tuple #[.int .i64 a, .int .i64 c]) = .returned (.tuple #[.int .i64 b, .int .i64 d]) := by rw [h, h']
theorem ret_int {k : IntKind} {a b : Int} (h : a = b) : Ending.returned (.int k a) = .returned (.int k b) := by rw [h]

/-! ### a slice that reads as a list of integers -/
def RI (w : World) (S : Nat → Prop) (A : Option Addr) (xs : List Int) : Prop :=
  xs ≠ [] → ∃ b off, A = some ⟨b, off, none⟩ ∧ S b ∧ ∀ k, k < xs.length → w.cell? ⟨b, off + k, none⟩ = some (.int .i64 (gi xs k))

section
variable {w w' : World} {S T : Nat → Prop} {A : Option Addr} {xs : List Int} {B : Nat} {v : Value}

theorem RI.at_ {k : Nat} (h : RI w S A xs) (hk : k < xs.length) :
    ∃ b off, A = some ⟨b, off, none⟩ ∧ S b ∧ ∀ k, k < xs.length → w.cell? ⟨b, off + k, none⟩ = some (.int .i64 (gi xs k)) :=
  h (by intro e; subst e; simp at hk)
theorem RI.imp (h : RI w S A xs) (hS : ∀ b, S b → T b) : RI w T A xs := fun hne => by
  obtain ⟨b, off, e, hb, hc⟩ := h hne
  exact ⟨b, off, e, hS b hb, hc⟩
theorem RI.keep (h : RI w S A xs) (hk : ∀ b, S b → w'.heap[b]? = w.heap[b]?) : RI w' S A xs := fun hne => by
  obtain ⟨b, off, e, hb, hc⟩ := h hne
  exact ⟨b, off, e, hb, fun k hlt => (World.cell?_of_block (a := ⟨b, off + k, none⟩) (hk b hb)).trans (hc k hlt)⟩
theorem RI.below (h : RI w (· < B) A xs) (hb : Below B w w') : RI w' (· < B) A xs := h.keep fun b hlt => hb.block b hlt
theorem RI.drewN (h : RI w S A xs) (n : Nat) : RI (w.drewN n) S A xs := h
theorem RI.nil : RI w S A [] := fun h => absurd rfl h

end

/-! ### a fresh row: of integers, bools, slices -/
def OR {α : Type} (e : TypeId) (f : α → Value) (w : World) (B : Nat) (v : Value) (xs : List α) : Prop := w.ownsRow B e 1 v xs.length (xs.map f)

section
variable {α : Type} {e : TypeId} {f : α → Value} {w w' : World} {B : Nat} {v : Value} {xs : List α}
theorem OR.nil (w : World) (B : Nat) : OR e f w B (.slice none 0 0) [] := World.ownsRow_nil w B _ _
theorem OR.shape (h : OR e f w B v xs) : ∃ A c, v = .slice A xs.length c ∧ xs.length ≤ c ∧ c ≤ maxLen ∧ (xs ≠ [] → ∃ g, A = some ⟨g, 0, none⟩) := by
  rcases h.2 with ⟨rfl, hn⟩ | ⟨g, c, cur, rfl, hb, hh, hnc, hcm, hcs, ht⟩
  · have : xs = [] := List.eq_nil_of_length_eq_zero hn
    subst this
    exact ⟨none, 0, rfl, Nat.le_refl _, Nat.zero_le _, fun h => absurd rfl h⟩
  · exact ⟨_, c, rfl, hnc, hcm, fun _ => ⟨g, rfl⟩⟩
theorem OR.len (h : OR e f w B v xs) : xs.length ≤ maxLen := by
  obtain ⟨A, c, _, h1, h2, _⟩ := h.shape
  omega
theorem OR.block (h : OR e f w B v xs) (hne : 0 < xs.length) : ∃ g c, v = .slice (some ⟨g, 0, none⟩) xs.length c ∧ B ≤ g ∧ g < w.heap.size ∧ xs.length ≤ c ∧ c ≤ maxLen ∧
    (∀ k (hk : k < xs.length), w.cell? ⟨g, k, none⟩ = some (f xs[k])) ∧ (∀ k, w.frozen? ⟨g, k, none⟩ = false) := by
  have h0 := h
  rcases h.2 with ⟨rfl, hn⟩ | ⟨g, c, cur, rfl, hb, hh, hnc, hcm, hcs, ht⟩
  · omega
  · refine ⟨g, c, rfl, hb, ?_, hnc, hcm, fun k hk => ?_, fun k => World.ownsRow.frozenAt h0 k⟩
    · rcases Nat.lt_or_ge g w.heap.size with h | h
      · exact h
      · rw [Array.getElem?_eq_none h] at hh; cases hh
    · have := World.ownsRow.cellAt h0 k (by omega)
      rw [this]
      simp [hk]
theorem OR.stored {g c : Nat} {k : Nat} (h : OR e f w B (.slice (some ⟨g, 0, none⟩) xs.length c) xs) (y : α) :
    OR e f (w.setCell ⟨g, k, none⟩ (f y)) B (.slice (some ⟨g, 0, none⟩) (xs.set k y).length c) (xs.set k y) := by
  have := (World.ownsRow.stored h k (f y)).1
  unfold OR
  rw [List.map_set, List.length_set]
  exact this
theorem OR.keep (h : OR e f w B v xs) (hg : ∀ g, v.ownBlock = some g → w'.heap[g]? = w.heap[g]?) : OR e f w' B v xs := by
  refine ⟨h.1, ?_⟩
  rcases h.2 with h2 | ⟨g, c, cur, rfl, hb, hh, hr⟩
  · exact .inl h2
  · exact .inr ⟨g, c, cur, rfl, hb, by rw [hg g rfl]; exact hh, hr⟩
theorem OR.lt (h : OR e f w B v xs) : ∀ g, v.ownBlock = some g → B ≤ g ∧ g < w.heap.size := World.ownsRow.lt h
theorem OR.mono {B' : Nat} (h : OR e f w B v xs) (hB : B' ≤ B) : OR e f w B' v xs := by
  refine ⟨h.1, ?_⟩
  rcases h.2 with h2 | ⟨g, c, cur, rfl, hb, hh, hr⟩
  · exact .inl h2
  · exact .inr ⟨g, c, cur, rfl, by omega, hh, hr⟩
theorem OR.pop {A : Option Addr} {y : α} {c : Nat} (h : OR e f w B (.slice A (xs ++ [y]).length c) (xs ++ [y])) : OR e f w B (.slice A xs.length c) xs := by
  refine ⟨by simp, ?_⟩
  rcases h.2 with ⟨_, hn⟩ | ⟨g, c', cur, hv, hb, hh, hnc, hcm, hcs, ht⟩
  · simp at hn
  · injection hv with h1 h2 h3
    subst h1; subst h3
    simp only [List.length_append, List.length_singleton] at hnc ht
    refine .inr ⟨g, c, cur, rfl, hb, hh, by omega, hcm, hcs, ?_⟩
    have := congrArg (List.take (xs.length * 1)) ht
    rw [List.take_take, List.map_append, List.take_left' (by simp)] at this
    rw [← this]
    congr 1
    omega
theorem OR.drewN (h : OR e f w B v xs) (n : Nat) : OR e f (w.drewN n) B v xs := h
theorem OR.alloc (h : OR e f w B v xs) (o : Obj) : OR e f (w.alloc o) B v xs := World.ownsRow.alloc h o
theorem OR.below {C : Nat} (h : OR e f w B v xs) (hb : Below C w w') (hC : w.heap.size ≤ C) : OR e f w' B v xs :=
  h.keep fun g hg => hb.block g (by have := (h.lt g hg).2; omega)
/-- the frame of a caller behind an append onto its own row -/
theorem OR.grown_below {W : World} (h : OR e f w B v xs) (hb : Below B W w) (hB : B ≤ w.heap.size) (o : Obj) (hg : (w.alloc o).grownBy w' v.ownBlock) : Below B W w' :=
  (hb.alloc hB o).grown hg (by simp; omega) fun k hk => (h.lt k hk).1
/-- one whole block that the call has laid -/
theorem OR.made (w : World) (B : Nat) (cs : Array Value) (hB : B ≤ w.heap.size) (hm : xs.length ≤ maxLen) (hs : cs.toList = xs.map f) :
    OR e f (w.alloc (.cells cs e)) B (.slice (some ⟨w.heap.size, 0, none⟩) xs.length xs.length) xs := by
  unfold OR
  rw [← hs]
  exact World.ownsRow_lit w cs xs.length hB hm (by rw [← Array.length_toList, hs]; simp)

theorem wp_app_row {o : Oper} {a : Act} {K : Act → World → Prop} {Q : Exit → Act → World → Prop} {s x : Operand} {t : TypeId} {y : α} {z : Value} {bytes : Nat}
    (hinfo : (Try.prog.info? e).map (fun i => (i.zero, i.size, i.bytes)) = some (some z, 1, bytes)) (hz : z.cells.size = 1) (hby : bytes ≤ 24) (h1 : (f y).oneCell' = true)
    (hown : OR e f w B v xs) (hl : xs.length < 1099511627776) (hB : B ≤ w.heap.size)
    (ho : o.op = .call { callee := .builtin .append, args := #[s, x], argTypes := #[t, t] })
    (ht : Try.prog.underlying t = some (.slice e)) (hs : a.eval s = v) (hx : a.eval x = .slice (some ⟨w.heap.size, 0, none⟩) 1 1)
    (h : ∀ v' w', OR e f w' B v' (xs ++ [y]) → (w.alloc (.cells #[f y] e)).grownBy w' v.ownBlock → (v'.ownBlock = v.ownBlock ∨ v'.ownBlock = some (w.heap.size + 1)) → K (a.put o.dst v') w') :
    o.wp Try.prog a (w.alloc (.cells #[f y] e)) K Q := by
  obtain ⟨i0, hi, hz0, hz1, hz2⟩ := info_parts hinfo
  have hown' := hown.alloc (.cells #[f y] e)
  have hm : (xs.length + 1) * bytes ≤ (xs.length + 1) * 24 := Nat.mul_le_mul_left _ hby
  obtain ⟨v', w', hrun, h2, h3, _, h5⟩ := run_append_own_at (P := Try.prog) (w.alloc (.cells #[f y] e)) B t o.type e i0 z 1 bytes ht hi hz0 hz1 hz2 hz (by decide) v xs.length _ hown'
    ⟨w.heap.size, 0, none⟩ 1 1 [f y] rfl (cell_one_new _ _ _) (by intro u hu; simp at hu; subst hu; exact h1) (by unfold maxLen; omega) (by omega) (by simp; omega)
  unfold Oper.wp execOp
  simp only [ho, resolve, invoke, builtin, Sem.run_bind, Sem.run_pure, Result.andThen_ok, List.map_toArray, List.map_cons, List.map_nil, hs, hx, hrun]
  refine h v' w' ?_ h3 (by simpa using h5)
  unfold OR
  simpa using h2

theorem app_row {ops : Array Oper} {rest : List Oper} {o : Oper} {a : Act} {Q : Exit → Act → World → Prop} {s x : Operand} {t : TypeId} {y : α} {z : Value} {bytes : Nat}
    (hinfo : (Try.prog.info? e).map (fun i => (i.zero, i.size, i.bytes)) = some (some z, 1, bytes)) (hz : z.cells.size = 1) (hby : bytes ≤ 24) (h1 : (f y).oneCell' = true)
    (hown : OR e f w B v xs) (hl : xs.length < 1099511627776) (hB : B ≤ w.heap.size)
    (hgd : o.guard = none) (ho : o.op = .call { callee := .builtin .append, args := #[s, x], argTypes := #[t, t] })
    (ht : Try.prog.underlying t = some (.slice e)) (hs : a.eval s = v) (hx : a.eval x = .slice (some ⟨w.heap.size, 0, none⟩) 1 1)
    (h : ∀ v' w', OR e f w' B v' (xs ++ [y]) → (w.alloc (.cells #[f y] e)).grownBy w' v.ownBlock → (v'.ownBlock = v.ownBlock ∨ v'.ownBlock = some (w.heap.size + 1)) →
      wpList Try.prog ops Q rest (a.put o.dst v') w') :
    wpList Try.prog ops Q (o :: rest) a (w.alloc (.cells #[f y] e)) :=
  wpList_plain hgd fun _ hK => wp_app_row hinfo hz hby h1 hown hl hB ho ht hs hx fun v' w' h2 h3 h5 => hK _ _ (h v' w' h2 h3 h5)

/-- the same in a region that draws its order ('go_region_law') -/
theorem step_app_row {ops : Array Oper} {o : Oper} {a : Act} {K : Act → World → Prop} {Q : Exit → Act → World → Prop} {E : Prop} {s x : Operand} {t : TypeId} {y : α} {z : Value} {bytes : Nat}
    (hinfo : (Try.prog.info? e).map (fun i => (i.zero, i.size, i.bytes)) = some (some z, 1, bytes)) (hz : z.cells.size = 1) (hby : bytes ≤ 24) (h1 : (f y).oneCell' = true)
    (hown : OR e f w B v xs) (hl : xs.length < 1099511627776) (hB : B ≤ w.heap.size)
    (hgd : o.guard = none) (ho : o.op = .call { callee := .builtin .append, args := #[s, x], argTypes := #[t, t] })
    (ht : Try.prog.underlying t = some (.slice e)) (hs : a.eval s = v) (hx : a.eval x = .slice (some ⟨w.heap.size, 0, none⟩) 1 1)
    (h : ∀ v' w', OR e f w' B v' (xs ++ [y]) → (w.alloc (.cells #[f y] e)).grownBy w' v.ownBlock → (v'.ownBlock = v.ownBlock ∨ v'.ownBlock = some (w.heap.size + 1)) → K (a.put o.dst v') w') :
    if Region.wanted o (yielded ops a.tmps) = true then Oper.wp Try.prog o a (w.alloc (.cells #[f y] e)) K Q else E := by
  have hw : Region.wanted o (yielded ops a.tmps) = true := by simp [Region.wanted, hgd]
  rw [if_pos hw]
  exact wp_app_row hinfo hz hby h1 hown hl hB ho ht hs hx h
end

abbrev OI (w : World) (B : Nat) (v : Value) (xs : List Int) : Prop := OR 3 (Value.int .i64) w B v xs
abbrev OB (w : World) (B : Nat) (v : Value) (xs : List Bool) : Prop := OR 4 Value.bool w B v xs
def gb (xs : List Bool) (k : Nat) : Bool := xs.getD k true

theorem gb_lt {xs : List Bool} {k : Nat} (h : k < xs.length) : gb xs k = xs[k] := by simp [gb, h]
theorem gb_set {xs : List Bool} {i k : Nat} {y : Bool} (hi : i < xs.length) : gb (xs.set i y) k = if k = i then y else gb xs k := by
  by_cases h : k = i
  · subst h; simp [gb, hi]
  · simp only [h, if_false]
    unfold gb
    rw [List.getD_eq_getElem?_getD, List.getD_eq_getElem?_getD, List.getElem?_set_ne (fun e => h e.symm)]

section
variable {w w' : World} {B : Nat} {v : Value} {xs : List Int} {bs : List Bool}
theorem OR.ints (h : OI w B v xs) (hne : 0 < xs.length) : ∃ g c, v = .slice (some ⟨g, 0, none⟩) xs.length c ∧ B ≤ g ∧ g < w.heap.size ∧ xs.length ≤ c ∧ c ≤ maxLen ∧
    (∀ k, k < xs.length → w.cell? ⟨g, k, none⟩ = some (.int .i64 (gi xs k))) ∧ (∀ k, w.frozen? ⟨g, k, none⟩ = false) := by
  obtain ⟨g, c, h1, h2, h3, h4, h5, h6, h7⟩ := h.block hne
  exact ⟨g, c, h1, h2, h3, h4, h5, fun k hk => by rw [gi_lt hk]; exact h6 k hk, h7⟩
theorem OR.bools (h : OB w B v bs) (hne : 0 < bs.length) : ∃ g c, v = .slice (some ⟨g, 0, none⟩) bs.length c ∧ B ≤ g ∧ g < w.heap.size ∧ bs.length ≤ c ∧ c ≤ maxLen ∧
    (∀ k, k < bs.length → w.cell? ⟨g, k, none⟩ = some (.bool (gb bs k))) ∧ (∀ k, w.frozen? ⟨g, k, none⟩ = false) := by
  obtain ⟨g, c, h1, h2, h3, h4, h5, h6, h7⟩ := h.block hne
  exact ⟨g, c, h1, h2, h3, h4, h5, fun k hk => by rw [gb_lt hk]; exact h6 k hk, h7⟩
theorem OR.ints_at {g n c : Nat} (h : OI w B (.slice (some ⟨g, 0, none⟩) n c) xs) (hne : 0 < xs.length) : n = xs.length ∧ B ≤ g ∧ g < w.heap.size ∧ xs.length ≤ c ∧
    (∀ k, k < xs.length → w.cell? ⟨g, k, none⟩ = some (.int .i64 (gi xs k))) ∧ (∀ k, w.frozen? ⟨g, k, none⟩ = false) := by
  obtain ⟨g', c', h1, h2, h3, h4, h5, h6, h7⟩ := h.ints hne
  injection h1 with e1 e2 e3
  injection e1 with e1
  injection e1 with e1
  subst e1; subst e3
  exact ⟨e2, h2, h3, h4, h6, h7⟩
theorem OR.bools_at {g n c : Nat} (h : OB w B (.slice (some ⟨g, 0, none⟩) n c) bs) (hne : 0 < bs.length) : n = bs.length ∧ B ≤ g ∧ g < w.heap.size ∧ bs.length ≤ c ∧
    (∀ k, k < bs.length → w.cell? ⟨g, k, none⟩ = some (.bool (gb bs k))) ∧ (∀ k, w.frozen? ⟨g, k, none⟩ = false) := by
  obtain ⟨g', c', h1, h2, h3, h4, h5, h6, h7⟩ := h.bools hne
  injection h1 with e1 e2 e3
  injection e1 with e1
  injection e1 with e1
  subst e1; subst e3
  exact ⟨e2, h2, h3, h4, h6, h7⟩
theorem OR.reads (h : OI w B v xs) : ∃ A c, v = .slice A xs.length c ∧ xs.length ≤ c ∧ c ≤ maxLen ∧ RI w (fun b => B ≤ b ∧ b < w.heap.size) A xs := by
  rcases Nat.eq_zero_or_pos xs.length with h0 | h0
  · obtain ⟨A, c, h1, h2, h3, _⟩ := h.shape
    have : xs = [] := List.eq_nil_of_length_eq_zero h0
    exact ⟨A, c, h1, h2, h3, fun hne => absurd this hne⟩
  · obtain ⟨g, c, h1, h2, h3, h4, h5, h6, h7⟩ := h.ints h0
    exact ⟨_, c, h1, h4, h5, fun _ => ⟨g, 0, rfl, ⟨h2, h3⟩, fun k hk => by rw [Nat.zero_add]; exact h6 k hk⟩⟩
end

theorem int_info : (Try.prog.info? 3).map (fun i => (i.zero, i.size, i.bytes)) = some (some (.int .i64 0), 1, 8) := by kernel_rfl
theorem bool_info : (Try.prog.info? 4).map (fun i => (i.zero, i.size, i.bytes)) = some (some (.bool false), 1, 1) := by kernel_rfl

/-- append of one integer onto a fresh row -/
theorem app1 {ops : Array Oper} {rest : List Oper} {o : Oper} {a : Act} {Q : Exit → Act → World → Prop} {w : World} {B : Nat} {v : Value} {xs : List Int} {s x : Operand} {t : TypeId} {y : Int}
    (hown : OI w B v xs) (hl : xs.length < 1099511627776) (hB : B ≤ w.heap.size)
    (hgd : o.guard = none) (ho : o.op = .call { callee := .builtin .append, args := #[s, x], argTypes := #[t, t] })
    (ht : Try.prog.underlying t = some (.slice 3)) (hs : a.eval s = v) (hx : a.eval x = .slice (some ⟨w.heap.size, 0, none⟩) 1 1)
    (h : ∀ v' w', OI w' B v' (xs ++ [y]) → (w.alloc (.cells #[.int .i64 y] 3)).grownBy w' v.ownBlock → (v'.ownBlock = v.ownBlock ∨ v'.ownBlock = some (w.heap.size + 1)) →
      wpList Try.prog ops Q rest (a.put o.dst v') w') :
    wpList Try.prog ops Q (o :: rest) a (w.alloc (.cells #[.int .i64 y] 3)) :=
  app_row int_info rfl (by decide) rfl hown hl hB hgd ho ht hs hx h

/-- append of a slice of integers onto a fresh row -/
theorem run_app_nil {w : World} {B : Nat} {v : Value} {xs : List Int} {t ty : TypeId} (ht : Try.prog.underlying t = some (.slice 3)) (hown : OI w B v xs) (c : Nat) :
    (Builtin.append_ #[t, t] ty #[v, .slice none 0 c]).run Try.prog w = .ok v w := by
  obtain ⟨i0, hi, hz0, hz1, hz2⟩ := info_parts int_info
  rcases hown.2 with ⟨rfl, _⟩ | ⟨g, cap, cur, rfl, _, _, hnc, _⟩
  · simp [Builtin.append_, run_underlying ht, sizeOf, typeInfo, hi, Builtin.lenOf, Builtin.firstCells]
  · simp [Builtin.append_, run_underlying ht, sizeOf, typeInfo, hi, Builtin.lenOf, Builtin.firstCells, hnc, storeCells]

set_option maxRecDepth 100000 in
theorem appN {ops : Array Oper} {rest : List Oper} {o : Oper} {a : Act} {Q : Exit → Act → World → Prop} {w : World} {B c : Nat} {v : Value} {xs ys : List Int} {s x : Operand} {t : TypeId} {S : Nat → Prop} {A : Option Addr}
    (hown : OI w B v xs) (hr : RI w S A ys) (hl : xs.length + ys.length < 1099511627776) (hB : B ≤ w.heap.size)
    (hgd : o.guard = none) (ho : o.op = .call { callee := .builtin .append, args := #[s, x], argTypes := #[t, t] })
    (ht : Try.prog.underlying t = some (.slice 3)) (hs : a.eval s = v) (hx : a.eval x = .slice A ys.length c)
    (h : ∀ v' w', OI w' B v' (xs ++ ys) → w.grownBy w' v.ownBlock → (v'.ownBlock = v.ownBlock ∨ v'.ownBlock = some w.heap.size) →
      wpList Try.prog ops Q rest (a.put o.dst v') w') :
    wpList Try.prog ops Q (o :: rest) a w := by
  obtain ⟨i0, hi, hz0, hz1, hz2⟩ := info_parts int_info
  refine wpList_plain hgd fun _ hK => ?_
  have hrun : ∃ v' w', (Builtin.append_ #[t, t] o.type #[v, .slice A ys.length c]).run Try.prog w = .ok v' w' ∧ OI w' B v' (xs ++ ys) ∧ w.grownBy w' v.ownBlock ∧ (v'.ownBlock = v.ownBlock ∨ v'.ownBlock = some w.heap.size) := by
    rcases A with _ | ad
    · have hy : ys = [] := by
        rcases ys with _ | ⟨y, ys⟩
        · rfl
        · obtain ⟨b, off, he, _⟩ := hr (by simp)
          cases he
      subst hy
      exact ⟨v, w, run_app_nil ht hown c, by simpa using hown, World.grownBy.refl w _, .inl rfl⟩
    · have hcells : ∀ j u, (ys.map (Value.int .i64))[j]? = some u → w.cell? (ad.add j) = some u := by
        intro j u hu
        have hj : j < ys.length := by
          have := (List.getElem?_eq_some_iff.1 hu).1
          simpa using this
        obtain ⟨b, off, he, _, hc⟩ := hr.at_ hj
        injection he with he
        subst he
        have := hc j hj
        rw [map_gi hj] at hu
        injection hu with hu
        subst hu
        unfold Addr.add
        split
        · rename_i h0
          subst h0
          simpa using this
        · exact this
      obtain ⟨v', w', hrun, h2, h3, _, h5⟩ := run_append_own_at (P := Try.prog) w B t o.type 3 i0 (.int .i64 0) 1 8 ht hi hz0 hz1 hz2 rfl (by decide) v xs.length _ hown
        ad ys.length c (ys.map (Value.int .i64)) (by simp) hcells (ints_oneCell _ _) (by unfold maxLen; omega) (by omega) hB
      refine ⟨v', w', hrun, ?_, h3, h5⟩
      show OR _ _ _ _ _ _
      unfold OR
      simpa using h2
  obtain ⟨v', w', hrun, h2, h3, h5⟩ := hrun
  unfold Oper.wp execOp
  simp only [ho, resolve, invoke, builtin, Sem.run_bind, Sem.run_pure, Result.andThen_ok, List.map_toArray, List.map_cons, List.map_nil, hs, hx, hrun]
  exact hK _ _ (h v' w' h2 h3 h5)

/-! ### make -/
theorem make_ints (t : TypeId) (ht : Try.prog.underlying t = some (.slice 3)) (n : Nat) (hn : n ≤ 1099511627776) (w : World) :
    (Instr.makeSlice t (.int .i64 (n : Int)) (.int .i64 (n : Int))).run Try.prog w = .ok (.slice (some ⟨w.heap.size, 0, none⟩) n n) (w.alloc (.cells (List.replicate n (Value.int .i64 0)).toArray 3)) := by
  obtain ⟨i0, hi, hz0, hz1, hz2⟩ := info_parts int_info
  have h := run_make (P := Try.prog) w t 3 i0 (.int .i64 0) ht hi hz0 .i64 .i64 n n (by omega) (Int.le_refl _) (by rw [hz2]; omega) (by omega)
  simp only [Int.toNat_natCast] at h
  rw [h, hz1]
  have e : madeCells (Value.int .i64 0).cells (n * 1) = (List.replicate n (Value.int .i64 0)).toArray := by
    apply Array.toList_inj.1
    rw [Nat.mul_one, show (Value.int .i64 0).cells = #[Value.int .i64 0] from rfl, toList_madeCells_one]
  rw [e]
theorem make_bools (t : TypeId) (ht : Try.prog.underlying t = some (.slice 4)) (n : Nat) (hn : n ≤ 1099511627776) (w : World) :
    (Instr.makeSlice t (.int .i64 (n : Int)) (.int .i64 (n : Int))).run Try.prog w = .ok (.slice (some ⟨w.heap.size, 0, none⟩) n n) (w.alloc (.cells (List.replicate n (Value.bool false)).toArray 4)) := by
  obtain ⟨i0, hi, hz0, hz1, hz2⟩ := info_parts bool_info
  have h := run_make (P := Try.prog) w t 4 i0 (.bool false) ht hi hz0 .i64 .i64 n n (by omega) (Int.le_refl _) (by rw [hz2]; omega) (by omega)
  simp only [Int.toNat_natCast] at h
  rw [h, hz1]
  have e : madeCells (Value.bool false).cells (n * 1) = (List.replicate n (Value.bool false)).toArray := by
    apply Array.toList_inj.1
    rw [Nat.mul_one, show (Value.bool false).cells = #[Value.bool false] from rfl, toList_madeCells_one]
  rw [e]
theorem OI.new (w : World) (B n : Nat) (hB : B ≤ w.heap.size) (hn : n ≤ maxLen) :
    OI (w.alloc (.cells (List.replicate n (Value.int .i64 0)).toArray 3)) B (.slice (some ⟨w.heap.size, 0, none⟩) n n) (List.replicate n 0) := by
  have := OR.made (e := 3) (f := Value.int .i64) (xs := List.replicate n (0 : Int)) w B (List.replicate n (Value.int .i64 0)).toArray hB (by simpa using hn) (by simp)
  simpa using this
theorem OB.new (w : World) (B n : Nat) (hB : B ≤ w.heap.size) (hn : n ≤ maxLen) :
    OB (w.alloc (.cells (List.replicate n (Value.bool false)).toArray 4)) B (.slice (some ⟨w.heap.size, 0, none⟩) n n) (List.replicate n false) := by
  have := OR.made (e := 4) (f := Value.bool) (xs := List.replicate n false) w B (List.replicate n (Value.bool false)).toArray hB (by simpa using hn) (by simp)
  simpa using this

end Go.Proofs.Yteanhbldhaiekaa
