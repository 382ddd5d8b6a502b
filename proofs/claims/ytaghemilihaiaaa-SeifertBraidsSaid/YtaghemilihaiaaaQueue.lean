/-
  A queue of integers: a slice of the call's own that may begin inside its block; popped at the head, appended to at the end.
-/
import Derived.Test.YtaghemilihaiaaaLab
import Derived.ArgAppend
namespace Go.Proofs.Ytaghemilihaiaaa
open Go.RowKit

def OQ (w : World) (B : Nat) (v : Value) (xs : List Int) : Prop :=
  ∃ g off c, v = .slice (some ⟨g, off, none⟩) xs.length c ∧ B ≤ g ∧ g < w.heap.size ∧ xs.length ≤ c ∧ c ≤ maxLen ∧ (∀ k, k < c → (w.cell? ⟨g, off + k, none⟩).isSome = true) ∧
    (∀ k, k < xs.length → w.cell? ⟨g, off + k, none⟩ = some (.int .i64 (gi xs k))) ∧ ∀ k, w.frozen? ⟨g, k, none⟩ = false

section
variable {w w' : World} {B : Nat} {v : Value} {xs : List Int}

theorem OQ.of_row (h : OI w B v xs) (hne : 0 < xs.length) : OQ w B v xs := by
  obtain ⟨g, c, h1, h2, h3, h4, h5, h6, h7⟩ := h.ints hne
  refine ⟨g, 0, c, h1, h2, h3, h4, h5, fun k hk => ?_, fun k hk => by rw [Nat.zero_add]; exact h6 k hk, h7⟩
  rcases h.2 with ⟨_, hn⟩ | ⟨g', c', cur, hv, _, hh, _, _, hcs, _⟩
  · omega
  · rw [h1] at hv
    injection hv with e1 e2 e3
    injection e1 with e1
    injection e1 with e1
    subst e1 e3
    rw [cell_of_row w g _ _ _ _ hh, Nat.zero_add]
    have : k < cur.size := by omega
    simp [this]
theorem OQ.keep (h : OQ w B v xs) (hk : ∀ g, v.ownBlock = some g → w'.heap[g]? = w.heap[g]?) (hs : w.heap.size ≤ w'.heap.size) : OQ w' B v xs := by
  obtain ⟨g, off, c, rfl, h2, h3, h4, h5, h6, h7, h8⟩ := h
  have e := hk g rfl
  refine ⟨g, off, c, rfl, h2, by omega, h4, h5, fun k hk => ?_, fun k hk => ?_, fun k => ?_⟩
  · rw [World.cell?_of_block (a := ⟨g, off + k, none⟩) e]; exact h6 k hk
  · rw [World.cell?_of_block (a := ⟨g, off + k, none⟩) e]; exact h7 k hk
  · rw [World.frozen?_of_block (a := ⟨g, k, none⟩) e]; exact h8 k
theorem OQ.alloc (h : OQ w B v xs) (o : Obj) : OQ (w.alloc o) B v xs := by
  have h0 := h
  obtain ⟨g, off, c, rfl, h2, h3, h4, h5, h6, h7, h8⟩ := h
  refine h0.keep (fun g' hg => ?_) (by simp)
  have : g' = g := by simp [Value.ownBlock] at hg; omega
  subst this
  exact Below.heap_alloc w o g' h3
theorem OQ.lt (h : OQ w B v xs) : ∀ g, v.ownBlock = some g → B ≤ g ∧ g < w.heap.size := by
  obtain ⟨g, off, c, rfl, h2, h3, h4, h5, h6, h7, h8⟩ := h
  intro g' hg
  have : g' = g := by simp [Value.ownBlock] at hg; omega
  subst this
  exact ⟨h2, h3⟩
/-- the head is taken off -/
theorem OQ.pop {g off n c : Nat} {x : Int} (h : OQ w B (.slice (some ⟨g, off, none⟩) n c) (x :: xs)) :
    OQ w B (.slice (if c = 1 then some ⟨g, off, none⟩ else some ⟨g, off + 1, none⟩) xs.length (c - 1)) xs ∧ w.cell? ⟨g, off, none⟩ = some (.int .i64 x) ∧ n = xs.length + 1 ∧ xs.length + 1 ≤ c ∧ B ≤ g := by
  obtain ⟨g', off', c', hv, h2, h3, h4, h5, h6, h7, h8⟩ := h
  injection hv with e1 e2 e3
  injection e1 with e1
  injection e1 with e1 e4
  subst e1 e4 e3
  simp only [List.length_cons] at e2 h4
  subst e2
  refine ⟨?_, ?_, rfl, h4, h2⟩
  · by_cases hc : c = 1
    · have hx : xs = [] := List.eq_nil_of_length_eq_zero (by omega)
      subst hx
      rw [if_pos hc]
      exact ⟨g, off, c - 1, rfl, h2, h3, by simp, by omega, fun k hk => by omega, fun k hk => by simp at hk, h8⟩
    · rw [if_neg hc]
      refine ⟨g, off + 1, c - 1, rfl, h2, h3, by omega, by omega, fun k hk => ?_, fun k hk => ?_, h8⟩
      · have := h6 (k + 1) (by omega)
        rwa [show off + (k + 1) = off + 1 + k by omega] at this
      · have := h7 (k + 1) (by simp; omega)
        rw [show off + (k + 1) = off + 1 + k by omega] at this
        rw [this]
        simp [gi]
  · have := h7 0 (by simp)
    simpa [gi] using this
theorem OQ.shape (h : OQ w B v xs) : ∃ g off c, v = .slice (some ⟨g, off, none⟩) xs.length c ∧ xs.length ≤ c ∧ c ≤ maxLen := by
  obtain ⟨g, off, c, h1, _, _, h4, h5, _⟩ := h
  exact ⟨g, off, c, h1, h4, h5⟩
end

theorem run_app_q {w : World} {B : Nat} {v : Value} {xs : List Int} {t ty : TypeId} {y : Int} (ht : Try.prog.underlying t = some (.slice 3)) (h : OQ w B v xs) (hl : xs.length < 1099511627776) (hB : B ≤ w.heap.size) :
    ∃ v' w', (Builtin.append_ #[t, t] ty #[v, .slice (some ⟨w.heap.size, 0, none⟩) 1 1]).run Try.prog (w.alloc (.cells #[.int .i64 y] 3)) = .ok v' w' ∧ OQ w' B v' (xs ++ [y]) ∧
      (w.alloc (.cells #[.int .i64 y] 3)).grownBy w' v.ownBlock ∧ (v'.ownBlock = v.ownBlock ∨ ∃ g, v'.ownBlock = some g ∧ w.heap.size < g) := by
  obtain ⟨i0, hi, hz0, hz1, hz2⟩ := info_parts int_info
  have ha := h.alloc (.cells #[.int .i64 y] 3)
  obtain ⟨g, off, c, rfl, h2, h3, h4, h5, h6, h7, h8⟩ := ha
  have hnew : ∀ j u, ([Value.int .i64 y] : List Value)[j]? = some u → (w.alloc (.cells #[.int .i64 y] 3)).cell? ((⟨w.heap.size, 0, none⟩ : Addr).add j) = some u := fun j u hu => by
    rcases j with _ | j
    · rw [← hu]
      exact cell_of_row _ _ _ _ _ _ (heap_alloc_new w _)
    · simp at hu
  unfold maxLen at h5
  by_cases hroom : xs.length + 1 ≤ c
  · have hr := run_append_room_cells (P := Try.prog) (w.alloc (.cells #[.int .i64 y] 3)) t ty 3 i0 ht hi g off xs.length c ⟨w.heap.size, 0, none⟩ 1 1 [.int .i64 y] (by rw [hz1]; rfl) hnew (by intro u hu; simp at hu; subst hu; rfl) hroom
      (fun j hj => by rw [hz1, Nat.mul_one]; have : j = 0 := by simpa using hj
                      subst this; exact h6 xs.length hroom) (fun j _ => h8 _)
    rw [hz1, Nat.mul_one] at hr
    refine ⟨_, _, hr, ?_, ⟨rfl, rfl, rfl, ?_, fun k hk hne => ?_⟩, .inl rfl⟩
    · have hcell : ∀ k, k < c → ((w.alloc (.cells #[.int .i64 y] 3)).setCell ⟨g, off + xs.length, none⟩ (.int .i64 y)).cell? ⟨g, off + k, none⟩ = if k = xs.length then some (.int .i64 y) else (w.alloc (.cells #[.int .i64 y] 3)).cell? ⟨g, off + k, none⟩ := fun k hk => by
        by_cases e : k = xs.length
        · subst e
          rw [if_pos rfl]
          obtain ⟨u, hu⟩ := Option.isSome_iff_exists.1 (h6 xs.length (by omega))
          exact World.cell?_setCell_same _ _ _ hu
        · rw [if_neg e]
          refine World.cell?_setCell_other _ _ _ _ ?_
          intro h'
          injection h' with _ h'
          omega
      refine ⟨g, off, c, by simp, h2, by simpa [World.setCells] using h3, by simpa using hroom, by unfold maxLen; omega, fun k hk => ?_, fun k hk => ?_, fun k => ?_⟩
      · simp only [World.setCells]
        rw [hcell k hk]
        split
        · rfl
        · exact h6 k hk
      · simp only [List.length_append, List.length_singleton] at hk
        simp only [World.setCells]
        rw [hcell k (by omega)]
        split
        · rename_i e; subst e; rw [gi_append_at]
        · rw [gi_append_lt (by omega)]; exact h7 k (by omega)
      · simp only [World.setCells]
        rw [World.frozen?_setCell]
        exact h8 k
    · simp [World.setCells]
    · simp only [World.setCells]
      exact Below.heap_setCell _ _ _ k (fun e => hne (by simp [Value.ownBlock, e]))
  · obtain ⟨v', w', hr, hown, hg⟩ := run_append_arg_grows (P := Try.prog) (w.alloc (.cells #[.int .i64 y] 3)) t ty 3 i0 (.int .i64 0) 1 8 ht hi hz0 hz1 hz2 rfl (by decide) ⟨g, off, none⟩ xs.length c (xs.map (Value.int .i64)) (by simp)
      (fun j u hu => by
        have hj : j < xs.length := by have := (List.getElem?_eq_some_iff.1 hu).1; simpa using this
        rw [Addr.add_lit, h7 j hj, ← map_gi hj, hu]) ⟨w.heap.size, 0, none⟩ 1 1 [.int .i64 y] rfl hnew (by omega) (by unfold maxLen; omega) (by omega)
    have hor : OI w' (w.heap.size + 1) v' (xs ++ [y]) := by
      show OR _ _ _ _ _ _
      unfold OR
      simpa using hown
    have hq := OQ.of_row hor (by simp)
    obtain ⟨g', off', c', hv', q2, q3⟩ := hq
    refine ⟨v', w', hr, ⟨g', off', c', hv', by omega, q3⟩, ⟨hg.os, hg.tape, hg.output, hg.size, fun k hk _ => hg.block k hk (by simp)⟩, .inr ⟨g', by rw [hv']; rfl, by omega⟩⟩

/-- append of one integer onto a queue -/
theorem app_q {ops : Array Oper} {rest : List Oper} {o : Oper} {a : Act} {Q : Exit → Act → World → Prop} {w : World} {B : Nat} {v : Value} {xs : List Int} {s x : Operand} {t : TypeId} {y : Int} {H : Nat}
    (hown : OQ w B v xs) (hl : xs.length < 1099511627776) (hB : B ≤ w.heap.size)
    (hgd : o.guard = none) (ho : o.op = .call { callee := .builtin .append, args := #[s, x], argTypes := #[t, t] })
    (ht : Try.prog.underlying t = some (.slice 3)) (hs : a.eval s = v) (hH : w.heap.size = H) (hx : a.eval x = .slice (some ⟨H, 0, none⟩) 1 1)
    (h : ∀ v' w', OQ w' B v' (xs ++ [y]) → (w.alloc (.cells #[.int .i64 y] 3)).grownBy w' v.ownBlock → (v'.ownBlock = v.ownBlock ∨ ∃ g, v'.ownBlock = some g ∧ w.heap.size < g) →
      wpList Try.prog ops Q rest (a.put o.dst v') w') :
    wpList Try.prog ops Q (o :: rest) a (w.alloc (.cells #[.int .i64 y] 3)) := by
  subst hH
  obtain ⟨v', w', hrun, h2, h3, h5⟩ := run_app_q (y := y) (ty := o.type) ht hown hl hB
  refine wpList_plain hgd fun _ hK => ?_
  unfold Oper.wp execOp
  simp only [ho, resolve, invoke, builtin, Sem.run_bind, Sem.run_pure, Result.andThen_ok, List.map_toArray, List.map_cons, List.map_nil, hs, hx, hrun]
  exact hK _ _ (h v' w' h2 h3 h5)
end Go.Proofs.Ytaghemilihaiaaa

