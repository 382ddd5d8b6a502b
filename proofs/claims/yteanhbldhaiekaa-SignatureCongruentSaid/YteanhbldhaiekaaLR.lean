/-
  A fresh slice of slices whose rows came in or are fresh: append of a matrix, of a row; a row put in place.
-/
import Derived.Test.YteanhbldhaiekaaRTr
namespace Go.Proofs.Yteanhbldhaiekaa
open Go.RowKit

/-- a row that came in, or a fresh one -/
def Rw (w : World) (N : Nat) (u : Value) (x : List Int) : Prop := (∃ A c, u = .slice A x.length c ∧ x.length ≤ maxLen ∧ RI w (· < N) A x) ∨ OI w N u x
def LRv (w : World) (N : Nat) (v : Value) (vs : List Value) (xss : List (List Int)) : Prop := OR 33 id w N v vs ∧ vs.length = xss.length ∧ ∀ k (h : k < vs.length), Rw w N vs[k] (xss.getD k [])
theorem Rw.reads {w : World} {N : Nat} {u : Value} {x : List Int} (h : Rw w N u x) (hN : N ≤ w.heap.size) : ∃ A c, u = .slice A x.length c ∧ RI w (· < w.heap.size) A x ∧ x.length ≤ maxLen := by
  rcases h with ⟨A, c, rfl, h1, h2⟩ | h
  · exact ⟨A, c, rfl, h2.imp fun _ hb => Nat.lt_of_lt_of_le hb hN, h1⟩
  · obtain ⟨A, c, rfl, h1, h2, h3⟩ := h.reads
    exact ⟨A, c, rfl, h3.imp fun _ hb => hb.2, h.len⟩
theorem Rw.call {w w' : World} {N : Nat} {u : Value} {x : List Int} (h : Rw w N u x) (hN : N ≤ w.heap.size) (hb : Below w.heap.size w w') : Rw w' N u x := by
  rcases h with ⟨A, c, rfl, h1, h2⟩ | h
  · exact .inl ⟨A, c, rfl, h1, h2.keep fun b hl => hb.block b (Nat.lt_of_lt_of_le hl hN)⟩
  · exact .inr (h.below hb (Nat.le_refl _))
theorem Rw.one {w : World} {N : Nat} {u : Value} {x : List Int} (h : Rw w N u x) : ∃ A c, u = .slice A x.length c := by
  rcases h with ⟨A, c, rfl, h1, h2⟩ | h
  · exact ⟨A, c, rfl⟩
  · obtain ⟨A, c, rfl, -⟩ := h.shape
    exact ⟨A, c, rfl⟩
section
variable {w w' : World} {N : Nat} {v : Value} {vs : List Value} {xss : List (List Int)}
theorem LRv.call (h : LRv w N v vs xss) (hN : N ≤ w.heap.size) (hb : Below w.heap.size w w') : LRv w' N v vs xss :=
  ⟨h.1.below hb (Nat.le_refl _), h.2.1, fun k hk => (h.2.2 k hk).call hN hb⟩
/-- it can be handed on -/
theorem LRv.am (h : LRv w N v vs xss) (hN : N ≤ w.heap.size) (hb : ∀ i j, i < xss.length → j < rowL xss i → -9223372036854775808 ≤ eI xss i j ∧ eI xss i j ≤ 9223372036854775807) : ∃ A c, v = .slice A xss.length c ∧ AM w A xss.length xss := by
  obtain ⟨h1, h2, h3⟩ := h
  obtain ⟨A, c, e, ha, hc, hne⟩ := h1.shape
  rw [h2] at e ha
  refine ⟨A, c, e, fun hx => ?_, rfl, by omega, hb⟩
  have hpos : 0 < vs.length := by
    rcases Nat.eq_zero_or_pos vs.length with h0 | h0
    · exact absurd (List.eq_nil_of_length_eq_zero (by omega)) hx
    · exact h0
  obtain ⟨g, c2, e2, hg1, hg2, -, -, hcell, -⟩ := h1.block hpos
  rw [e] at e2
  injection e2 with e2 _ _
  refine ⟨g, 0, e2, hg2, fun k hk => ?_⟩
  obtain ⟨Ak, ck, e3, hr, hl⟩ := (h3 k (by omega)).reads hN
  refine ⟨Ak, ck, ?_, hr, hl⟩
  rw [Nat.zero_add, hcell k (by omega), id, e3]
/-- a row is appended -/
theorem LRv.push {u v' : Value} {x : List Int} (h : LRv w N v vs xss) (hu : Rw w N u x) (hN : N ≤ w.heap.size) (hrow : OR 33 id w' N v' (vs ++ [u])) (hg : (w.alloc (.cells #[u] 33)).grownBy w' v.ownBlock) : LRv w' N v' (vs ++ [u]) (xss ++ [x]) := by
  obtain ⟨h1, h2, h3⟩ := h
  have keep : ∀ {y : Value} {z : List Int}, Rw w N y z → Rw w' N y z := fun {y z} hy => by
    rcases hy with ⟨A, c, rfl, l1, l2⟩ | hy
    · exact .inl ⟨A, c, rfl, l1, l2.keep fun b hb => by
        have hb' : b < N := hb
        rw [hg.block b (by simp; omega) (fun e => by have := (h1.lt b e.symm).1; omega), Below.heap_alloc w _ b (by omega)]⟩
    · exact .inr (hy.keep fun g hgy => by
        have hlt := (hy.lt g hgy).2
        have hne := OR.apart hy h1 (by decide) hgy
        rw [hg.block g (by simp; omega) (fun e => hne e.symm), Below.heap_alloc w _ g hlt])
  refine ⟨hrow, by simp [h2], fun k hk => ?_⟩
  rcases Nat.lt_or_ge k vs.length with hlt | hge
  · rw [List.getElem_append_left hlt]
    have e : (xss ++ [x]).getD k [] = xss.getD k [] := by
      rw [List.getD_eq_getElem?_getD, List.getD_eq_getElem?_getD, List.getElem?_append_left (by omega)]
    rw [e]
    exact keep (h3 k hlt)
  · have hk' : k = vs.length := by simp at hk; omega
    subst hk'
    have e : (xss ++ [x]).getD vs.length [] = x := by simp [h2]
    rw [e]
    have e2 : (vs ++ [u])[vs.length] = u := by simp
    rw [e2]
    exact keep hu
end
/-- the headers of a matrix -/
theorem AM.heads {w : World} {A : Option Addr} {n : Nat} {xss : List (List Int)} (h : AM w A n xss) : ∃ us : List Value, us.length = n ∧ (∀ j (hj : j < us.length), ∃ Aj cj, us[j] = .slice Aj (xss.getD j []).length cj ∧ RI w (· < w.heap.size) Aj (xss.getD j []) ∧ (xss.getD j []).length ≤ maxLen) ∧
    (us = [] ∨ ∃ b off, A = some ⟨b, off, none⟩ ∧ b < w.heap.size ∧ ∀ j u, us[j]? = some u → w.cell? ⟨b, off + j, none⟩ = some u) := by
  rcases Nat.eq_zero_or_pos n with h0 | h0
  · exact ⟨[], by simp [h0], fun j hj => absurd hj (Nat.not_lt_zero _), .inl rfl⟩
  · obtain ⟨b, off, e, hb, hc⟩ := h.rd.at_ (k := 0) (by rw [h.ln]; exact h0)
    have hc' : ∀ k : Nat, ∃ u : Value, k < xss.length → (∃ Aj cj, u = .slice Aj (xss.getD k []).length cj ∧ RI w (· < w.heap.size) Aj (xss.getD k []) ∧ (xss.getD k []).length ≤ maxLen) ∧ w.cell? ⟨b, off + k, none⟩ = some u := fun k => by
      by_cases hk : k < xss.length
      · obtain ⟨Ak, ck, h1, h2, h3⟩ := hc k hk
        exact ⟨_, fun _ => ⟨⟨Ak, ck, rfl, h2, h3⟩, h1⟩⟩
      · exact ⟨.slice none 0 0, fun h => absurd h hk⟩
    obtain ⟨f, hf⟩ := Classical.axiomOfChoice hc'
    refine ⟨(List.range n).map f, by simp, fun j hj => ?_, .inr ⟨b, off, e, hb, fun j u hu => ?_⟩⟩
    · have hj' : j < n := by simpa using hj
      have := (hf j (by rw [h.ln]; exact hj')).1
      simpa using this
    · have hj : j < n := by
        have := (List.getElem?_eq_some_iff.1 hu).1
        simpa using this
      have e2 : ((List.range n).map f)[j]? = some (f j) := by simp [hj]
      rw [e2] at hu
      injection hu with hu
      rw [← hu]
      exact (hf j (by rw [h.ln]; exact hj)).2
theorem run_app_nilS {w : World} {B : Nat} {v : Value} {xs : List Value} {t ty : TypeId} (ht : Try.prog.underlying t = some (.slice 33)) (hown : OR 33 id w B v xs) (c : Nat) (A : Option Addr) :
    (Builtin.append_ #[t, t] ty #[v, .slice A 0 c]).run Try.prog w = .ok v w := by
  obtain ⟨i0, hi, hz0, hz1, hz2⟩ := info_parts row_info
  rcases hown.2 with ⟨rfl, _⟩ | ⟨g, cap, cur, rfl, _, _, hnc, _⟩
  · rcases A with _ | A
    · simp [Builtin.append_, run_underlying ht, sizeOf, typeInfo, hi, Builtin.lenOf, Builtin.firstCells]
    · simp [Builtin.append_, run_underlying ht, sizeOf, typeInfo, hi, Builtin.lenOf, Builtin.firstCells, loadCells, loadCellsFrom]
  · rcases A with _ | A
    · simp [Builtin.append_, run_underlying ht, sizeOf, typeInfo, hi, Builtin.lenOf, Builtin.firstCells, hnc, storeCells]
    · simp [Builtin.append_, run_underlying ht, sizeOf, typeInfo, hi, Builtin.lenOf, Builtin.firstCells, hnc, storeCells, loadCells, loadCellsFrom]
theorem appS {ops : Array Oper} {rest : List Oper} {o : Oper} {a : Act} {Q : Exit → Act → World → Prop} {w : World} {B c n : Nat} {v : Value} {xs us : List Value} {s x : Operand} {t : TypeId} {A : Option Addr}
    (hown : OR 33 id w B v xs) (hn : us.length = n) (hus : us = [] ∨ ∃ b off, A = some ⟨b, off, none⟩ ∧ b < w.heap.size ∧ ∀ j u, us[j]? = some u → w.cell? ⟨b, off + j, none⟩ = some u) (h1 : ∀ u ∈ us, u.oneCell' = true) (hl : xs.length + n < 1099511627776) (hB : B ≤ w.heap.size)
    (hgd : o.guard = none) (ho : o.op = .call { callee := .builtin .append, args := #[s, x], argTypes := #[t, t] })
    (ht : Try.prog.underlying t = some (.slice 33)) (hs : a.eval s = v) (hx : a.eval x = .slice A n c)
    (h : ∀ v' w', OR 33 id w' B v' (xs ++ us) → w.grownBy w' v.ownBlock → wpList Try.prog ops Q rest (a.put o.dst v') w') :
    wpList Try.prog ops Q (o :: rest) a w := by
  obtain ⟨i0, hi, hz0, hz1, hz2⟩ := info_parts row_info
  subst hn
  refine wpList_plain hgd fun _ hK => ?_
  have hrun : ∃ v' w', (Builtin.append_ #[t, t] o.type #[v, .slice A us.length c]).run Try.prog w = .ok v' w' ∧ OR 33 id w' B v' (xs ++ us) ∧ w.grownBy w' v.ownBlock := by
    rcases hus with rfl | ⟨b, off, rfl, hb, hc⟩
    · exact ⟨v, w, run_app_nilS ht hown c A, by simpa using hown, World.grownBy.refl w _⟩
    · have hcells : ∀ j u, (us.map id)[j]? = some u → w.cell? ((⟨b, off, none⟩ : Addr).add j) = some u := by
        intro j u hu
        rw [Addr.add_lit]
        exact hc j u (by simpa using hu)
      obtain ⟨v', w', hrun, h2, h3, _, h5⟩ := run_append_own_at (P := Try.prog) w B t o.type 33 i0 (.slice none 0 0) 1 24 ht hi hz0 hz1 hz2 rfl (by decide) v xs.length _ hown
        ⟨b, off, none⟩ us.length c (us.map id) (by simp) hcells (by intro u hu; exact h1 u (by simpa using hu)) (by unfold maxLen; omega) (by omega) hB
      refine ⟨v', w', hrun, ?_, h3⟩
      unfold OR
      simpa using h2
  obtain ⟨v', w', hrun, h2, h3⟩ := hrun
  unfold Oper.wp execOp
  simp only [ho, resolve, invoke, builtin, Sem.run_bind, Sem.run_pure, Result.andThen_ok, List.map_toArray, List.map_cons, List.map_nil, hs, hx, hrun]
  exact hK _ _ (h v' w' h2 h3)
theorem oneCell_heads {us : List Value} {xss : List (List Int)} {w0 : World} (h : ∀ j (hj : j < us.length), ∃ Aj cj, us[j] = .slice Aj (xss.getD j []).length cj ∧ RI w0 (· < w0.heap.size) Aj (xss.getD j []) ∧ (xss.getD j []).length ≤ maxLen) : ∀ u ∈ us, u.oneCell' = true := fun u hu => by
  obtain ⟨j, hj, rfl⟩ := List.getElem_of_mem hu
  obtain ⟨Aj, cj, e, -⟩ := h j hj
  rw [e]; rfl
/-- behind 'append([][]int{}, m...)' -/
theorem LRv.copy {w0 w' : World} {v : Value} {us : List Value} {n N : Nat} {xss : List (List Int)} (hN : N = w0.heap.size) (hln : xss.length = n) (hl : us.length = n)
    (hu : ∀ j (hj : j < us.length), ∃ Aj cj, us[j] = .slice Aj (xss.getD j []).length cj ∧ RI w0 (· < w0.heap.size) Aj (xss.getD j []) ∧ (xss.getD j []).length ≤ maxLen) (hb : Below N w0 w') (hrow : OR 33 id w' N v us) : LRv w' N v us xss := by
  subst hN
  refine ⟨hrow, by rw [hl, hln], fun k hk => ?_⟩
  obtain ⟨Aj, cj, e, hr, hm⟩ := hu k hk
  rw [e]
  exact .inl ⟨Aj, cj, rfl, hm, hr.below hb⟩
end Go.Proofs.Yteanhbldhaiekaa

