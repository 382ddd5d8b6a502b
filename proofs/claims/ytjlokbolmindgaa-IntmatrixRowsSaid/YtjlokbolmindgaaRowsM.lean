/-
  A multiple of a row added to another one, two rows exchanged: what becomes of the invariant factors and the determinant; the slices in memory.
-/
import Derived.Test.YtjlokbolmindgaaLR
namespace Go.Proofs.Ytjlokbolmindgaa
open Go.RowKit

/-- the first j elements of the new row -/
def adR (xss : List (List Int)) (i k : Nat) (b : Int) (j : Nat) : List Int := (List.range j).map fun y => eI xss k y + b * eI xss i y
def adL (xss : List (List Int)) (i k : Nat) (b : Int) (c : Nat) : List (List Int) := xss.set k (adR xss i k b c)
def swL (xss : List (List Int)) (i k : Nat) : List (List Int) := (xss.set i (xss.getD k [])).set k (xss.getD i [])
theorem adR_len (xss : List (List Int)) (i k : Nat) (b : Int) (j : Nat) : (adR xss i k b j).length = j := by simp [adR]
theorem adR_succ (xss : List (List Int)) (i k : Nat) (b : Int) (j : Nat) : adR xss i k b (j + 1) = adR xss i k b j ++ [eI xss k j + b * eI xss i j] := by simp [adR, List.range_succ]
theorem adR_gi {xss : List (List Int)} {i k : Nat} {b : Int} {c j : Nat} (hj : j < c) : gi (adR xss i k b c) j = eI xss k j + b * eI xss i j := by
  rw [gi_lt (by rw [adR_len]; exact hj)]; simp [adR]
theorem getD_set {α : Type} (xs : List α) (k : Nat) (x d : α) (j : Nat) (hk : k < xs.length) : (xs.set k x).getD j d = if j = k then x else xs.getD j d := by
  by_cases e : j = k
  · subst e; simp [hk]
  · rw [if_neg e, List.getD_eq_getElem?_getD, List.getD_eq_getElem?_getD, List.getElem?_set_ne (fun h => e h.symm)]
section
variable {xss : List (List Int)} {i k c : Nat} {b : Int}
theorem adL_len : (adL xss i k b c).length = xss.length := by simp [adL]
theorem swL_len : (swL xss i k).length = xss.length := by simp [swL]
theorem adL_row (hk : k < xss.length) (j : Nat) : (adL xss i k b c).getD j [] = if j = k then adR xss i k b c else xss.getD j [] := getD_set xss k _ [] j hk
theorem swL_row (hi : i < xss.length) (hk : k < xss.length) (j : Nat) : (swL xss i k).getD j [] = xss.getD (swn i k j) [] := by
  unfold swL
  rw [getD_set _ k _ [] j (by simpa using hk), getD_set xss i _ [] j hi]
  unfold swn
  by_cases e1 : j = k
  · subst e1
    rw [if_pos rfl]
    by_cases e2 : j = i
    · rw [if_pos e2, e2]
    · rw [if_neg e2, if_pos rfl]
  · rw [if_neg e1]
    by_cases e2 : j = i
    · rw [if_pos e2, if_pos e2]
    · rw [if_neg e2, if_neg e2, if_neg e1]
theorem adL_rowL (hm : IsM xss) (hc : rowL xss 0 = c) (hk : k < xss.length) {j : Nat} (hj : j < xss.length) : rowL (adL xss i k b c) j = c := by
  unfold rowL
  rw [adL_row hk]
  split
  · exact adR_len _ _ _ _ _
  · exact (hm.1 j hj).trans hc
theorem swL_rowL (hm : IsM xss) (hc : rowL xss 0 = c) (hi : i < xss.length) (hk : k < xss.length) {j : Nat} (hj : j < xss.length) : rowL (swL xss i k) j = c := by
  unfold rowL
  rw [swL_row hi hk]
  exact (hm.1 _ (swn_lt hi hk hj)).trans hc
theorem adL_IsM (hm : IsM xss) (hc : rowL xss 0 = c) (hk : k < xss.length) : IsM (adL xss i k b c) := by
  refine ⟨fun j hj => ?_, by rw [adL_len]; exact hm.2.1, ?_⟩
  · rw [adL_len] at hj
    rw [adL_rowL hm hc hk hj, adL_rowL hm hc hk (by omega)]
  · rw [adL_rowL hm hc hk (by omega), ← hc]; exact hm.2.2
theorem swL_IsM (hm : IsM xss) (hc : rowL xss 0 = c) (hi : i < xss.length) (hk : k < xss.length) : IsM (swL xss i k) := by
  refine ⟨fun j hj => ?_, by rw [swL_len]; exact hm.2.1, ?_⟩
  · rw [swL_len] at hj
    rw [swL_rowL hm hc hi hk hj, swL_rowL hm hc hi hk (by omega)]
  · rw [swL_rowL hm hc hi hk (by omega), ← hc]; exact hm.2.2
theorem adL_eI (hk : k < xss.length) {x y : Nat} (hy : y < c) : eI (adL xss i k b c) x y = if x = k then eI xss x y + b * eI xss i y else eI xss x y := by
  unfold eI
  rw [adL_row hk]
  by_cases e : x = k
  · subst e; rw [if_pos rfl, if_pos rfl, adR_gi hy]; rfl
  · rw [if_neg e, if_neg e]
theorem swL_eI (hi : i < xss.length) (hk : k < xss.length) (x y : Nat) : eI (swL xss i k) x y = eI xss (swn i k x) y := by
  unfold eI
  rw [swL_row hi hk]
theorem adL_D {d : Nat → Nat} (h : SmD xss d) (hm : IsM xss) (hc : rowL xss 0 = c) (hi : i < xss.length) (hk : k < xss.length) (hne : i ≠ k) : SmD (adL xss i k b c) d := by
  have hr := adL_rowL (i := i) (b := b) hm hc hk (j := 0) (by omega)
  refine ⟨?_, ?_⟩
  · rw [adL_len, hr, ← hc]
    refine Eqv.trans (Eqv.symm ?_) h.eq
    refine (Eqv.radd k i b hk hi (Ne.symm hne) (.refl (eI xss))).cong fun x y _ hy => ?_
    rw [adL_eI hk hy]
  · rw [adL_len, hr, ← hc]; exact h.ch
theorem swL_D {d : Nat → Nat} (h : SmD xss d) (hm : IsM xss) (hc : rowL xss 0 = c) (hi : i < xss.length) (hk : k < xss.length) (hne : i ≠ k) : SmD (swL xss i k) d := by
  have hr := swL_rowL hm hc hi hk (j := 0) (by omega)
  refine ⟨?_, ?_⟩
  · rw [swL_len, hr, ← hc]
    refine Eqv.trans (Eqv.symm ?_) h.eq
    refine (Eqv.rsw i k hi hk hne (.refl (eI xss))).cong fun x y _ _ => ?_
    rw [swL_eI hi hk]
  · rw [swL_len, hr, ← hc]; exact h.ch
theorem pN_swn {n : Nat} (f : Nat → Nat) (hi : i < n) (hk : k < n) (hne : i ≠ k) (hp : ∀ x, x < n → 1 ≤ f x) : pN n (fun x => f (swn i k x)) = pN n f := by
  rw [← pN_two (x := f) (a := f k) (b := f i) hi hk hne (Nat.mul_comm _ _) (Nat.mul_pos (hp i hi) (hp k hk))]
  refine pN_congr fun x _ => ?_
  unfold swn
  split
  · rfl
  · split <;> rfl
theorem swL_Sml (hs : Sml xss) (hm : IsM xss) (hc : rowL xss 0 = c) (hi : i < xss.length) (hk : k < xss.length) (hne : i ≠ k) : Sml (swL xss i k) := by
  unfold Sml
  rw [swL_len, swL_rowL hm hc hi hk (by omega)]
  have e : bndM xss.length c (eI (swL xss i k)) = bndM xss.length c (eI xss) := by
    unfold bndM
    rw [← pN_swn (fun x => max (sN c fun j => (eI xss x j).natAbs) 1) hi hk hne (fun _ _ => Nat.le_max_right ..)]
    refine pN_congr fun x _ => ?_
    show max (sN c fun j => (eI (swL xss i k) x j).natAbs) 1 = max (sN c fun j => (eI xss (swn i k x) j).natAbs) 1
    rw [sN_congr (g := fun j => (eI xss (swn i k x) j).natAbs) fun j _ => by rw [swL_eI hi hk]]
  rw [e, ← hc]
  exact hs
theorem adL_det {n : Nat} (hn : xss.length = n) (hi : i < n) (hk : k < n) (hne : i ≠ k) : det n (eI (adL xss i k b n)) = det n (eI xss) := by
  rw [← det_radd (A := eI xss) (t := b) hk hi (Ne.symm hne)]
  exact det_congr fun x y _ hy => by rw [adL_eI (by omega) hy]
theorem swL_det {n : Nat} (hn : xss.length = n) (hi : i < n) (hk : k < n) (hne : i ≠ k) : det n (eI (swL xss i k)) = -det n (eI xss) := by
  rw [← det_rswap (A := eI xss) hi hk hne]
  exact det_congr fun x y _ _ => by rw [swL_eI (by omega) (by omega)]
end
/-- the copy whose k-th row is being laid anew -/
def AdS (w : World) (N k : Nat) (v u : Value) (xss : List (List Int)) (x : List Int) : Prop := ∃ vs : List Value, OR 28 id w N v vs ∧ vs.length = xss.length ∧ (∀ j (h : j < vs.length), j ≠ k → ∃ A c, vs[j] = .slice A (xss.getD j []).length c ∧ (xss.getD j []).length ≤ maxLen ∧ RI w (· < N) A (xss.getD j [])) ∧ vs[k]? = some u ∧ OI w N u x
section
variable {w w' : World} {N k : Nat} {v u : Value} {xss : List (List Int)} {x : List Int}
theorem AdS.lrv (h : AdS w N k v u xss x) (hk : k < xss.length) : ∃ vs, LRv w N v vs (xss.set k x) := by
  obtain ⟨vs, h1, h2, h3, h4, h5⟩ := h
  refine ⟨vs, h1, by simp [h2], fun j hj => ?_⟩
  rw [getD_set xss k x [] j hk]
  by_cases e : j = k
  · subst e
    rw [if_pos rfl]
    have : vs[j] = u := by rw [List.getElem?_eq_getElem hj] at h4; injection h4
    rw [this]
    exact .inr h5
  · rw [if_neg e]
    obtain ⟨A, c, e1, e2, e3⟩ := h3 j hj e
    exact .inl ⟨A, c, e1, e2, e3⟩
theorem AdS.head (h : AdS w N k v u xss x) (hk : k < xss.length) : ∃ g c, v = .slice (some ⟨g, 0, none⟩) xss.length c ∧ N ≤ g ∧ g < w.heap.size ∧ u.ownBlock ≠ some g ∧ w.cell? ⟨g, k, none⟩ = some u ∧ w.frozen? ⟨g, k, none⟩ = false := by
  obtain ⟨vs, h1, h2, h3, h4, h5⟩ := h
  obtain ⟨g, c, e, g1, g2, -, -, hc, hf⟩ := h1.block (by omega)
  have hu : vs[k] = u := by rw [List.getElem?_eq_getElem (by omega)] at h4; injection h4
  refine ⟨g, c, by rw [e, h2], g1, g2, fun hg => ?_, by rw [hc k (by omega), id, hu], hf k⟩
  exact OR.apart h5 h1 (by decide) hg (by rw [e]; rfl)
theorem AdS.heap (h : AdS w N k v u xss x) (e : w'.heap = w.heap) : AdS w' N k v u xss x := by
  obtain ⟨vs, h1, h2, h3, h4, h5⟩ := h
  refine ⟨vs, h1.keep fun g _ => by rw [e], h2, fun j hj hne => ?_, h4, h5.keep fun g _ => by rw [e]⟩
  obtain ⟨A, c, e1, e2, e3⟩ := h3 j hj hne
  exact ⟨A, c, e1, e2, e3.keep fun b _ => by rw [e]⟩
/-- from a copy -/
theorem AdS.start {vs : List Value} {g c : Nat} (h : LRv w N (.slice (some ⟨g, 0, none⟩) xss.length c) vs xss) (hold : ∀ j (hj : j < vs.length), ∃ A c, vs[j] = .slice A (xss.getD j []).length c ∧ (xss.getD j []).length ≤ maxLen ∧ RI w (· < N) A (xss.getD j [])) (hk : k < xss.length) (hg : N ≤ g) :
    AdS (w.setCell ⟨g, k, none⟩ (.slice none 0 0)) N k (.slice (some ⟨g, 0, none⟩) xss.length c) (.slice none 0 0) xss [] := by
  obtain ⟨h1, h2, -⟩ := h
  have h1' := h1
  rw [← h2] at h1'
  have hs := OR.stored h1' (k := k) (.slice none 0 0)
  rw [List.length_set] at hs
  rw [h2] at hs
  refine ⟨vs.set k (.slice none 0 0), hs, by simp [h2], fun j hj hne => ?_, by simp [h2, hk], OR.nil _ _⟩
  have hj' : j < vs.length := by simpa using hj
  obtain ⟨A, c', e1, e2, e3⟩ := hold j hj'
  refine ⟨A, c', ?_, e2, e3.keep fun b hb => Below.heap_setCell w _ _ b (by rintro rfl; omega)⟩
  rw [List.getElem_set_ne (fun e => hne e.symm)]
  exact e1
/-- a number is appended to the row, the row is put in its place -/
theorem AdS.push {g c : Nat} {u' : Value} {y : Int} (h : AdS w N k (.slice (some ⟨g, 0, none⟩) xss.length c) u xss x) (hk : k < xss.length) (hN : N ≤ w.heap.size) (hu : OI w' N u' (x ++ [y])) (hg : (w.alloc (.cells #[.int .i64 y] 3)).grownBy w' u.ownBlock) (hgb : N ≤ g ∧ g < w.heap.size) (hne : u.ownBlock ≠ some g) (hob : u'.ownBlock = u.ownBlock ∨ u'.ownBlock = some (w.heap.size + 1)) :
    AdS (w'.setCell ⟨g, k, none⟩ u') N k (.slice (some ⟨g, 0, none⟩) xss.length c) u' xss (x ++ [y]) := by
  obtain ⟨vs, h1, h2, h3, h4, h5⟩ := h
  have old : ∀ b, b < w.heap.size → u.ownBlock ≠ some b → w'.heap[b]? = w.heap[b]? := fun b hb hn => by
    rw [hg.block b (by simp; omega) (fun e => hn e.symm), Below.heap_alloc w _ b hb]
  have h1' : OR 28 id w' N (.slice (some ⟨g, 0, none⟩) xss.length c) vs := h1.keep fun b hb => by
    have e : g = b := by simpa [Value.ownBlock] using hb
    subst e
    exact old _ hgb.2 hne
  rw [← h2] at h1'
  have hs := OR.stored h1' (k := k) u'
  rw [List.length_set, h2] at hs
  have hne' : u'.ownBlock ≠ some g := by
    rcases hob with e | e
    · rw [e]; exact hne
    · rw [e]; intro e2; injection e2 with e2; omega
  refine ⟨vs.set k u', hs, by simp [h2], fun j hj hjk => ?_, by simp [h2, hk], hu.keep fun b hb => Below.heap_setCell w' _ _ b (by rintro rfl; exact hne' hb)⟩
  have hj' : j < vs.length := by simpa using hj
  obtain ⟨A, c', e1, e2, e3⟩ := h3 j hj' hjk
  refine ⟨A, c', ?_, e2, e3.keep fun b hb => ?_⟩
  · rw [List.getElem_set_ne (fun e => hjk e.symm)]
    exact e1
  · have hb' : b < N := hb
    rw [Below.heap_setCell w' _ _ b (by rintro rfl; omega)]
    exact old b (by omega) fun e => by have := (h5.lt b e).1; omega
end
/-- two rows of a copy exchanged -/
theorem LRv.swap {w : World} {N i k g c : Nat} {vs : List Value} {xss : List (List Int)} {ui uk : Value} (h : LRv w N (.slice (some ⟨g, 0, none⟩) xss.length c) vs xss) (hold : ∀ j (hj : j < vs.length), ∃ A c, vs[j] = .slice A (xss.getD j []).length c ∧ (xss.getD j []).length ≤ maxLen ∧ RI w (· < N) A (xss.getD j []))
    (hi : i < xss.length) (hk : k < xss.length) (hui : vs[i]? = some ui) (huk : vs[k]? = some uk) (hg : N ≤ g) :
    ∃ vs', LRv ((w.setCell ⟨g, i, none⟩ uk).setCell ⟨g, k, none⟩ ui) N (.slice (some ⟨g, 0, none⟩) xss.length c) vs' (swL xss i k) := by
  obtain ⟨h1, h2, -⟩ := h
  have h1' := h1
  rw [← h2] at h1'
  have hs1 := OR.stored h1' (k := i) uk
  have hs2 := OR.stored hs1 (k := k) ui
  rw [List.length_set, List.length_set, h2] at hs2
  refine ⟨(vs.set i uk).set k ui, hs2, by rw [swL_len]; simp [h2], fun j hj => ?_⟩
  have hj' : j < vs.length := by simpa using hj
  have hvi : vs[i]'(by omega) = ui := by rw [List.getElem?_eq_getElem (by omega)] at hui; injection hui
  have hvk : vs[k]'(by omega) = uk := by rw [List.getElem?_eq_getElem (by omega)] at huk; injection huk
  rw [swL_row hi hk]
  have hsl : swn i k j < vs.length := by rw [h2]; exact swn_lt hi hk (by omega)
  have hel : ((vs.set i uk).set k ui)[j] = vs[swn i k j] := by
    unfold swn
    by_cases e1 : j = k
    · subst e1
      rw [List.getElem_set_self]
      by_cases e2 : j = i
      · simp only [e2, if_true]
        subst e2
        exact hvi.symm
      · simp only [e2, if_false, if_true]; exact hvi.symm
    · rw [List.getElem_set_ne (fun e => e1 e.symm)]
      by_cases e2 : j = i
      · subst e2
        simp only [if_true]
        rw [List.getElem_set_self]; exact hvk.symm
      · rw [List.getElem_set_ne (fun e => e2 e.symm)]
        simp only [e1, e2, if_false]
  rw [hel]
  obtain ⟨A, c', e1, e2, e3⟩ := hold _ hsl
  exact .inl ⟨A, c', e1, e2, (e3.keep fun b hb => Below.heap_setCell w _ _ b (by have hb' : b < N := hb; rintro rfl; omega)).keep fun b hb => Below.heap_setCell _ _ _ b (by have hb' : b < N := hb; rintro rfl; omega)⟩
/-- append in a region that draws, behind the literal that was made in it -/
theorem step_app_rowD {α : Type} {e : TypeId} {f : α → Value} {w : World} {B : Nat} {v : Value} {xs : List α} {ops : Array Oper} {o : Oper} {a : Act} {K : Act → World → Prop} {Q : Exit → Act → World → Prop} {E : Prop} {s x : Operand} {t : TypeId} {y : α} {z : Value} {bytes : Nat}
    (hinfo : (Try.prog.info? e).map (fun i => (i.zero, i.size, i.bytes)) = some (some z, 1, bytes)) (hz : z.cells.size = 1) (hby : bytes ≤ 24) (h1 : (f y).oneCell' = true)
    (hown : OR e f w B v xs) (hl : xs.length < 1099511627776) (hB : B ≤ w.heap.size)
    (hgd : o.guard = none) (ho : o.op = .call { callee := .builtin .append, args := #[s, x], argTypes := #[t, t] })
    (ht : Try.prog.underlying t = some (.slice e)) (hs : a.eval s = v) (hx : a.eval x = .slice (some ⟨w.heap.size, 0, none⟩) 1 1)
    (h : ∀ v' w', OR e f w' B v' (xs ++ [y]) → (w.drew.alloc (.cells #[f y] e)).grownBy w' v.ownBlock → (v'.ownBlock = v.ownBlock ∨ v'.ownBlock = some (w.heap.size + 1)) → K (a.put o.dst v') w') :
    if Region.wanted o (yielded ops a.tmps) = true then Oper.wp Try.prog o a (w.alloc (.cells #[f y] e)).drew K Q else E :=
  step_app_row (w := w.drew) hinfo hz hby h1 (hown.drewN 1) hl hB hgd ho ht hs hx h
end Go.Proofs.Ytjlokbolmindgaa

