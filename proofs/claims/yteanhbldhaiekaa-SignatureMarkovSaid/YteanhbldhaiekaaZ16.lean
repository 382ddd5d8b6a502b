/-
  Braids: the contract of braid.Valid.
  Seifert matrices of closed braids, plain: the loops of a braid, the entries of the matrix. No program here.
  Loops in memory: a fresh row of loops; the boxes of surface.loops and its closure.
  The contract of the closure of surface.loops: an occurrence of a generator.
  The contract of surface.loops.
-/
import Derived.Test.YteanhbldhaiekaaZ02
import Derived.Test.YteanhbldhaiekaaZ15
import Derived.Deep.RegionLaw
namespace Go.Proofs.Yteanhbldhaiekaa
open Go.RowKit

/-- a valid braid -/
def BrV (S : Int) (ws : List Int) : Prop := 1 ≤ S ∧ S ≤ 10 ∧ ws.length ≤ 200 ∧ ∀ k, k < ws.length → gi ws k ≠ 0 ∧ -S < gi ws k ∧ gi ws k < S
instance (S : Int) (ws : List Int) : Decidable (BrV S ws) := by unfold BrV; infer_instance
/-- the box of a braid -/
theorem brd_box (w : World) (S : Int) (A : Option Addr) (n c : Nat) (t : TypeId) : (w.alloc (.cells #[.int .i64 S, .slice A n c] t)).cell? ⟨w.heap.size, 0, none⟩ = some (.int .i64 S) ∧ (w.alloc (.cells #[.int .i64 S, .slice A n c] t)).cell? ⟨w.heap.size, 1, none⟩ = some (.slice A n c) :=
  ⟨by rw [World.cell?_alloc_new]; rfl, by rw [World.cell?_alloc_new]; rfl⟩
set_option maxHeartbeats 2000000 in
theorem bvalid_any {w : World} {A : Option Addr} {c : Nat} {S : Int} {ws : List Int} {T : Nat → Prop} (hr : RI w T A ws) (hT : ∀ b, T b → b < w.heap.size) (hl : ws.length ≤ maxLen) (h1 : -9223372036854775808 ≤ S) (h2 : S ≤ 9223372036854775807) :
    Calls Try.prog 52 #[.agg #[.int .i64 S, .slice A ws.length c]] w fun e w' => e = .returned (.bool (decide (BrV S ws))) ∧ Below w.heap.size w w' := by
  obtain ⟨c0, c1⟩ := brd_box w S A ws.length c 37
  have hb : Below w.heap.size w (w.alloc (.cells #[.int .i64 S, .slice A ws.length c] 37)) := (Below.refl _ w).alloc (Nat.le_refl _) _
  have HB := Lib.hid hb
  have HR : Hid (RI (w.alloc (.cells #[.int .i64 S, .slice A ws.length c] 37)) T A ws) := Lib.hid (hr.keep fun b hb' => hb.block b (hT b hb'))
  unfold maxLen at hl
  clear hr hT hb
  go_enter Try.func52, Try.ntmps52
  by_cases a1 : S < 1
  · have HD := Lib.hid (decide_eq_false (show ¬ BrV S ws from fun h => by have := h.1; omega))
    go_wp2_with fail
    go_ret
    exact ⟨ret_bool HD.out.symm, HB.out⟩
  · by_cases a2 : 10 < S
    · have HD := Lib.hid (decide_eq_false (show ¬ BrV S ws from fun h => by have := h.2.1; omega))
      go_wp2_with fail
      go_ret
      exact ⟨ret_bool HD.out.symm, HB.out⟩
    · by_cases a3 : 200 < ws.length
      · have HD := Lib.hid (decide_eq_false (show ¬ BrV S ws from fun h => by have := h.2.2.1; omega))
        go_wp2_with fail
        go_ret
        exact ⟨ret_bool HD.out.symm, HB.out⟩
      · have wn : IntKind.i64.wrap (-S) = -S := by rw [IntKind.wrap_i64]; omega
        go_wp2_with fail
        generalize (w.alloc (.cells #[.int .i64 S, .slice A ws.length c] 37)) = W at c0 c1 HB HR ⊢
        generalize w.heap.size = B0 at c0 c1 ⊢
        go_loopw [22] (fun k' wr => ∃ k : Nat, k ≤ ws.length ∧ k' = .int .i64 k ∧ W = wr ∧ Hid (∀ j, j < k → gi ws j ≠ 0 ∧ -S < gi ws j ∧ gi ws j < S)) (fun k _ => ws.length - (intOf k).toNat)
        case atStart => exact ⟨0, Nat.zero_le _, rfl, rfl, fun j hj => by omega⟩
        case round =>
          obtain ⟨k, hk, rfl, rfl, HA⟩ := hrel
          by_cases hlt : k < ws.length
          · obtain ⟨b, o, rfl, -, hc⟩ := HR.out.at_ hlt
            have c2 := hc k hlt
            clear hc
            obtain ⟨v, hv⟩ : ∃ v, gi ws k = v := ⟨_, rfl⟩
            rw [hv] at c2
            by_cases hg : v ≠ 0 ∧ -S < v ∧ v < S
            · obtain ⟨g1, g2, g3⟩ := hg
              have z1 : (v == 0) = false := by rw [beq_eq_false_iff_ne]; exact g1
              have z2 : decide (v ≤ -S) = false := decide_eq_false (by omega)
              have z3 : decide (S ≤ v) = false := decide_eq_false (by omega)
              have HN : Hid (∀ j, j < k + 1 → gi ws j ≠ 0 ∧ -S < gi ws j ∧ gi ws j < S) := Lib.hid fun j hj => by
                by_cases e : j = k
                · rw [e, hv]; exact ⟨g1, g2, g3⟩
                · exact HA.out j (by omega)
              clear hv
              go_wp2_with fail
              go_roundw
              case rel => exact ⟨k + 1, by omega, by go_num, by trivial, HN⟩
              case measure => simp [intOf]; omega
            · have HD := Lib.hid (decide_eq_false (show ¬ BrV S ws from fun h => hg (by have := h.2.2.2 k hlt; rw [hv] at this; exact this)))
              clear hv
              by_cases g1 : v = 0
              · have z1 : (v == 0) = true := by rw [beq_iff_eq]; exact g1
                go_wp2_with fail
                go_ret
                exact ⟨ret_bool HD.out.symm, HB.out⟩
              · have z1 : (v == 0) = false := by rw [beq_eq_false_iff_ne]; exact g1
                by_cases g2 : v ≤ -S
                · go_wp2_with fail
                  go_ret
                  exact ⟨ret_bool HD.out.symm, HB.out⟩
                · have g3 : S ≤ v := by omega
                  go_wp2_with fail
                  go_ret
                  exact ⟨ret_bool HD.out.symm, HB.out⟩
          · have HD := Lib.hid (decide_eq_true (show BrV S ws from ⟨by omega, by omega, by omega, fun j hj => HA.out j (by omega)⟩))
            go_wp2_with fail
            go_ret
            exact ⟨ret_bool HD.out.symm, HB.out⟩
end Go.Proofs.Yteanhbldhaiekaa
namespace Go.Proofs.Yteanhbldhaiekaa

/-- a loop: generator, two indices -/
structure Lp where
  (g p q : Nat)
deriving DecidableEq
/-- the entry for two loops -/
def elS (ws : List Int) (x y : Lp) : Int :=
  if x = y then (if 0 < gi ws x.p ∧ 0 < gi ws x.q then -1 else if gi ws x.p < 0 ∧ gi ws x.q < 0 then 1 else 0)
  else if x.g = y.g ∧ x.q = y.p then (if gi ws x.q < 0 then -1 else 0)
  else if x.g = y.g ∧ x.p = y.q then (if 0 < gi ws x.p then 1 else 0)
  else if y.g = x.g + 1 ∧ x.p < y.p ∧ y.p < x.q ∧ x.q < y.q then 1
  else if y.g = x.g + 1 ∧ y.p < x.p ∧ x.p < y.q ∧ y.q < x.q then -1 else 0
/-- is the letter k the generator g or its inverse? -/
def isG (ws : List Int) (g k : Nat) : Prop := gi ws k = g ∨ gi ws k = -(g : Int)
instance (ws : List Int) (g k : Nat) : Decidable (isG ws g k) := by unfold isG; infer_instance
/-- the last index before k of a letter g; -1 if there is none -/
def lsS (ws : List Int) (g : Nat) : Nat → Int
  | 0 => -1
  | k + 1 => if isG ws g k then k else lsS ws g k
/-- the loops of generator g within the first k letters -/
def ocS (ws : List Int) (g : Nat) : Nat → List Lp
  | 0 => []
  | k + 1 => if isG ws g k then (if 0 ≤ lsS ws g k then ocS ws g k ++ [⟨g, (lsS ws g k).toNat, k⟩] else ocS ws g k) else ocS ws g k
/-- the loops of the generators 1 .. n -/
def lpS (ws : List Int) : Nat → List Lp
  | 0 => []
  | n + 1 => lpS ws n ++ ocS ws (n + 1) ws.length
theorem lsS_lt (ws : List Int) (g : Nat) : ∀ k, -1 ≤ lsS ws g k ∧ lsS ws g k < k
  | 0 => ⟨Int.le_refl _, by show (-1 : Int) < _; omega⟩
  | k + 1 => by
    have := lsS_lt ws g k
    rw [lsS]
    split <;> omega
theorem ocS_le (ws : List Int) (g : Nat) : ∀ k, (ocS ws g k).length ≤ k
  | 0 => Nat.le_refl _
  | k + 1 => by
    have := ocS_le ws g k
    rw [ocS]
    split
    · split
      · rw [List.length_append, List.length_singleton]; omega
      · omega
    · omega
theorem lpS_le (ws : List Int) : ∀ n, (lpS ws n).length ≤ n * ws.length
  | 0 => by rw [Nat.zero_mul]; exact Nat.le_refl _
  | n + 1 => by
    have := lpS_le ws n
    have := ocS_le ws (n + 1) ws.length
    rw [lpS, List.length_append, Nat.succ_mul]
    omega
/-- each loop's numbers -/
theorem ocS_mem (ws : List Int) (g : Nat) : ∀ k, ∀ d ∈ ocS ws g k, d.g = g ∧ d.p < d.q ∧ d.q < k ∧ isG ws g d.p ∧ isG ws g d.q
  | 0 => fun d hd => by simp [ocS] at hd
  | k + 1 => fun d hd => by
    have ih := ocS_mem ws g k
    rw [ocS] at hd
    have old : d ∈ ocS ws g k → d.g = g ∧ d.p < d.q ∧ d.q < k + 1 ∧ isG ws g d.p ∧ isG ws g d.q := fun h => by
      obtain ⟨a, b, c, e, f⟩ := ih d h
      exact ⟨a, b, by omega, e, f⟩
    split at hd
    · rename_i hk
      split at hd
      · rename_i h0
        rcases List.mem_append.1 hd with h | h
        · exact old h
        · have hl := lsS_lt ws g k
          have hG : ∀ j, 0 ≤ lsS ws g j → isG ws g (lsS ws g j).toNat := fun j => by
            induction j with
            | zero => intro h; exact absurd h (by show ¬ (0 : Int) ≤ -1; omega)
            | succ j ihj =>
              rw [lsS]
              split
              · rename_i hj; intro _; simpa using hj
              · exact ihj
          rw [List.mem_singleton] at h
          subst h
          exact ⟨rfl, by show (lsS ws g k).toNat < k; omega, by show k < k + 1; omega, hG k h0, hk⟩
      · exact old hd
    · exact old hd
theorem lpS_mem (ws : List Int) : ∀ n, ∀ d ∈ lpS ws n, 1 ≤ d.g ∧ d.g ≤ n ∧ d.p < d.q ∧ d.q < ws.length ∧ isG ws d.g d.p ∧ isG ws d.g d.q
  | 0 => fun d hd => by simp [lpS] at hd
  | n + 1 => fun d hd => by
    rw [lpS] at hd
    rcases List.mem_append.1 hd with h | h
    · obtain ⟨a, b, c, e, f, g⟩ := lpS_mem ws n d h
      exact ⟨a, by omega, c, e, f, g⟩
    · obtain ⟨a, b, c, e, f⟩ := ocS_mem ws (n + 1) ws.length d h
      rw [a]
      exact ⟨by omega, by omega, b, c, e, f⟩
end Go.Proofs.Yteanhbldhaiekaa
namespace Go.Proofs.Yteanhbldhaiekaa
open Go.RowKit

def lI (x : Nat) : Value := .int .i64 (x : Int)
def gL (ds : List Lp) (k : Nat) : Lp := ds.getD k ⟨0, 0, 0⟩
def flatL (ds : List Lp) : List Value := ds.flatMap fun d => [lI d.g, lI d.p, lI d.q]
theorem flatL_length (ds : List Lp) : (flatL ds).length = ds.length * 3 := by
  induction ds with
  | nil => rfl
  | cons p ps ih => unfold flatL at ih ⊢; rw [List.flatMap_cons, List.length_append, ih]; simp; omega
theorem flatL_append (ds : List Lp) (d : Lp) : flatL (ds ++ [d]) = flatL ds ++ [lI d.g, lI d.p, lI d.q] := by simp [flatL]
theorem flatL_at : ∀ (ds : List Lp) {k : Nat} (_ : k < ds.length), (flatL ds)[k * 3]? = some (lI (gL ds k).g) ∧ (flatL ds)[k * 3 + 1]? = some (lI (gL ds k).p) ∧ (flatL ds)[k * 3 + 2]? = some (lI (gL ds k).q)
  | [], k, hk => by simp at hk
  | p :: ps, 0, _ => by simp [flatL, gL]
  | p :: ps, k + 1, hk => by
    have := flatL_at ps (k := k) (by simpa using hk)
    have e : flatL (p :: ps) = lI p.g :: lI p.p :: lI p.q :: flatL ps := by simp [flatL]
    have e2 : gL (p :: ps) (k + 1) = gL ps k := by simp [gL]
    rw [e, e2, show (k + 1) * 3 = k * 3 + 1 + 1 + 1 by omega]
    simpa using this

def OL (w : World) (B : Nat) (v : Value) (ds : List Lp) : Prop := w.ownsRow B 71 3 v ds.length (flatL ds)
/-- a slice at A reads ds -/
def RLp (w : World) (S : Nat → Prop) (A : Option Addr) (ds : List Lp) : Prop :=
  ds ≠ [] → ∃ b off, A = some ⟨b, off, none⟩ ∧ S b ∧ ∀ k, k < ds.length → w.cell? ⟨b, off + k * 3, none⟩ = some (lI (gL ds k).g) ∧ w.cell? ⟨b, off + k * 3 + 1, none⟩ = some (lI (gL ds k).p) ∧ w.cell? ⟨b, off + k * 3 + 2, none⟩ = some (lI (gL ds k).q)
theorem loop_info : (Try.prog.info? 71).map (fun i => (i.zero, i.size, i.bytes)) = some (some (.agg #[.int .i64 0, .int .i64 0, .int .i64 0]), 3, 24) := by kernel_rfl

section
variable {w w' : World} {S T : Nat → Prop} {A : Option Addr} {ds : List Lp}
theorem RLp.at_ {k : Nat} (h : RLp w S A ds) (hk : k < ds.length) : ∃ b off, A = some ⟨b, off, none⟩ ∧ S b ∧ ∀ k, k < ds.length → w.cell? ⟨b, off + k * 3, none⟩ = some (lI (gL ds k).g) ∧ w.cell? ⟨b, off + k * 3 + 1, none⟩ = some (lI (gL ds k).p) ∧ w.cell? ⟨b, off + k * 3 + 2, none⟩ = some (lI (gL ds k).q) :=
  h (by intro e; subst e; simp at hk)
theorem RLp.imp (h : RLp w S A ds) (hS : ∀ b, S b → T b) : RLp w T A ds := fun hne => by
  obtain ⟨b, off, e, hb, hc⟩ := h hne
  exact ⟨b, off, e, hS b hb, hc⟩
theorem RLp.keep (h : RLp w S A ds) (hk : ∀ b, S b → w'.heap[b]? = w.heap[b]?) : RLp w' S A ds := fun hne => by
  obtain ⟨b, off, e, hb, hc⟩ := h hne
  have hc' : ∀ {o : Nat} {v : Value}, w.cell? ⟨b, o, none⟩ = some v → w'.cell? ⟨b, o, none⟩ = some v := fun {o v} hv => (World.cell?_of_block (a := ⟨b, o, none⟩) (hk b hb)).trans hv
  exact ⟨b, off, e, hb, fun k hlt => ⟨hc' (hc k hlt).1, hc' (hc k hlt).2.1, hc' (hc k hlt).2.2⟩⟩
end
section
variable {w w' : World} {B : Nat} {v : Value} {ds : List Lp}
theorem OL.nil (w : World) (B : Nat) : OL w B (.slice none 0 0) [] := World.ownsRow_nil w B _ _
theorem OL.shape (h : OL w B v ds) : ∃ A c, v = .slice A ds.length c ∧ ds.length ≤ c ∧ c ≤ maxLen := by
  rcases h.2 with ⟨rfl, hn⟩ | ⟨g, c, cur, rfl, hb, hh, hnc, hcm, hcs, ht⟩
  · exact ⟨none, 0, by rw [hn], by omega, Nat.zero_le _⟩
  · exact ⟨_, c, rfl, hnc, hcm⟩
theorem OL.lt (h : OL w B v ds) : ∀ g, v.ownBlock = some g → B ≤ g ∧ g < w.heap.size := World.ownsRow.lt h
theorem OL.keep (h : OL w B v ds) (hg : ∀ g, v.ownBlock = some g → w'.heap[g]? = w.heap[g]?) : OL w' B v ds := by
  refine ⟨h.1, ?_⟩
  rcases h.2 with h2 | ⟨g, c, cur, rfl, hb, hh, hr⟩
  · exact .inl h2
  · exact .inr ⟨g, c, cur, rfl, hb, by rw [hg g rfl]; exact hh, hr⟩
theorem OL.mono {B' : Nat} (h : OL w B v ds) (hB : B' ≤ B) : OL w B' v ds := by
  refine ⟨h.1, ?_⟩
  rcases h.2 with h2 | ⟨g, c, cur, rfl, hb, hh, hr⟩
  · exact .inl h2
  · exact .inr ⟨g, c, cur, rfl, by omega, hh, hr⟩
theorem OL.below {C : Nat} (h : OL w B v ds) (hb : Below C w w') (hC : w.heap.size ≤ C) : OL w' B v ds :=
  h.keep fun g hg => hb.block g (by have := (h.lt g hg).2; omega)
theorem OL.alloc (h : OL w B v ds) (o : Obj) : OL (w.alloc o) B v ds := World.ownsRow.alloc h o
theorem OL.reads (h : OL w B v ds) : ∃ A c, v = .slice A ds.length c ∧ RLp w (fun b => B ≤ b ∧ b < w.heap.size) A ds := by
  have h0 := h
  rcases h.2 with ⟨rfl, hn⟩ | ⟨g, c, cur, rfl, hb, hh, hnc, hcm, hcs, ht⟩
  · refine ⟨none, 0, by rw [hn], fun hne => ?_⟩
    exact absurd (List.eq_nil_of_length_eq_zero hn) hne
  · refine ⟨_, c, rfl, fun _ => ⟨g, 0, rfl, ⟨hb, ?_⟩, fun k hk => ?_⟩⟩
    · rcases Nat.lt_or_ge g w.heap.size with h | h
      · exact h
      · rw [Array.getElem?_eq_none h] at hh; cases hh
    · obtain ⟨e1, e2, e3⟩ := flatL_at ds hk
      rw [Nat.zero_add]
      exact ⟨(World.ownsRow.cellAt h0 (k * 3) (by omega)).trans e1, (World.ownsRow.cellAt h0 (k * 3 + 1) (by omega)).trans e2, (World.ownsRow.cellAt h0 (k * 3 + 2) (by omega)).trans e3⟩
theorem OL.grown_below {W : World} (h : OL w B v ds) (hb : Below B W w) (hB : B ≤ w.heap.size) (hg : w.grownBy w' v.ownBlock) : Below B W w' :=
  hb.grown hg hB fun k hk => (h.lt k hk).1
theorem wp_app_loop {o : Oper} {a : Act} {K : Act → World → Prop} {Q : Exit → Act → World → Prop} {s x : Operand} {t : TypeId} {d : Lp} {g : Nat}
    (hown : OL w B v ds) (hl : ds.length < 1099511627776) (hB : B ≤ w.heap.size) (hh : w.heap[g]? = some (.cells #[lI d.g, lI d.p, lI d.q] 71 (0, 0)))
    (ho : o.op = .call { callee := .builtin .append, args := #[s, x], argTypes := #[t, t] })
    (ht : Try.prog.underlying t = some (.slice 71)) (hs : a.eval s = v) (hx : a.eval x = .slice (some ⟨g, 0, none⟩) 1 1)
    (h : ∀ v' w', OL w' B v' (ds ++ [d]) → w.grownBy w' v.ownBlock → (v'.ownBlock = v.ownBlock ∨ v'.ownBlock = some w.heap.size) → K (a.put o.dst v') w') :
    o.wp Try.prog a w K Q := by
  obtain ⟨i0, hi, hz0, hz1, hz2⟩ := info_parts loop_info
  have hnew : ∀ (j : Nat) (u : Value), [lI d.g, lI d.p, lI d.q][j]? = some u → w.cell? ((⟨g, 0, none⟩ : Addr).add j) = some u := by
    intro j u hu
    have e : ((⟨g, 0, none⟩ : Addr).add j) = ⟨g, j, none⟩ := by
      unfold Addr.add
      split
      · rename_i h0; subst h0; rfl
      · simp
    rw [e, cell_of_row _ _ _ _ _ _ hh]
    simpa using hu
  obtain ⟨v', w', hrun, h2, h3, _, h5⟩ := run_append_own_at (P := Try.prog) w B t o.type 71 i0 _ 3 24 ht hi hz0 hz1 hz2 rfl (by decide) v ds.length _ hown
    ⟨g, 0, none⟩ 1 1 [lI d.g, lI d.p, lI d.q] rfl hnew (by intro u hu; simp at hu; rcases hu with rfl | rfl | rfl <;> rfl) (by unfold maxLen; omega) (by omega) hB
  unfold Oper.wp execOp
  simp only [ho, resolve, invoke, builtin, Sem.run_bind, Sem.run_pure, Result.andThen_ok, List.map_toArray, List.map_cons, List.map_nil, hs, hx, hrun]
  refine h v' w' ?_ h3 h5
  unfold OL
  rw [flatL_append, List.length_append]
  exact h2
/-- in a region that draws its order -/
theorem step_app_loop {ops : Array Oper} {o : Oper} {a : Act} {K : Act → World → Prop} {Q : Exit → Act → World → Prop} {E : Prop} {s x : Operand} {t : TypeId} {d : Lp} {g : Nat}
    (hown : OL w B v ds) (hl : ds.length < 1099511627776) (hB : B ≤ w.heap.size) (hh : w.heap[g]? = some (.cells #[lI d.g, lI d.p, lI d.q] 71 (0, 0)))
    (hgd : o.guard = none) (ho : o.op = .call { callee := .builtin .append, args := #[s, x], argTypes := #[t, t] })
    (ht : Try.prog.underlying t = some (.slice 71)) (hs : a.eval s = v) (hx : a.eval x = .slice (some ⟨g, 0, none⟩) 1 1)
    (h : ∀ v' w', OL w' B v' (ds ++ [d]) → w.grownBy w' v.ownBlock → (v'.ownBlock = v.ownBlock ∨ v'.ownBlock = some w.heap.size) → K (a.put o.dst v') w') :
    if Region.wanted o (yielded ops a.tmps) = true then Oper.wp Try.prog o a w K Q else E := by
  have hw : Region.wanted o (yielded ops a.tmps) = true := by simp [Region.wanted, hgd]
  rw [if_pos hw]
  exact wp_app_loop hown hl hB hh ho ht hs hx h
end

/-- while loops looks for loops: the array of the last indices, the list of the loops -/
structure LSt (w0 w : World) (b4 b6 : Nat) (v : Value) (la : Nat → Int) (ds : List Lp) : Prop where
  bel : Below w0.heap.size w0 w
  e4 : b4 = w0.heap.size
  e6 : b6 = b4 + 1
  arr : ∀ g, g < 10 → w.cell? ⟨b4, g, none⟩ = some (.int .i64 (la g))
  afz : ∀ g, g < 10 → w.frozen? ⟨b4, g, none⟩ = false
  box : w.heap[b6]? = some (.cells #[v] 67 (0, 0))
  row : OL w (b6 + 1) v ds
section
variable {w0 w : World} {b4 b6 : Nat} {v : Value} {la : Nat → Int} {ds : List Lp}
theorem LSt.cell (h : LSt w0 w b4 b6 v la ds) : w.cell? ⟨b6, 0, none⟩ = some v := by rw [cell_of_row _ _ _ _ _ _ h.box]; rfl
theorem LSt.free (h : LSt w0 w b4 b6 v la ds) : w.frozen? ⟨b6, 0, none⟩ = false := by unfold World.frozen?; rw [h.box]; rfl
theorem LSt.lt (h : LSt w0 w b4 b6 v la ds) : b6 < w.heap.size := lt_of_block h.box
theorem LSt.call {w' : World} (h : LSt w0 w b4 b6 v la ds) (hb : Below w.heap.size w w') : LSt w0 w' b4 b6 v la ds :=
  ⟨h.bel.trans (hb.mono h.bel.size), h.e4, h.e6, fun g hg => (World.cell?_of_block (a := ⟨b4, g, none⟩) (hb.block b4 (by have := h.lt; have := h.e6; omega))).trans (h.arr g hg),
    fun g hg => (World.frozen?_of_block (a := ⟨b4, g, none⟩) (hb.block b4 (by have := h.lt; have := h.e6; omega))).trans (h.afz g hg), (hb.block b6 h.lt).trans h.box, h.row.below hb (Nat.le_refl _)⟩
theorem LSt.drew (h : LSt w0 w b4 b6 v la ds) : LSt w0 w.drew b4 b6 v la ds := h.call (Below.refl _ _).drew
theorem LSt.alloc (h : LSt w0 w b4 b6 v la ds) (o : Obj) : LSt w0 (w.alloc o) b4 b6 v la ds := h.call ((Below.refl _ _).alloc (Nat.le_refl _) _)
theorem LSt.grown {w6 : World} (h : LSt w0 w b4 b6 v la ds) (hg : w.grownBy w6 v.ownBlock) : ∀ b, b ≤ b6 → w6.heap[b]? = w.heap[b]? :=
  fun b hb => hg.block b (by have := h.lt; omega) (fun e => by have := (h.row.lt b e.symm).1; omega)
theorem LSt.push {w6 : World} {v6 : Value} {ds6 : List Lp} (h : LSt w0 w b4 b6 v la ds) (ho : OL w6 (b6 + 1) v6 ds6) (hg : w.grownBy w6 v.ownBlock) : LSt w0 (w6.setCell ⟨b6, 0, none⟩ v6) b4 b6 v6 la ds6 := by
  have h8 := (h.grown hg b6 (Nat.le_refl _)).trans h.box
  have hlt := lt_of_block h8
  have he := h.e4
  have he6 := h.e6
  have e4 : (w6.setCell ⟨b6, 0, none⟩ v6).heap[b4]? = w.heap[b4]? := (Below.heap_setCell _ _ _ _ (by show b4 ≠ b6; omega)).trans (h.grown hg b4 (by omega))
  refine ⟨(h.bel.grown hg h.bel.size (fun k hk => by have := (h.row.lt k hk).1; omega)).setCell (by show w0.heap.size ≤ b6; omega) _, he, he6, fun g hg => (World.cell?_of_block (a := ⟨b4, g, none⟩) e4).trans (h.arr g hg),
    fun g hg => (World.frozen?_of_block (a := ⟨b4, g, none⟩) e4).trans (h.afz g hg), ?_, ho.keep fun g hgo => Below.heap_setCell _ _ _ _ (by have := (ho.lt g hgo).1; show g ≠ b6; omega)⟩
  have h' : w6.heap[b6] = .cells #[v] 67 (0, 0) := by simpa [Array.getElem?_eq_getElem hlt] using h8
  show (w6.heap.modify b6 _)[b6]? = _
  rw [Array.getElem?_eq_getElem (by simpa using hlt), Array.getElem_modify_self, h']
  rfl
/-- the array is written -/
theorem LSt.last (h : LSt w0 w b4 b6 v la ds) {g : Nat} (hg : g < 10) (x : Int) : LSt w0 (w.setCell ⟨b4, g, none⟩ (.int .i64 x)) b4 b6 v (fun y => if y = g then x else la y) ds := by
  have he := h.e4
  have he6 := h.e6
  refine ⟨h.bel.setCell (by show w0.heap.size ≤ b4; omega) _, he, he6, fun y hy => ?_, fun y hy => ?_, ?_, h.row.keep fun y hy => Below.heap_setCell _ _ _ _ (by have := (h.row.lt y hy).1; show y ≠ b4; omega)⟩
  · by_cases e : y = g
    · subst e; rw [if_pos rfl]; exact World.cell?_setCell_same (h := h.arr y hy) ..
    · rw [if_neg e, World.cell?_setCell_other (h := fun e2 => by injection e2 with _ e2; exact e e2.symm)]; exact h.arr y hy
  · rw [World.frozen?_setCell]; exact h.afz y hy
  · rw [Below.heap_setCell _ _ _ _ (by show b6 ≠ b4; omega)]; exact h.box
end
end Go.Proofs.Yteanhbldhaiekaa
namespace Go.Proofs.Yteanhbldhaiekaa
open Go.RowKit

set_option maxHeartbeats 2000000 in
theorem occur_any {w0 w : World} {b4 b6 : Nat} {v : Value} {la : Nat → Int} {ds : List Lp} (h : LSt w0 w b4 b6 v la ds) {g k : Nat} (hg : g < 10) (hl : ds.length < 1000000) (hla : la g ≤ 9223372036854775807) (_hk : k < 1000000) :
    Calls Try.prog 62 #[.int .i64 g, .int .i64 k, .pointer (some ⟨b4, 0, none⟩), .pointer (some ⟨b6, 0, none⟩)] w fun e w' => e = .returned (.tuple #[]) ∧ ∃ v', LSt w0 w' b4 b6 v' (fun y => if y = g then k else la y) (if 0 ≤ la g then ds ++ [⟨g, (la g).toNat, k⟩] else ds) := by
  have HL := Lib.hid h
  have HDL : Hid (ds.length < 1099511627776) := Lib.hid (by omega)
  have ha := h.arr g hg
  have fa := h.afz g hg
  have hc := h.cell
  have hlt := h.lt
  have hlt4 : b4 < w.heap.size := by have := h.e6; omega
  have h0 : (0 : Int) ≤ (g : Int) ∧ (g : Int) < 10 := by omega
  clear h
  go_enter Try.func62, Try.ntmps62
  by_cases h1 : 0 ≤ la g
  · rw [if_pos h1]
    obtain ⟨p, hp⟩ : ∃ p : Nat, la g = p := ⟨(la g).toNat, by omega⟩
    rw [hp] at ha h1
    have e1 : (la g).toNat = p := by omega
    rw [e1]
    have HP := Lib.hid hp
    obtain ⟨A, c, rfl, -, -⟩ := HL.out.row.shape
    clear hp e1 hla
    go_wp2_with fail
    go_region_law ((refine step_app_loop (d := ⟨g, p, k⟩) (HL.out.drew.alloc _).row HDL.out (HL.out.drew.alloc _).lt (heap_alloc_new _ _) rfl rfl Try.underlying67 rfl rfl ?_; intro v6 w6 ho6 hg6 hob6; have c6 := (World.cell?_of_block (a := ⟨b6, 0, none⟩) ((HL.out.drew.alloc _).grown hg6 b6 (Nat.le_refl _))).trans (HL.out.drew.alloc _).cell; have f6 := (World.frozen?_of_block (a := ⟨b6, 0, none⟩) ((HL.out.drew.alloc _).grown hg6 b6 (Nat.le_refl _))).trans (HL.out.drew.alloc _).free; have hp6 := Lib.hid ((HL.out.drew.alloc _).push ho6 hg6); obtain ⟨A6, k6, hv6, -, -⟩ := ho6.shape; clear ho6 hg6 hob6; (generalize List.length _ = n6 at hv6); subst hv6))
    all_goals
      have HP6 := Lib.hid hp6
      have ap := hp6.out.arr g hg
      have fp := hp6.out.afz g hg
      clear c6 f6 hp6 ha fa hc
      generalize w6.setCell _ _ = W6 at HP6 ap fp ⊢
      go_wp2_with fail
      refine bodyPost_end (results_none rfl _ _ _) rfl ?_
      exact ⟨rfl, _, HP6.out.out.last hg k⟩
  · rw [if_neg h1]
    go_wp2_with fail
    refine bodyPost_end (results_none rfl _ _ _) rfl ?_
    exact ⟨rfl, v, HL.out.last hg k⟩
end Go.Proofs.Yteanhbldhaiekaa
namespace Go.Proofs.Yteanhbldhaiekaa
open Go.RowKit

/-- the array of the last indices behind n generators -/
def laS (ws : List Int) (n : Nat) : Nat → Int := fun y => if 1 ≤ y ∧ y ≤ n then lsS ws y ws.length else -1
/-- every generator up to n occurs -/
def Occ (ws : List Int) (n : Nat) : Prop := ∀ g, 1 ≤ g → g ≤ n → 0 ≤ lsS ws g ws.length
instance (ws : List Int) (n : Nat) : Decidable (Occ ws n) := decidable_of_iff (∀ g, g < n → 0 ≤ lsS ws (g + 1) ws.length)
  ⟨fun h g h1 h2 => by have := h (g - 1) (by omega); rwa [show g - 1 + 1 = g by omega] at this, fun h g hg => h (g + 1) (by omega) (by omega)⟩
/-- the error of loops -/
def lpE (S : Int) (ws : List Int) : Nat := if BrV S ws then if Occ ws (S.toNat - 1) then 0 else 17 else 1
/-- the list that loops answers -/
def lpL (S : Int) (ws : List Int) : List Lp := if lpE S ws = 0 then lpS ws (S.toNat - 1) else []
theorem LSt.start {w wr : World} (h : Below w.heap.size w wr) {t : TypeId} (hs : wr.heap.size = w.heap.size + 1) (ha : ∀ g, g < 10 → wr.cell? ⟨w.heap.size, g, none⟩ = some (.int .i64 (-1))) (hf : ∀ g, g < 10 → wr.frozen? ⟨w.heap.size, g, none⟩ = false) (_ : t = 67) :
    LSt w (wr.alloc (.cells #[.slice none 0 0] t)) w.heap.size (w.heap.size + 1) (.slice none 0 0) (fun _ => -1) [] := by
  subst t
  refine ⟨h.alloc h.size _, rfl, rfl, fun g hg => ?_, fun g hg => ?_, ?_, OL.nil _ _⟩
  · rw [World.cell?_alloc_lt _ _ ⟨w.heap.size, g, none⟩ (by rw [hs]; exact Nat.lt_succ_self _)]; exact ha g hg
  · rw [World.frozen?_alloc_old _ _ ⟨w.heap.size, g, none⟩ (by rw [hs]; exact Nat.ne_of_lt (Nat.lt_succ_self _))]; exact hf g hg
  · rw [← hs]; exact heap_alloc_new _ _
theorem LSt.congr {w0 w : World} {b4 b6 : Nat} {v : Value} {la la' : Nat → Int} {ds : List Lp} (h : LSt w0 w b4 b6 v la ds) (e : ∀ g, g < 10 → la g = la' g) : LSt w0 w b4 b6 v la' ds :=
  { h with arr := fun g hg => by rw [← e g hg]; exact h.arr g hg }
/-- the state within the letters of generator n + 1 -/
def LSk (w2 w : World) (b4 : Nat) (v : Value) (ws : List Int) (n k : Nat) : Prop := LSt w2 w b4 (b4 + 1) v (fun y => if y = n + 1 then lsS ws (n + 1) k else laS ws n y) (lpS ws n ++ ocS ws (n + 1) k)
theorem LSk.skip {w2 w : World} {b4 : Nat} {v : Value} {ws : List Int} {n k : Nat} (h : LSk w2 w b4 v ws n k) (hg : ¬ isG ws (n + 1) k) : LSk w2 w b4 v ws n (k + 1) := by
  unfold LSk at h ⊢
  rw [show lsS ws (n + 1) (k + 1) = lsS ws (n + 1) k by rw [lsS, if_neg hg], show ocS ws (n + 1) (k + 1) = ocS ws (n + 1) k by rw [ocS, if_neg hg]]
  exact h
theorem LSk.call {w2 w : World} {b4 : Nat} {v : Value} {ws : List Int} {n k : Nat} (h : LSk w2 w b4 v ws n k) (hg : isG ws (n + 1) k) (hn : n + 1 < 10) (hk : k < ws.length) (hl : ws.length ≤ 200) :
    Calls Try.prog 62 #[.int .i64 ((n : Int) + 1), .int .i64 k, .pointer (some ⟨b4, 0, none⟩), .pointer (some ⟨b4 + 1, 0, none⟩)] w fun e w' => e = .returned (.tuple #[]) ∧ ∃ v', LSk w2 w' b4 v' ws n (k + 1) := by
  have hls := lsS_lt ws (n + 1) k
  have hlen : (lpS ws n ++ ocS ws (n + 1) k).length < 1000000 := by
    have h1 := lpS_le ws n
    have h2 := ocS_le ws (n + 1) k
    have h3 := Nat.mul_le_mul (show n ≤ 9 by omega) hl
    rw [List.length_append]
    omega
  have e0 : (if n + 1 = n + 1 then lsS ws (n + 1) k else laS ws n (n + 1)) = lsS ws (n + 1) k := if_pos rfl
  refine (occur_any h (g := n + 1) (k := k) hn hlen (by rw [e0]; omega) (by omega)).mono ?_
  rintro e w' ⟨rfl, v', h'⟩
  refine ⟨rfl, v', ?_⟩
  unfold LSk
  simp only at h'
  have hd : (if 0 ≤ lsS ws (n + 1) k then (lpS ws n ++ ocS ws (n + 1) k) ++ [⟨n + 1, (lsS ws (n + 1) k).toNat, k⟩] else lpS ws n ++ ocS ws (n + 1) k) = lpS ws n ++ ocS ws (n + 1) (k + 1) := by
    rw [ocS, if_pos hg]
    split
    · rw [List.append_assoc]
    · rfl
  rw [← hd]
  refine h'.congr fun g _ => ?_
  by_cases e : g = n + 1
  · rw [if_pos e, if_pos e, lsS, if_pos hg]
  · rw [if_neg e, if_neg e, if_neg e]
set_option maxHeartbeats 8000000 in
theorem loops_any {w : World} {A : Option Addr} {c : Nat} {S : Int} {ws : List Int} {T : Nat → Prop} (hr : RI w T A ws) (hT : ∀ b, T b → b < w.heap.size) (hl : ws.length ≤ maxLen) (h1 : -9223372036854775808 ≤ S) (h2 : S ≤ 9223372036854775807) :
    Calls Try.prog 40 #[.agg #[.int .i64 S, .slice A ws.length c]] w fun e w' => ∃ v, e = .returned (.tuple #[v, .int .i64 (lpE S ws : Nat)]) ∧ Below w.heap.size w w' ∧ OL w' w.heap.size v (lpL S ws) := by
  obtain ⟨c0, c1⟩ := brd_box w S A ws.length c 37
  have hb : Below w.heap.size w (w.alloc (.cells #[.int .i64 S, .slice A ws.length c] 37)) := (Below.refl _ w).alloc (Nat.le_refl _) _
  have HB := Lib.hid hb
  have HR : Hid (RI (w.alloc (.cells #[.int .i64 S, .slice A ws.length c] 37)) (· < w.heap.size) A ws) := Lib.hid ((hr.keep fun b hb' => hb.block b (hT b hb')).imp hT)
  have HSZ : Hid ((w.alloc (.cells #[.int .i64 S, .slice A ws.length c] 37)).heap.size = w.heap.size + 1) := Lib.hid (by simp)
  have HV := Lib.hid (bvalid_any (c := c) HR.out (fun b hb => by rw [HSZ.out]; omega) hl h1 h2)
  clear hr hT hb
  obtain ⟨W, hW⟩ : ∃ W, w.alloc (.cells #[.int .i64 S, .slice A ws.length c] 37) = W := ⟨_, rfl⟩
  rw [hW] at c0 c1 HB HR HSZ HV
  have HW := Lib.hid hW
  clear hW
  go_enter Try.func40, Try.ntmps40
  go_wp2_with fail
  rw [HW.out]
  refine HV.out.mono ?_
  rintro e w2 ⟨rfl, hb2⟩
  have HB2 := Lib.hid (HB.out.trans (hb2.mono HB.out.size))
  have HS2 : Hid (w.heap.size + 1 ≤ w2.heap.size) := Lib.hid (by rw [← HSZ.out]; exact hb2.size)
  have HR2 := Lib.hid (HR.out.keep (w' := w2) fun b hb => hb2.block b (by rw [HSZ.out]; omega))
  have d0 : w2.cell? ⟨w.heap.size, 0, none⟩ = some (.int .i64 S) := (World.cell?_of_block (a := ⟨w.heap.size, 0, none⟩) (hb2.block _ (by rw [HSZ.out]; exact Nat.lt_succ_self _))).trans c0
  have d1 : w2.cell? ⟨w.heap.size, 1, none⟩ = some (.slice A ws.length c) := (World.cell?_of_block (a := ⟨w.heap.size, 1, none⟩) (hb2.block _ (by rw [HSZ.out]; exact Nat.lt_succ_self _))).trans c1
  clear hb2 HB HR HSZ HV HW c0 c1
  by_cases hv : BrV S ws
  · have HV := Lib.hid hv
    rw [decide_eq_true hv]
    obtain ⟨v1, v2, v3, -⟩ := hv
    obtain ⟨s, rfl⟩ : ∃ s : Nat, S = (s : Int) + 1 := ⟨(S - 1).toNat, by omega⟩
    have HE : Hid (lpE ((s : Int) + 1) ws = if Occ ws s then 0 else 17) := Lib.hid (by unfold lpE; rw [if_pos HV.out, show ((s : Int) + 1).toNat - 1 = s by omega])
    have hs9 : s ≤ 9 := by omega
    clear HV v1 v2 h1 h2 hl
    go_wp2_with fail
    go_loopw [14] (fun k' wr => ∃ k : Nat, k' = .int .i64 k ∧ k ≤ 10 ∧ wr.heap.size = w2.heap.size + 1 ∧ Hid (Below w2.heap.size w2 wr) ∧ (∀ g, g < 10 → wr.cell? ⟨w2.heap.size, g, none⟩ = some (.int .i64 (if g < k then -1 else 0))) ∧ ∀ g, g < 10 → wr.frozen? ⟨w2.heap.size, g, none⟩ = false) (fun k _ => 10 - (intOf k).toNat)
    case atStart => exact ⟨0, rfl, Nat.zero_le _, by simp, Lib.hid ((Below.refl _ _).alloc (Nat.le_refl _) _), fun g hg => by rw [if_neg (Nat.not_lt_zero _)]; exact (cell_rep (n := 10) (v := Value.int .i64 0) hg).1, fun g hg => (cell_rep (n := 10) (v := Value.int .i64 0) hg).2⟩
    case round =>
      obtain ⟨k, rfl, hk, hsz, HBW, hc, hf⟩ := hrel
      by_cases hlt : k < 10
      · have c1 := hc k hlt
        rw [if_neg (Nat.lt_irrefl k)] at c1
        have f1 := hf k hlt
        have HC := Lib.hid hc
        have HF := Lib.hid hf
        have k0 : (0 : Int) ≤ (k : Int) := by omega
        clear hc hf
        go_wp2_with fail
        go_roundw
        case rel =>
          refine ⟨k + 1, by go_num, by omega, by simp [hsz], Lib.hid (HBW.out.setCell (p := ⟨w2.heap.size, k, none⟩) (Nat.le_refl _) _), fun g hg => ?_, fun g hg => by rw [World.frozen?_setCell]; exact HF.out g hg⟩
          by_cases e : g = k
          · subst e; rw [if_pos (Nat.lt_succ_self _)]; exact set_same c1
          · rw [cell_ne' (Ne.symm e), HC.out g hg]
            by_cases e2 : g < k
            · rw [if_pos e2, if_pos (by omega)]
            · rw [if_neg e2, if_neg (by omega)]
        case measure => simp [intOf]; omega
      · have hst := LSt.start HBW.out hsz (fun g hg => by have := hc g hg; rwa [if_pos (by omega)] at this) hf rfl
        have z10 : decide ((k : Int) < 10) = false := decide_eq_false (by omega)
        have HLS := Lib.hid hst
        clear hst hc hf HBW hk hlt
        go_wp2_with fail
        clear z10
        obtain ⟨b4, hb4⟩ : ∃ b, w2.heap.size = b := ⟨_, rfl⟩
        rw [hb4] at HLS HS2 ⊢
        clear hsz
        have HS4 := Lib.hid hb4
        clear hb4
        go_loopw [8] (fun n' wr => ∃ (n : Nat) (v : Value), n' = .int .i64 ((n : Int) + 1) ∧ n ≤ s ∧ Hid (LSt w2 wr b4 (b4 + 1) v (laS ws n) (lpS ws n)) ∧ Hid (Occ ws n)) (fun n _ => s + 1 - (intOf n).toNat)
        case atStart => exact ⟨0, _, rfl, Nat.zero_le _, Lib.hid (HLS.out.congr fun g _ => by unfold laS; rw [if_neg (by omega)]), Lib.hid fun g h1 h2 => by omega⟩
        case round =>
          clear HLS
          obtain ⟨n, v, rfl, hn, HL, HO⟩ := hrel
          have hold : ∀ o, wr.cell? ⟨w.heap.size, o, none⟩ = w2.cell? ⟨w.heap.size, o, none⟩ := fun o => World.cell?_of_block (a := ⟨w.heap.size, o, none⟩) (HL.out.bel.block _ (by have := HS2.out; have := HS4.out; show w.heap.size < _; omega))
          have e0 := (hold 0).trans d0
          have e1 := (hold 1).trans d1
          have hbx := HL.out.cell
          clear hold
          by_cases hlt : n < s
          · have wn : IntKind.i64.wrap (-((n : Int) + 1)) = -((n : Int) + 1) := by rw [IntKind.wrap_i64]; omega
            have HL0 : Hid (LSk w2 wr b4 v ws n 0) := Lib.hid (by
              unfold LSk
              rw [show ocS ws (n + 1) 0 = [] from rfl, List.append_nil]
              refine HL.out.congr fun g _ => ?_
              by_cases e : g = n + 1
              · rw [if_pos e]; unfold laS; rw [if_neg (by omega)]; rfl
              · rw [if_neg e])
            clear HL
            go_wp2_with fail
            go_loopw [30] (fun k' wq => ∃ (k : Nat) (v : Value), k' = .int .i64 k ∧ k ≤ ws.length ∧ Hid (LSk w2 wq b4 v ws n k)) (fun k _ => ws.length - (intOf k).toNat)
            case atStart => exact ⟨0, _, rfl, Nat.zero_le _, HL0⟩
            case round =>
              clear HL0 e0 e1 hbx
              obtain ⟨k, v, rfl, hk, HL⟩ := hrel
              by_cases hkl : k < ws.length
              · have hri := HR2.out.keep (w' := wr) fun b hb => HL.out.bel.block b (by have := HS2.out; have := HS4.out; have hb' : b < w.heap.size := hb; omega)
                obtain ⟨b, off, rfl, -, hc⟩ := hri.at_ hkl
                have c2 := hc k hkl
                clear hc hri
                by_cases hg : isG ws (n + 1) k
                · have HC := Lib.hid (HL.out.call hg (by omega) hkl v3)
                  obtain ⟨x, hx⟩ : ∃ x, gi ws k = x := ⟨_, rfl⟩
                  have hxx : x = ((n : Int) + 1) ∨ x = -((n : Int) + 1) := by
                    unfold isG at hg
                    rw [hx] at hg
                    rcases hg with h | h
                    · exact Or.inl (by rw [h]; omega)
                    · exact Or.inr (by rw [h]; omega)
                  rw [hx] at c2
                  clear hg hx
                  rcases hxx with rfl | rfl
                  · go_wp2_with fail
                    refine HC.out.mono ?_
                    rintro e wq ⟨rfl, v', h'⟩
                    have HN := Lib.hid h'
                    clear h'
                    go_wp2_with fail
                    go_roundw
                    case rel => exact ⟨k + 1, v', by go_num, by omega, HN⟩
                    case measure => simp [intOf]; omega
                  · have z1 : (-((n : Int) + 1) == (n : Int) + 1) = false := by rw [beq_eq_false_iff_ne]; omega
                    go_wp2_with fail
                    refine HC.out.mono ?_
                    rintro e wq ⟨rfl, v', h'⟩
                    have HN := Lib.hid h'
                    clear h'
                    go_wp2_with fail
                    go_roundw
                    case rel => exact ⟨k + 1, v', by go_num, by omega, HN⟩
                    case measure => simp [intOf]; omega
                · have HN := Lib.hid (HL.out.skip hg)
                  obtain ⟨x, hx⟩ : ∃ x, gi ws k = x := ⟨_, rfl⟩
                  unfold isG at hg
                  rw [hx] at hg c2
                  have z1 : (x == (n : Int) + 1) = false := by rw [beq_eq_false_iff_ne]; intro h; exact hg (Or.inl (by rw [h]; omega))
                  have z2 : (x == -((n : Int) + 1)) = false := by rw [beq_eq_false_iff_ne]; intro h; exact hg (Or.inr (by rw [h]; omega))
                  clear hg hx
                  go_wp2_with fail
                  go_roundw
                  case rel => exact ⟨k + 1, v, by go_num, by omega, HN⟩
                  case measure => simp [intOf]; omega
              · obtain rfl : k = ws.length := by omega
                have ea := HL.out.arr (n + 1) (by omega)
                rw [if_pos rfl] at ea
                have i0 : (0 : Int) ≤ (n : Int) + 1 ∧ (n : Int) + 1 < 10 := by omega
                have hb := HL.out.bel
                have hold : ∀ o, wr.cell? ⟨w.heap.size, o, none⟩ = w2.cell? ⟨w.heap.size, o, none⟩ := fun o => World.cell?_of_block (a := ⟨w.heap.size, o, none⟩) (hb.block _ (by have := HS2.out; have := HS4.out; show w.heap.size < _; omega))
                obtain ⟨l, hl⟩ : ∃ l, lsS ws (n + 1) ws.length = l := ⟨_, rfl⟩
                rw [hl] at ea
                by_cases hneg : l < 0
                · have hno : ¬ Occ ws s := fun h => by have := h (n + 1) (by omega) (by omega); omega
                  have HE2 : Hid (lpE ((s : Int) + 1) ws = 17) := Lib.hid (by rw [HE.out, if_neg hno])
                  clear hno hl
                  go_wp2_with fail
                  go_ret2
                  exact ⟨_, by rw [HE2.out]; rfl, HB2.out.trans (hb.mono (by have := HS2.out; have := HS4.out; omega)), by unfold lpL; rw [HE2.out]; exact OL.nil _ _⟩
                · have HO2 : Hid (Occ ws (n + 1)) := Lib.hid fun g h1 h2 => by
                    by_cases e : g = n + 1
                    · subst e; rw [hl]; omega
                    · exact HO.out g h1 (by omega)
                  have HN : Hid (LSt w2 wr b4 (b4 + 1) v (laS ws (n + 1)) (lpS ws (n + 1))) := Lib.hid (LSt.congr HL.out fun g _ => by
                    by_cases e : g = n + 1
                    · rw [if_pos e]; unfold laS; rw [if_pos (by omega), e]
                    · rw [if_neg e]; unfold laS
                      by_cases e2 : 1 ≤ g ∧ g ≤ n
                      · rw [if_pos e2, if_pos (by omega)]
                      · rw [if_neg e2, if_neg (by omega)])
                  clear hl hb
                  go_wp2_with fail
                  go_roundw
                  case rel => exact ⟨n + 1, v, by go_num, by omega, HN, HO2⟩
                  case measure => simp [intOf]; omega
          · obtain rfl : n = s := by omega
            have HE2 : Hid (lpE ((n : Int) + 1) ws = 0) := Lib.hid (by rw [HE.out, if_pos HO.out])
            go_wp2_with fail
            go_ret2
            exact ⟨v, by rw [HE2.out]; rfl, HB2.out.trans (HL.out.bel.mono (by have := HS2.out; have := HS4.out; omega)), by unfold lpL; rw [HE2.out, if_pos rfl, show ((n : Int) + 1).toNat - 1 = n by omega]; exact HL.out.row.mono (by have := HS2.out; omega)⟩
  · have HE : Hid (lpE S ws = 1) := Lib.hid (by unfold lpE; rw [if_neg hv])
    rw [decide_eq_false hv]
    go_wp2_with fail
    go_ret2
    exact ⟨_, by rw [HE.out]; rfl, HB2.out, by unfold lpL; rw [HE.out]; exact OL.nil _ _⟩
end Go.Proofs.Yteanhbldhaiekaa
