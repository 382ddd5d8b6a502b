/-
  The contract of slices.Clone at slices of integers: a fresh row of the same integers.
  The contracts of slices.Grow (of nil) and slices.Concat of integers.
  The kit's contracts of slices.Insert and slices.Delete at this program.
  The walk of markov.change: its boxes, its beginning, its end.
-/
import Derived.Test.YteanhbldhaiekaaZ01
import Derived.Test.YteanhbldhaiekaaZ10
import Derived.Test.YteanhbldhaiekaaZ41
import Derived.IntWalk
import Derived.Lib.AppendZeros
import Derived.Shelf.Spec.SlicesInsertGrow
import Derived.Shelf.Spec.SlicesInsert
import Derived.Shelf.Slices.Delete
import Derived.Deep.RegionHeld3
import Derived.Deep.DeepCutAuto
namespace Go.Proofs.Yteanhbldhaiekaa
open Go.RowKit

set_option maxHeartbeats 1000000 in
theorem clone_any (A : Option Addr) (c : Nat) (xs : List Int) (w : World) (S : Nat → Prop) (hx : RI w S A xs) (hS : ∀ b, S b → b < w.heap.size) (hm : xs.length < 1099511627776) :
    Calls Try.prog 75 #[.slice A xs.length c] w fun e w' => ∃ v, e = .returned v ∧ OI w' w.heap.size v xs ∧ Below w.heap.size w w' := by
  have qT : ∀ (w : World) (a : Option Addr) (n c n' c' : Nat), (binOp .eql 33 (.slice a n c) (.slice none n' c')).run Try.prog w = .ok (.bool a.isNone) w := fun w a n c n' c' => Lib.run_eql_slice_nil w _ _ a n c n' c' Try.underlying33
  rcases A with _ | ad
  · have hy : xs = [] := by
      rcases xs with _ | ⟨y, ys⟩
      · rfl
      · obtain ⟨b, off, he, _⟩ := hx (by simp)
        cases he
    subst hy
    go_enter Try.func75, Try.ntmps75
    go_wp2
    go_ret
    exact ⟨_, rfl, OR.nil _ _, Below.refl _ _⟩
  · have hx' : RI (w.alloc (.cells #[] 3)) S (some ad) xs := hx.keep fun b hb => Below.heap_alloc w _ b (hS b hb)
    have hown : OI (w.alloc (.cells #[] 3)) w.heap.size (.slice (some ⟨w.heap.size, 0, none⟩) 0 0) [] := by
      have := OR.made (e := 3) (f := Value.int .i64) (xs := []) w w.heap.size #[] (Nat.le_refl _) (by simp) (by simp)
      simpa using this
    go_enter Try.func75, Try.ntmps75
    go_wp2_with (at_builtin; refine appN hown hx' (by simpa using hm) (by simp) rfl rfl Try.underlying33 rfl rfl ?_; intro v' w' ho hg hob)
    go_ret
    exact ⟨_, rfl, ho, ((Below.refl _ _).alloc (Nat.le_refl _) _).grown hg (by simp) (by intro k hk; simp [Value.ownBlock] at hk; omega)⟩

end Go.Proofs.Yteanhbldhaiekaa
namespace Go.Proofs.Yteanhbldhaiekaa
open Go.RowKit

theorem appZ {ops : Array Oper} {rest : List Oper} {o : Oper} {a : Act} {Q : Exit → Act → World → Prop} {w : World} {n : Nat} {s x : Operand} {t tn : TypeId} (h0 : 0 < n) (hn : n ≤ 1099511627776)
    (hgd : o.guard = none) (ho : o.op = .call { callee := .builtin .append, args := #[s, x], argTypes := #[t, tn] })
    (ht : Try.prog.underlying t = some (.slice 3)) (htn : Try.prog.underlying tn = some (.int .i64)) (hs : a.eval s = .slice none 0 0) (hx : a.eval x = .int .i64 n)
    (h : ∀ c w', n ≤ c → c ≤ maxLen → w'.ownsRow w.heap.size 3 1 (.slice (some ⟨w.heap.size, 0, none⟩) 0 c) 0 [] → Below w.heap.size w w' → wpList Try.prog ops Q rest (a.put o.dst (.slice (some ⟨w.heap.size, 0, none⟩) n c)) w') :
    wpList Try.prog ops Q (o :: rest) a w := by
  obtain ⟨i0, hi, hz0, hz1, hz2⟩ := info_parts int_info
  refine wpList_plain hgd fun _ hK => ?_
  have hrun := Lib.run_append_nil_zeros (P := Try.prog) w t tn o.type 3 i0 (.int .i64 0) .i64 .i64 ht htn hi hz0 n h0 (by rw [hz1]; decide) (by omega) (by rw [hz2]; omega)
  have h1 := grownCap_ge w n 0 3
  have h2 := grownCap_le_maxLen w n 0 3 (by unfold maxLen; omega)
  unfold Oper.wp execOp
  simp only [ho, resolve, invoke, builtin, Sem.run_bind, Sem.run_pure, Result.andThen_ok, List.map_toArray, List.map_cons, List.map_nil, hs, hx, hrun]
  refine hK _ _ (h _ _ h1 h2 ?_ ((Below.refl _ w).drew.alloc (Nat.le_refl _) _))
  exact World.ownsRow_made (w := w.drew) _ _ (Nat.le_refl _) h2 (by have e : (Value.int .i64 0).cells.size = 1 := rfl; simp [Builtin.zeroCells, e]; omega)
set_option maxHeartbeats 2000000 in
theorem grow_any (n : Nat) (hn : n ≤ 1099511627776) (w : World) :
    Calls Try.prog 82 #[.slice none 0 0, .int .i64 n] w fun e w' => ∃ v, e = .returned v ∧ OI w' w.heap.size v [] ∧ Below w.heap.size w w' := by
  have x1 : IntKind.i64.wrap ((n : Int) - 0) = (n : Int) := IntWalk.i64_in _ (by omega)
  by_cases h0 : n = 0
  · subst h0
    go_enter Try.func82, Try.ntmps82
    go_wp2_with fail
    go_ret
    exact ⟨_, rfl, OR.nil _ _, Below.refl _ _⟩
  · have hp : 0 < n := by omega
    go_enter Try.func82, Try.ntmps82
    go_wp2_with (at_builtin; refine appZ hp hn rfl rfl Try.underlying33 Try.underlying3 rfl rfl ?_; intro c w' h1 h2 ho hb; have HO := Lib.hid ho; have HB := Lib.hid hb; clear ho hb)
    go_ret
    exact ⟨_, rfl, HO.out, HB.out⟩
theorem flat_succ {xss : List (List Int)} {i : Nat} (hi : i < xss.length) : (xss.take (i + 1)).flatten = (xss.take i).flatten ++ xss.getD i [] := by
  rw [List.take_add_one, List.flatten_append, List.getD_eq_getElem?_getD, List.getElem?_eq_getElem hi]
  simp
theorem flat_le (xss : List (List Int)) (i : Nat) : ((xss.take i).flatten).length ≤ xss.flatten.length := by
  have e : xss.flatten = (xss.take i).flatten ++ (xss.drop i).flatten := by rw [← List.flatten_append, List.take_append_drop]
  rw [e, List.length_append]
  omega
set_option maxHeartbeats 4000000 in
theorem concat_any {w : World} {A : Option Addr} {c : Nat} {xss : List (List Int)} (h : RL w (· < w.heap.size) A xss) (hl : xss.length ≤ 1000000) (hf : xss.flatten.length ≤ 1000000) :
    Calls Try.prog 76 #[.slice A xss.length c] w fun e w' => ∃ v, e = .returned v ∧ OI w' w.heap.size v xss.flatten ∧ Below w.heap.size w w' := by
  have HX := Lib.hid h
  have HF := Lib.hid hf
  obtain ⟨n, hn⟩ : ∃ n, xss.length = n := ⟨_, rfl⟩
  have HN := Lib.hid hn
  rw [hn] at hl ⊢
  clear h hf hn
  go_enter Try.func76, Try.ntmps76
  go_wp2_with fail
  go_loopw [3, 11] (fun s i' wr => ∃ (i z : Nat), i ≤ n ∧ i' = .int .i64 i ∧ s = .int .i64 z ∧ Hid (z = ((xss.take i).flatten).length) ∧ z ≤ 1000000 ∧ w = wr) (fun _ i _ => n - (intOf i).toNat)
  case atStart => exact ⟨0, 0, Nat.zero_le _, rfl, rfl, by simp [Hid], Nat.zero_le _, rfl⟩
  case round =>
    obtain ⟨i, z, hi, rfl, rfl, HZ, hz, rfl⟩ := hrel
    by_cases hlt : i < n
    · obtain ⟨b, off, rfl, -, hc⟩ := HX.out.at_ (k := i) (by rw [HN.out]; exact hlt)
      obtain ⟨Ai, ci, c1, -, hl1⟩ := hc i (by rw [HN.out]; exact hlt)
      obtain ⟨l, hll⟩ : ∃ l, (xss.getD i []).length = l := ⟨_, rfl⟩
      rw [hll] at c1 hl1
      obtain ⟨z2, hz2⟩ : ∃ z2, z + l = z2 := ⟨_, rfl⟩
      have HZ2 : Hid (z2 = ((xss.take (i + 1)).flatten).length) := Lib.hid (by rw [flat_succ (by rw [HN.out]; exact hlt), List.length_append, ← HZ.out, hll, hz2])
      have hz3 : z2 ≤ 1000000 := by rw [HZ2.out]; exact Nat.le_trans (flat_le _ _) HF.out
      have x1 : IntKind.i64.wrap ((z : Int) + (l : Int)) = (z2 : Int) := by rw [← hz2, Int.natCast_add]; exact IntWalk.i64_in _ (by omega)
      clear hc hll hz2 HZ
      go_wp2_with fail
      go_roundw
      case rel => exact ⟨i + 1, z2, by omega, by go_num, rfl, HZ2, hz3, by trivial⟩
      case measure => simp [intOf]; omega
    · obtain rfl : i = n := by omega
      go_wp2_with fail
      refine (grow_any z (by omega) w).mono ?_
      rintro e w1 ⟨v1, rfl, ho, hb⟩
      have HO1 := Lib.hid ho
      have HB1 := Lib.hid hb
      have HX1 := Lib.hid (HX.out.keep (w' := w1) fun b hlt => hb.block b hlt)
      clear ho hb HZ
      go_wp2_with fail
      go_loopw [6, 27] (fun v j' wr => ∃ j : Nat, j ≤ i ∧ j' = .int .i64 j ∧ Hid (OI wr w.heap.size v ((xss.take j).flatten)) ∧ Hid (Below w.heap.size w wr)) (fun _ j _ => i - (intOf j).toNat)
      case atStart => exact ⟨0, Nat.zero_le _, rfl, by simpa [Hid] using HO1.out, HB1.out⟩
      case round =>
        obtain ⟨j, hj, rfl, HO, HB⟩ := hrel
        by_cases hltj : j < i
        · obtain ⟨b, off, rfl, -, hc⟩ := (HX.out.keep (w' := wr) fun b hlt => HB.out.block b hlt).at_ (k := j) (by rw [HN.out]; exact hltj)
          obtain ⟨Aj, cj, c1, hr, hl1⟩ := hc j (by rw [HN.out]; exact hltj)
          have hsz := HB.out.size
          obtain ⟨Av, kv, rfl, -, -, -⟩ := HO.out.shape
          have HR := Lib.hid hr
          have HLL : Hid (((xss.take j).flatten).length + (xss.getD j []).length < 1099511627776) := Lib.hid (by
            have := flat_le xss (j + 1)
            rw [flat_succ (by rw [HN.out]; exact hltj), List.length_append] at this
            have := HF.out
            omega)
          clear hc hr
          go_wp2_with (at_builtin; refine appN HO.out HR.out HLL.out hsz rfl rfl Try.underlying33 rfl rfl ?_; intro v' w' ho hg hob)
          have HO2 : Hid (OI w' w.heap.size v' ((xss.take (j + 1)).flatten)) := Lib.hid (by rw [flat_succ (by rw [HN.out]; exact hltj)]; exact ho)
          have HB2 : Hid (Below w.heap.size w w') := Lib.hid (HB.out.grown hg hsz fun k hk => (HO.out.lt k hk).1)
          clear ho hg hob HO HB HR
          go_roundw
          case rel => exact ⟨j + 1, by omega, by go_num, HO2, HB2⟩
          case measure => simp [intOf]; omega
        · obtain rfl : j = i := by omega
          have HE : Hid ((xss.take j).flatten = xss.flatten) := Lib.hid (by rw [List.take_of_length_le (by rw [HN.out]; exact Nat.le_refl _)])
          go_wp2_with fail
          go_ret
          exact ⟨_, rfl, by rw [← HE.out]; exact HO.out, HB.out⟩
end Go.Proofs.Yteanhbldhaiekaa
namespace Go.Proofs.Yteanhbldhaiekaa
open Go.Shelf Go.RowKit

def renI : Ren := ⟨fun k => if k = 21 then 77 else if k = 27 then 83 else if k = 28 then 84 else if k = 35 then 86 else if k = 39 then 87 else if k = 23 then 78 else k,
  fun k => if k = 3 then 3 else if k = 4 then 4 else if k = 22 then 33 else k, fun k => k⟩
theorem layI : Lays2.n21 Try.prog renI where
  mixed := by kernel_rfl
  f21 := by kernel_rfl
  f27 := by kernel_rfl
  f28 := by kernel_rfl
  f35 := by kernel_rfl
  f39 := by kernel_rfl
  t0 := by kernel_rfl
  a0 := fun w => by kernel_rfl
  z0 := fun w => by kernel_rfl
  v0 := fun w => by kernel_rfl
  t3 := by kernel_rfl
  a3 := fun w => by kernel_rfl
  z3 := fun w => by kernel_rfl
  v3 := fun w => by kernel_rfl
  t4 := by kernel_rfl
  a4 := fun w => by kernel_rfl
  z4 := fun w => by kernel_rfl
  v4 := fun w => by kernel_rfl
  t22 := by kernel_rfl
  a22 := fun w => by kernel_rfl
  z22 := fun w => by kernel_rfl
  v22 := fun w => by kernel_rfl
  i3 := by kernel_rfl
theorem layD : Lays2.n23 Try.prog renI where
  mixed := by kernel_rfl
  f23 := by kernel_rfl
  t0 := by kernel_rfl
  a0 := fun w => by kernel_rfl
  z0 := fun w => by kernel_rfl
  v0 := fun w => by kernel_rfl
  t3 := by kernel_rfl
  a3 := fun w => by kernel_rfl
  z3 := fun w => by kernel_rfl
  v3 := fun w => by kernel_rfl
  t4 := by kernel_rfl
  a4 := fun w => by kernel_rfl
  z4 := fun w => by kernel_rfl
  v4 := fun w => by kernel_rfl
  t22 := by kernel_rfl
  a22 := fun w => by kernel_rfl
  z22 := fun w => by kernel_rfl
  v22 := fun w => by kernel_rfl
  i3 := by kernel_rfl
end Go.Proofs.Yteanhbldhaiekaa
namespace Go.Proofs.Yteanhbldhaiekaa
open Go.RowKit

/-- a box of three integers -/
structure TBx (w : World) (b : Nat) (x y z : Int) : Prop where
  c0 : w.cell? ⟨b, 0, none⟩ = some (.int .i64 x)
  c1 : w.cell? ⟨b, 1, none⟩ = some (.int .i64 y)
  c2 : w.cell? ⟨b, 2, none⟩ = some (.int .i64 z)
  f0 : w.frozen? ⟨b, 0, none⟩ = false
  f1 : w.frozen? ⟨b, 1, none⟩ = false
  f2 : w.frozen? ⟨b, 2, none⟩ = false
  lt : b < w.heap.size
/-- a box of a braid -/
structure BBx (w : World) (b : Nat) (x : Int) (v : Value) : Prop where
  c0 : w.cell? ⟨b, 0, none⟩ = some (.int .i64 x)
  c1 : w.cell? ⟨b, 1, none⟩ = some v
  f0 : w.frozen? ⟨b, 0, none⟩ = false
  f1 : w.frozen? ⟨b, 1, none⟩ = false
  lt : b < w.heap.size
theorem TBx.keep {w w' : World} {b : Nat} {x y z : Int} (h : TBx w b x y z) (e : w'.heap[b]? = w.heap[b]?) (hs : w.heap.size ≤ w'.heap.size) : TBx w' b x y z :=
  ⟨(World.cell?_of_block (a := ⟨b, 0, none⟩) e).trans h.c0, (World.cell?_of_block (a := ⟨b, 1, none⟩) e).trans h.c1, (World.cell?_of_block (a := ⟨b, 2, none⟩) e).trans h.c2,
    (World.frozen?_of_block (a := ⟨b, 0, none⟩) e).trans h.f0, (World.frozen?_of_block (a := ⟨b, 1, none⟩) e).trans h.f1, (World.frozen?_of_block (a := ⟨b, 2, none⟩) e).trans h.f2, Nat.lt_of_lt_of_le h.lt hs⟩
theorem BBx.keep {w w' : World} {b : Nat} {x : Int} {v : Value} (h : BBx w b x v) (e : w'.heap[b]? = w.heap[b]?) (hs : w.heap.size ≤ w'.heap.size) : BBx w' b x v :=
  ⟨(World.cell?_of_block (a := ⟨b, 0, none⟩) e).trans h.c0, (World.cell?_of_block (a := ⟨b, 1, none⟩) e).trans h.c1,
    (World.frozen?_of_block (a := ⟨b, 0, none⟩) e).trans h.f0, (World.frozen?_of_block (a := ⟨b, 1, none⟩) e).trans h.f1, Nat.lt_of_lt_of_le h.lt hs⟩
theorem TBx.new (w : World) (x y z : Int) (t : TypeId) : TBx (w.alloc (.cells #[.int .i64 x, .int .i64 y, .int .i64 z] t)) w.heap.size x y z := by
  have h := heap_alloc_new w (.cells #[.int .i64 x, .int .i64 y, .int .i64 z] t)
  refine ⟨?_, ?_, ?_, frozen_of_row _ _ _ _ _ h, frozen_of_row _ _ _ _ _ h, frozen_of_row _ _ _ _ _ h, by simp⟩ <;> (rw [cell_of_row _ _ _ _ _ _ h]; rfl)
theorem BBx.new (w : World) (x : Int) (v : Value) (t : TypeId) : BBx (w.alloc (.cells #[.int .i64 x, v] t)) w.heap.size x v := by
  have h := heap_alloc_new w (.cells #[.int .i64 x, v] t)
  refine ⟨?_, ?_, frozen_of_row _ _ _ _ _ h, frozen_of_row _ _ _ _ _ h, by simp⟩ <;> (rw [cell_of_row _ _ _ _ _ _ h]; rfl)
theorem TBx.below {w w' : World} {b : Nat} {x y z : Int} (h : TBx w b x y z) (hb : Below w.heap.size w w') : TBx w' b x y z := h.keep (hb.block b h.lt) hb.size
theorem BBx.below {w w' : World} {b : Nat} {x : Int} {v : Value} (h : BBx w b x v) (hb : Below w.heap.size w w') : BBx w' b x v := h.keep (hb.block b h.lt) hb.size
/-- the four boxes of change -/
structure CBx (w w' : World) (S k g a : Int) (v : Value) : Prop where
  b : BBx w' w.heap.size S v
  s : TBx w' (w.heap.size + 1) k g a
  rb : BBx w' (w.heap.size + 2) 0 (.slice none 0 0)
  rs : TBx w' (w.heap.size + 3) 0 0 0
  bel : Below w.heap.size w w'
theorem CBx.below {w w' w'' : World} {S k g a : Int} {v : Value} (h : CBx w w' S k g a v) (hb : Below w'.heap.size w' w'') : CBx w w'' S k g a v :=
  ⟨h.b.below hb, h.s.below hb, h.rb.below hb, h.rs.below hb, h.bel.trans (hb.mono h.bel.size)⟩
theorem CBx.start (w : World) (S k g a : Int) (v : Value) : CBx w ((((w.alloc (.cells #[.int .i64 S, v] 37)).alloc (.cells #[.int .i64 k, .int .i64 g, .int .i64 a] 52)).alloc (.cells #[.int .i64 0, .slice none 0 0] 37)).alloc (.cells #[.int .i64 0, .int .i64 0, .int .i64 0] 52)) S k g a v := by
  have q : ∀ (w : World) (o : Obj), Below w.heap.size w (w.alloc o) := fun w o => (Below.refl _ _).alloc (Nat.le_refl _) o
  have s1 : ∀ (w : World) (o : Obj), (w.alloc o).heap.size = w.heap.size + 1 := fun w o => by simp
  refine ⟨(((BBx.new w S v _).below (q _ _)).below (q _ _)).below (q _ _), ?_, ?_, ?_, ?_⟩
  · have := (((TBx.new (w.alloc (.cells #[.int .i64 S, v] 37)) k g a 52).below (q _ (.cells #[.int .i64 0, .slice none 0 0] 37))).below (q _ (.cells #[.int .i64 0, .int .i64 0, .int .i64 0] 52)))
    simpa only [s1] using this
  · have := ((BBx.new ((w.alloc (.cells #[.int .i64 S, v] 37)).alloc (.cells #[.int .i64 k, .int .i64 g, .int .i64 a] 52)) 0 (.slice none 0 0) 37).below (q _ (.cells #[.int .i64 0, .int .i64 0, .int .i64 0] 52)))
    simpa only [s1] using this
  · have := TBx.new (((w.alloc (.cells #[.int .i64 S, v] 37)).alloc (.cells #[.int .i64 k, .int .i64 g, .int .i64 a] 52)).alloc (.cells #[.int .i64 0, .slice none 0 0] 37)) 0 0 0 52
    simpa only [s1] using this
  · exact ((q w _).trans ((q _ _).mono (by simp))).trans (((q _ _).mono (by simp; omega)).trans ((q _ _).mono (by simp; omega)))
theorem CBx.drew {w w' : World} {S k g a : Int} {v : Value} (h : CBx w w' S k g a v) : CBx w w'.drew S k g a v := h.below (Below.refl _ _).drew
/-- behind the copying of the word and the step -/
structure Mid (w wx : World) (S k g a : Int) (v : Value) (t : Nat) (x y z : Int) (u : Value) (ws : List Int) : Prop where
  cb : CBx w wx S k g a v
  o : OI wx (w.heap.size + 4) u ws
  tb : TBx wx t x y z
  ht : w.heap.size + 4 ≤ t
  ne : u.ownBlock ≠ some t
theorem Mid.start {w wc : World} {S k g a : Int} {v u : Value} {ws : List Int} (h : CBx w wc S k g a v) (ho : OI wc (w.heap.size + 4) u ws) : Mid w (wc.alloc (.cells #[.int .i64 k, .int .i64 g, .int .i64 a] 52)) S k g a v wc.heap.size k g a u ws :=
  ⟨h.below ((Below.refl _ _).alloc (Nat.le_refl _) _), ho.alloc _, TBx.new _ _ _ _ _, h.rs.lt, fun e => by have := (ho.lt _ e).2; omega⟩
theorem CBx.keep {w wx w' : World} {S k g a : Int} {v : Value} (h : CBx w wx S k g a v) (hk : ∀ b, b < w.heap.size + 4 → w'.heap[b]? = wx.heap[b]?) (hs : wx.heap.size ≤ w'.heap.size) (hb : Below w.heap.size w w') : CBx w w' S k g a v :=
  ⟨h.b.keep (hk _ (by omega)) hs, h.s.keep (hk _ (by omega)) hs, h.rb.keep (hk _ (by omega)) hs, h.rs.keep (hk _ (by omega)) hs, hb⟩
theorem grown_alloc_block {w w' : World} {o : Obj} {row : Option Nat} (hg : (w.alloc o).grownBy w' row) {b : Nat} (hb : b < w.heap.size) (hne : some b ≠ row) : w'.heap[b]? = w.heap[b]? :=
  (hg.block b (by simp; omega) hne).trans (Below.heap_alloc w o b hb)
theorem Mid.grown {w wx w' : World} {S k g a x y z : Int} {v u : Value} {t : Nat} {ws : List Int} {o : Obj} (h : Mid w wx S k g a v t x y z u ws) (hg : (wx.alloc o).grownBy w' u.ownBlock) : CBx w w' S k g a v ∧ TBx w' t x y z ∧ wx.heap.size ≤ w'.heap.size := by
  have hs : wx.heap.size ≤ w'.heap.size := by
    have := (((Below.refl wx.heap.size wx).alloc (Nat.le_refl _) o).mono (Nat.zero_le _)).grown hg (Nat.zero_le _) (fun k _ => Nat.zero_le k)
    exact this.size
  refine ⟨h.cb.keep (fun b hb => grown_alloc_block hg (by have := h.cb.rs.lt; omega) fun e => by have := (h.o.lt _ e.symm).1; omega) hs ?_, h.tb.keep (grown_alloc_block hg h.tb.lt fun e => h.ne e.symm) hs, hs⟩
  exact (h.cb.bel.alloc h.cb.bel.size o).grown hg (by have := h.cb.bel.size; simp; omega) fun k hk => by have := (h.o.lt k hk).1; omega
/-- ahead of the end -/
structure Fin4 (w wx : World) (t : Nat) (x y z : Int) (A' : Option Addr) (ws' : List Int) : Prop where
  rb : BBx wx (w.heap.size + 1 + 1) 0 (.slice none 0 0)
  rs : TBx wx (w.heap.size + 1 + 1 + 1) 0 0 0
  tb : TBx wx t x y z
  ht : w.heap.size + 4 ≤ t
  bel : Below w.heap.size w wx
  ro : RI wx (fun b => w.heap.size + 4 ≤ b ∧ b < wx.heap.size) A' ws'
theorem TBx.stored {w : World} {b : Nat} {x y z : Int} (h : TBx w b x y z) (x' y' z' : Int) : TBx (((w.setCell ⟨b, 0, none⟩ (.int .i64 x')).setCell ⟨b, 1, none⟩ (.int .i64 y')).setCell ⟨b, 2, none⟩ (.int .i64 z')) b x' y' z' := by
  have h0 := h.c0
  have h1 := h.c1
  have h2 := h.c2
  have g0 := h.f0
  have g1 := h.f1
  have g2 := h.f2
  have hl := h.lt
  refine ⟨?_, ?_, ?_, ?_, ?_, ?_, ?_⟩ <;> simp [go_sem, *]
theorem Fin4.of {w wx : World} {S k g a x y z : Int} {v : Value} {t : Nat} {A' : Option Addr} {ws' : List Int} (hc : CBx w wx S k g a v) (ht : TBx wx t x y z) (h4 : w.heap.size + 4 ≤ t) (hr : RI wx (fun b => w.heap.size + 4 ≤ b ∧ b < wx.heap.size ∧ b ≠ t) A' ws') (x' y' z' : Int) :
    Fin4 w (((wx.setCell ⟨t, 0, none⟩ (.int .i64 x')).setCell ⟨t, 1, none⟩ (.int .i64 y')).setCell ⟨t, 2, none⟩ (.int .i64 z')) t x' y' z' A' ws' := by
  have hk : ∀ b, b ≠ t → (((wx.setCell ⟨t, 0, none⟩ (.int .i64 x')).setCell ⟨t, 1, none⟩ (.int .i64 y')).setCell ⟨t, 2, none⟩ (.int .i64 z')).heap[b]? = wx.heap[b]? := fun b hb => by
    rw [Below.heap_setCell _ _ _ b hb, Below.heap_setCell _ _ _ b hb, Below.heap_setCell _ _ _ b hb]
  have hs : (((wx.setCell ⟨t, 0, none⟩ (.int .i64 x')).setCell ⟨t, 1, none⟩ (.int .i64 y')).setCell ⟨t, 2, none⟩ (.int .i64 z')).heap.size = wx.heap.size := by simp
  refine ⟨hc.rb.keep (hk _ (by omega)) (Nat.le_of_eq hs.symm), hc.rs.keep (hk _ (by omega)) (Nat.le_of_eq hs.symm), ht.stored _ _ _, h4, ?_, (hr.keep fun b hb => hk b hb.2.2).imp fun b hb => ⟨hb.1, by rw [hs]; exact hb.2.1⟩⟩
  exact ((hc.bel.setCell (by simp; omega) _).setCell (by simp; omega) _).setCell (by simp; omega) _
theorem Fin4.drew {w wx : World} {t : Nat} {x y z : Int} {A' : Option Addr} {ws' : List Int} (h : Fin4 w wx t x y z A' ws') : Fin4 w wx.drew t x y z A' ws' :=
  ⟨h.rb.below (Below.refl _ _).drew, h.rs.below (Below.refl _ _).drew, h.tb.below (Below.refl _ _).drew, h.ht, h.bel.drew, h.ro⟩
theorem Fin4.done {w wx : World} {t : Nat} {x y z : Int} {A' : Option Addr} {ws' : List Int} (h : Fin4 w wx t x y z A' ws') (p0 p1 q0 q1 q2 : Value) :
    RI (((((wx.setCell ⟨w.heap.size + 1 + 1, 0, none⟩ p0).setCell ⟨w.heap.size + 1 + 1, 1, none⟩ p1).setCell ⟨w.heap.size + 1 + 1 + 1, 0, none⟩ q0).setCell ⟨w.heap.size + 1 + 1 + 1, 1, none⟩ q1).setCell ⟨w.heap.size + 1 + 1 + 1, 2, none⟩ q2)
      (fun b => w.heap.size ≤ b ∧ b < (((((wx.setCell ⟨w.heap.size + 1 + 1, 0, none⟩ p0).setCell ⟨w.heap.size + 1 + 1, 1, none⟩ p1).setCell ⟨w.heap.size + 1 + 1 + 1, 0, none⟩ q0).setCell ⟨w.heap.size + 1 + 1 + 1, 1, none⟩ q1).setCell ⟨w.heap.size + 1 + 1 + 1, 2, none⟩ q2).heap.size) A' ws' ∧
    Below w.heap.size w (((((wx.setCell ⟨w.heap.size + 1 + 1, 0, none⟩ p0).setCell ⟨w.heap.size + 1 + 1, 1, none⟩ p1).setCell ⟨w.heap.size + 1 + 1 + 1, 0, none⟩ q0).setCell ⟨w.heap.size + 1 + 1 + 1, 1, none⟩ q1).setCell ⟨w.heap.size + 1 + 1 + 1, 2, none⟩ q2) := by
  refine ⟨(h.ro.keep fun b hb => ?_).imp fun b hb => ⟨Nat.le_trans (Nat.le_add_right _ _) hb.1, by simpa using hb.2⟩, ?_⟩
  · have h1 := hb.1
    rw [Below.heap_setCell _ _ _ b (by simp; omega), Below.heap_setCell _ _ _ b (by simp; omega), Below.heap_setCell _ _ _ b (by simp; omega), Below.heap_setCell _ _ _ b (by simp; omega), Below.heap_setCell _ _ _ b (by simp; omega)]
  · exact ((((h.bel.setCell (by simp; omega) _).setCell (by simp; omega) _).setCell (by simp; omega) _).setCell (by simp; omega) _).setCell (by simp; omega) _
theorem RI.take {w : World} {S : Nat → Prop} {A : Option Addr} {xs : List Int} (h : RI w S A xs) (k : Nat) : RI w S A (xs.take k) := fun hne => by
  have h0 : xs ≠ [] := by rintro rfl; exact hne (by simp)
  obtain ⟨b, off, e, hb, hc⟩ := h h0
  refine ⟨b, off, e, hb, fun j hj => ?_⟩
  rw [List.length_take] at hj
  rw [hc j (by omega)]
  simp only [gi, List.getD_eq_getElem?_getD]
  rw [List.getElem?_take_of_lt (by omega)]
/-- the word apart from the inverse step -/
theorem Mid.row {w wx : World} {t : Nat} {A1 : Option Addr} {n d1 : Nat} {ws : List Int} (ho : OI wx (w.heap.size + 4) (.slice A1 n d1) ws) (hne : (Value.slice A1 n d1).ownBlock ≠ some t) : RI wx (fun b => w.heap.size + 4 ≤ b ∧ b < wx.heap.size ∧ b ≠ t) A1 ws := by
  obtain ⟨A5, c5, h5, -, -, h6⟩ := ho.reads
  injection h5 with h5 _ _
  subst h5
  intro hn
  obtain ⟨b6, o6, he, h7, h8⟩ := h6 hn
  subst he
  exact ⟨b6, o6, rfl, ⟨h7.1, h7.2, fun e => hne (by rw [e]; rfl)⟩, h8⟩
theorem Mid.set3 {w wx : World} {S k g a x y z : Int} {v u : Value} {t : Nat} {ws : List Int} (h : Mid w wx S k g a v t x y z u ws) (x' y' z' : Int) :
    Mid w (((wx.setCell ⟨t, 0, none⟩ (.int .i64 x')).setCell ⟨t, 1, none⟩ (.int .i64 y')).setCell ⟨t, 2, none⟩ (.int .i64 z')) S k g a v t x' y' z' u ws := by
  have hk : ∀ b, b ≠ t → (((wx.setCell ⟨t, 0, none⟩ (.int .i64 x')).setCell ⟨t, 1, none⟩ (.int .i64 y')).setCell ⟨t, 2, none⟩ (.int .i64 z')).heap[b]? = wx.heap[b]? := fun b hb => by
    rw [Below.heap_setCell _ _ _ b hb, Below.heap_setCell _ _ _ b hb, Below.heap_setCell _ _ _ b hb]
  have hs : (((wx.setCell ⟨t, 0, none⟩ (.int .i64 x')).setCell ⟨t, 1, none⟩ (.int .i64 y')).setCell ⟨t, 2, none⟩ (.int .i64 z')).heap.size = wx.heap.size := by simp
  have ht := h.ht
  refine ⟨h.cb.keep (fun b hb => hk b (by omega)) (Nat.le_of_eq hs.symm) ?_, h.o.keep fun b hb => hk b fun e => h.ne (by rw [hb, e]), h.tb.stored _ _ _, ht, h.ne⟩
  exact ((h.cb.bel.setCell (by simp; omega) _).setCell (by simp; omega) _).setCell (by simp; omega) _
theorem OI.put {w : World} {B g c n : Nat} {xs : List Int} (h : OI w B (.slice (some ⟨g, 0, none⟩) n c) xs) (hn : xs.length = n) (k : Nat) (y : Int) : OI (w.setCell ⟨g, k, none⟩ (.int .i64 y)) B (.slice (some ⟨g, 0, none⟩) n c) (xs.set k y) := by
  subst hn
  have := OR.stored (k := k) h y
  rwa [List.length_set] at this
theorem Mid.putw {w wx : World} {S k g a x y z : Int} {v : Value} {t g1 n d1 : Nat} {ws : List Int} (h : Mid w wx S k g a v t x y z (.slice (some ⟨g1, 0, none⟩) n d1) ws) (hn : ws.length = n) (j : Nat) (b : Int) :
    Mid w (wx.setCell ⟨g1, j, none⟩ (.int .i64 b)) S k g a v t x y z (.slice (some ⟨g1, 0, none⟩) n d1) (ws.set j b) := by
  have hg := (h.o.lt g1 rfl).1
  have hk : ∀ b', b' ≠ g1 → (wx.setCell ⟨g1, j, none⟩ (.int .i64 b)).heap[b']? = wx.heap[b']? := fun b' hb => Below.heap_setCell _ _ _ b' hb
  have hs : (wx.setCell ⟨g1, j, none⟩ (.int .i64 b)).heap.size = wx.heap.size := by simp
  exact ⟨h.cb.keep (fun b' hb => hk b' (by omega)) (Nat.le_of_eq hs.symm) (h.cb.bel.setCell (by simp; omega) _), h.o.put hn j b, h.tb.keep (hk t fun e => h.ne (by rw [e]; rfl)) (Nat.le_of_eq hs.symm), h.ht, h.ne⟩
theorem Mid.drewN {w wx : World} {S k g a x y z : Int} {v u : Value} {t : Nat} {ws : List Int} (h : Mid w wx S k g a v t x y z u ws) (q : Nat) : Mid w (wx.drewN q) S k g a v t x y z u ws :=
  ⟨h.cb.below (below_drewN (Below.refl _ _) q), h.o.drewN q, h.tb.below (below_drewN (Below.refl _ _) q), h.ht, h.ne⟩
theorem Mid.drew {w wx : World} {S k g a x y z : Int} {v u : Value} {t : Nat} {ws : List Int} (h : Mid w wx S k g a v t x y z u ws) : Mid w wx.drew S k g a v t x y z u ws :=
  ⟨h.cb.drew, h.o.drewN 1, h.tb.below (Below.refl _ _).drew, h.ht, h.ne⟩
theorem Mid.fin {w wx : World} {S k g a x y z : Int} {v : Value} {t : Nat} {A1 : Option Addr} {n d1 : Nat} {ws ws' : List Int} {A' : Option Addr} (h : Mid w wx S k g a v t x y z (.slice A1 n d1) ws) (hr : RI wx (fun b => w.heap.size + 4 ≤ b ∧ b < wx.heap.size ∧ b ≠ t) A' ws') : Fin4 w wx t x y z A' ws' :=
  ⟨h.cb.rb, h.cb.rs, h.tb, h.ht, h.cb.bel, hr.imp fun _ hb => ⟨hb.1, hb.2.1⟩⟩
theorem Mid.own {w wx w' : World} {S k g a x y z : Int} {v : Value} {t g1 n d1 : Nat} {ws ws' : List Int} {A' : Option Addr} {R : Nat → Prop} (h : Mid w wx S k g a v t x y z (.slice (some ⟨g1, 0, none⟩) n d1) ws)
    (hk : ∀ b, b ≠ g1 → b < wx.heap.size → w'.heap[b]? = wx.heap[b]?) (hs : wx.heap.size ≤ w'.heap.size) (hb : Below g1 wx w') (hr : RI w' R A' ws') (hR : ∀ b, R b → w.heap.size + 4 ≤ b ∧ b < w'.heap.size) : Fin4 w w' t x y z A' ws' := by
  have hg := (h.o.lt g1 rfl).1
  have h4 := h.cb.rs.lt
  have ht := h.tb.lt
  refine ⟨h.cb.rb.keep (hk _ (by omega) (by omega)) hs, h.cb.rs.keep (hk _ (by omega) (by omega)) hs, h.tb.keep (hk t (fun e => h.ne (by rw [e]; rfl)) ht) hs, h.ht, h.cb.bel.trans (hb.mono (by omega)), hr.imp hR⟩
theorem Fin4.set1 {w wx : World} {t : Nat} {x y z : Int} {A' : Option Addr} {ws' : List Int} (h : Fin4 w wx t x y z A' ws') (hr : RI wx (fun b => w.heap.size + 4 ≤ b ∧ b < wx.heap.size ∧ b ≠ t) A' ws') (y' : Int) : Fin4 w (wx.setCell ⟨t, 1, none⟩ (.int .i64 y')) t x y' z A' ws' := by
  have hk : ∀ b, b ≠ t → (wx.setCell ⟨t, 1, none⟩ (.int .i64 y')).heap[b]? = wx.heap[b]? := fun b hb => Below.heap_setCell _ _ _ b hb
  have hs : (wx.setCell ⟨t, 1, none⟩ (.int .i64 y')).heap.size = wx.heap.size := by simp
  have ht := h.ht
  refine ⟨h.rb.keep (hk _ (by omega)) (Nat.le_of_eq hs.symm), h.rs.keep (hk _ (by omega)) (Nat.le_of_eq hs.symm), ?_, ht, h.bel.setCell (by simp; omega) _, (hr.keep fun b hb => hk b hb.2.2).imp fun b hb => ⟨hb.1, by rw [hs]; exact hb.2.1⟩⟩
  have h0 := h.tb.c0
  have h1 := h.tb.c1
  have h2 := h.tb.c2
  have g0 := h.tb.f0
  have g1 := h.tb.f1
  have g2 := h.tb.f2
  have hl := h.tb.lt
  refine ⟨?_, ?_, ?_, ?_, ?_, ?_, ?_⟩ <;> simp [go_sem, *]
/-- what change hands back -/
def ChPost (w : World) (S' : Int) (ws' : List Int) (e : Ending) (w' : World) : Prop :=
  ∃ (A' : Option Addr) (c' : Nat) (x y z : Int), e = .returned (.tuple #[.agg #[.int .i64 S', .slice A' ws'.length c'], .agg #[.int .i64 x, .int .i64 y, .int .i64 z]]) ∧ RI w' (fun b => w.heap.size ≤ b ∧ b < w'.heap.size) A' ws' ∧ Below w.heap.size w w'
end Go.Proofs.Yteanhbldhaiekaa
