/-
  The contracts of slices.Grow (of nil) and slices.Concat of integers.
-/
import Derived.Test.YtaghemilihaiaaaBase
import Derived.Test.YtaghemilihaiaaaRLists
import Derived.Lib.AppendZeros
namespace Go.Proofs.Ytaghemilihaiaaa
open Go.RowKit

theorem appZ {ops : Array Oper} {rest : List Oper} {o : Oper} {a : Act} {Q : Exit → Act → World → Prop} {w : World} {n : Nat} {s x : Operand} {t tn : TypeId} (h0 : 0 < n) (hn : n ≤ 1099511627776)
    (hgd : o.guard = none) (ho : o.op = .call { callee := .builtin .append, args := #[s, x], argTypes := #[t, tn] })
    (ht : Try.prog.underlying t = some (.slice 3)) (htn : Try.prog.underlying tn = some (.int .i64)) (hs : a.eval s = .slice none 0 0) (hx : a.eval x = .int .i64 n)
    (h : ∀ c w', n ≤ c → c ≤ maxLen → w'.ownsRow w.heap.size 3 1 (.slice (some ⟨w.heap.size, 0, none⟩) 0 c) 0 [] → Below w.heap.size w w' → wpList Try.prog ops Q rest (a.put o.dst (.slice (some ⟨w.heap.size, 0, none⟩) n c)) w') :
    wpList Try.prog ops Q (o :: rest) a w := by
  obtain ⟨i0, hi, hz0, hz1, hz2⟩ := info_parts int_info
  refine wpList_plain hgd fun _ hK => ?_
  have hrun := Lib.run_append_nil_zeros (P := Try.prog) w t tn o.type 3 i0 (.int .i64 0) .i64 .i64 ht htn hi hz0 n h0 (by rw [hz1]; decide) (by omega) (by rw [hz2]; omega)
  have h1 := grownCap_ge w n 0 3
  have h2 := grownCap_le_maxLen w n 0 3 (by unfold maxLen; omega)
  unfold Oper.wp execOp
  simp only [ho, resolve, invoke, builtin, Sem.run_bind, Sem.run_pure, Result.andThen_ok, List.map_toArray, List.map_cons, List.map_nil, hs, hx, hrun]
  refine hK _ _ (h _ _ h1 h2 ?_ ((Below.refl _ w).drew.alloc (Nat.le_refl _) _))
  exact World.ownsRow_made (w := w.drew) _ _ (Nat.le_refl _) h2 (by have e : (Value.int .i64 0).cells.size = 1 := rfl; simp [Builtin.zeroCells, e]; omega)
set_option maxHeartbeats 2000000 in
theorem grow_any (n : Nat) (hn : n ≤ 1099511627776) (w : World) :
    Calls Try.prog 80 #[.slice none 0 0, .int .i64 n] w fun e w' => ∃ v, e = .returned v ∧ OI w' w.heap.size v [] ∧ Below w.heap.size w w' := by
  have x1 : IntKind.i64.wrap ((n : Int) - 0) = (n : Int) := IntWalk.i64_in _ (by omega)
  by_cases h0 : n = 0
  · subst h0
    go_enter Try.func80, Try.ntmps80
    go_wp2_with fail
    go_ret
    exact ⟨_, rfl, OR.nil _ _, Below.refl _ _⟩
  · have hp : 0 < n := by omega
    go_enter Try.func80, Try.ntmps80
    go_wp2_with (at_builtin; refine appZ hp hn rfl rfl Try.underlying22 Try.underlying3 rfl rfl ?_; intro c w' h1 h2 ho hb; have HO := Lib.hid ho; have HB := Lib.hid hb; clear ho hb)
    go_ret
    exact ⟨_, rfl, HO.out, HB.out⟩
theorem flat_succ {xss : List (List Int)} {i : Nat} (hi : i < xss.length) : (xss.take (i + 1)).flatten = (xss.take i).flatten ++ xss.getD i [] := by
  rw [List.take_add_one, List.flatten_append, List.getD_eq_getElem?_getD, List.getElem?_eq_getElem hi]
  simp
theorem flat_le (xss : List (List Int)) (i : Nat) : ((xss.take i).flatten).length ≤ xss.flatten.length := by
  have e : xss.flatten = (xss.take i).flatten ++ (xss.drop i).flatten := by rw [← List.flatten_append, List.take_append_drop]
  rw [e, List.length_append]
  omega
set_option maxHeartbeats 4000000 in
theorem concat_any {w : World} {A : Option Addr} {c : Nat} {xss : List (List Int)} (h : RL w (· < w.heap.size) A xss) (hl : xss.length ≤ 1000000) (hf : xss.flatten.length ≤ 1000000) :
    Calls Try.prog 72 #[.slice A xss.length c] w fun e w' => ∃ v, e = .returned v ∧ OI w' w.heap.size v xss.flatten ∧ Below w.heap.size w w' := by
  have HX := Lib.hid h
  have HF := Lib.hid hf
  obtain ⟨n, hn⟩ : ∃ n, xss.length = n := ⟨_, rfl⟩
  have HN := Lib.hid hn
  rw [hn] at hl ⊢
  clear h hf hn
  go_enter Try.func72, Try.ntmps72
  go_wp2_with fail
  go_loopw [3, 11] (fun s i' wr => ∃ (i z : Nat), i ≤ n ∧ i' = .int .i64 i ∧ s = .int .i64 z ∧ Hid (z = ((xss.take i).flatten).length) ∧ z ≤ 1000000 ∧ w = wr) (fun _ i _ => n - (intOf i).toNat)
  case atStart => exact ⟨0, 0, Nat.zero_le _, rfl, rfl, by simp [Hid], Nat.zero_le _, rfl⟩
  case round =>
    obtain ⟨i, z, hi, rfl, rfl, HZ, hz, rfl⟩ := hrel
    by_cases hlt : i < n
    · obtain ⟨b, off, rfl, -, hc⟩ := HX.out.at_ (k := i) (by rw [HN.out]; exact hlt)
      obtain ⟨Ai, ci, c1, -, hl1⟩ := hc i (by rw [HN.out]; exact hlt)
      obtain ⟨l, hll⟩ : ∃ l, (xss.getD i []).length = l := ⟨_, rfl⟩
      rw [hll] at c1 hl1
      obtain ⟨z2, hz2⟩ : ∃ z2, z + l = z2 := ⟨_, rfl⟩
      have HZ2 : Hid (z2 = ((xss.take (i + 1)).flatten).length) := Lib.hid (by rw [flat_succ (by rw [HN.out]; exact hlt), List.length_append, ← HZ.out, hll, hz2])
      have hz3 : z2 ≤ 1000000 := by rw [HZ2.out]; exact Nat.le_trans (flat_le _ _) HF.out
      have x1 : IntKind.i64.wrap ((z : Int) + (l : Int)) = (z2 : Int) := by rw [← hz2, Int.natCast_add]; exact IntWalk.i64_in _ (by omega)
      clear hc hll hz2 HZ
      go_wp2_with fail
      go_roundw
      case rel => exact ⟨i + 1, z2, by omega, by go_num, rfl, HZ2, hz3, by trivial⟩
      case measure => simp [intOf]; omega
    · obtain rfl : i = n := by omega
      go_wp2_with fail
      refine (grow_any z (by omega) w).mono ?_
      rintro e w1 ⟨v1, rfl, ho, hb⟩
      have HO1 := Lib.hid ho
      have HB1 := Lib.hid hb
      have HX1 := Lib.hid (HX.out.keep (w' := w1) fun b hlt => hb.block b hlt)
      clear ho hb HZ
      go_wp2_with fail
      go_loopw [6, 27] (fun v j' wr => ∃ j : Nat, j ≤ i ∧ j' = .int .i64 j ∧ Hid (OI wr w.heap.size v ((xss.take j).flatten)) ∧ Hid (Below w.heap.size w wr)) (fun _ j _ => i - (intOf j).toNat)
      case atStart => exact ⟨0, Nat.zero_le _, rfl, by simpa [Hid] using HO1.out, HB1.out⟩
      case round =>
        obtain ⟨j, hj, rfl, HO, HB⟩ := hrel
        by_cases hltj : j < i
        · obtain ⟨b, off, rfl, -, hc⟩ := (HX.out.keep (w' := wr) fun b hlt => HB.out.block b hlt).at_ (k := j) (by rw [HN.out]; exact hltj)
          obtain ⟨Aj, cj, c1, hr, hl1⟩ := hc j (by rw [HN.out]; exact hltj)
          have hsz := HB.out.size
          obtain ⟨Av, kv, rfl, -, -, -⟩ := HO.out.shape
          have HR := Lib.hid hr
          have HLL : Hid (((xss.take j).flatten).length + (xss.getD j []).length < 1099511627776) := Lib.hid (by
            have := flat_le xss (j + 1)
            rw [flat_succ (by rw [HN.out]; exact hltj), List.length_append] at this
            have := HF.out
            omega)
          clear hc hr
          go_wp2_with (at_builtin; refine appN HO.out HR.out HLL.out hsz rfl rfl Try.underlying22 rfl rfl ?_; intro v' w' ho hg hob)
          have HO2 : Hid (OI w' w.heap.size v' ((xss.take (j + 1)).flatten)) := Lib.hid (by rw [flat_succ (by rw [HN.out]; exact hltj)]; exact ho)
          have HB2 : Hid (Below w.heap.size w w') := Lib.hid (HB.out.grown hg hsz fun k hk => (HO.out.lt k hk).1)
          clear ho hg hob HO HB HR
          go_roundw
          case rel => exact ⟨j + 1, by omega, by go_num, HO2, HB2⟩
          case measure => simp [intOf]; omega
        · obtain rfl : j = i := by omega
          have HE : Hid ((xss.take j).flatten = xss.flatten) := Lib.hid (by rw [List.take_of_length_le (by rw [HN.out]; exact Nat.le_refl _)])
          go_wp2_with fail
          go_ret
          exact ⟨_, rfl, by rw [← HE.out]; exact HO.out, HB.out⟩
end Go.Proofs.Ytaghemilihaiaaa

