/-
  The contract of markov.change, kind by kind.
  slices.Delete and slices.Insert at a word of the call's own.
-/
import Derived.Test.YteanhbldhaiekaaZ42
namespace Go.Proofs.Yteanhbldhaiekaa
open Go.RowKit

section
variable (A : Option Addr) (c : Nat) (ws : List Int) (S g a : Int) (hS : 1 ≤ S ∧ S ≤ 10) (hn : ws.length ≤ 200) (hx : ∀ k, -100000 ≤ gi ws k ∧ gi ws k ≤ 100000) (w : World) (P : Nat → Prop) (hr : RI w P A ws) (hP : ∀ b, P b → b < w.heap.size)
include hn hx hr hP in
set_option maxRecDepth 100000 in
set_option maxHeartbeats 8000000 in
theorem ch_k5 (j : Nat) (hj : j + 2 < ws.length) :
    Calls Try.prog 55 #[.agg #[.int .i64 S, .slice A ws.length c], .agg #[.int .i64 5, .int .i64 g, .int .i64 j]] w (ChPost w (S) (((ws.set j (gi ws (j + 1))).set (j + 1) (gi ws j)).set (j + 2) (gi ws (j + 1)))) := by
  have HC : Hid (CBx w ((((w.alloc (.cells #[.int .i64 S, .slice A ws.length c] 37)).alloc (.cells #[.int .i64 5, .int .i64 g, .int .i64 j] 52)).alloc (.cells #[.int .i64 0, .slice none 0 0] 37)).alloc (.cells #[.int .i64 0, .int .i64 0, .int .i64 0] 52)) S 5 g j (.slice A ws.length c)) := Lib.hid (CBx.start w S 5 g j _)
  have HR : Hid (RI ((((w.alloc (.cells #[.int .i64 S, .slice A ws.length c] 37)).alloc (.cells #[.int .i64 5, .int .i64 g, .int .i64 j] 52)).alloc (.cells #[.int .i64 0, .slice none 0 0] 37)).alloc (.cells #[.int .i64 0, .int .i64 0, .int .i64 0] 52)) (· < ((((w.alloc (.cells #[.int .i64 S, .slice A ws.length c] 37)).alloc (.cells #[.int .i64 5, .int .i64 g, .int .i64 j] 52)).alloc (.cells #[.int .i64 0, .slice none 0 0] 37)).alloc (.cells #[.int .i64 0, .int .i64 0, .int .i64 0] 52)).heap.size) A ws) := Lib.hid ((hr.keep fun b hb => HC.out.bel.block b (hP b hb)).imp fun b hb => Nat.lt_of_lt_of_le (hP b hb) HC.out.bel.size)
  have HX := Lib.hid hx
  have HN := Lib.hid hn
  clear hr hP hx hn
  obtain ⟨W, hW⟩ : ∃ W, ((((w.alloc (.cells #[.int .i64 S, .slice A ws.length c] 37)).alloc (.cells #[.int .i64 5, .int .i64 g, .int .i64 j] 52)).alloc (.cells #[.int .i64 0, .slice none 0 0] 37)).alloc (.cells #[.int .i64 0, .int .i64 0, .int .i64 0] 52)) = W := ⟨_, rfl⟩
  rw [hW] at HC HR
  go_enter Try.func55, Try.ntmps55
  go_wp2_with fail
  clear hW
  have k0 := HC.out.b.c0
  have k1 := HC.out.b.c1
  go_cut [6, 7] (fun n v wx => n = .int .i64 ws.length ∧ ∃ A1 c1, v = .slice A1 ws.length c1 ∧ Hid (CBx w wx S 5 g j (.slice A ws.length c)) ∧ Hid (OI wx (w.heap.size + 4) (.slice A1 ws.length c1) ws))
  case first =>
    go_region_held3 (fun w' => Hid (CBx w w' S 5 g j (.slice A ws.length c)) ∧ w'.cell? ⟨w.heap.size, 1, none⟩ = some (.slice A ws.length c))
      (first | exact ⟨HC, k1⟩ | exact ⟨Lib.hid HC.out.drew, k1⟩ | exact ⟨HC9, HC9.out.b.c1⟩)
      ((refine (clone_any A c ws W.drew (· < W.drew.heap.size) (by exact HR.out) (fun _ h => h) (by have := HN.out; omega)).mono ?_; rintro e w1 ⟨v, rfl, ho, hb⟩; have HC9 := Lib.hid (HC.out.drew.below hb); have HO9 := Lib.hid (ho.mono (B' := w.heap.size + 4) (by have := HC.out.rs.lt; simp; omega)); obtain ⟨a9, d9, rfl, -, -, -⟩ := HO9.out.shape; clear hb ho))
    all_goals
      go_wp2_with fail
      go_meet
      case rel => exact ⟨rfl, _, _, rfl, HC9, HO9⟩
  case rest =>
    obtain ⟨rfl, A1, d1, rfl, HC1, HO1⟩ := hcut
    clear HC HR k0 k1
    have e0 := HC1.out.s.c0
    have e1 := HC1.out.s.c1
    have e2 := HC1.out.s.c2
    go_upto_region 3 with fail
    have HM := Lib.hid (Mid.start HC1.out HO1.out)
    clear e0 e1 e2 HC1 HO1
    generalize wc.alloc (.cells #[.int .i64 5, .int .i64 g, .int .i64 j] 52) = w2 at HM ⊢
    generalize wc.heap.size = t at HM ⊢
    have b0 := HM.out.cb.b.c0
    have e0 := HM.out.cb.s.c0
    have e1 := HM.out.cb.s.c1
    have e2 := HM.out.cb.s.c2
    obtain ⟨g1, d9, h5, hg1, hg2, hcap, -, hcc, hff⟩ := HM.out.o.ints (by omega)
    injection h5 with h5 _ h6
    subst h5; subst h6
    obtain ⟨j1, hj1⟩ : ∃ m, j + 1 = m := ⟨_, rfl⟩
    obtain ⟨j2, hj2⟩ : ∃ m, j + 2 = m := ⟨_, rfl⟩
    have wj1 : IntKind.i64.wrap ((j : Int) + 1) = (j1 : Int) := by rw [IntWalk.i64_in _ (by have := HN.out; omega)]; omega
    have wj2 : IntKind.i64.wrap ((j : Int) + 2) = (j2 : Int) := by rw [IntWalk.i64_in _ (by have := HN.out; omega)]; omega
    have f0 : (0 : Int) ≤ (j : Int) ∧ (j : Int) < (ws.length : Int) := by omega
    have f1 : (0 : Int) ≤ (j1 : Int) ∧ (j1 : Int) < (ws.length : Int) := by omega
    have f2 : (0 : Int) ≤ (j2 : Int) ∧ (j2 : Int) < (ws.length : Int) := by omega
    have c1 := hcc j (by omega)
    have c2 := hcc j1 (by omega)
    have c3 := hcc j2 (by omega)
    have g2 := hff j
    have g3 := hff j1
    have g4 := hff j2
    have n1 : ¬ j = j1 := by omega
    have n2 : ¬ j1 = j := by omega
    have n3 : ¬ w.heap.size + 1 = g1 := by omega
    have n4 : ¬ g1 = w.heap.size + 1 := by omega
    have n5 : ¬ j = j2 := by omega
    have n6 : ¬ j2 = j := by omega
    have n7 : ¬ j1 = j2 := by omega
    have n8 : ¬ j2 = j1 := by omega
    have HS2 := Lib.hid (fun q x y z => (((HM.out.drewN q).putw rfl j x).putw (by simp) j1 y).putw (by simp) j2 z)
    obtain ⟨x, hx⟩ : ∃ x, gi ws j = x := ⟨_, rfl⟩
    obtain ⟨y, hy⟩ : ∃ y, gi ws j1 = y := ⟨_, rfl⟩
    rw [hx] at c1
    rw [hy] at c2
    have HE : Hid (((ws.set j y).set j1 x).set j2 y = ((ws.set j (gi ws (j + 1))).set (j + 1) (gi ws j)).set (j + 2) (gi ws (j + 1))) := Lib.hid (by rw [hj1, hj2, hx, hy])
    clear hcc hff hx hy hj hj1 hj2 hg1
    go_upto_region 23 with fail
    go_big_quiet (fail)
    go_upto_region 24 with fail
    go_region
    all_goals
      have hf := HS2.out (nq + 1) y x y
      rw [HE.out] at hf
      have HM4 := Lib.hid hf
      clear hf HS2 HM c1 c2 c3 g2 g3 g4 n1 n2 n3 n4 n5 n6 n7 n8 e0 e1 e2 b0
      generalize (((w2.drewN (nq + 1)).setCell ⟨g1, j, none⟩ (.int .i64 y)).setCell ⟨g1, j1, none⟩ (.int .i64 x)).setCell ⟨g1, j2, none⟩ (.int .i64 y) = w4 at HM4 ⊢
      go_upto_region 31 with fail
      have HF := Lib.hid (HM4.out.fin (Mid.row HM4.out.o HM4.out.ne))
      clear HM4
      have q0 := HF.out.tb.c0
      have q1 := HF.out.tb.c1
      have q2 := HF.out.tb.c2
      have r0 := HF.out.rb.c0
      have r1 := HF.out.rb.c1
      have r2 := HF.out.rb.f0
      have r3 := HF.out.rb.f1
      have s0 := HF.out.rs.c0
      have s1 := HF.out.rs.c1
      have s2 := HF.out.rs.c2
      have s3 := HF.out.rs.f0
      have s4 := HF.out.rs.f1
      have s5 := HF.out.rs.f2
      have n1 : ¬ t = w.heap.size + 1 + 1 := by have := HF.out.ht; omega
      have n2 : ¬ t = w.heap.size + 1 + 1 + 1 := by have := HF.out.ht; omega
      have n3 : ¬ w.heap.size + 1 + 1 = t := by have := HF.out.ht; omega
      have n4 : ¬ w.heap.size + 1 + 1 + 1 = t := by have := HF.out.ht; omega
      have HZ : Hid _ := Lib.hid (fun p0 p1 q0 q1 q2 => HF.out.drew.done p0 p1 q0 q1 q2)
      go_region
      all_goals
        clear n1 n2 n3 n4 q0 q1 q2
        go_wp2_with fail
        refine bodyPost_ret (v := .tuple #[.agg #[.int .i64 (S), .slice (some ⟨g1, 0, none⟩) ws.length d1], .agg #[.int .i64 (5), .int .i64 (g), .int .i64 (j)]]) (by simp [results, Try.results55, go_sem, r0, r1, s0, s1, s2]) rfl ?_
        exact ⟨(some ⟨g1, 0, none⟩), d1, 5, g, j, by simp, HZ.out _ _ _ _ _⟩
end
end Go.Proofs.Yteanhbldhaiekaa
namespace Go.Proofs.Yteanhbldhaiekaa
open Go.RowKit Go.Shelf

theorem holds_of {w : World} {B g1 d1 : Nat} {xs : List Int} (h : OI w B (.slice (some ⟨g1, 0, none⟩) xs.length d1) xs) (hne : 0 < xs.length) : Sort.Holds (Value.int .i64) w g1 0 xs.toArray := by
  obtain ⟨-, -, -, -, hc, hf⟩ := h.ints_at hne
  intro j hj
  have hj' : j < xs.length := by simpa using hj
  rw [Nat.zero_add]
  refine ⟨(hc j hj').trans ?_, hf j⟩
  simp [gi, hj']
theorem delete_own {w : World} {B g1 d1 : Nat} {xs : List Int} (h : OI w B (.slice (some ⟨g1, 0, none⟩) xs.length d1) xs) (i j : Nat) (hj : j = i + 2) (hi : i + 2 ≤ xs.length) :
    Calls Try.prog 78 #[.slice (some ⟨g1, 0, none⟩) xs.length d1, .int .i64 i, .int .i64 j] w fun e w' => e = .returned (.slice (some ⟨g1, 0, none⟩) (xs.length - 2) d1) ∧ RI w' (· = g1) (some ⟨g1, 0, none⟩) (xs.take i ++ xs.drop (i + 2)) ∧ (∀ b, b ≠ g1 → w'.heap[b]? = w.heap[b]?) ∧ w'.heap.size = w.heap.size ∧ Below g1 w w' := by
  subst hj
  have hH := holds_of h (by omega)
  obtain ⟨-, -, -, hcap, -, -⟩ := h.ints_at (by omega)
  obtain ⟨A5, c5, h5, -, hmx, -⟩ := h.reads
  injection h5 with _ _ h5
  subst h5
  unfold maxLen at hmx
  refine (Any.slices_Delete_int layD g1 0 d1 i (i + 2) xs w hH hcap (by omega) (by omega) hi).mono ?_
  rintro e w' ⟨rfl, q, rfl⟩
  have e2 : i + 2 - i = 2 := by omega
  rw [e2]
  have hlen : (xs.take i ++ xs.drop (i + 2) ++ List.replicate 2 (0 : Int)).toArray.size = xs.toArray.size := by simp; omega
  have hk : ∀ b, b ≠ g1 → (Sort.putRow (Value.int .i64) (Sort.ahead w q) g1 0 (xs.take i ++ xs.drop (i + 2) ++ List.replicate 2 (0 : Int)).toArray).heap[b]? = w.heap[b]? := fun b hb => by
    show (w.heap.modify g1 _)[b]? = _
    rw [Array.getElem?_modify, if_neg (fun e => hb e.symm)]
  have hs : (Sort.putRow (Value.int .i64) (Sort.ahead w q) g1 0 (xs.take i ++ xs.drop (i + 2) ++ List.replicate 2 (0 : Int)).toArray).heap.size = w.heap.size := by simp [Sort.ahead]
  refine ⟨rfl, fun _ => ⟨g1, 0, rfl, rfl, fun k hk2 => ?_⟩, hk, hs, ⟨rfl, rfl, rfl, Nat.le_of_eq hs.symm, fun b hb => hk b (by omega)⟩⟩
  have hk3 : k < (xs.take i ++ xs.drop (i + 2) ++ List.replicate 2 (0 : Int)).toArray.size := by
    simp only [List.size_toArray, List.length_append] at hk2 ⊢
    omega
  have := Sort.cell?_putRow (Value.int .i64) (Sort.ahead w q) g1 0 xs.toArray _ hH hlen k hk3
  rw [this]
  have e3 : (xs.take i ++ xs.drop (i + 2) ++ List.replicate 2 (0 : Int)).toArray[k]! = gi (xs.take i ++ xs.drop (i + 2)) k := by
    rw [getElem!_pos _ k hk3]
    simp only [gi, List.getElem_toArray, List.getD_eq_getElem?_getD]
    rw [List.getElem_append_left hk2, List.getElem?_eq_getElem hk2]
    rfl
  rw [e3]
theorem RI.dropk {w : World} {S : Nat → Prop} {b off : Nat} {xs : List Int} (h : RI w S (some ⟨b, off, none⟩) xs) (k : Nat) : RI w S (some ⟨b, off + k, none⟩) (xs.drop k) := fun hne => by
  have h0 : xs ≠ [] := by rintro rfl; exact hne (by simp)
  obtain ⟨b', off', e, hb, hc⟩ := h h0
  injection e with e
  injection e with e1 e2
  subst e1; subst e2
  refine ⟨b, off + k, rfl, hb, fun j hj => ?_⟩
  rw [List.length_drop] at hj
  rw [Nat.add_assoc, hc (k + j) (by omega)]
  simp only [gi, List.getD_eq_getElem?_getD, List.getElem?_drop]
theorem rl_three {w : World} {A1 : Option Addr} {d1 : Nat} {ws : List Int} (y z : Int) (h : RI w (· < w.heap.size) A1 ws) (hm : ws.length ≤ maxLen) :
    RL (((w.alloc (.cells #[.int .i64 y] 3)).alloc (.cells #[.int .i64 z] 3)).alloc (.cells #[.slice (some ⟨w.heap.size, 0, none⟩) 1 1, .slice A1 ws.length d1, .slice (some ⟨w.heap.size + 1, 0, none⟩) 1 1] 33))
      (· < (((w.alloc (.cells #[.int .i64 y] 3)).alloc (.cells #[.int .i64 z] 3)).alloc (.cells #[.slice (some ⟨w.heap.size, 0, none⟩) 1 1, .slice A1 ws.length d1, .slice (some ⟨w.heap.size + 1, 0, none⟩) 1 1] 33)).heap.size) (some ⟨w.heap.size + 1 + 1, 0, none⟩) [[y], ws, [z]] := by
  have hs : (((w.alloc (.cells #[.int .i64 y] 3)).alloc (.cells #[.int .i64 z] 3)).alloc (.cells #[.slice (some ⟨w.heap.size, 0, none⟩) 1 1, .slice A1 ws.length d1, .slice (some ⟨w.heap.size + 1, 0, none⟩) 1 1] 33)).heap.size = w.heap.size + 3 := by simp
  have k1 : ∀ b, b < w.heap.size → (((w.alloc (.cells #[.int .i64 y] 3)).alloc (.cells #[.int .i64 z] 3)).alloc (.cells #[.slice (some ⟨w.heap.size, 0, none⟩) 1 1, .slice A1 ws.length d1, .slice (some ⟨w.heap.size + 1, 0, none⟩) 1 1] 33)).heap[b]? = w.heap[b]? := fun b hb => by
    rw [Below.heap_alloc _ _ _ (by simp; omega), Below.heap_alloc _ _ _ (by simp; omega), Below.heap_alloc _ _ _ hb]
  refine fun _ => ⟨w.heap.size + 1 + 1, 0, rfl, by rw [hs]; omega, fun k hk => ?_⟩
  have hk' : k = 0 ∨ k = 1 ∨ k = 2 := by simp at hk; omega
  have hcell : ∀ j v, (#[Value.slice (some ⟨w.heap.size, 0, none⟩) 1 1, .slice A1 ws.length d1, .slice (some ⟨w.heap.size + 1, 0, none⟩) 1 1] : Array Value)[j]? = some v → (((w.alloc (.cells #[.int .i64 y] 3)).alloc (.cells #[.int .i64 z] 3)).alloc (.cells #[.slice (some ⟨w.heap.size, 0, none⟩) 1 1, .slice A1 ws.length d1, .slice (some ⟨w.heap.size + 1, 0, none⟩) 1 1] 33)).cell? ⟨w.heap.size + 1 + 1, 0 + j, none⟩ = some v := fun j v hv => by
    have e : w.heap.size + 1 + 1 = ((w.alloc (.cells #[.int .i64 y] 3)).alloc (.cells #[.int .i64 z] 3)).heap.size := by simp
    rw [e, Nat.zero_add, World.cell?_alloc_new]
    exact hv
  rcases hk' with rfl | rfl | rfl
  · refine ⟨_, _, hcell 0 _ rfl, ?_, by show (1 : Nat) ≤ maxLen; unfold maxLen; decide⟩
    refine ((lit_RI w [y] (· = w.heap.size) rfl _ rfl).keep fun b hb => ?_).imp fun b hb => by rw [hs]; omega
    rw [Below.heap_alloc _ _ _ (by simp; omega), Below.heap_alloc _ _ _ (by simp; omega)]
    rfl
  · exact ⟨_, _, hcell 1 _ rfl, (h.keep k1).imp fun b hb => by rw [hs]; omega, hm⟩
  · refine ⟨_, _, hcell 2 _ rfl, ?_, by show (1 : Nat) ≤ maxLen; unfold maxLen; decide⟩
    have := lit_RI (w.alloc (.cells #[.int .i64 y] 3)) [z] (· = w.heap.size + 1) (by simp) _ rfl
    rw [show (w.alloc (.cells #[.int .i64 y] 3)).heap.size = w.heap.size + 1 by simp] at this
    refine (this.keep fun b hb => ?_).imp fun b hb => by rw [hs]; omega
    rw [Below.heap_alloc _ _ _ (by simp; omega)]
    rfl
end Go.Proofs.Yteanhbldhaiekaa
