/-
  The contract of matching.All.
-/
import Derived.Test.YtmmcpahaekpknaaAllE
import Derived.Test.YtmmcpahaekpknaaCat
import Derived.Laws.EntriesVeiled
namespace Go.Proofs.Ytmmcpahaekpknaa
open Go.RowKit

theorem make_rows (n c : Nat) (hn : n ≤ c) (hc : c ≤ 1099511627776) (w : World) :
    (Instr.makeSlice 26 (.int .i64 (n : Int)) (.int .i64 (c : Int))).run Try.prog w = .ok (.slice (some ⟨w.heap.size, 0, none⟩) n c) (w.alloc (.cells (List.replicate c (Value.slice none 0 0)).toArray 34)) := by
  obtain ⟨i0, hi, hz0, hz1, hz2⟩ := info_parts row_info
  have h := run_make (P := Try.prog) w 26 34 i0 (.slice none 0 0) Try.underlying26 hi hz0 .i64 .i64 n c (by omega) (by omega) (by rw [hz2]; omega) (by omega)
  simp only [Int.toNat_natCast] at h
  rw [h, hz1]
  have e : madeCells (Value.slice none 0 0).cells (c * 1) = (List.replicate c (Value.slice none 0 0)).toArray := by
    apply Array.toList_inj.1
    rw [Nat.mul_one, show (Value.slice none 0 0).cells = #[Value.slice none 0 0] from rfl, toList_madeCells_one]
  rw [e]

theorem all_range (n : Int) (w : World) (h : n < 0 ∨ 9 < n) :
    Calls Try.prog 14 #[.int .i64 n] w fun e w' => e = .returned (.tuple #[.slice none 0 0, .int .i64 2]) ∧ w = w' := by
  rcases h with h | h
  · go_enter Try.func14, Try.ntmps14
    go_wp2
    go_ret2
    exact ⟨rfl, by trivial⟩
  · have h0 : ¬ n < 0 := by omega
    go_enter Try.func14, Try.ntmps14
    go_wp2
    go_ret2
    exact ⟨rfl, by trivial⟩

/-- what lies in memory ahead of the search; N: the first new block -/
structure AllPre (w : World) (N n : Nat) (m : List Int) : Prop where
  size : w.heap.size = N + 4
  hl : w.heap[N + 1]? = some (.cells #[.slice (some ⟨N, 0, none⟩) 0 (catN n)] 26 (0, 0))
  hm : w.heap[N + 3]? = some (.cells #[.slice (some ⟨N + 2, 0, none⟩) m.length m.length] 34 (0, 0))
  own : OI w N (.slice (some ⟨N + 2, 0, none⟩) m.length m.length) m
  row : RR 34 w N (fun b => b = N + 1 ∨ b = N + 2 ∨ b = N + 3 ∨ b = N + 4) (.slice (some ⟨N, 0, none⟩) 0 (catN n)) []

theorem heap_alloc_at {w : World} {o : Obj} {k : Nat} (h : k = w.heap.size) : (w.alloc o).heap[k]? = some o := by subst h; exact heap_alloc_new w o

theorem all_start (w : World) (n : Nat) (hc : catN n ≤ 4862) (hn : n ≤ 9) :
    AllPre ((((w.alloc (.cells (Array.replicate (catN n) (Value.slice none 0 0)) 34)).alloc (.cells #[Value.slice (some ⟨w.heap.size, 0, none⟩) 0 (catN n)] 26)).alloc (.cells (Array.replicate (2 * n) (Value.int .i64 0)) 3)).alloc
      (.cells #[Value.slice (some ⟨w.heap.size + 1 + 1, 0, none⟩) (2 * n) (2 * n)] 34)) w.heap.size n (List.replicate (2 * n) 0) := by
  have hl : (List.replicate (2 * n) (0 : Int)).length = 2 * n := by simp
  refine ⟨by simp, ?_, ?_, ?_, ?_⟩
  · rw [Below.heap_alloc _ _ _ (by simp), Below.heap_alloc _ _ _ (by simp)]
    exact heap_alloc_at (by simp)
  · rw [hl]
    exact heap_alloc_at (by simp)
  · rw [hl]
    have := (OI.new ((w.alloc (.cells (Array.replicate (catN n) (Value.slice none 0 0)) 34)).alloc (.cells #[Value.slice (some ⟨w.heap.size, 0, none⟩) 0 (catN n)] 26)) w.heap.size (2 * n) (by simp; omega) (by unfold maxLen; omega)).alloc (.cells #[Value.slice (some ⟨w.heap.size + 1 + 1, 0, none⟩) (2 * n) (2 * n)] 34)
    simpa using this
  · refine ⟨[], ?_, ?_, rfl, by simp⟩
    · have h := World.ownsRow_made (base := w.heap.size) (e := 34) (size := 1) w (Array.replicate (catN n) (Value.slice none 0 0)) (catN n) (Nat.le_refl _) (by unfold maxLen; omega) (by simp)
      exact ((h.alloc _).alloc _).alloc _
    · intro g hg
      simp [Value.ownBlock] at hg
      omega

theorem AllPre.store {w : World} {N n : Nat} {m : List Int} (h : AllPre w N n m) (j : Nat) (y : Int) : AllPre (w.setCell ⟨N + 2, j, none⟩ (.int .i64 y)) N n (m.set j y) := by
  have hl : (m.set j y).length = m.length := by simp
  refine ⟨by simpa using h.size, ?_, ?_, ?_, ?_⟩
  · rw [Below.heap_setCell w _ _ _ (by simp)]; exact h.hl
  · rw [Below.heap_setCell w _ _ _ (by simp), hl]; exact h.hm
  · have := OR.stored (k := j) h.own y
    rw [hl] at this ⊢
    exact this
  · exact h.row.keep fun b _ _ hF => Below.heap_setCell w _ _ b (fun e => hF (.inr (.inl e)))

theorem AllPre.ready {w : World} {N n : Nat} {m : List Int} (h : AllPre w N n m) :
    AllSt (w.alloc (.cells #[.func (.func 28) #[] #[.pointer (some ⟨N + 3, 0, none⟩), .pointer (some ⟨N + 1, 0, none⟩), .pointer (some ⟨N + 4, 0, none⟩)]] 52)) N (N + 1) (N + 2) (N + 3) (N + 4) m (.slice (some ⟨N, 0, none⟩) 0 (catN n)) [] := by
  have hs := h.size
  refine ⟨?_, ?_, ?_, h.own.alloc _, ?_⟩
  · rw [Below.heap_alloc w _ _ (by omega)]; exact h.hl
  · rw [Below.heap_alloc w _ _ (by omega)]; exact h.hm
  · exact heap_alloc_at hs.symm
  · exact h.row.keep fun b _ hb _ => Below.heap_alloc w _ b hb

def AllPost (n : Nat) (w : World) (e : Ending) (w' : World) : Prop :=
  ∃ v, e = .returned (.tuple #[v, .int .i64 0]) ∧ RR 34 w' w.heap.size (fun _ => False) v (allN n) ∧ Below w.heap.size w w'

set_option maxHeartbeats 2000000 in
theorem all_ok (n : Nat) (w : World) (h : n ≤ 9) (hcount : (allN n).length ≤ 1000000) :
    Calls Try.prog 14 #[.int .i64 n] w (AllPost n w) := by
  have h0 : ¬ (n : Int) < 0 := by omega
  have h1 : ¬ (9 : Int) < n := by omega
  obtain ⟨b1, b2, b3, b4⟩ := cat_bounds (show n < 31 by omega)
  have hc : catN n ≤ 4862 := by
    have : ∀ n, n < 10 → catN n ≤ 4862 := by decide
    exact this n (by omega)
  have hmk1 : ∀ W : World, (Instr.makeSlice 26 (.int .i64 0) (.int .i64 (catN n : Int))).run Try.prog W = .ok (.slice (some ⟨W.heap.size, 0, none⟩) 0 (catN n)) (W.alloc (.cells (List.replicate (catN n) (Value.slice none 0 0)).toArray 34)) :=
    fun W => make_rows 0 (catN n) (by omega) (by omega) W
  have hmk2 := fun W => make_ints 34 Try.underlying34 (2 * n) (by omega) W
  have e2 : ((2 * n : Nat) : Int) = 2 * (n : Int) := by omega
  rw [e2] at hmk2
  have HCNT := Lib.hid hcount
  clear b1 b2 b3 b4 e2 hcount
  go_enter Try.func14, Try.ntmps14
  go_wp2_with (go_at_call 27; refine (catalan_any _ _ (by omega)).mono ?_; rintro e w' ⟨rfl, rfl⟩)
  go_loopw [6, 22] (fun _ i wr => ∃ (k : Nat) (m : List Int), k ≤ 2 * n ∧ i = .int .i64 k ∧ Hid (AllPre wr w.heap.size n m) ∧ Hid (m.length = 2 * n) ∧ Hid (∀ j, j < k → gi m j = -1) ∧ Below w.heap.size w wr) (fun _ i _ => 2 * n - (intOf i).toNat)
  case atStart =>
    refine ⟨0, _, Nat.zero_le _, rfl, all_start w n hc h, by show List.length _ = _; simp, by intro j hj; omega, ?_⟩
    exact ((((Below.refl _ _).alloc (Nat.le_refl _) _).alloc (by simp) _).alloc (by simp; omega) _).alloc (by simp; omega) _
  case round =>
    obtain ⟨k, m, hk, rfl, HA, HL, HG, hbel⟩ := hrel
    by_cases hlt : k < 2 * n
    · obtain ⟨cm, fm, sm⟩ := one_cell HA.out.hm
      obtain ⟨_, _, hgs, _, hcell, hfz⟩ := HA.out.own.ints_at (by rw [HL.out]; omega)
      have c1 := hcell k (by rw [HL.out]; omega)
      have f1 := hfz k
      have hml := HL.out
      rw [hml] at cm
      have HA' := Lib.hid (HA.out.store k (-1))
      have HL' : Hid ((m.set k (-1)).length = 2 * n) := by show List.length _ = _; simpa using hml
      have HG' : Hid (∀ j, j < k + 1 → gi (m.set k (-1)) j = -1) := by
        intro j hj
        rw [gi_set (by omega)]
        split
        · rfl
        · exact HG.out j (by omega)
      have hbel' : Below w.heap.size w (wr.setCell ⟨w.heap.size + 2, k, none⟩ (.int .i64 (-1))) := hbel.setCell (by simp) _
      clear hcell hfz hml
      go_wp2
      go_roundw
      case rel => exact ⟨k + 1, _, by omega, by go_num, HA', HL', HG', hbel'⟩
      case measure => simp [intOf]; omega
    · have hm : m = List.replicate (2 * n) (-1) := by
        apply ext_gi
        · rw [HL.out]; simp
        · intro j hj
          rw [HL.out] at hj
          rw [HG.out j (by omega), gi_replicate hj]
      have HA' : Hid (AllPre wr w.heap.size n (List.replicate (2 * n) (-1))) := by rw [← hm]; exact HA
      clear hm HA HL HG
      have hsz := HA'.out.size
      go_wp2_with fail
      refine (ext_any w.heap.size (w.heap.size + 1) (w.heap.size + 2) (w.heap.size + 3) (w.heap.size + 4) ⟨by omega, by omega, by omega, by omega, by omega, by omega⟩ ⟨by omega, by omega⟩ (2 * n + 1) (List.replicate (2 * n) (-1)) 0
        (.slice (some ⟨w.heap.size, 0, none⟩) 0 (catN n)) [] _ HA'.out.ready (by simp; omega) (by simp; omega) (by simp; omega) (by simp) (by simp) (by intro j hj _; simp at hj; exact gi_replicate hj) (by rw [ext_all]; simpa using HCNT.out)).mono ?_
      rintro e w3 ⟨rfl, v3, HR3, hb3⟩
      obtain ⟨c3, _, _⟩ := one_cell HR3.hl
      have hrow := HR3.row
      rw [ext_all] at hrow
      have HROW := Lib.hid hrow
      have hb4 : Below w.heap.size w w3 := (hbel.alloc (by omega) _).trans hb3
      clear HR3 hrow hb3
      go_wp2_with fail
      go_ret2
      exact ⟨v3, rfl, HROW.out.imp fun _ _ _ h => h.elim, hb4⟩

end Go.Proofs.Ytmmcpahaekpknaa
