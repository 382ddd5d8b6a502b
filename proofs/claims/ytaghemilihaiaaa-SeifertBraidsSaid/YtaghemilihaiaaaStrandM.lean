/-
  What the strands and the graph's rows hold: no program here.
-/
import Derived.Test.YtaghemilihaiaaaGraph
namespace Go.Proofs.Ytaghemilihaiaaa

theorem cnt_or {P Q : Nat → Bool} : ∀ m, (∀ x, x < m → P x = true → Q x = true → False) → cnt (fun x => P x || Q x) m = cnt P m + cnt Q m
  | 0, _ => rfl
  | m + 1, h => by
    rw [cnt_succ, cnt_succ, cnt_succ, cnt_or m (fun x hx => h x (by omega))]
    have := h m (by omega)
    cases hp : P m <;> cases hq : Q m <;> simp [hp, hq] at * <;> omega
theorem cnt_one (a : Nat) : ∀ m, cnt (fun x => decide (x = a)) m = if a < m then 1 else 0
  | 0 => rfl
  | m + 1 => by
    rw [cnt_succ, cnt_one a m]
    by_cases h1 : a < m
    · have : ¬ m = a := by omega
      simp [h1, this, show a < m + 1 by omega]
    · by_cases h2 : m = a
      · simp [h2]
      · simp [h1, h2, show ¬ a < m + 1 by omega]
theorem cnt_none : ∀ m, cnt (fun _ => false) m = 0
  | 0 => rfl
  | m + 1 => by rw [cnt_succ, cnt_none m]; rfl
theorem cnt_mem {m : Nat} : ∀ l : List Nat, l.Nodup → (∀ x, x ∈ l → x < m) → cnt (fun x => decide (x ∈ l)) m = l.length
  | [], _, _ => by
    rw [cnt_congr (Q := fun _ => false) (fun x _ => by simp)]
    exact cnt_none m
  | a :: l, hd, hl => by
    rw [List.nodup_cons] at hd
    rw [cnt_congr (Q := fun x => decide (x = a) || decide (x ∈ l)) (fun x _ => by simp [List.mem_cons, Bool.decide_or]), cnt_or, cnt_one, cnt_mem l hd.2 (fun x hx => hl x (List.mem_cons_of_mem _ hx)), if_pos (hl a (List.mem_cons_self ..)), List.length_cons, Nat.add_comm]
    intro x _ h1 h2
    rw [decide_eq_true_eq] at h1 h2
    subst h1
    exact hd.1 h2

def tot (ls : List (List Nat)) : Nat := (ls.map List.length).sum
theorem tot_append (a b : List (List Nat)) : tot (a ++ b) = tot a + tot b := by simp [tot]
theorem tot_seen {f : Nat → Nat} {N : Nat} (hP : PermB f N) {wt : Nat → Bool} (hw : ∀ h, h < N → wt (f h) = wt h) : ∀ k, k ≤ N → ∃ P : Nat → Bool, (∀ g, g < N → (P g = true ↔ Seen f N wt k g)) ∧ tot (cycsL f N wt k) = cnt P N
  | 0, _ => ⟨fun _ => false, fun g _ => ⟨fun h => by (cases h), fun h => absurd h seen_zero⟩, by
      rw [← cnt_congr (P := fun x => decide (x ∈ ([] : List Nat))) (fun x _ => by simp), cnt_mem [] (by simp) (by simp)]; rfl⟩
  | k + 1, hk => by
    obtain ⟨P, h1, h2⟩ := tot_seen hP hw k (by omega)
    rw [cycsL_succ, tot_append, h2]
    by_cases hb : (wt k && lstB f N k) = true
    · rw [if_pos hb]
      rw [Bool.and_eq_true] at hb
      refine ⟨fun x => P x || decide (x ∈ cyc f N k), fun g hg => ?_, ?_⟩
      · rw [Bool.or_eq_true, h1 g hg, decide_eq_true_eq, seen_succ]
        exact ⟨fun h => h.imp id fun h => ⟨hb.1, hb.2, h⟩, fun h => h.imp id fun h => h.2.2⟩
      · rw [cnt_or, cnt_mem _ (cyc_nodup hP (by omega)) (fun x hx => cyc_lt hP (by omega) hx)]
        · simp [tot]
        · intro x hx h3 h4
          rw [decide_eq_true_eq] at h4
          have h5 := (seen_iff hP hw (show k < N by omega) hb.1).1 (seen_closed hP (by omega) h4 (by omega) ((h1 x hx).1 h3))
          rw [hb.2] at h5
          cases h5
    · rw [if_neg hb]
      refine ⟨P, fun g hg => ?_, by simp [tot]⟩
      rw [h1 g hg, seen_succ]
      rw [Bool.and_eq_true] at hb
      exact ⟨.inl, fun h => h.elim id fun h => absurd ⟨h.1, h.2.1⟩ hb⟩
theorem tot_all {f : Nat → Nat} {N : Nat} (hP : PermB f N) {wt : Nat → Bool} (hw : ∀ h, h < N → wt (f h) = wt h) : tot (cycsL f N wt N) = cnt wt N := by
  obtain ⟨P, h1, h2⟩ := tot_seen hP hw N (Nat.le_refl _)
  rw [h2]
  refine cnt_congr fun g hg => ?_
  have : P g = true ↔ wt g = true := by
    rw [h1 g hg]
    constructor
    · rintro ⟨h, hh, hwt, -, hm⟩
      rw [wt_cyc hP hw hh hm]; exact hwt
    · intro hwt
      obtain ⟨m, m1, m2, m3, m4, m5⟩ := least_mem hP hg
      exact ⟨m, m2, by rw [wt_cyc hP hw hg m1]; exact hwt, m4, m3⟩
  cases hp : P g <;> cases hq : wt g <;> simp [hp, hq] at this ⊢

theorem outs_two {sg : List Int} (hs : SgM sg) : ∀ n, n ≤ sg.length → cnt (outB sg) (4 * n) = 2 * n
  | 0, _ => rfl
  | n + 1, h => by
    rw [show 4 * (n + 1) = 4 * n + 1 + 1 + 1 + 1 by omega, cnt_succ, cnt_succ, cnt_succ, cnt_succ, outs_two hs n (by omega)]
    have e0 : outB sg (4 * n) = false := by
      unfold outB
      rw [if_neg (by omega), if_neg (by omega), if_neg (by omega)]
    have e1 : outB sg (4 * n + 1) = (gi sg n == 1) := by
      unfold outB
      rw [if_pos (by omega), show (4 * n + 1) / 4 = n by omega]
    have e2 : outB sg (4 * n + 1 + 1) = true := by
      unfold outB
      rw [if_neg (by omega), if_pos (by omega)]
    have e3 : outB sg (4 * n + 1 + 1 + 1) = (gi sg n == -1) := by
      unfold outB
      rw [if_neg (by omega), if_neg (by omega), if_pos (by omega), show (4 * n + 1 + 1 + 1) / 4 = n by omega]
    rw [e0, e1, e2, e3]
    rcases hs n (by omega) with e | e <;> rw [e] <;> simp <;> omega

theorem strands_tot {sg mt : List Int} {L : Int} (h : IsD sg mt L) : tot (strandsL sg mt) = 2 * sg.length := by
  unfold strandsL
  rw [tot_all (nxS_perm h.2.2.2.2.2.1 h.2.1) (out_nxS h), h.2.1]
  exact outs_two h.2.2.2.2.1 _ (Nat.le_refl _)

theorem tot_take (ls : List (List Nat)) {k : Nat} (hk : k < ls.length) : tot (ls.take (k + 1)) = tot (ls.take k) + ls[k].length := by
  rw [List.take_succ_eq_append_getElem hk, tot_append]
  simp [tot]
theorem tot_take_le (ls : List (List Nat)) (k : Nat) : tot (ls.take k) ≤ tot ls := by
  have := tot_append (ls.take k) (ls.drop k)
  rw [List.take_append_drop] at this
  omega

theorem strand_at {sg mt : List Int} {k : Nat} (hk : k < (strandsL sg mt).length) : ∃ h, h < mt.length ∧ outB sg h = true ∧ lstB (nxS mt) mt.length h = true ∧ (strandsL sg mt)[k] = cyc (nxS mt) mt.length h := by
  have hm := List.getElem_mem hk
  unfold strandsL cycsL at hm
  rw [List.mem_map] at hm
  obtain ⟨h, hh, e⟩ := hm
  rw [List.mem_filter, Bool.and_eq_true] at hh
  exact ⟨h, List.mem_range.1 hh.1, hh.2.1, hh.2.2, e.symm⟩

theorem strand_facts {sg mt : List Int} {L : Int} (hd : IsD sg mt L) {h i : Nat} (hh : h < mt.length) (ho : outB sg h = true) (hl : lstB (nxS mt) mt.length h = true) (_hi : i < per (nxS mt) mt.length h) :
    it (nxS mt) i h < mt.length ∧ outB sg (it (nxS mt) i h) = true ∧ turnN (gn mt (it (nxS mt) i h)) 2 = it (nxS mt) ((i + 1) % per (nxS mt) mt.length h) h ∧
    labAt mt sg.length (it (nxS mt) i h / 4) = labAt mt sg.length (h / 4) ∧ (0 < i → h < it (nxS mt) i h) := by
  have hP := nxS_perm hd.2.2.2.2.2.1 hd.2.1
  have hI := hd.2.2.2.2.2.1
  have hn := hd.2.1
  have hm : it (nxS mt) i h ∈ cyc (nxS mt) mt.length h := (mem_cyc hP hh).2 ⟨i, rfl⟩
  refine ⟨hP.it_lt i hh, ?_, ?_, ?_, ?_⟩
  · rw [wt_cyc hP (out_nxS hd) hh hm]; exact ho
  · rw [← it_mod hP hh (i + 1)]; rfl
  · clear hm _hi
    induction i with
    | zero => rfl
    | succ i ih =>
      rw [← ih]
      have hlt := hP.it_lt i hh
      show labAt mt sg.length (turnN (gn mt (it (nxS mt) i h)) 2 / 4) = _
      rw [turnN_div]
      exact (lab_mate hI hn hlt).symm
  · intro h0
    have h1 := lstB_iff.1 hl _ hm
    have h2 := (per_spec hP hh).2.2.2 i h0 _hi
    omega

/-- the number of the component of a crossing -/
def pn (mt : List Int) (n c : Nat) : Nat := idxAt mt n (labAt mt n c)
theorem graph_row {mt : List Int} (hI : InvM mt) {n : Nat} (hn : mt.length = 4 * n) {k : Nat} (hk : k < (graphL mt n).length) : (graphL mt n)[k] = membP mt n k n ∧ k < idxAt mt n n := by
  have e := graphL_idx hI hn
  have hl : (graphL mt n).length = idxAt mt n n := by rw [← e]; simp
  refine ⟨?_, by omega⟩
  simp only [← e]
  simp
theorem memP_iff {mt : List Int} {n k x : Nat} : x ∈ membP mt n k n ↔ x < n ∧ pn mt n x = k := by
  unfold membP pn
  simp
theorem pn_lt {mt : List Int} (hI : InvM mt) {n : Nat} (hn : mt.length = 4 * n) {c : Nat} (hc : c < n) : pn mt n c < (graphL mt n).length := by
  have e := graphL_idx hI hn
  have hl : (graphL mt n).length = idxAt mt n n := by rw [← e]; simp
  rw [hl]
  exact idxN_lt _ (lab_least hI hn hc).2.2 (lab_lab hI hn hc)
end Go.Proofs.Ytaghemilihaiaaa

