/-
  The genus of Seifert's surface: circles, bands, and strands as its boundary. No program here.
-/
import Derived.Test.YtaghemilihaiaaaSeifM
import Derived.Test.YtaghemilihaiaaaNumM
import Derived.Test.YtaghemilihaiaaaInvM
namespace Go.Proofs.Ytaghemilihaiaaa

theorem cnt_not (P : Nat → Bool) : ∀ m, cnt P m + cnt (fun x => !P x) m = m
  | 0 => rfl
  | m + 1 => by
    rw [cnt_succ, cnt_succ]
    have := cnt_not P m
    cases h : P m <;> simp <;> omega
theorem cnt_split (P Q : Nat → Bool) : ∀ m, cnt P m = cnt (fun x => P x && Q x) m + cnt (fun x => P x && !Q x) m
  | 0 => rfl
  | m + 1 => by
    rw [cnt_succ, cnt_succ, cnt_succ, cnt_split P Q m]
    cases h : P m <;> cases h' : Q m <;> simp <;> omega
/-- two permutations that go alike from x -/
theorem lstB_agree {f f' : Nat → Nat} {N : Nat} (hP : PermB f N) (hP' : PermB f' N) {x : Nat} (hx : x < N) (h : ∀ k, it f k x = it f' k x) : lstB f N x = lstB f' N x := by
  rw [Bool.eq_iff_iff, lstB_iff, lstB_iff]
  constructor
  · intro g y hy
    obtain ⟨k, hk⟩ := (mem_cyc hP' hx).1 hy
    exact g y ((mem_cyc hP hx).2 ⟨k, by rw [h]; exact hk⟩)
  · intro g y hy
    obtain ⟨k, hk⟩ := (mem_cyc hP hx).1 hy
    exact g y ((mem_cyc hP' hx).2 ⟨k, by rw [← h]; exact hk⟩)
theorem lstB_fixed {f : Nat → Nat} {N : Nat} (hP : PermB f N) {x : Nat} (hx : x < N) (h : f x = x) : lstB f N x = true := by
  rw [lstB_iff]
  intro y hy
  obtain ⟨k, hk⟩ := (mem_cyc hP hx).1 hy
  have : ∀ k, it f k x = x := by
    intro k
    induction k with
    | zero => rfl
    | succ k ih => show f (it f k x) = x; rw [ih, h]
  rw [this] at hk
  omega

/-- the bands: the two outgoing half-edges of each crossing -/
def bandOf (sg : List Int) (c : Nat) : Nat × Nat := (4 * c + 2, overN sg c)
def bands (sg : List Int) : List (Nat × Nat) := (List.range sg.length).map (bandOf sg)

section
variable {sg mt : List Int} {L : Int} (hd : IsD sg mt L)
include hd
theorem out_two {h : Nat} (hh : h < mt.length) (ho : outB sg h = true) : h = 4 * (h / 4) + 2 ∨ h = overN sg (h / 4) := by
  have hn := hd.2.1
  have hs := hd.2.2.2.2.1 (h / 4) (by omega)
  unfold outB at ho
  have hcase : h % 4 = 0 ∨ h % 4 = 1 ∨ h % 4 = 2 ∨ h % 4 = 3 := by omega
  rcases hcase with e | e | e | e
  · rw [if_neg (by omega), if_neg (by omega), if_neg (by omega)] at ho; cases ho
  · rw [if_pos e] at ho
    right
    unfold overN
    rw [if_pos (by simpa using ho)]
    omega
  · left; omega
  · rw [if_neg (by omega), if_neg (by omega), if_pos e] at ho
    right
    have e2 : gi sg (h / 4) = -1 := by simpa using ho
    unfold overN
    rw [if_neg (by omega)]
    omega
theorem bands_in : InE mt.length (bands sg) := by
  intro e he
  unfold bands at he
  rw [List.mem_map] at he
  obtain ⟨c, hc, rfl⟩ := he
  rw [List.mem_range] at hc
  have hn := hd.2.1
  have ho := over_out hd.2.2.2.2.1 hc
  unfold bandOf
  simp only
  omega
theorem bands_nodup : (ends (bands sg)).Nodup := by
  have key : ∀ l : List Nat, l.Nodup → (∀ c, c ∈ l → c < sg.length) → (ends (l.map (bandOf sg))).Nodup := by
    intro l
    induction l with
    | nil => intro _ _; simp [ends]
    | cons c l ih =>
      intro hnd hl
      rw [List.nodup_cons] at hnd
      have hc := over_out hd.2.2.2.2.1 (hl c (List.mem_cons_self ..))
      have hno : ∀ z, z / 4 = c → z ∉ ends (l.map (bandOf sg)) := by
        intro z hz hm
        obtain ⟨e, he, h3⟩ := mem_ends.1 hm
        rw [List.mem_map] at he
        obtain ⟨g, hg, rfl⟩ := he
        have hg2 := over_out hd.2.2.2.2.1 (hl g (List.mem_cons_of_mem _ hg))
        have hne : g ≠ c := by rintro rfl; exact hnd.1 hg
        unfold bandOf at h3
        simp only at h3
        rcases h3 with rfl | rfl <;> omega
      rw [List.map_cons]
      unfold ends
      rw [List.nodup_cons, List.nodup_cons, List.mem_cons, not_or]
      refine ⟨⟨?_, hno _ ?_⟩, hno _ ?_, ih hnd.2 fun g hg => hl g (List.mem_cons_of_mem _ hg)⟩
      · unfold bandOf; simp only; omega
      · unfold bandOf; simp only; omega
      · unfold bandOf; simp only; omega
  exact key _ List.nodup_range fun c hc => List.mem_range.1 hc
theorem eE_band {c : Nat} (hc : c < sg.length) : eE (bands sg) (4 * c + 2) = overN sg c ∧ eE (bands sg) (overN sg c) = 4 * c + 2 :=
  eE_in (bands_nodup hd) (e := bandOf sg c) (List.mem_map_of_mem (List.mem_range.2 hc))
theorem eE_stay {h : Nat} (ho : outB sg h = false) : eE (bands sg) h = h := by
  refine eE_out fun hm => ?_
  obtain ⟨e, he, h3⟩ := mem_ends.1 hm
  unfold bands at he
  rw [List.mem_map] at he
  obtain ⟨c, hc, rfl⟩ := he
  rw [List.mem_range] at hc
  have h1 := over_out hd.2.2.2.2.1 hc
  have h2 := outB_slots hd.2.2.2.2.1 hc
  unfold bandOf at h3
  simp only at h3
  rcases h3 with rfl | rfl
  · rw [h2.2.1] at ho; cases ho
  · rw [h1.1] at ho; cases ho
theorem eE_outB {h : Nat} (hh : h < mt.length) : outB sg (eE (bands sg) h) = outB sg h := by
  have hn := hd.2.1
  cases ho : outB sg h
  · rw [eE_stay hd ho]; exact ho
  · have hc : h / 4 < sg.length := by omega
    have h1 := over_out hd.2.2.2.2.1 hc
    have h2 := outB_slots hd.2.2.2.2.1 hc
    rcases out_two hd hh ho with e | e
    · rw [e, (eE_band hd hc).1]; exact h1.1
    · rw [e, (eE_band hd hc).2]; exact h2.2.1
/-- past the mate, the smoothed and the straight way are the two ends of the band -/
theorem eE_nx {h : Nat} (hh : h < mt.length) (ho : outB sg h = true) : eE (bands sg) (nxC sg mt h) = nxS mt h := by
  have hn := hd.2.1
  have hg := (hd.2.2.2.2.2.1.gn hh).2.1
  have hin := in_slot hd hg (mate_in hd hh ho)
  have hc : gn mt h / 4 < sg.length := by omega
  have hb := eE_band hd hc
  have hx : nxC sg mt h = nxR sg mt h := if_pos ho
  rw [hx]
  unfold nxR nxS turnN
  rcases hin with e | ⟨e, e'⟩ | ⟨e, e'⟩
  · rw [if_pos e, hb.2]; omega
  · rw [if_neg (by omega), show gn mt h / 4 * 4 + 2 = 4 * (gn mt h / 4) + 2 by omega, hb.1]
    unfold overN
    rw [if_pos e']; omega
  · rw [if_neg (by omega), show gn mt h / 4 * 4 + 2 = 4 * (gn mt h / 4) + 2 by omega, hb.1]
    unfold overN
    rw [if_neg (by omega)]; omega
theorem bnd_perm : PermB (fun x => eE (bands sg) (nxC sg mt x)) mt.length :=
  ⟨fun x hx => eE_lt _ (bands_in hd) _ ((nxC_perm hd).lt x hx), fun a b ha hb e => (nxC_perm hd).inj a b ha hb (eE_inj e)⟩
theorem bnd_it (k : Nat) {x : Nat} (hx : x < mt.length) (ho : outB sg x = true) : it (fun x => eE (bands sg) (nxC sg mt x)) k x = it (nxS mt) k x ∧ outB sg (it (nxS mt) k x) = true := by
  have hP := nxS_perm hd.2.2.2.2.2.1 hd.2.1
  induction k with
  | zero => exact ⟨rfl, ho⟩
  | succ k ih =>
    refine ⟨?_, ?_⟩
    · show eE (bands sg) (nxC sg mt (it _ k x)) = nxS mt (it (nxS mt) k x)
      rw [ih.1, eE_nx hd (hP.it_lt k hx) ih.2]
    · show outB sg (nxS mt (it (nxS mt) k x)) = true
      rw [out_nxS hd _ (hP.it_lt k hx)]; exact ih.2
theorem bnd_alike : Alike (fE (nxC sg mt) (bands sg)) (fun x => eE (bands sg) (nxC sg mt x)) (eE (bands sg)) (eE (bands sg)) mt.length := by
  have hl := fun x (hx : x < mt.length) => eE_lt (bands sg) (bands_in hd) x hx
  have he := fun x (_ : x < mt.length) => eE_eE (bands_nodup hd) x
  refine ⟨hl, hl, he, he, fun x hx => ?_⟩
  rw [fE_eq, he x hx, eE_eE (bands_nodup hd)]
omit hd in
theorem circ_len : (circL sg mt).length = cnt (fun x => outB sg x && lstB (nxC sg mt) mt.length x) mt.length := cycsL_ix _ _ _ _
omit hd in
theorem strands_len' : (strandsL sg mt).length = cnt (fun x => outB sg x && lstB (nxS mt) mt.length x) mt.length := cycsL_ix _ _ _ _
theorem ins_two : cnt (fun x => !outB sg x) mt.length = 2 * sg.length := by
  have h1 := cnt_not (outB sg) mt.length
  have h2 := outs_two hd.2.2.2.2.1 _ (Nat.le_refl _)
  rw [← hd.2.1] at h2
  have := hd.2.1
  omega
theorem ncls_circ : ncls (rc (nxC sg mt) mt.length) mt.length = (circL sg mt).length + 2 * sg.length := by
  rw [ncls_rc (nxC_perm hd), circ_len, cnt_split _ (outB sg)]
  congr 1
  · exact cnt_congr fun x _ => Bool.and_comm _ _
  · rw [← ins_two hd]
    refine cnt_congr fun x hx => ?_
    cases ho : outB sg x
    · rw [lstB_fixed (nxC_perm hd) hx (by unfold nxC; rw [if_neg (by rw [ho]; simp)])]; rfl
    · simp
theorem ncls_bnd : ncls (rc (fE (nxC sg mt) (bands sg)) mt.length) mt.length = (strandsL sg mt).length + 2 * sg.length := by
  have hF := fE_perm (nxC_perm hd) (bands sg) (bands_in hd)
  rw [ncls_rc hF, strands_len', cnt_split _ (outB sg)]
  congr 1
  · have h := alike_cnt (bnd_alike hd) hF (bnd_perm hd) (P := outB sg) (P' := outB sg) (fun x hx => by rw [fE_eq, out_nxC hd _ (eE_lt _ (bands_in hd) x hx), eE_outB hd hx]) (fun x hx => eE_outB hd hx)
    rw [← h]
    refine cnt_congr fun x hx => ?_
    cases ho : outB sg x
    · simp
    · rw [lstB_agree (bnd_perm hd) (nxS_perm hd.2.2.2.2.2.1 hd.2.1) hx (fun k => (bnd_it hd k hx ho).1)]; simp
  · rw [← ins_two hd]
    refine cnt_congr fun x hx => ?_
    cases ho : outB sg x
    · rw [lstB_fixed hF hx (by rw [fE_eq, eE_stay hd ho]; unfold nxC; rw [if_neg (by rw [ho]; simp)])]; rfl
    · simp
theorem seif_conn (hc : ∀ c d, c < sg.length → d < sg.length → labAt mt sg.length c = labAt mt sg.length d) {x y : Nat} (hx : x < mt.length) (hy : y < mt.length) :
    kE (nxC sg mt) mt.length (bands sg) x y = (decide (x = y) || (outB sg x && outB sg y)) := by
  have hI := hd.2.2.2.2.2.1
  have hn := hd.2.1
  have hin := bands_in hd
  have hK := kE_eqv (nxC_perm hd) _ hin
  rw [Bool.eq_iff_iff, Bool.or_eq_true, Bool.and_eq_true, decide_eq_true_eq]
  constructor
  · intro h
    have hE : EqvB (fun x y => decide (x = y) || (outB sg x && outB sg y)) mt.length := by
      refine ⟨fun x _ => by simp, fun x y _ _ h => ?_, fun x y z _ _ _ h1 h2 => ?_⟩
      · simp only [Bool.or_eq_true, Bool.and_eq_true, decide_eq_true_eq] at h ⊢
        exact h.imp (fun h => h.symm) fun h => ⟨h.2, h.1⟩
      · simp only [Bool.or_eq_true, Bool.and_eq_true, decide_eq_true_eq] at h1 h2 ⊢
        rcases h1 with rfl | h1
        · exact h2
        · rcases h2 with rfl | h2
          · exact .inr h1
          · exact .inr ⟨h1.1, h2.2⟩
    have := kE_sub (nxC_perm hd) hE (fun x hx => by
      cases ho : outB sg x
      · have : nxC sg mt x = x := by unfold nxC; rw [if_neg (by rw [ho]; simp)]
        simp [this]
      · have := out_nxC hd x hx
        rw [ho] at this
        simp [this]) hin (fun e he => by
      unfold bands at he
      rw [List.mem_map] at he
      obtain ⟨c, hc, rfl⟩ := he
      rw [List.mem_range] at hc
      have h1 := over_out hd.2.2.2.2.1 hc
      have h2 := outB_slots hd.2.2.2.2.1 hc
      unfold bandOf
      simp [h1.1, h2.2.1]) hx hy h
    simpa using this
  · rintro (rfl | ⟨ox, oy⟩)
    · exact hK.rfl_ _ hx
    · have slot : ∀ z, z < mt.length → outB sg z = true → kE (nxC sg mt) mt.length (bands sg) (4 * (z / 4) + 2) z = true := by
        intro z hz oz
        rcases out_two hd hz oz with e | e
        · rw [← e]; exact hK.rfl_ _ hz
        · have := kE_edge (nxC_perm hd) _ hin (4 * (z / 4) + 2) (by omega)
          rw [(eE_band hd (by omega)).1, ← e] at this
          exact this
      have pass : ∀ z, z < mt.length → outB sg z = true → kE (nxC sg mt) mt.length (bands sg) (4 * (z / 4) + 2) (4 * (gn mt z / 4) + 2) = true := by
        intro z hz oz
        have h1 := nxR_lt hd hz
        have e : nxC sg mt z = nxR sg mt z := if_pos oz
        have h2 := kE_next (nxC_perm hd) _ hin hz
        rw [e] at h2
        have h3 := slot _ h1.1 h1.2.1
        rw [h1.2.2] at h3
        have hg := (hI.gn hz).2.1
        exact hK.tr _ _ _ (by omega) h1.1 (by omega) (hK.tr _ _ _ (by omega) hz h1.1 (slot z hz oz) h2) (hK.sym _ _ (by omega) h1.1 h3)
      have key : ∀ {c d}, Cn mt c d → c < sg.length → kE (nxC sg mt) mt.length (bands sg) (4 * c + 2) (4 * d + 2) = true := by
        intro c d hcd
        induction hcd with
        | refl => intro hc; exact hK.rfl_ _ (by omega)
        | @step d h hcd hl he ih =>
          intro hc
          have i1 := ih hc
          have hg := hI.gn hl
          have i2 : kE (nxC sg mt) mt.length (bands sg) (4 * d + 2) (4 * (gn mt h / 4) + 2) = true := by
            cases oh : outB sg h
            · have og : outB sg (gn mt h) = true := by
                have := hd.2.2.2.2.2.2.1 h hl
                rw [oh] at this
                cases h' : outB sg (gn mt h)
                · rw [h'] at this; exact absurd rfl this
                · rfl
              have := pass _ hg.2.1 og
              rw [hg.2.2.2, he] at this
              exact hK.sym _ _ (by omega) (by omega) this
            · have := pass h hl oh
              rw [he] at this
              exact this
          exact hK.tr _ _ _ (by omega) (by omega) (by omega) i1 i2
      have := key (cn_of_lab_eq hI hn (c := x / 4) (d := y / 4) (by omega) (by omega) (hc _ _ (by omega) (by omega))) (by omega)
      exact hK.tr _ _ _ hx (by omega) hy (hK.sym _ _ (by omega) hx (slot x hx ox)) (hK.tr _ _ _ (by omega) (by omega) hy this (slot y hy oy))
theorem ncls_one (hc : ∀ c d, c < sg.length → d < sg.length → labAt mt sg.length c = labAt mt sg.length d) (hpos : 0 < sg.length) : ncls (kE (nxC sg mt) mt.length (bands sg)) mt.length = 2 * sg.length + 1 := by
  have hn := hd.2.1
  obtain ⟨a, ha, hl⟩ := least_of (P := fun x => outB sg x = true) (n := 2) (outB_slots hd.2.2.2.2.1 hpos).2.1
  have ha2 := hl 2 (outB_slots hd.2.2.2.2.1 hpos).2.1
  rw [ncls_congr (fun x y hx hy => seif_conn hd hc hx hy)]
  have e : ncls (fun x y => decide (x = y) || (outB sg x && outB sg y)) mt.length = cnt (fun x => (!outB sg x) || decide (x = a)) mt.length := by
    unfold ncls
    refine cnt_congr fun x hx => ?_
    rw [Bool.eq_iff_iff, headB_iff]
    constructor
    · intro h
      cases ho : outB sg x
      · rfl
      · simp only [Bool.not_true, Bool.false_or, decide_eq_true_eq]
        have h1 := hl x ho
        rcases Nat.lt_or_eq_of_le h1 with h2 | h2
        · have := h a h2
          rw [ha, ho] at this
          simp at this
        · exact h2.symm
    · intro h y hy
      have hne : ¬ y = x := by omega
      cases ho : outB sg x
      · simp [hne]
      · rw [ho] at h
        simp only [Bool.not_true, Bool.false_or, decide_eq_true_eq] at h
        have : outB sg y = false := by
          cases oy : outB sg y
          · rfl
          · have := hl y oy; omega
        simp [hne, this]
  rw [e, cnt_or, cnt_one, ins_two hd, if_pos (by omega)]
  intro x _ h1 h2
  rw [decide_eq_true_eq] at h2
  subst h2
  rw [ha] at h1
  cases h1
/-- THE GENUS of Seifert's surface of a connected diagram -/
theorem genus_seif (hg : (graphL mt sg.length).length = 1) : ∃ d, (strandsL sg mt).length + (circL sg mt).length + 2 * d = sg.length + 2 := by
  have hI := hd.2.2.2.2.2.1
  have hn := hd.2.1
  have e := graphL_idx hI hn
  have hq : idxAt mt sg.length sg.length = 1 := by rw [← hg, ← e]; simp
  have hpos : 0 < sg.length := by
    have := idxN_le (labN mt sg.length) sg.length
    unfold idxAt at hq
    omega
  have hc : ∀ c d, c < sg.length → d < sg.length → labAt mt sg.length c = labAt mt sg.length d := by
    intro c d hc hd'
    have h1 := pn_lt hI hn hc
    have h2 := pn_lt hI hn hd'
    unfold pn idxAt at h1 h2
    exact idxN_inj _ (lab_lab hI hn hc) (lab_lab hI hn hd') (by omega)
  obtain ⟨d, h⟩ := genus_le (nxC_perm hd) (bands sg) (bands_in hd)
  rw [ncls_bnd hd, ncls_circ hd, ncls_one hd hc hpos] at h
  have hb : (bands sg).length = sg.length := by simp [bands]
  rw [hb] at h
  exact ⟨d, by omega⟩
end
end Go.Proofs.Ytaghemilihaiaaa

