/-
  The sum at two ends that the law's out answers: its genus is the sum; the state of the law.
-/
import Derived.Test.YtaghemilihaiaaaOutL
import Derived.Test.YtaghemilihaiaaaSeifG
namespace Go.Proofs.Ytaghemilihaiaaa
open Go.RowKit

section
variable {sg mt : List Int} {L : Int} (hd : IsD sg mt L)
include hd
theorem parts_zero : (graphL mt sg.length).length = 0 ↔ (strandsL sg mt).length = 0 := by
  have hI := hd.2.2.2.2.2.1
  have hn := hd.2.1
  constructor
  · intro h
    have : sg.length = 0 := by
      rcases Nat.eq_zero_or_pos sg.length with h0 | h0
      · exact h0
      · have := pn_lt hI hn h0
        omega
    have := strandsL_le sg mt
    omega
  · intro h
    have h1 : strandsL sg mt = [] := List.eq_nil_of_length_eq_zero h
    have h2 := strands_tot hd
    rw [h1] at h2
    have e := graphL_idx hI hn
    have : (graphL mt sg.length).length = idxAt mt sg.length sg.length := by rw [← e]; simp
    rw [this]
    have := idxN_le (labN mt sg.length) sg.length
    unfold idxAt
    simp [tot] at h2
    omega
theorem genus_nat (hp : ((graphL mt sg.length).length : Int) + L = 1) : ∃ d : Nat, d ≤ 100 ∧ 2 - (((strandsL sg mt).length : Int) + L) - (((circL sg mt).length : Int) + L - sg.length) = 2 * (d : Int) := by
  have h0 := hd.2.2.1
  have h64 := hd.1
  rcases Nat.eq_zero_or_pos (graphL mt sg.length).length with hg | hg
  · have hs := (parts_zero hd).1 hg
    have hl := strands_tot hd
    have e : strandsL sg mt = [] := List.eq_nil_of_length_eq_zero hs
    rw [e] at hl
    have hn : sg.length = 0 := by simp [tot] at hl; omega
    have hc : (circL sg mt).length = 0 := by
      have := cycsL_len (nxC sg mt) mt.length (outB sg) mt.length
      rw [rows_cycs_length] at this
      have := hd.2.1
      unfold circL
      omega
    exact ⟨0, by omega, by omega⟩
  · obtain ⟨d, h⟩ := genus_seif hd (by omega)
    exact ⟨d, by omega, by omega⟩
end


/-- twice the genus -/
def ggN (sg mt : List Int) (L : Int) : Int := 2 - (((strandsL sg mt).length : Int) + L) - (((circL sg mt).length : Int) + L - sg.length)
/-- what a sum is -/
structure SumG (sa ma : List Int) (La : Int) (sb mb : List Int) (Lb : Int) (sc mc : List Int) (Lc : Int) : Prop where
  hd : IsD sc mc Lc
  hg : ((graphL mc sc.length).length : Int) + Lc = 1
  gen : ggN sc mc Lc = ggN sa ma La + ggN sb mb Lb
theorem gen_empty : graphL [] ([] : List Int).length = [] ∧ strandsL [] [] = [] ∧ circL [] [] = [] := by decide +kernel
theorem unM_nilA (mb : List Int) : unM [] mb = mb := by
  unfold unM
  simp
theorem unM_nilB (ma : List Int) : unM ma [] = ma := by
  unfold unM
  simp
section
variable {sa ma : List Int} {La : Int} {sb mb : List Int} {Lb : Int} (ha : IsD sa ma La) (hb : IsD sb mb Lb)
  (ga : ((graphL ma sa.length).length : Int) + La = 1) (gb : ((graphL mb sb.length).length : Int) + Lb = 1)
include ha hb ga gb
theorem sumg_nilA (h : sa.length = 0) : La = 1 ∧ SumG sa ma La sb mb Lb (sa ++ sb) (unM ma mb) (La + Lb - 1) := by
  obtain rfl : sa = [] := List.eq_nil_of_length_eq_zero h
  obtain rfl : ma = [] := List.eq_nil_of_length_eq_zero (by have := ha.2.1; rw [h] at this; omega)
  obtain ⟨e1, e2, e3⟩ := gen_empty
  have hl : La = 1 := by rw [e1] at ga; simp at ga; exact ga
  subst hl
  refine ⟨rfl, ?_⟩
  rw [List.nil_append, unM_nilA, show (1 : Int) + Lb - 1 = Lb by omega]
  refine ⟨hb, gb, ?_⟩
  have : ggN [] [] 1 = 0 := by unfold ggN; rw [e2, e3]; rfl
  rw [this, Int.zero_add]
theorem sumg_nilB (h : sb.length = 0) : Lb = 1 ∧ SumG sa ma La sb mb Lb (sa ++ sb) (unM ma mb) (La + Lb - 1) := by
  obtain rfl : sb = [] := List.eq_nil_of_length_eq_zero h
  obtain rfl : mb = [] := List.eq_nil_of_length_eq_zero (by have := hb.2.1; rw [h] at this; omega)
  obtain ⟨e1, e2, e3⟩ := gen_empty
  have hl : Lb = 1 := by rw [e1] at gb; simp at gb; exact gb
  subst hl
  refine ⟨rfl, ?_⟩
  rw [List.append_nil, unM_nilB, show La + 1 - 1 = La by omega]
  refine ⟨ha, ga, ?_⟩
  have : ggN [] [] 1 = 0 := by unfold ggN; rw [e2, e3]; rfl
  rw [this, Int.add_zero]
theorem sumg_main {x y : Nat} (hx : x < ma.length) (hy : y < mb.length) (ox : outB sa x = true) (oy : outB sb y = true) (h64 : sa.length + sb.length ≤ 64) : La = 0 ∧ Lb = 0 ∧ SumG sa ma La sb mb Lb (sa ++ sb) (suM ma mb x y) (La + Lb) := by
  have pa : 0 < sa.length := by have := ha.2.1; omega
  have pb : 0 < sb.length := by have := hb.2.1; omega
  have qa := pn_lt ha.2.2.2.2.2.1 ha.2.1 pa
  have qb := pn_lt hb.2.2.2.2.2.1 hb.2.1 pb
  have la := ha.2.2.1
  have lb := hb.2.2.1
  obtain rfl : La = 0 := by omega
  obtain rfl : Lb = 0 := by omega
  obtain ⟨h1, h2, h3, h4⟩ := sum_all ha hb hx hy ox oy (by omega) (by omega) h64
  refine ⟨rfl, rfl, h1, by omega, ?_⟩
  unfold ggN
  rw [List.length_append]
  omega
end
section
variable {A1 A2 : Option Addr} {c1 c2 : Nat} {sa ma : List Int} {La : Int} {B1 B2 : Option Addr} {d1 d2 : Nat} {sb mb : List Int} {Lb : Int} {W0 W : World}
theorem sum_any (ha : IsD sa ma La) (hb : IsD sb mb Lb) (ga : ((graphL ma sa.length).length : Int) + La = 1) (gb : ((graphL mb sb.length).length : Int) + Lb = 1) (h64 : sa.length + sb.length ≤ 64)
    (hx : RI W0 (· < W0.heap.size) A1 sa) (hy : RI W0 (· < W0.heap.size) A2 ma) (hu : RI W0 (· < W0.heap.size) B1 sb) (hv : RI W0 (· < W0.heap.size) B2 mb) {x y : Int} (he : EndN sa ma x) (hf : EndN sb mb y) (hB : Below W0.heap.size W0 W) :
    Calls Try.prog 28 #[.agg #[.slice A1 sa.length c1, .slice A2 ma.length c2, .int .i64 La], .int .i64 x, .agg #[.slice B1 sb.length d1, .slice B2 mb.length d2, .int .i64 Lb], .int .i64 y] W fun e w' =>
      ∃ P1 p1 P2 p2 sc mc Lc, e = .returned (.tuple #[.agg #[.slice P1 sc.length p1, .slice P2 mc.length p2, .int .i64 Lc], .int .i64 0]) ∧ SumG sa ma La sb mb Lb sc mc Lc ∧ Two w' W0.heap.size (.slice P1 sc.length p1) (.slice P2 mc.length p2) sc mc ∧ Below W0.heap.size W0 w' ∧ Below W.heap.size W w' ∧ W0.heap.size ≤ W.heap.size := by
  have r1 := hx.below hB
  have r2 := hy.below hB
  have r3 := hu.below hB
  have r4 := hv.below hB
  have hS : ∀ b, b < W0.heap.size → b < W.heap.size := fun b hb => Nat.lt_of_lt_of_le hb hB.size
  have LL : sa.length = 0 ∨ sb.length = 0 → ∀ (P : La = 1 ∨ Lb = 1) , La + Lb ≤ 64 := fun _ P => by
    have h1 : (0 : Int) ≤ (graphL ma sa.length).length := Int.natCast_nonneg _
    have h2 : (0 : Int) ≤ (graphL mb sb.length).length := Int.natCast_nonneg _
    omega
  by_cases h0 : sa.length = 0 ∨ sb.length = 0
  · have hL : La = 1 ∨ Lb = 1 := by
      rcases h0 with h | h
      · exact .inl (sumg_nilA ha hb ga gb h).1
      · exact .inr (sumg_nilB ha hb ga gb h).1
    have hG : SumG sa ma La sb mb Lb (sa ++ sb) (unM ma mb) (La + Lb - 1) := by
      rcases h0 with h | h
      · exact (sumg_nilA ha hb ga gb h).2
      · exact (sumg_nilB ha hb ga gb h).2
    have e1 : EndP sa ma La x := by
      rcases he with ⟨h, rfl⟩ | h
      · exact .inl ⟨rfl, by have := (sumg_nilA ha hb ga gb h).1; omega⟩
      · exact .inr h
    have e2 : EndP sb mb Lb y := by
      rcases hf with ⟨h, rfl⟩ | h
      · exact .inl ⟨rfl, by have := (sumg_nilB ha hb ga gb h).1; omega⟩
      · exact .inr h
    have hxy : x = -1 ∨ y = -1 := by
      rcases h0 with h | h
      · rcases he with ⟨-, r⟩ | ⟨h', -, h2, -⟩
        · exact .inl r
        · have := ha.2.1; omega
      · rcases hf with ⟨-, r⟩ | ⟨h', -, h2, -⟩
        · exact .inr r
        · have := hb.2.1; omega
    refine (sum_loop A1 A2 c1 c2 sa ma La B1 B2 d1 d2 sb mb Lb W (· < W0.heap.size) r1 r2 r3 r4 hS ha hb h64 (LL h0 hL) x y e1 e2 hxy).mono ?_
    rintro e w' ⟨v1, v2, rfl, hF, hb'⟩
    obtain ⟨P1, p1, rfl, -, -, -⟩ := hF.os.shape
    obtain ⟨P2, p2, rfl, -, -, -⟩ := hF.om.shape
    exact ⟨P1, p1, P2, p2, _, _, _, rfl, hG, ⟨hF.os.mono hB.size, hF.om.mono hB.size, hF.ne⟩, hB.trans (hb'.mono hB.size), hb', hB.size⟩
  · rcases he with ⟨h, -⟩ | ⟨p, rfl, hp, op⟩
    · exact absurd (.inl h) h0
    · rcases hf with ⟨h, -⟩ | ⟨q, rfl, hq, oq⟩
      · exact absurd (.inr h) h0
      · obtain ⟨l1, l2, hG⟩ := sumg_main ha hb ga gb hp hq op oq h64
        refine (sum_main A1 A2 c1 c2 sa ma La B1 B2 d1 d2 sb mb Lb W (· < W0.heap.size) r1 r2 r3 r4 hS ha hb h64 (by omega) p q hp hq op oq).mono ?_
        rintro e w' ⟨v1, v2, rfl, hF, hb'⟩
        obtain ⟨P1, p1, rfl, -, -, -⟩ := hF.os.shape
        obtain ⟨P2, p2, rfl, -, -, -⟩ := hF.om.shape
        exact ⟨P1, p1, P2, p2, _, _, _, rfl, hG, ⟨hF.os.mono hB.size, hF.om.mono hB.size, hF.ne⟩, hB.trans (hb'.mono hB.size), hb', hB.size⟩
theorem lout2 (ha : IsD sa ma La) (hx : RI W0 (· < W0.heap.size) A1 sa) (hy : RI W0 (· < W0.heap.size) A2 ma) {k : Int} (hk : 0 ≤ k ∧ k ≤ 255) (hB : Below W0.heap.size W0 W) :
    Calls Try.prog 29 #[.agg #[.slice A1 sa.length c1, .slice A2 ma.length c2, .int .i64 La], .int .u8 k] W fun e w' => ∃ x : Int, e = .returned (.int .i64 x) ∧ EndN sa ma x ∧ Below W0.heap.size W0 w' ∧ Below W.heap.size W w' ∧ W0.heap.size ≤ W.heap.size := by
  refine (lout_any A1 A2 c1 c2 sa ma La W (· < W0.heap.size) (hx.below hB) (hy.below hB) (fun b hb => Nat.lt_of_lt_of_le hb hB.size) k hk ha).mono ?_
  rintro e w' ⟨x, rfl, h, hb'⟩
  exact ⟨x, rfl, h, hB.trans (hb'.mono hB.size), hb', hB.size⟩
end
/-- the law's two boxes -/
structure SuS (w wr : World) (A1 A2 : Option Addr) (c1 c2 : Nat) (sa ma : List Int) (La : Int) (B1 B2 : Option Addr) (d1 d2 : Nat) (sb mb : List Int) (Lb : Int) : Prop where
  da : DBox wr w.heap.size A1 A2 c1 c2 sa ma La
  db : DBox wr (w.heap.size + 1) B1 B2 d1 d2 sb mb Lb
  bel : Below w.heap.size w wr
section
variable {w wr w' : World} {A1 A2 : Option Addr} {c1 c2 : Nat} {sa ma : List Int} {La : Int} {B1 B2 : Option Addr} {d1 d2 : Nat} {sb mb : List Int} {Lb : Int}
theorem SuS.call (h : SuS w wr A1 A2 c1 c2 sa ma La B1 B2 d1 d2 sb mb Lb) (hb : Below wr.heap.size wr w') : SuS w w' A1 A2 c1 c2 sa ma La B1 B2 d1 d2 sb mb Lb :=
  ⟨h.da.below hb, h.db.below hb, h.bel.trans (hb.mono h.bel.size)⟩
theorem SuS.start (S : Nat → Prop) (hx : RI w S A1 sa) (hy : RI w S A2 ma) (hu : RI w S B1 sb) (hv : RI w S B2 mb) (hS : ∀ b, S b → b < w.heap.size) :
    SuS w ((w.alloc (.cells #[.slice A1 sa.length c1, .slice A2 ma.length c2, .int .i64 La] 24)).alloc (.cells #[.slice B1 sb.length d1, .slice B2 mb.length d2, .int .i64 Lb] 24)) A1 A2 c1 c2 sa ma La B1 B2 d1 d2 sb mb Lb := by
  have hb0 : Below w.heap.size w (w.alloc (.cells #[.slice A1 sa.length c1, .slice A2 ma.length c2, .int .i64 La] 24)) := (Below.refl _ _).alloc (Nat.le_refl _) _
  have hs0 : (w.alloc (.cells #[.slice A1 sa.length c1, .slice A2 ma.length c2, .int .i64 La] 24)).heap.size = w.heap.size + 1 := by simp
  have da := DBox.start (c1 := c1) (c2 := c2) (L := La) S hx hy hS
  obtain ⟨w1, hw1⟩ : ∃ w1, w.alloc (.cells #[.slice A1 sa.length c1, .slice A2 ma.length c2, .int .i64 La] 24) = w1 := ⟨_, rfl⟩
  rw [hw1] at hb0 hs0 da ⊢
  have db := DBox.start (c1 := d1) (c2 := d2) (L := Lb) S (hu.keep fun b hb => hb0.block b (hS b hb)) (hv.keep fun b hb => hb0.block b (hS b hb)) (fun b hb => Nat.lt_of_lt_of_le (hS b hb) hb0.size)
  have hb1 : Below w1.heap.size w1 (w1.alloc (.cells #[.slice B1 sb.length d1, .slice B2 mb.length d2, .int .i64 Lb] 24)) := (Below.refl _ _).alloc (Nat.le_refl _) _
  rw [hs0] at db
  exact ⟨da.below hb1, db, hb0.trans (hb1.mono hb0.size)⟩
theorem keepS (h : Hid (SuS w wr A1 A2 c1 c2 sa ma La B1 B2 d1 d2 sb mb Lb)) (hb : Below wr.heap.size wr w') :
    Hid (SuS w w' A1 A2 c1 c2 sa ma La B1 B2 d1 d2 sb mb Lb) ∧ w'.cell? ⟨w.heap.size, 0, none⟩ = some (.slice A1 sa.length c1) ∧ w'.cell? ⟨w.heap.size, 1, none⟩ = some (.slice A2 ma.length c2) ∧ w'.cell? ⟨w.heap.size, 2, none⟩ = some (.int .i64 La) ∧ w'.cell? ⟨w.heap.size + 1, 0, none⟩ = some (.slice B1 sb.length d1) ∧ w'.cell? ⟨w.heap.size + 1, 1, none⟩ = some (.slice B2 mb.length d2) ∧ w'.cell? ⟨w.heap.size + 1, 2, none⟩ = some (.int .i64 Lb) := by
  have h' := h.out.call hb
  exact ⟨Lib.hid h', h'.da.c0, h'.da.c1, h'.da.c2, h'.db.c0, h'.db.c1, h'.db.c2⟩
end
end Go.Proofs.Ytaghemilihaiaaa

