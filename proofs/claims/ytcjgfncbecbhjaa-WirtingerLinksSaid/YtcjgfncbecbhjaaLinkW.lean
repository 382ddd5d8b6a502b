/-
  The contracts of linking.sum and linking.Number.
-/
import Derived.Test.YtcjgfncbecbhjaaLink
import Derived.Test.YtcjgfncbecbhjaaComp
namespace Go.Proofs.Ytcjgfncbecbhjaa
open Go.RowKit Go.Maps

/-- what Number keeps -/
def kpB (i k u o : Int) : Bool := (u == i && o == k) || (u == k && o == i)
set_option maxHeartbeats 1000000 in
theorem keep_any (bi bk : Nat) (i k u o : Int) (w : World) (h1 : w.cell? ⟨bi, 0, none⟩ = some (.int .i64 i)) (h2 : w.cell? ⟨bk, 0, none⟩ = some (.int .i64 k)) :
    Calls Try.prog 74 #[.int .i64 u, .int .i64 o, .pointer (some ⟨bi, 0, none⟩), .pointer (some ⟨bk, 0, none⟩)] w fun e w' => e = .returned (.bool (kpB i k u o)) ∧ w = w' := by
  unfold kpB
  cases e1 : (u == i) <;> cases e2 : (o == k) <;> cases e3 : (u == k) <;> cases e4 : (o == i)
  all_goals
    go_enter Try.func74, Try.ntmps74
    go_wp2_with fail
    go_ret
    exact ⟨rfl, rfl⟩
theorem enKp : Enters 74 := enters_of Try.func74 (by kernel_rfl) rfl
theorem enAdd : Enters 86 := enters_of Try.func86 (by kernel_rfl) rfl

/-- while the signs are added -/
structure SmS (w wr : World) (b2 b3 b5 b6 bm n bi bk : Nat) (D : DataW Unit) (A1 : Option Addr) (c1 : Nat) (sg : List Int) (i k t : Int) : Prop where
  bel : Below w.heap.size w wr
  c0 : wr.cell? ⟨b2, 0, none⟩ = some (.slice A1 sg.length c1)
  rs : RI wr (· < w.heap.size) A1 sg
  kp : wr.cell? ⟨b3, 0, none⟩ = some (.func (.func 74) #[] #[.pointer (some ⟨bi, 0, none⟩), .pointer (some ⟨bk, 0, none⟩)])
  at_ : wr.cell? ⟨b5, 0, none⟩ = some (.map (some bm))
  map : wr.ownsMap Try.prog 3 pairR bm n D
  ci : wr.cell? ⟨bi, 0, none⟩ = some (.int .i64 i)
  ck : wr.cell? ⟨bk, 0, none⟩ = some (.int .i64 k)
  tot : wr.cell? ⟨b6, 0, none⟩ = some (.int .i64 t)
  fr : wr.frozen? ⟨b6, 0, none⟩ = false
  lm : bm < wr.heap.size
  ne : b2 ≠ b6 ∧ b3 ≠ b6 ∧ b5 ≠ b6 ∧ bm ≠ b6 ∧ bi ≠ b6 ∧ bk ≠ b6 ∧ w.heap.size ≤ b6
theorem SmS.step {w wr w' : World} {b2 b3 b5 b6 bm n bi bk : Nat} {D : DataW Unit} {A1 : Option Addr} {c1 : Nat} {sg : List Int} {i k t t' : Int} (h : SmS w wr b2 b3 b5 b6 bm n bi bk D A1 c1 sg i k t)
    (hb : Below w.heap.size wr w') (hk : ∀ b, b < wr.heap.size → b ≠ b6 → w'.heap[b]? = wr.heap[b]?) (ht : w'.cell? ⟨b6, 0, none⟩ = some (.int .i64 t')) (hf : w'.frozen? ⟨b6, 0, none⟩ = false) : SmS w w' b2 b3 b5 b6 bm n bi bk D A1 c1 sg i k t' := by
  obtain ⟨n2, n3, n5, nm, ni, nk, n6⟩ := h.ne
  have hc : ∀ {b : Nat} {v : Value}, wr.cell? ⟨b, 0, none⟩ = some v → b ≠ b6 → w'.cell? ⟨b, 0, none⟩ = some v := fun {b v} hv hne =>
    (World.cell?_of_block (a := ⟨b, 0, none⟩) (hk b (World.block_lt_of_cell? wr _ hv) hne)).trans hv
  have hz := h.bel.size
  have hsz : wr.heap.size ≤ w'.heap.size := hb.size
  exact ⟨h.bel.trans hb, hc h.c0 n2, h.rs.keep fun b hb2 => hk b (by omega) (by omega), hc h.kp n3, hc h.at_ n5, ownsMap_same h.map (hk bm h.lm nm), hc h.ci ni, hc h.ck nk, ht, hf, by have := h.lm; omega, h.ne⟩

set_option maxRecDepth 100000 in
set_option maxHeartbeats 4000000 in
theorem add_any {w wr : World} {b2 b3 b5 b6 bm n bi bk : Nat} {D : DataW Unit} {U O : Nat → Nat} {A1 : Option Addr} {c1 : Nat} {sg : List Int} {i k t : Int} (h : SmS w wr b2 b3 b5 b6 bm n bi bk D A1 c1 sg i k t) (hpm : PmD D U O)
    (hs : SgM sg) (hn : sg.length ≤ 64) (c : Nat) (hc : c < sg.length) (ht : -100 ≤ t ∧ t ≤ 100) {t' : Int} (ht' : t' = t + if kpB i k (U c) (O c) = true then gi sg c else 0) :
    Calls Try.prog 86 #[.int .i64 c, .pointer (some ⟨b5, 0, none⟩), .pointer (some ⟨b3, 0, none⟩), .pointer (some ⟨b6, 0, none⟩), .pointer (some ⟨b2, 0, none⟩)] wr fun e w' => (∃ v, e = .returned v) ∧
      SmS w w' b2 b3 b5 b6 bm n bi bk D A1 c1 sg i k t' := by
  have HS := Lib.hid h
  have hkey := key_int (show c ≤ 1099511627776 by omega)
  have hlk := look_pair h.map hkey (hpm.at_ c)
  have q0 := h.c0
  have q1 := h.kp
  have q2 := h.at_
  obtain ⟨u, hu⟩ : ∃ u, U c = u := ⟨_, rfl⟩
  obtain ⟨o, ho⟩ : ∃ o, O c = o := ⟨_, rfl⟩
  rw [hu, ho] at hlk ht'
  have HT := Lib.hid ht'
  have hsn := hs c hc
  have wt : IntKind.i64.wrap (t + gi sg c) = t + gi sg c := IntWalk.i64_in _ (by omega)
  have hz := h.bel.size
  have hb6 : b6 < wr.heap.size := World.block_lt_of_cell? wr _ h.tot
  have hin : ∀ (args : Array Value) (w : World), (callFunc 74 args).run Try.prog w = .ok (.enter 74 args) w := enKp
  have HK : Hid (∀ ob : Obj, Calls Try.prog 74 #[.int .i64 u, .int .i64 o, .pointer (some ⟨bi, 0, none⟩), .pointer (some ⟨bk, 0, none⟩)] (wr.alloc ob) fun e w' => e = .returned (.bool (kpB i k u o)) ∧ (wr.alloc ob) = w') := fun ob =>
    keep_any bi bk i k u o (wr.alloc ob) ((World.cell?_of_block (a := ⟨bi, 0, none⟩) (Below.heap_alloc wr ob bi (World.block_lt_of_cell? wr _ h.ci))).trans h.ci) ((World.cell?_of_block (a := ⟨bk, 0, none⟩) (Below.heap_alloc wr ob bk (World.block_lt_of_cell? wr _ h.ck))).trans h.ck)
  have q3 : ∀ ob : Obj, (wr.alloc ob).cell? ⟨b3, 0, none⟩ = some (.func (.func 74) #[] #[.pointer (some ⟨bi, 0, none⟩), .pointer (some ⟨bk, 0, none⟩)]) := fun ob =>
    (World.cell?_of_block (a := ⟨b3, 0, none⟩) (Below.heap_alloc wr ob b3 (World.block_lt_of_cell? wr _ h.kp))).trans h.kp
  have q4 : ∀ ob : Obj, (wr.alloc ob).cell? ⟨b6, 0, none⟩ = some (.int .i64 t) := fun ob => (World.cell?_of_block (a := ⟨b6, 0, none⟩) (Below.heap_alloc wr ob b6 hb6)).trans h.tot
  have q5 : ∀ ob : Obj, (wr.alloc ob).cell? ⟨b2, 0, none⟩ = some (.slice A1 sg.length c1) := fun ob => (World.cell?_of_block (a := ⟨b2, 0, none⟩) (Below.heap_alloc wr ob b2 (World.block_lt_of_cell? wr _ h.c0))).trans h.c0
  obtain ⟨b, off, rfl, hbS, hcc⟩ := h.rs.at_ hc
  have q6 : ∀ ob : Obj, (wr.alloc ob).cell? ⟨b, off + c, none⟩ = some (.int .i64 (gi sg c)) := fun ob => (World.cell?_of_block (a := ⟨b, off + c, none⟩) (Below.heap_alloc wr ob b (by omega))).trans (hcc c hc)
  have q7 : ∀ ob : Obj, (wr.alloc ob).frozen? ⟨b6, 0, none⟩ = false := fun ob => by
    have := h.fr
    simp only [World.frozen?] at this ⊢
    rw [Below.heap_alloc wr ob b6 hb6]; exact this
  clear h hpm hcc hsn hs hu ho ht'
  go_enter Try.func86, Try.ntmps86
  go_wp2_with fail
  refine (HK.out _).mono ?_
  rintro e w9 ⟨rfl, rfl⟩
  cases hq : kpB i k (u : Int) (o : Int)
  · have HTT := Lib.hid (show t' = t by rw [HT.out, hq]; simp)
    clear hq HT
    have HS' := Lib.hid (HS.out.step ((Below.refl _ _).alloc hz _) (fun b hb _ => Below.heap_alloc wr _ b hb) (q4 (.cells #[.int .i64 u, .int .i64 o] 95)) (q7 _))
    clear q0 q1 q2 q3 q4 q5 q6 q7 hlk
    go_wp2_with fail
    go_end0
    exact ⟨⟨_, rfl⟩, by rw [HTT.out]; exact HS'.out⟩
  · have HTT := Lib.hid (show t' = t + gi sg c by rw [HT.out, hq]; simp)
    clear hq HT
    have k1 := q4 (.cells #[.int .i64 u, .int .i64 o] 95)
    have k2 := q5 (.cells #[.int .i64 u, .int .i64 o] 95)
    have k3 := q6 (.cells #[.int .i64 u, .int .i64 o] 95)
    have k4 := q7 (.cells #[.int .i64 u, .int .i64 o] 95)
    have i0 : (0 : Int) ≤ (c : Int) ∧ (c : Int) < (sg.length : Int) := by omega
    obtain ⟨W, hW⟩ : ∃ W, ((wr.setCell ⟨b6, 0, none⟩ (.int .i64 (t + gi sg c))).alloc (.cells #[.int .i64 u, .int .i64 o] 95)).drew = W := ⟨_, rfl⟩
    have HS' : Hid (SmS w W b2 b3 b5 b6 bm n bi bk D (some ⟨b, off, none⟩) c1 sg i k (t + gi sg c)) := by
      have hz2 : wr.heap.size ≤ (wr.setCell ⟨b6, 0, none⟩ (.int .i64 (t + gi sg c))).heap.size := by rw [World.size_setCell]; exact Nat.le_refl _
      have hb6' : b6 < (wr.setCell ⟨b6, 0, none⟩ (.int .i64 (t + gi sg c))).heap.size := by omega
      rw [← hW]
      refine HS.out.step ((((Below.refl _ _).setCell HS.out.ne.2.2.2.2.2.2 _).alloc (by omega) _).drew) (fun b hb hne => (Below.heap_alloc _ _ b (by omega)).trans (Below.heap_setCell wr _ _ b hne)) ?_ ?_
      · exact (World.cell?_of_block (a := ⟨b6, 0, none⟩) (Below.heap_alloc _ _ b6 hb6')).trans (World.cell?_setCell_same _ _ _ HS.out.tot)
      · have h1 : (wr.setCell ⟨b6, 0, none⟩ (.int .i64 (t + gi sg c))).frozen? ⟨b6, 0, none⟩ = false := (World.frozen?_setCell _ _ _ _).trans HS.out.fr
        show ((wr.setCell ⟨b6, 0, none⟩ (.int .i64 (t + gi sg c))).alloc _).frozen? ⟨b6, 0, none⟩ = false
        simp only [World.frozen?] at h1 ⊢
        rw [Below.heap_alloc _ _ b6 hb6']; exact h1
    clear q0 q1 q2 q3 q4 q5 q6 q7 hlk
    go_wp2_with fail
    go_region
    go_wp2_with fail
    go_end0
    refine ⟨⟨_, rfl⟩, ?_⟩
    rw [HTT.out]
    exact HS'.out

theorem box1_cell (w : World) (v : Value) (ty : TypeId) : (w.alloc (.cells #[v] ty)).cell? ⟨w.heap.size, 0, none⟩ = some v := by
  have h := heap_alloc_new w (.cells #[v] ty)
  rw [cell_of_row _ _ _ _ _ _ h]; rfl
theorem box1_free (w : World) (v : Value) (ty : TypeId) : (w.alloc (.cells #[v] ty)).frozen? ⟨w.heap.size, 0, none⟩ = false := by
  have h : (w.alloc (.cells #[v] ty)).heap[w.heap.size]? = some (.cells #[v] ty) := heap_alloc_new w (.cells #[v] ty)
  unfold World.frozen?
  rw [h]; rfl
/-- the sum of the signs that are kept, over the first c crossings -/
def kpS (sg mt : List Int) (i k : Int) (c : Nat) : Int := sumN (fun c => if kpB i k (sI sg mt (4 * c) : Int) (sI sg mt (4 * c + 1) : Int) = true then gi sg c else 0) c
theorem kpS_succ (sg mt : List Int) (i k : Int) (c : Nat) : kpS sg mt i k (c + 1) = kpS sg mt i k c + if kpB i k (sI sg mt (4 * c) : Int) (sI sg mt (4 * c + 1) : Int) = true then gi sg c else 0 := rfl
theorem kpS_bd {sg mt : List Int} {i k : Int} (hs : SgM sg) : ∀ c, c ≤ sg.length → -(c : Int) ≤ kpS sg mt i k c ∧ kpS sg mt i k c ≤ c := by
  intro c
  induction c with
  | zero => intro _; simp [kpS, sumN]
  | succ c ih =>
    intro hc
    have h1 := ih (by omega)
    have h2 := hs c (by omega)
    rw [kpS_succ]
    split <;> omega
section
variable (A1 A2 : Option Addr) (c1 c2 : Nat) (sg mt : List Int) (L : Int) (w : World) (S : Nat → Prop) (hx : RI w S A1 sg) (hy : RI w S A2 mt) (hS : ∀ b, S b → b < w.heap.size)
include hx hy hS
set_option maxRecDepth 100000 in
set_option maxHeartbeats 8000000 in
theorem lsum_ok (hd : IsD sg mt L) (bi bk : Nat) (i k : Int) (hi : w.cell? ⟨bi, 0, none⟩ = some (.int .i64 i)) (hk : w.cell? ⟨bk, 0, none⟩ = some (.int .i64 k)) :
    Calls Try.prog 73 #[.agg #[.slice A1 sg.length c1, .slice A2 mt.length c2, .int .i64 L], (.func (.func 74) #[] #[.pointer (some ⟨bi, 0, none⟩), .pointer (some ⟨bk, 0, none⟩)])] w fun e w' => e = .returned (.int .i64 (kpS sg mt i k sg.length)) ∧ Below w.heap.size w w' := by
  have HD := Lib.hid (DBox.start (c1 := c1) (c2 := c2) (L := L) S hx hy hS)
  have H := Lib.hid hd
  have hsg := hd.1
  have hBK := (Below.refl _ (w.alloc (.cells #[.slice A1 sg.length c1, .slice A2 mt.length c2, .int .i64 L] 24))).alloc (Nat.le_refl _) (.cells #[(.func (.func 74) #[] #[.pointer (some ⟨bi, 0, none⟩), .pointer (some ⟨bk, 0, none⟩)])] 86)
  have HD1 := Lib.hid (HD.out.below hBK)
  have HX := Lib.hid (hx.imp (T := (· < w.heap.size)) hS)
  have HCI := Lib.hid hi
  have HCK := Lib.hid hk
  have HLI := Lib.hid (World.block_lt_of_cell? w _ hi)
  have HLK := Lib.hid (World.block_lt_of_cell? w _ hk)
  have q0 := HD1.out.c0
  have q1 := HD1.out.c1
  have q2 := HD1.out.c2
  clear hx hy hS hd hBK hi hk
  go_enter Try.func73, Try.ntmps73
  go_wp2_with fail
  refine (at_ok A1 A2 c1 c2 sg mt L _ (· < ((w.alloc (.cells #[.slice A1 sg.length c1, .slice A2 mt.length c2, .int .i64 L] 24)).alloc (.cells #[(.func (.func 74) #[] #[.pointer (some ⟨bi, 0, none⟩), .pointer (some ⟨bk, 0, none⟩)])] 86)).heap.size) HD1.out.rs HD1.out.rm (fun _ h => h) H.out).mono ?_
  rintro e w1 ⟨bm, n, D, rfl, hb1, hb2, hmp, hpm, hb⟩
  have HD2 := Lib.hid (HD1.out.below hb)
  have hz := hb.size
  have hz2 : w.heap.size + 2 ≤ w1.heap.size := by simp at hz; omega
  have hB2 := ((Below.refl _ w1).alloc (Nat.le_refl _) (.cells #[.map (some bm)] 93)).alloc (by simp) (.cells #[.int .i64 0] 3)
  have hB0 : Below w.heap.size w w1 := (((Below.refl w.heap.size w).alloc (Nat.le_refl _) (.cells #[.slice A1 sg.length c1, .slice A2 mt.length c2, .int .i64 L] 24)).alloc (by simp) (.cells #[(.func (.func 74) #[] #[.pointer (some ⟨bi, 0, none⟩), .pointer (some ⟨bk, 0, none⟩)])] 86)).trans (hb.mono (by simp; omega))
  have hBB := hB0.trans (hB2.mono hB0.size)
  have hbm0 : w.heap.size + 2 ≤ bm := by simp at hb1; omega
  have hckp : w1.cell? ⟨w.heap.size + 1, 0, none⟩ = some (.func (.func 74) #[] #[.pointer (some ⟨bi, 0, none⟩), .pointer (some ⟨bk, 0, none⟩)]) := by
    have h1 := box1_cell (w.alloc (.cells #[.slice A1 sg.length c1, .slice A2 mt.length c2, .int .i64 L] 24)) (.func (.func 74) #[] #[.pointer (some ⟨bi, 0, none⟩), .pointer (some ⟨bk, 0, none⟩)]) 86
    have e : (w.alloc (.cells #[.slice A1 sg.length c1, .slice A2 mt.length c2, .int .i64 L] 24)).heap.size = w.heap.size + 1 := by simp
    rw [e] at h1
    exact (World.cell?_of_block (a := ⟨w.heap.size + 1, 0, none⟩) (hb.block _ (by simp))).trans h1
  have hcat : (w1.alloc (.cells #[.map (some bm)] 93)).cell? ⟨w1.heap.size, 0, none⟩ = some (.map (some bm)) := box1_cell w1 _ _
  have HS0 : Hid (SmS w ((w1.alloc (.cells #[.map (some bm)] 93)).alloc (.cells #[.int .i64 0] 3)) w.heap.size (w.heap.size + 1) w1.heap.size (w1.heap.size + 1) bm n bi bk D A1 c1 sg i k (kpS sg mt i k 0)) := by
    have hli := HLI.out
    have hlk := HLK.out
    have hli : bi < w.heap.size := hli
    have hlk : bk < w.heap.size := hlk
    have hb3 : bm < w1.heap.size := hb2
    refine ⟨hBB, (HD2.out.below hB2).c0, HX.out.keep fun b h => hBB.block b h, ?_, ?_, (hmp.alloc _).alloc _, ?_, ?_, ?_, ?_, Nat.lt_of_lt_of_le hb3 hB2.size, ⟨by omega, by omega, by omega, by omega, by omega, by omega, by omega⟩⟩
    · exact (World.cell?_of_block (a := ⟨w.heap.size + 1, 0, none⟩) (hB2.block (w.heap.size + 1) (by omega))).trans hckp
    · exact (World.cell?_of_block (a := ⟨w1.heap.size, 0, none⟩) (Below.heap_alloc _ _ _ (by simp))).trans hcat
    · exact (World.cell?_of_block (a := ⟨bi, 0, none⟩) (hBB.block bi hli)).trans HCI.out
    · exact (World.cell?_of_block (a := ⟨bk, 0, none⟩) (hBB.block bk hlk)).trans HCK.out
    · have h1 := box1_cell (w1.alloc (.cells #[.map (some bm)] 93)) (.int .i64 0) 3
      have e : (w1.alloc (.cells #[.map (some bm)] 93)).heap.size = w1.heap.size + 1 := by simp
      rw [e] at h1; exact h1
    · have h1 := box1_free (w1.alloc (.cells #[.map (some bm)] 93)) (.int .i64 0) 3
      have e : (w1.alloc (.cells #[.map (some bm)] 93)).heap.size = w1.heap.size + 1 := by simp
      rw [e] at h1; exact h1
  have HPM := Lib.hid hpm
  have hin : ∀ (args : Array Value) (w : World), (callFunc 86 args).run Try.prog w = .ok (.enter 86 args) w := enAdd
  clear hB2 hB0 hBB hckp hcat hmp hpm hz hb hb1 hb2 q1 q2 HD2 HD1 HD
  have q0 := HS0.out.c0
  go_wp2_with fail
  clear q0
  generalize ((w1.alloc (.cells #[.map (some bm)] 93)).alloc (.cells #[.int .i64 0] 3)) = W2 at HS0 ⊢
  obtain ⟨b5, hb5⟩ : ∃ b, w1.heap.size = b := ⟨_, rfl⟩
  rw [hb5] at HS0 ⊢
  go_loopw [15] (fun c' wr => ∃ c : Nat, c ≤ sg.length ∧ c' = .int .i64 c ∧ Hid (SmS w wr w.heap.size (w.heap.size + 1) b5 (b5 + 1) bm n bi bk D A1 c1 sg i k (kpS sg mt i k c))) (fun c' _ => sg.length - (intOf c').toNat)
  case atStart => exact ⟨0, Nat.zero_le _, rfl, HS0⟩
  case round =>
    clear HS0
    obtain ⟨c, hc, rfl, HS⟩ := hrel
    have hbd := kpS_bd (mt := mt) (i := i) (k := k) H.out.2.2.2.2.1 c hc
    by_cases hlt : c < sg.length
    · have hu := HPM.out
      have hstep := add_any HS.out HPM.out H.out.2.2.2.2.1 hsg c hlt (t' := kpS sg mt i k (c + 1)) (by omega) (by
        rw [kpS_succ, aU_end H.out hlt, aU_end H.out hlt, (sI_oe H.out hlt).1, (sI_oe H.out hlt).2])
      have HST := Lib.hid hstep
      clear hstep hu hbd
      go_wp2_with fail
      refine HST.out.mono ?_
      rintro e w9 ⟨⟨v, rfl⟩, hs9⟩
      have HS9 := Lib.hid hs9
      clear hs9 HS HST
      go_wp2_with fail
      go_roundw
      case rel => exact ⟨c + 1, by omega, by go_num, HS9⟩
      case measure => simp [intOf]; omega
    · obtain rfl : sg.length = c := by omega
      have q0 := HS.out.tot
      clear hlt hbd
      go_wp2_with fail
      go_ret
      exact ⟨rfl, HS.out.bel⟩
end
end Go.Proofs.Ytcjgfncbecbhjaa
namespace Go.Proofs.Ytcjgfncbecbhjaa
open Go.RowKit Go.Maps

theorem kpS_lk {sg mt : List Int} {L : Int} (hd : IsD sg mt L) {i k : Nat} (hne : i ≠ k) : kpS sg mt (i : Int) (k : Int) sg.length = 2 * lkU sg mt i k := by
  rw [← twice_lk hd hne]
  unfold kpS
  refine sumN_congr _ fun c _ => ?_
  have : kpB (i : Int) (k : Int) (sI sg mt (4 * c) : Int) (sI sg mt (4 * c + 1) : Int) = true ↔ (sI sg mt (4 * c) = i ∧ sI sg mt (4 * c + 1) = k) ∨ (sI sg mt (4 * c) = k ∧ sI sg mt (4 * c + 1) = i) := by
    unfold kpB
    simp only [Bool.or_eq_true, Bool.and_eq_true, beq_iff_eq]
    omega
  simp only [this]
section
variable (A1 A2 : Option Addr) (c1 c2 : Nat) (sg mt : List Int) (L : Int) (w : World) (S : Nat → Prop) (hx : RI w S A1 sg) (hy : RI w S A2 mt) (hS : ∀ b, S b → b < w.heap.size)
include hx hy hS
set_option maxRecDepth 100000 in
set_option maxHeartbeats 8000000 in
theorem number_ok (hd : IsD sg mt L) (i k : Nat) (hi : (i : Int) < ((strandsL sg mt).length : Int) + L) (hk : (k : Int) < ((strandsL sg mt).length : Int) + L) (hne : i ≠ k) :
    Calls Try.prog 42 #[.agg #[.slice A1 sg.length c1, .slice A2 mt.length c2, .int .i64 L], .int .i64 i, .int .i64 k] w fun e w' => e = .returned (.tuple #[.int .i64 (lkU sg mt i k), .int .i64 0]) ∧ Below w.heap.size w w' := by
  have HD := Lib.hid (DBox.start (c1 := c1) (c2 := c2) (L := L) S hx hy hS)
  have H := Lib.hid hd
  have hm1 : sg.length ≤ maxLen := by have := hd.1; unfold maxLen; omega
  have hm2 : mt.length ≤ maxLen := by have := hd.1; have := hd.2.1; unfold maxLen; omega
  have hbA := (Below.refl _ (w.alloc (.cells #[.slice A1 sg.length c1, .slice A2 mt.length c2, .int .i64 L] 24))).alloc (Nat.le_refl _) (.cells #[.int .i64 (i : Int)] 3)
  have HD1 := Lib.hid (HD.out.below hbA)
  have hbB := (Below.refl _ ((w.alloc (.cells #[.slice A1 sg.length c1, .slice A2 mt.length c2, .int .i64 L] 24)).alloc (.cells #[.int .i64 (i : Int)] 3))).alloc (Nat.le_refl _) (.cells #[.int .i64 (k : Int)] 3)
  have HD2 := Lib.hid (HD1.out.below hbB)
  have hc2 : (((w.alloc (.cells #[.slice A1 sg.length c1, .slice A2 mt.length c2, .int .i64 L] 24)).alloc (.cells #[.int .i64 (i : Int)] 3)).alloc (.cells #[.int .i64 (k : Int)] 3)).cell? ⟨w.heap.size + 2, 0, none⟩ = some (.int .i64 (k : Int)) := by
    have h1 := box1_cell ((w.alloc (.cells #[.slice A1 sg.length c1, .slice A2 mt.length c2, .int .i64 L] 24)).alloc (.cells #[.int .i64 (i : Int)] 3)) (.int .i64 (k : Int)) 3
    have e : ((w.alloc (.cells #[.slice A1 sg.length c1, .slice A2 mt.length c2, .int .i64 L] 24)).alloc (.cells #[.int .i64 (i : Int)] 3)).heap.size = w.heap.size + 2 := by simp
    rw [e] at h1; exact h1
  have hc1 : (((w.alloc (.cells #[.slice A1 sg.length c1, .slice A2 mt.length c2, .int .i64 L] 24)).alloc (.cells #[.int .i64 (i : Int)] 3)).alloc (.cells #[.int .i64 (k : Int)] 3)).cell? ⟨w.heap.size + 1, 0, none⟩ = some (.int .i64 (i : Int)) := by
    have h1 := box1_cell (w.alloc (.cells #[.slice A1 sg.length c1, .slice A2 mt.length c2, .int .i64 L] 24)) (.int .i64 (i : Int)) 3
    have e : (w.alloc (.cells #[.slice A1 sg.length c1, .slice A2 mt.length c2, .int .i64 L] 24)).heap.size = w.heap.size + 1 := by simp
    rw [e] at h1
    exact (World.cell?_of_block (a := ⟨w.heap.size + 1, 0, none⟩) (Below.heap_alloc _ _ _ (by simp))).trans h1
  have hBW : Below w.heap.size w (((w.alloc (.cells #[.slice A1 sg.length c1, .slice A2 mt.length c2, .int .i64 L] 24)).alloc (.cells #[.int .i64 (i : Int)] 3)).alloc (.cells #[.int .i64 (k : Int)] 3)) :=
    (((Below.refl w.heap.size w).alloc (Nat.le_refl _) _).alloc (by simp) _).alloc (by simp; omega) _
  have HC1 := Lib.hid hc1
  have HC2 := Lib.hid hc2
  have HBW := Lib.hid hBW
  have hL1 := hd.2.2.1
  have hL2 := hd.2.2.2.1
  have hnl : (strandsL sg mt).length ≤ 256 := by
    have h1 := strandsL_most sg mt
    have h2 := hd.1
    have h3 := hd.2.1
    omega
  obtain ⟨ns, hns⟩ : ∃ n, (strandsL sg mt).length = n := ⟨_, rfl⟩
  have HNS := Lib.hid hns
  rw [hns] at hi hk hnl
  have hLK := kpS_lk hd hne
  have hlb := kpS_bd (mt := mt) (i := (i : Int)) (k := (k : Int)) hd.2.2.2.2.1 sg.length (Nat.le_refl _)
  have hsg := hd.1
  obtain ⟨x, hx1⟩ : ∃ x, lkU sg mt i k = x := ⟨_, rfl⟩
  rw [hx1] at hLK ⊢
  have td : (2 * x).tdiv 2 = x := by rw [Int.mul_tdiv_cancel_left _ (by decide)]
  have HLK := Lib.hid hLK
  have hxb : -64 ≤ x ∧ x ≤ 64 := by omega
  have e1 : ((i : Int) == (k : Int)) = false := by rw [beq_eq_false_iff_ne]; omega
  have e2 : ¬ (i : Int) < 0 := by omega
  have e3 : ¬ (k : Int) < 0 := by omega
  have e4 : ¬ (ns : Int) + L ≤ (i : Int) := by omega
  have e5 : ¬ (ns : Int) + L ≤ (k : Int) := by omega
  have wx : IntKind.i64.wrap x = x := IntWalk.i64_in _ (by omega)
  clear hx hy hS hd hbA hbB hc1 hc2 hBW HD HD1 hns hLK hlb hx1 hne
  have q0 := HD2.out.c0
  have q1 := HD2.out.c1
  have q2 := HD2.out.c2
  go_enter Try.func42, Try.ntmps42
  go_wp2_with fail
  generalize (((w.alloc (.cells #[.slice A1 sg.length c1, .slice A2 mt.length c2, .int .i64 L] 24)).alloc (.cells #[.int .i64 (i : Int)] 3)).alloc (.cells #[.int .i64 (k : Int)] 3)) = w0 at HD2 HC1 HC2 HBW q0 q1 q2 ⊢
  refine (dvalid_is _ true HD2.out.rs HD2.out.rm (fun _ h => h) hm1 hm2 (decide_eq_true H.out)).mono ?_
  rintro e w1 ⟨rfl, hb⟩
  have HD3 := Lib.hid (HD2.out.below hb)
  have HB3 := Lib.hid (HBW.out.trans (hb.mono HBW.out.size))
  have HI3 := Lib.hid ((World.cell?_of_block (a := ⟨w.heap.size + 1, 0, none⟩) (hb.block _ (World.block_lt_of_cell? _ _ HC1.out))).trans HC1.out)
  have HK3 := Lib.hid ((World.cell?_of_block (a := ⟨w.heap.size + 2, 0, none⟩) (hb.block _ (World.block_lt_of_cell? _ _ HC2.out))).trans HC2.out)
  clear hb q0 q1 q2 HD2 HBW HC1 HC2 hm1 hm2
  have q0 := HD3.out.c0
  have q1 := HD3.out.c1
  have q2 := HD3.out.c2
  go_wp2_with fail
  refine (components_ok A1 A2 c1 c2 sg mt L w1 (· < w1.heap.size) HD3.out.rs HD3.out.rm (fun _ h => h) H.out).mono ?_
  rintro e w2 ⟨rfl, hb⟩
  rw [HNS.out]
  have HD4 := Lib.hid (HD3.out.below hb)
  have HB4 := Lib.hid (HB3.out.trans (hb.mono HB3.out.size))
  have HI4 := Lib.hid ((World.cell?_of_block (a := ⟨w.heap.size + 1, 0, none⟩) (hb.block _ (World.block_lt_of_cell? _ _ HI3.out))).trans HI3.out)
  have HK4 := Lib.hid ((World.cell?_of_block (a := ⟨w.heap.size + 2, 0, none⟩) (hb.block _ (World.block_lt_of_cell? _ _ HK3.out))).trans HK3.out)
  clear hb q0 q1 q2 HD3 HB3 HI3 HK3
  have q0 := HD4.out.c0
  have q1 := HD4.out.c1
  have q2 := HD4.out.c2
  have q3 := HI4.out
  have q4 := HK4.out
  go_wp2_with fail
  refine (lsum_ok A1 A2 c1 c2 sg mt L w2 (· < w2.heap.size) HD4.out.rs HD4.out.rm (fun _ h => h) H.out _ _ _ _ q3 q4).mono ?_
  rintro e w3 ⟨rfl, hb⟩
  rw [HLK.out]
  have HB5 := Lib.hid (HB4.out.trans (hb.mono HB4.out.size))
  clear hb q0 q1 q2 q3 q4
  go_wp2_with fail
  go_ret2
  exact ⟨rfl, HB5.out⟩
end
end Go.Proofs.Ytcjgfncbecbhjaa

