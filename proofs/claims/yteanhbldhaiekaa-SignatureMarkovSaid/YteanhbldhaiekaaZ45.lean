/-
  slices.Insert of two letters at a word of the call's own.
-/
import Derived.Test.YteanhbldhaiekaaZ44
namespace Go.Proofs.Yteanhbldhaiekaa
open Go.RowKit Go.Shelf

theorem sz_setCells (b : Nat) : ∀ (vs : List Value) (o : Nat) (w : World), (w.setCells b o vs).heap.size = w.heap.size
  | [], _, _ => rfl
  | v :: r, o, w => by rw [World.setCells, sz_setCells b r, World.size_setCell]
theorem hp_setCells (b : Nat) : ∀ (vs : List Value) (o : Nat) (w : World) (k : Nat), k ≠ b → (w.setCells b o vs).heap[k]? = w.heap[k]?
  | [], _, _, _, _ => rfl
  | v :: r, o, w, k, h => by rw [World.setCells, hp_setCells b r _ _ k h, Below.heap_setCell _ _ _ k h]
theorem bl_setCells {B b : Nat} {u : World} (hB : B ≤ b) : ∀ (vs : List Value) (o : Nat) (w : World), Below B u w → Below B u (w.setCells b o vs)
  | [], _, _, h => h
  | _ :: r, _, _, h => bl_setCells hB r _ _ (h.setCell hB _)
/-- what Insert hands back: a word in its own old block or in a new one -/
def InsPost (B : Nat) (own : Option Nat) (w : World) (xs : List Int) (i : Nat) (y z : Int) (e : Ending) (w' : World) : Prop :=
  ∃ (A' : Option Addr) (c' : Nat), e = .returned (.slice A' (xs.length + 2) c') ∧ RI w' (fun b => own = some b ∨ (w.heap.size ≤ b ∧ b < w'.heap.size)) A' (xs.take i ++ y :: z :: xs.drop i) ∧ (∀ b, own ≠ some b → b < w.heap.size → w'.heap[b]? = w.heap[b]?) ∧ w.heap.size ≤ w'.heap.size ∧ Below B w w'
theorem mp_gi {xs : List Int} {k : Nat} (hk : k < xs.length) : (xs.map (Value.int .i64))[k]? = some (.int .i64 (gi xs k)) := by
  simp [gi, hk]
theorem ins_map (xs : List Int) (i : Nat) (y z : Int) : (xs.take i ++ y :: z :: xs.drop i).map (Value.int .i64) = (xs.map (Value.int .i64)).take i ++ ([Value.int .i64 y, .int .i64 z] ++ (xs.map (Value.int .i64)).drop i) := by
  simp [List.map_take, List.map_drop]
theorem ins_len (xs : List Int) {i : Nat} (hi : i ≤ xs.length) (y z : Int) : (xs.take i ++ y :: z :: xs.drop i).length = xs.length + 2 := by
  simp only [List.length_append, List.length_take, List.length_cons, List.length_drop]
  omega
section
variable {w : World} {B vb d1 : Nat} {xs : List Int} {y z : Int}
theorem ins_end {A1 : Option Addr} (h : OI w B (.slice A1 xs.length d1) xs) (hB : B ≤ w.heap.size) (hm : xs.length ≤ 1000) (hv : ∀ j v, ([Value.int .i64 y, .int .i64 z] : List Value)[j]? = some v → w.cell? ⟨vb, 0 + j, none⟩ = some v) (hroom : d1 < xs.length + 2) :
    Calls Try.prog 77 #[.slice A1 xs.length d1, .int .i64 xs.length, .slice (some ⟨vb, 0, none⟩) 2 2] w (InsPost B (Value.slice A1 xs.length d1).ownBlock w xs xs.length y z) := by
  have hcell : ∀ a, A1 = some a → ∀ j v, (xs.map (Value.int .i64))[j]? = some v → w.cell? (a.add j) = some v := fun a ha j v hj => by
    have hlt : j < xs.length := by
      have := (List.getElem?_eq_some_iff.1 hj).1
      simpa using this
    subst ha
    obtain ⟨g, c, h1, -, -, -, -, hc, -⟩ := h.ints (by omega)
    injection h1 with h1
    injection h1 with h1
    subst h1
    rw [Addr.add_lit, Nat.zero_add]
    rw [mp_gi hlt] at hj
    rw [hc j hlt]
    exact hj
  have hnil : A1 = none → xs.length = 0 := fun e => by
    rcases Nat.eq_zero_or_pos xs.length with h0 | h0
    · exact h0
    · obtain ⟨g, c, h1, -⟩ := h.ints h0
      rw [e] at h1
      cases h1
  obtain ⟨_, _, h5, hle, -, -⟩ := h.reads
  injection h5 with _ _ h5
  subst h5
  refine (Any2.slices_Insert_int_end_grow layI A1 xs.length d1 vb 0 2 2 (xs.map (Value.int .i64)) [.int .i64 y, .int .i64 z] w (by omega) hle hroom (by omega) (by simp) rfl hnil hcell hv (by intro v hv; simp at hv; rcases hv with rfl | rfl <;> rfl)).mono ?_
  rintro e w' ⟨rfl, rfl⟩
  refine ⟨_, _, rfl, fun _ => ⟨w.heap.size, 0, rfl, .inr ⟨Nat.le_refl _, by simp⟩, fun k hk => ?_⟩, fun b _ hb => Below.heap_alloc w.drew _ b hb, by simp, (Below.refl _ _).drew.alloc hB _⟩
  have e1 : w.heap.size = w.drew.heap.size := rfl
  rw [Nat.zero_add, e1, World.cell?_alloc_new]
  have hk2 : k < xs.length + 2 := by rw [ins_len xs (Nat.le_refl _)] at hk; exact hk
  rw [← mp_gi hk, ins_map]
  rw [Array.getElem?_append_left (by simp; omega)]
  have t1 : (xs.map (Value.int .i64)).take xs.length = xs.map (Value.int .i64) := List.take_of_length_le (by simp)
  have t2 : (xs.map (Value.int .i64)).drop xs.length = [] := List.drop_of_length_le (by simp)
  rw [t1, t2]
  simp
/-- an own row that is there: its cells and the spare ones -/
theorem own_row {A1 : Option Addr} (h : OI w B (.slice A1 xs.length d1) xs) (hne : 0 < d1) : ∃ (g : Nat) (cur : Array Value), A1 = some ⟨g, 0, none⟩ ∧ B ≤ g ∧ w.heap[g]? = some (.cells cur 3 (0, 0)) ∧ xs.length ≤ d1 ∧ cur.size = d1 ∧ cur.toList.take xs.length = xs.map (Value.int .i64) := by
  rcases h.2 with ⟨h1, h2⟩ | ⟨g, cap, cur, h1, h2, h3, h4, h5, h6, h7⟩
  · injection h1 with _ _ h1
    omega
  · injection h1 with e1 _ e3
    subst e1; subst e3
    exact ⟨g, cur, rfl, h2, h3, h4, by simpa using h6, by simpa using h7⟩
theorem ins_end_room {A1 : Option Addr} (h : OI w B (.slice A1 xs.length d1) xs) (hm : xs.length ≤ 1000) (hv : ∀ j v, ([Value.int .i64 y, .int .i64 z] : List Value)[j]? = some v → w.cell? ⟨vb, 0 + j, none⟩ = some v) (hroom : xs.length + 2 ≤ d1) :
    Calls Try.prog 77 #[.slice A1 xs.length d1, .int .i64 xs.length, .slice (some ⟨vb, 0, none⟩) 2 2] w (InsPost B (Value.slice A1 xs.length d1).ownBlock w xs xs.length y z) := by
  obtain ⟨g, cur, rfl, hBg, hh, -, hcs, hct⟩ := own_row h (by omega)
  have hlt : g < w.heap.size := (h.lt g rfl).2
  obtain ⟨_, _, h5, -, hmx, -⟩ := h.reads
  injection h5 with _ _ h5
  subst h5
  unfold maxLen at hmx
  have hcell : ∀ k, w.cell? ⟨g, k, none⟩ = cur[k]? := fun k => cell_of_row w g k _ _ _ hh
  refine (Any2.slices_Insert_int_end_room layI g 0 xs.length d1 vb 0 2 2 [.int .i64 y, .int .i64 z] w (by omega) hroom (by omega) rfl (fun j hj => by rw [hcell, Array.getElem?_eq_getElem (by omega)]; rfl) (fun j hj => frozen_of_row _ _ _ _ _ hh) hv (by intro v hv; simp at hv; rcases hv with rfl | rfl <;> rfl)).mono ?_
  rintro e w' ⟨rfl, rfl⟩
  rw [Nat.zero_add]
  have hk : ∀ b, b ≠ g → (w.setCells g xs.length [.int .i64 y, .int .i64 z]).heap[b]? = w.heap[b]? := fun b hb => by
    show ((w.setCell _ _).setCell _ _).heap[b]? = _
    rw [Below.heap_setCell _ _ _ b hb, Below.heap_setCell _ _ _ b hb]
  have hs : (w.setCells g xs.length [.int .i64 y, .int .i64 z]).heap.size = w.heap.size := by show ((w.setCell _ _).setCell _ _).heap.size = _; simp
  refine ⟨_, _, rfl, fun _ => ⟨g, 0, rfl, .inl rfl, fun k hk => ?_⟩, fun b hb _ => hk b fun e => hb (by rw [e]; rfl), Nat.le_of_eq hs.symm, ((Below.refl _ _).setCell hBg _).setCell hBg _⟩
  have hk2 : k < xs.length + 2 := by rw [ins_len xs (Nat.le_refl _)] at hk; exact hk
  rw [Nat.zero_add, ← mp_gi hk, ins_map]
  have t1 : (xs.map (Value.int .i64)).take xs.length = xs.map (Value.int .i64) := List.take_of_length_le (by simp)
  have t2 : (xs.map (Value.int .i64)).drop xs.length = [] := List.drop_of_length_le (by simp)
  rw [t1, t2, List.append_nil]
  by_cases hlt2 : k < xs.length
  · rw [World.cell?_setCells_out g _ _ w ⟨g, k, none⟩ (fun _ _ => .inl hlt2), hcell, List.getElem?_append_left (by simpa using hlt2), ← hct, List.getElem?_take_of_lt hlt2]
    simp
  · have := World.cell?_setCells_in g [.int .i64 y, .int .i64 z] xs.length w (fun j hj => by rw [hcell, Array.getElem?_eq_getElem (by simp at hj; omega)]; rfl) (k - xs.length) (by simp; omega)
    rw [show xs.length + (k - xs.length) = k by omega] at this
    rw [this, List.getElem?_append_right (by simpa using Nat.le_of_not_lt hlt2), List.length_map, List.getElem?_eq_getElem]
theorem ins_grow {A1 : Option Addr} {i : Nat} (h : OI w B (.slice A1 xs.length d1) xs) (hB : B ≤ w.heap.size) (hi : i < xs.length) (hm : xs.length ≤ 1000) (hv : ∀ j v, ([Value.int .i64 y, .int .i64 z] : List Value)[j]? = some v → w.cell? ⟨vb, 0 + j, none⟩ = some v) (hroom : d1 < xs.length + 2) :
    Calls Try.prog 77 #[.slice A1 xs.length d1, .int .i64 i, .slice (some ⟨vb, 0, none⟩) 2 2] w (InsPost B (Value.slice A1 xs.length d1).ownBlock w xs i y z) := by
  obtain ⟨_, _, h5, hle, -, -⟩ := h.reads
  injection h5 with _ _ h5
  subst h5
  obtain ⟨g, cur, rfl, hBg, hh, -, hcs, hct⟩ := own_row h (by omega)
  have hcell : ∀ k, w.cell? ⟨g, k, none⟩ = cur[k]? := fun k => cell_of_row w g k _ _ _ hh
  have hx : ∀ j v, (xs.map (Value.int .i64))[j]? = some v → w.cell? ⟨g, 0 + j, none⟩ = some v := fun j v hj => by
    have hlt : j < xs.length := by
      have := (List.getElem?_eq_some_iff.1 hj).1
      simpa using this
    rw [Nat.zero_add, hcell, ← hj, ← hct, List.getElem?_take_of_lt hlt]
    simp
  refine (Any2.slices_Insert_int_grow layI g 0 xs.length d1 i vb 0 2 2 (xs.map (Value.int .i64)) [.int .i64 y, .int .i64 z] w hi (by omega) hle hroom (by omega) (by simp) rfl hx hv (by intro v hv; simp at hv; obtain ⟨a, -, rfl⟩ := hv; rfl) (by intro v hv; simp at hv; rcases hv with rfl | rfl <;> rfl)).mono ?_
  rintro e w' ⟨rfl, rfl⟩
  generalize hbig : (((xs.map (Value.int .i64)).take i).toArray ++ Builtin.zeroCells (Value.int .i64 0).cells (xs.length + 2 - i) ++ Builtin.zeroCells (Value.int .i64 0).cells (grownCap w (xs.length + 2) d1 (renI.t 3) - (xs.length + 2))) = big
  have hz1 : (Value.int .i64 0).cells.size = 1 := rfl
  have hbs : xs.length + 2 ≤ big.size := by rw [← hbig]; simp [Builtin.zeroCells, hz1]; omega
  have hbi : ∀ k, k < i → big[k]? = (xs.map (Value.int .i64))[k]? := fun k hk => by
    rw [← hbig, Array.getElem?_append_left (by simp; omega), Array.getElem?_append_left (by simp; omega)]
    simp [hk]
  have e3 : renI.t 3 = 3 := rfl
  rw [e3]
  have hN : ((((w.alloc (.cells big 3)).drew.setCells w.heap.size i [.int .i64 y, .int .i64 z]).drew).setCells w.heap.size (i + 2) ((xs.map (Value.int .i64)).drop i)).heap.size = w.heap.size + 1 := by
    rw [sz_setCells]
    show ((w.alloc (.cells big 3)).drew.setCells w.heap.size i [.int .i64 y, .int .i64 z]).heap.size = _
    rw [sz_setCells]
    show (w.alloc (.cells big 3)).heap.size = _
    simp
  refine ⟨_, _, rfl, fun _ => ⟨w.heap.size, 0, rfl, .inr ⟨Nat.le_refl _, by rw [hN]; omega⟩, fun k hk => ?_⟩, fun b _ hb => ?_, by rw [hN]; omega, ?_⟩
  · have hk2 : k < xs.length + 2 := by rw [ins_len xs (by omega)] at hk; exact hk
    have hc0 : ∀ j, ((w.alloc (.cells big 3)).drew).cell? ⟨w.heap.size, j, none⟩ = big[j]? := fun j => World.cell?_alloc_new w big 3 j
    have hin1 := World.cell?_setCells_in w.heap.size [.int .i64 y, .int .i64 z] i ((w.alloc (.cells big 3)).drew) (fun j hj => by rw [hc0, Array.getElem?_eq_getElem (by simp at hj; omega)]; rfl)
    have hout1 := fun (j : Nat) (hj : j < i ∨ i + 2 ≤ j) => World.cell?_setCells_out w.heap.size [.int .i64 y, .int .i64 z] i ((w.alloc (.cells big 3)).drew) ⟨w.heap.size, j, none⟩ (fun _ _ => hj)
    rw [Nat.zero_add, ← mp_gi hk, ins_map]
    by_cases h1 : k < i
    · rw [World.cell?_setCells_out w.heap.size _ _ _ ⟨w.heap.size, k, none⟩ (fun _ _ => .inl (by show k < i + 2; omega))]
      refine (hout1 k (.inl h1)).trans ?_
      rw [hc0, hbi k h1, List.getElem?_append_left (by simp; omega), List.getElem?_take_of_lt h1]
    · by_cases h2 : k < i + 2
      · rw [World.cell?_setCells_out w.heap.size _ _ _ ⟨w.heap.size, k, none⟩ (fun _ _ => .inl (by show k < i + 2; omega))]
        have := hin1 (k - i) (by simp; omega)
        rw [show i + (k - i) = k by omega] at this
        refine (this.trans (List.getElem?_eq_getElem _).symm).trans ?_
        rw [List.getElem?_append_right (by simp; omega), List.getElem?_append_left (by simp; omega), List.length_take, List.length_map, show k - min i xs.length = k - i by omega]
      · have := World.cell?_setCells_in w.heap.size ((xs.map (Value.int .i64)).drop i) (i + 2) (((w.alloc (.cells big 3)).drew.setCells w.heap.size i [.int .i64 y, .int .i64 z]).drew) (fun j hj => by
          simp at hj
          show (((w.alloc (.cells big 3)).drew.setCells w.heap.size i [.int .i64 y, .int .i64 z]).cell? ⟨w.heap.size, i + 2 + j, none⟩).isSome = true
          rw [hout1 _ (.inr (by omega)), hc0, Array.getElem?_eq_getElem (by omega)]; rfl) (k - (i + 2)) (by simp; omega)
        rw [show i + 2 + (k - (i + 2)) = k by omega] at this
        refine (this.trans (List.getElem?_eq_getElem _).symm).trans ?_
        rw [List.getElem?_append_right (by simp; omega), List.getElem?_append_right (by simp; omega), List.length_take, List.length_map, show k - min i xs.length - [Value.int .i64 y, .int .i64 z].length = k - (i + 2) by simp; omega]
  · rw [hp_setCells _ _ _ _ b (by omega)]
    show ((w.alloc (.cells big 3)).drew.setCells w.heap.size i [.int .i64 y, .int .i64 z]).heap[b]? = _
    rw [hp_setCells _ _ _ _ b (by omega)]
    exact Below.heap_alloc w _ b hb
  · exact bl_setCells hB _ _ _ ((bl_setCells hB _ _ _ (((Below.refl _ _).alloc hB _).drew)).drew)
theorem ins_shift {A1 : Option Addr} {i : Nat} {T : TypeId} (h : OI w B (.slice A1 xs.length d1) xs) (hi : i < xs.length) (hvh : w.heap[vb]? = some (.cells #[.int .i64 y, .int .i64 z] T (0, 0))) (hne : (Value.slice A1 xs.length d1).ownBlock ≠ some vb) (hroom : xs.length + 2 ≤ d1) :
    Calls Try.prog 77 #[.slice A1 xs.length d1, .int .i64 i, .slice (some ⟨vb, 0, none⟩) 2 2] w (InsPost B (Value.slice A1 xs.length d1).ownBlock w xs i y z) := by
  obtain ⟨_, _, h5, hle, hmx, -⟩ := h.reads
  injection h5 with _ _ h5
  subst h5
  obtain ⟨g, cur, rfl, hBg, hh, -, hcs, hct⟩ := own_row h (by omega)
  have hlt : g < w.heap.size := (h.lt g rfl).2
  unfold maxLen at hmx
  have hcell : ∀ k, w.cell? ⟨g, k, none⟩ = cur[k]? := fun k => cell_of_row w g k _ _ _ hh
  have hvcell : ∀ k, w.cell? ⟨vb, k, none⟩ = (#[Value.int .i64 y, .int .i64 z] : Array Value)[k]? := fun k => cell_of_row w vb k _ _ _ hvh
  have hvb : vb ≠ g := fun e => hne (by rw [e]; rfl)
  have hv : ∀ j v, ([Value.int .i64 y, .int .i64 z] : List Value)[j]? = some v → w.cell? ⟨vb, 0 + j, none⟩ = some v := fun j v hj => by
    rw [Nat.zero_add, hvcell]
    simpa using hj
  have hx : ∀ j v, (xs.map (Value.int .i64))[j]? = some v → w.cell? ⟨g, 0 + j, none⟩ = some v := fun j v hj => by
    have hlt : j < xs.length := by
      have := (List.getElem?_eq_some_iff.1 hj).1
      simpa using this
    rw [Nat.zero_add, hcell, ← hj, ← hct, List.getElem?_take_of_lt hlt]
    simp
  have hso : ∀ j, j < xs.length + 2 → (w.cell? ⟨g, j, none⟩).isSome = true := fun j hj => by
    rw [hcell, Array.getElem?_eq_getElem (by omega)]; rfl
  refine (Any2.slices_Insert_int_shift layI g 0 xs.length d1 i vb 0 2 2 (xs.map (Value.int .i64)) [.int .i64 y, .int .i64 z] w hi (by omega) hroom (by omega) hvb (by simp) rfl hx (fun j hj => by rw [Nat.zero_add]; exact hso j hj) (fun j hj => frozen_of_row _ _ _ _ _ hh) hv (by intro v hv; simp at hv; obtain ⟨a, -, rfl⟩ := hv; rfl) (by intro v hv; simp at hv; rcases hv with rfl | rfl <;> rfl)
    T 3 2 cur.size (by unfold World.shape?; rw [hvh]; rfl) (by unfold World.shape?; rw [hh]) (by omega) (frozen_of_row _ _ _ _ _ hvh) (frozen_of_row _ _ _ _ _ hvh)).mono ?_
  rintro e w' ⟨rfl, rfl⟩
  rw [Nat.zero_add, Nat.zero_add]
  have hN : ((w.drew.setCells g (i + 2) ((xs.map (Value.int .i64)).drop i)).setCells g i [.int .i64 y, .int .i64 z]).heap.size = w.heap.size := by
    rw [sz_setCells, sz_setCells]
    rfl
  have hk : ∀ b, b ≠ g → ((w.drew.setCells g (i + 2) ((xs.map (Value.int .i64)).drop i)).setCells g i [.int .i64 y, .int .i64 z]).heap[b]? = w.heap[b]? := fun b hb => by
    rw [hp_setCells _ _ _ _ b hb, hp_setCells _ _ _ _ b hb]
    rfl
  refine ⟨_, _, rfl, fun _ => ⟨g, 0, rfl, .inl rfl, fun k hk2 => ?_⟩, fun b hb _ => hk b fun e => hb (by rw [e]; rfl), Nat.le_of_eq hN.symm, bl_setCells hBg _ _ _ (bl_setCells hBg _ _ _ (Below.refl _ _).drew)⟩
  have hk3 : k < xs.length + 2 := by rw [ins_len xs (by omega)] at hk2; exact hk2
  have hdc : ∀ k, w.drew.cell? ⟨g, k, none⟩ = w.cell? ⟨g, k, none⟩ := fun _ => rfl
  have hin1 := World.cell?_setCells_in g ((xs.map (Value.int .i64)).drop i) (i + 2) w.drew (fun j hj => by
    simp at hj
    rw [hdc]
    exact hso _ (by omega))
  have hout1 := fun (j : Nat) (hj : j < i + 2) => World.cell?_setCells_out g ((xs.map (Value.int .i64)).drop i) (i + 2) w.drew ⟨g, j, none⟩ (fun _ _ => .inl hj)
  have hin2 := World.cell?_setCells_in g [.int .i64 y, .int .i64 z] i (w.drew.setCells g (i + 2) ((xs.map (Value.int .i64)).drop i)) (fun j hj => by
    simp at hj
    rw [hout1 _ (by omega), hdc]
    exact hso _ (by omega))
  have hout2 := fun (j : Nat) (hj : j < i ∨ i + 2 ≤ j) => World.cell?_setCells_out g [.int .i64 y, .int .i64 z] i (w.drew.setCells g (i + 2) ((xs.map (Value.int .i64)).drop i)) ⟨g, j, none⟩ (fun _ _ => hj)
  rw [Nat.zero_add, ← mp_gi hk2, ins_map]
  by_cases h1 : k < i
  · rw [hout2 k (.inl h1), hout1 k (by omega), hdc, hcell, List.getElem?_append_left (by simp; omega), List.getElem?_take_of_lt h1, ← hct]
    rw [Array.getElem?_toList.symm, List.getElem?_take_of_lt (by omega)]
  · by_cases h2 : k < i + 2
    · have := hin2 (k - i) (by simp; omega)
      rw [show i + (k - i) = k by omega] at this
      refine (this.trans (List.getElem?_eq_getElem _).symm).trans ?_
      rw [List.getElem?_append_right (by simp; omega), List.getElem?_append_left (by simp; omega), List.length_take, List.length_map, show k - min i xs.length = k - i by omega]
    · have := hin1 (k - (i + 2)) (by simp; omega)
      rw [show i + 2 + (k - (i + 2)) = k by omega] at this
      rw [hout2 k (.inr (by omega))]
      refine (this.trans (List.getElem?_eq_getElem _).symm).trans ?_
      rw [List.getElem?_append_right (by simp; omega), List.getElem?_append_right (by simp; omega), List.length_take, List.length_map, show k - min i xs.length - [Value.int .i64 y, .int .i64 z].length = k - (i + 2) by simp; omega]
theorem ins_own {A1 : Option Addr} {i : Nat} {T : TypeId} (h : OI w B (.slice A1 xs.length d1) xs) (hB : B ≤ w.heap.size) (hi : i ≤ xs.length) (hm : xs.length ≤ 1000) (hvh : w.heap[vb]? = some (.cells #[.int .i64 y, .int .i64 z] T (0, 0))) (hne : (Value.slice A1 xs.length d1).ownBlock ≠ some vb) :
    Calls Try.prog 77 #[.slice A1 xs.length d1, .int .i64 i, .slice (some ⟨vb, 0, none⟩) 2 2] w (InsPost B (Value.slice A1 xs.length d1).ownBlock w xs i y z) := by
  have hv : ∀ j v, ([Value.int .i64 y, .int .i64 z] : List Value)[j]? = some v → w.cell? ⟨vb, 0 + j, none⟩ = some v := fun j v hj => by
    rw [Nat.zero_add, cell_of_row w vb j _ _ _ hvh]
    simpa using hj
  by_cases he : i = xs.length
  · subst he
    by_cases hr : d1 < xs.length + 2
    · exact ins_end h hB hm hv hr
    · exact ins_end_room h hm hv (by omega)
  · by_cases hr : d1 < xs.length + 2
    · exact ins_grow h hB (by omega) hm hv hr
    · exact ins_shift h (by omega) hvh hne (by omega)
end
theorem Mid.ins {w wx w' : World} {S k g a x y z : Int} {v : Value} {t n d1 j : Nat} {A1 : Option Addr} {ws : List Int} {o : Obj} {y' z' : Int} {e : Ending} (h : Mid w wx S k g a v t x y z (.slice A1 n d1) ws) (hp : InsPost (w.heap.size + 4) (Value.slice A1 n d1).ownBlock (wx.alloc o) ws j y' z' e w') :
    ∃ A2 c2, e = .returned (.slice A2 (ws.length + 2) c2) ∧ CBx w w' S k g a v ∧ TBx w' t x y z ∧ RI w' (fun b => w.heap.size + 4 ≤ b ∧ b < w'.heap.size ∧ b ≠ t) A2 (ws.take j ++ y' :: z' :: ws.drop j) := by
  obtain ⟨A2, c2, rfl, hr, hk, hs, hb⟩ := hp
  have hs2 : wx.heap.size + 1 ≤ w'.heap.size := by simpa using hs
  have h4 := h.cb.rs.lt
  have ht := h.tb.lt
  have hk2 : ∀ b, b < wx.heap.size → (Value.slice A1 n d1).ownBlock ≠ some b → w'.heap[b]? = wx.heap[b]? := fun b hb hne =>
    (hk b hne (by simp; omega)).trans (Below.heap_alloc wx o b hb)
  refine ⟨A2, c2, rfl, h.cb.keep (fun b hb => hk2 b (by omega) fun e => by have := (h.o.lt _ e).1; omega) (by omega) ?_, h.tb.keep (hk2 t ht h.ne) (by omega), hr.imp fun b hb => ?_⟩
  · exact (h.cb.bel.alloc h.cb.bel.size o).trans (hb.mono (by omega))
  · rcases hb with hb | hb
    · have := h.o.lt _ hb
      exact ⟨this.1, by omega, fun e => h.ne (by rw [hb, e])⟩
    · have := hb.1
      simp only [World.size_alloc] at this
      exact ⟨by have := h.cb.bel.size; have := h.ht; omega, hb.2, by omega⟩
end Go.Proofs.Yteanhbldhaiekaa
