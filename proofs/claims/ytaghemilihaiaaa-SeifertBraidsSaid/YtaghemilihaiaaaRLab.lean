/-
  The contract of the reference's Label.
-/
import Derived.Test.YtaghemilihaiaaaSph
import Derived.Test.YtaghemilihaiaaaCycF
namespace Go.Proofs.Ytaghemilihaiaaa
open Go.RowKit

theorem ints_set (ls : List Nat) (i x : Nat) : (ints ls).set i (x : Int) = ints (ls.set i x) := by
  unfold ints
  rw [List.map_set]
  rfl
theorem PRow.drewN {w1 wr : World} {B g n : Nat} {p : List Int} (h : PRow w1 wr B g n p) (m : Nat) : PRow w1 (wr.drewN m) B g n p := ⟨h.own.drewN m, below_drewN h.below m, h.size⟩
theorem partN_length (mt : List Int) (ls : List Nat) (k : Nat) : (partN mt ls k).length = ls.length := by
  induction k with
  | zero => rfl
  | succ k ih => rw [partN_succ]; simp [stepN, ih]
theorem passN_length (mt : List Int) (n : Nat) : ∀ p, (passN mt (List.range n) p).length = n := by
  intro p
  induction p with
  | zero => simp [passN]
  | succ p ih => show (partN mt (passN mt (List.range n) p) mt.length).length = n; rw [partN_length, ih]

set_option maxHeartbeats 4000000 in
theorem rlabel_any (A : Option Addr) (c n : Nat) (mt : List Int) (w : World) (S : Nat → Prop) (hy : RI w S A mt) (hS : ∀ b, S b → b < w.heap.size) (hn : mt.length = 4 * n) (hI : InvM mt) (h64 : n ≤ 100000) :
    Calls Try.prog 35 #[.slice A mt.length c] w fun e w' => ∃ v, e = .returned v ∧ OI w' w.heap.size v (ints (labN mt n)) ∧ Below w.heap.size w w' := by
  have HY := Lib.hid (hy.imp (T := (· < w.heap.size)) hS)
  have HI := Lib.hid hI
  have HN := Lib.hid hn
  have hml : mt.length ≤ 400000 := by omega
  have q1 : (mt.length : Int) / 4 = n := by omega
  have hmk := make_ints 22 Try.underlying22 n (by omega)
  have H0 : Hid (PRow w (w.alloc (.cells (Array.replicate n (Value.int .i64 0)) 3)) w.heap.size w.heap.size n (List.replicate n 0)) :=
    ⟨by have := OI.new w w.heap.size n (Nat.le_refl _) (by unfold maxLen; omega); simpa using this, (Below.refl _ _).alloc (Nat.le_refl _) _, by simp⟩
  clear hy hS hn hI
  go_enter Try.func35, Try.ntmps35
  go_wp2_with fail
  clear hmk q1
  go_loopw [5] (fun i wr => ∃ (k : Nat) (p : List Int), k ≤ n ∧ i = .int .i64 k ∧ Hid (PRow w wr w.heap.size w.heap.size n p) ∧ Hid (p.length = n ∧ ∀ j, j < k → gi p j = (j : Int))) (fun i _ => n - (intOf i).toNat)
  case atStart => exact ⟨0, _, Nat.zero_le _, rfl, H0, by simp, by intro j hj; omega⟩
  case round =>
    clear H0
    obtain ⟨k, p, hk, rfl, HP, HV⟩ := hrel
    by_cases hlt : k < n
    · obtain ⟨k1, k2⟩ := HP.out.at_ HV.out.1 hlt
      have HP' := Lib.hid (HP.out.store (k := k) HV.out.1 (Nat.le_refl _) (k : Int))
      have HV' : Hid ((p.set k (k : Int)).length = n ∧ ∀ j, j < k + 1 → gi (p.set k (k : Int)) j = (j : Int)) := by
        refine ⟨by rw [List.length_set]; exact HV.out.1, fun j hj => ?_⟩
        rw [gi_set (by rw [HV.out.1]; exact hlt)]
        split
        · rename_i e; rw [e]
        · exact HV.out.2 j (by omega)
      clear HP HV
      go_wp2_with fail
      go_roundw
      case rel => exact ⟨k + 1, _, by omega, by go_num, HP', HV'⟩
      case measure => simp [intOf]; omega
    · have hp : p = ints (passN mt (List.range n) 0) := by
        apply ext_gi
        · rw [ints_length, HV.out.1, passN_length]
        · intro j hj
          rw [HV.out.1] at hj
          rw [HV.out.2 j (by omega), gi_ints (by rw [passN_length]; exact hj)]
          show (j : Int) = (gN (List.range n) j : Int)
          rw [gN_range hj]
      rw [hp] at HP
      clear HV hp
      go_wp2_with fail
      clear hlt hk
      go_loopw [6] (fun i wr => ∃ k : Nat, k ≤ n ∧ i = .int .i64 k ∧ Hid (PRow w wr w.heap.size w.heap.size n (ints (passN mt (List.range n) k)))) (fun i _ => n - (intOf i).toNat)
      case atStart => exact ⟨0, Nat.zero_le _, rfl, HP⟩
      case round =>
        clear HP
        obtain ⟨k, hk, rfl, HP⟩ := hrel
        by_cases hlt : k < n
        · go_wp2_with fail
          go_loopw [7] (fun i wr => ∃ h : Nat, h ≤ mt.length ∧ i = .int .i64 h ∧ Hid (PRow w wr w.heap.size w.heap.size n (ints (partN mt (passN mt (List.range n) k) h)))) (fun i _ => mt.length - (intOf i).toNat)
          case atStart => exact ⟨0, Nat.zero_le _, rfl, HP⟩
          case round =>
            clear HP
            obtain ⟨h, hh, rfl, HP⟩ := hrel
            by_cases hlh : h < mt.length
            · obtain ⟨hg1, hg2, -, -⟩ := HI.out.gn hlh
              have hn := HN.out
              have ha : h / 4 < n := by omega
              have hb : gn mt h / 4 < n := by omega
              have hll : (partN mt (passN mt (List.range n) k) h).length = n := by rw [partN_length, passN_length]
              have hil : (ints (partN mt (passN mt (List.range n) k) h)).length = n := by rw [ints_length, hll]
              obtain ⟨b, off, rfl, hbb, hc⟩ := (HY.out.below HP.out.below).at_ hlh
              have k0 := hc h hlh
              rw [hg1] at k0
              obtain ⟨k1, k2⟩ := HP.out.at_ hil ha
              obtain ⟨k3, k4⟩ := HP.out.at_ hil hb
              rw [gi_ints (by omega)] at k1 k3
              have HS : Hid (∀ m, PRow w ((((wr.drewN m).setCell ⟨w.heap.size, h / 4, none⟩ (.int .i64 (lowN mt (partN mt (passN mt (List.range n) k) h) h : Int))).setCell ⟨w.heap.size, gn mt h / 4, none⟩ (.int .i64 (lowN mt (partN mt (passN mt (List.range n) k) h) h : Int))))
                  w.heap.size w.heap.size n (ints (partN mt (passN mt (List.range n) k) (h + 1)))) := by
                intro m
                have h1 := ((HP.out.drewN m).store (k := h / 4) hil (Nat.le_refl _) (lowN mt (partN mt (passN mt (List.range n) k) h) h : Int)).store (k := gn mt h / 4) (by rw [List.length_set]; exact hil) (Nat.le_refl _) (lowN mt (partN mt (passN mt (List.range n) k) h) h : Int)
                rw [ints_set, ints_set] at h1
                rw [partN_succ]
                exact h1
              obtain ⟨x, hx⟩ : ∃ x, gN (partN mt (passN mt (List.range n) k) h) (h / 4) = x := ⟨_, rfl⟩
              obtain ⟨y, hy⟩ : ∃ y, gN (partN mt (passN mt (List.range n) k) h) (gn mt h / 4) = y := ⟨_, rfl⟩
              have hlow : lowN mt (partN mt (passN mt (List.range n) k) h) h = min x y := by unfold lowN; rw [hx, hy]
              rw [hlow] at HS
              rw [hx] at k1
              rw [hy] at k3
              have hg3 : gn mt h ≤ 400000 := by omega
              clear hc hg1 hll hil hlow hx hy HP hn
              have hz : ∀ v : Value, ∃ z : Value, ∀ m, ((wr.drewN m).setCell ⟨w.heap.size, h / 4, none⟩ v).cell? ⟨w.heap.size, gn mt h / 4, none⟩ = some z := fun v => by
                by_cases e : gn mt h / 4 = h / 4
                · rw [e]
                  exact ⟨v, fun m => World.cell?_setCell_same (wr.drewN m) _ _ k1⟩
                · refine ⟨.int .i64 y, fun m => (World.cell?_setCell_other (wr.drewN m) _ _ _ ?_).trans k3⟩
                  intro h'
                  injection h' with _ h'
                  omega
              by_cases hxy : y < x
              · obtain ⟨z, hz⟩ := hz (.int .i64 y)
                rw [Nat.min_eq_right (by omega)] at HS
                go_wp2_with fail
                go_quiet (fail)
                go_wp2_with fail
                go_quiet (fail)
                go_wp2_with fail
                go_roundw
                case rel => exact ⟨h + 1, by omega, by go_num, HS.out _⟩
                case measure => simp [intOf]; omega
              · obtain ⟨z, hz⟩ := hz (.int .i64 x)
                rw [Nat.min_eq_left (by omega)] at HS
                go_wp2_with fail
                go_quiet (fail)
                go_wp2_with fail
                go_quiet (fail)
                go_wp2_with fail
                go_roundw
                case rel => exact ⟨h + 1, by omega, by go_num, HS.out _⟩
                case measure => simp [intOf]; omega
            · obtain rfl : mt.length = h := by omega
              go_wp2_with fail
              go_roundw
              case rel => exact ⟨k + 1, by omega, by go_num, HP⟩
              case measure => simp [intOf]; omega
        · obtain rfl : n = k := by omega
          have hp : OI wr w.heap.size (.slice (some ⟨w.heap.size, 0, none⟩) n n) (ints (labN mt n)) := HP.out.own
          have HO := Lib.hid hp
          have hbf := HP.out.below
          clear hp HP
          go_wp2_with fail
          go_ret
          exact ⟨_, rfl, HO.out, hbf⟩
end Go.Proofs.Ytaghemilihaiaaa

