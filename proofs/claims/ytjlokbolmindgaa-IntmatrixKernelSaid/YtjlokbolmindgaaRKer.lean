/-
  The contract of the reference's Kernel.
-/
import Derived.Test.YtjlokbolmindgaaRM
import Derived.Test.YtjlokbolmindgaaKer
namespace Go.Proofs.Ytjlokbolmindgaa
open Go.RowKit

theorem dgt_div {q : Nat} : ∀ (k x : Nat), dgt q x k = x / q ^ k % q
  | 0, x => by rw [Nat.pow_zero, Nat.div_one]; rfl
  | k + 1, x => by
    show dgt q (x / q) k = _
    rw [dgt_div k, Nat.div_div_eq_div_mul, Nat.pow_succ, Nat.mul_comm q]
theorem tmod_dvd (x q : Int) : q ∣ x - x.tmod q := ⟨x.tdiv q, by have := Int.mul_tdiv_add_tmod x q; omega⟩
theorem tmod_lt (x : Int) {q : Nat} (hq : 0 < q) : (x.tmod (q : Int)).natAbs < q := by
  rw [Int.natAbs_tmod, Int.natAbs_natCast]; exact Nat.mod_lt _ hq
/-- the partial sum behind k terms -/
structure SuM (q : Nat) (xss : List (List Int)) (i x k : Nat) (s : Int) : Prop where
  dv : (q : Int) ∣ s - sI k fun j => eI xss i j * (dgt q x j : Int)
  lt : s.natAbs < q
theorem SuM.step {q : Nat} {xss : List (List Int)} {i x k : Nat} {s y : Int} {D : Nat} (h : SuM q xss i x k s) (hq : 0 < q) (hy : eI xss i k = y) (hD : dgt q x k = D) : SuM q xss i x (k + 1) ((s + y.tmod q * D).tmod q) := by
  refine ⟨?_, tmod_lt _ hq⟩
  show (q : Int) ∣ _ - ((sI k fun j => eI xss i j * (dgt q x j : Int)) + eI xss i k * (dgt q x k : Int))
  rw [hy, hD]
  have h1 := tmod_dvd (s + y.tmod q * D) q
  have h2 := Int.dvd_mul_of_dvd_left (c := (D : Int)) (tmod_dvd y q)
  have h3 := h.dv
  rw [Int.sub_mul] at h2
  generalize (s + y.tmod q * (D : Int)).tmod q = u at h1 ⊢
  generalize y.tmod q * (D : Int) = v at h1 h2
  generalize y * (D : Int) = z at h2 ⊢
  generalize (sI k fun j => eI xss i j * (dgt q x j : Int)) = t at h3 ⊢
  have := Int.dvd_sub (Int.dvd_sub h3 h1) h2
  rw [show s - t - (s + v - u) - (z - v) = u - (t + z) by omega] at this
  exact this
theorem SuM.zero {q : Nat} {xss : List (List Int)} {i x : Nat} (hq : 0 < q) : SuM q xss i x 0 0 := ⟨⟨0, rfl⟩, hq⟩
theorem SuM.done {q : Nat} {xss : List (List Int)} {i x k : Nat} {s : Int} (h : SuM q xss i x k s) : s = 0 ↔ (q : Int) ∣ sI k fun j => eI xss i j * (dgt q x j : Int) := by
  constructor
  · intro e
    have h1 := h.dv
    rw [e, Int.zero_sub] at h1
    exact Int.dvd_neg.1 h1
  · intro hd
    have h1 := Int.dvd_add h.dv hd
    rw [Int.sub_add_cancel] at h1
    have h2 := Int.natAbs_dvd_natAbs.2 h1
    rw [Int.natAbs_natCast] at h2
    have := Nat.eq_zero_of_dvd_of_lt h2 h.lt
    omega
def PrK (q : Nat) (xss : List (List Int)) (c x i : Nat) : Prop := ∀ a, a < i → (q : Int) ∣ sI c fun j => eI xss a j * (dgt q x j : Int)
instance (q : Nat) (xss : List (List Int)) (c x i : Nat) : Decidable (PrK q xss c x i) := by unfold PrK; infer_instance
theorem PrK.step {q : Nat} {xss : List (List Int)} {c x i : Nat} : PrK q xss c x (i + 1) ↔ PrK q xss c x i ∧ (q : Int) ∣ sI c fun j => eI xss i j * (dgt q x j : Int) :=
  ⟨fun h => ⟨fun a ha => h a (by omega), h i (by omega)⟩, fun h a ha => by
    by_cases e : a = i
    · rw [e]; exact h.2
    · exact h.1 a (by omega)⟩
theorem pow_bound {q k c : Nat} (hq : q ≤ 7) (hk : k ≤ c) (hc : c ≤ 4) : q ^ k ≤ 2401 := by
  refine Nat.le_trans (Nat.pow_le_pow_left hq k) (Nat.le_trans (Nat.pow_le_pow_right (by decide) (show k ≤ 4 by omega)) (by decide))
set_option maxHeartbeats 8000000 in
theorem rker_any {w : World} {A : Option Addr} {n cap c q : Nat} {xss : List (List Int)} (h : AM w A n xss) (hm : IsM xss) (hc : rowL xss 0 = c) (hc4 : c ≤ 4) (hq : 1 ≤ q) (hq7 : q ≤ 7) :
    Calls Try.prog 18 #[.slice A n cap, .int .i64 c, .int .i64 q] w fun e w' => e = .returned (.int .i64 (kerN n c (eI xss) q : Nat)) ∧ ∃ N, w' = w.drewN N := by
  have HX := Lib.hid h
  have hn64 : n ≤ 64 := by have := hm.2.1; have := h.ln; omega
  have HRC : Hid (∀ i, i < n → rowL xss i = c) := fun i hi => by rw [hm.1 i (by rw [h.ln]; exact hi), hc]
  have HK : Hid (kerN n c (eI xss) q = cnt (fun y => decide (PrK q xss c y n)) (q ^ c)) := rfl
  have q0 : ¬ (q : Int) = 0 := by omega
  clear h hm hc
  go_enter Try.func18, Try.ntmps18
  go_wp2_with fail
  go_loopw [7, 8] (fun t' k' wr => ∃ k t : Nat, k ≤ c ∧ k' = .int .i64 k ∧ t' = .int .i64 t ∧ w = wr ∧ Hid (t = q ^ k)) (fun _ k _ => c - (intOf k).toNat)
  case atStart => exact ⟨0, 1, Nat.zero_le _, rfl, rfl, rfl, (Nat.pow_zero _).symm⟩
  case round =>
    obtain ⟨k, t, hk, rfl, rfl, rfl, HT⟩ := hrel
    by_cases hlt : k < c
    · obtain ⟨t2, ht2⟩ : ∃ t2, t * q = t2 := ⟨_, rfl⟩
      have HT2 : Hid (t2 = q ^ (k + 1)) := by rw [Nat.pow_succ, ← HT.out, ht2]; exact rfl
      have hb : t2 ≤ 2401 := by rw [HT2.out]; exact pow_bound hq7 (show k + 1 ≤ c by omega) hc4
      have x1 : IntKind.i64.wrap ((t : Int) * (q : Int)) = (t2 : Int) := by rw [← Int.natCast_mul, ht2]; exact IntWalk.i64_in _ (by omega)
      clear ht2
      go_wp2_with fail
      go_roundw
      case rel => exact ⟨k + 1, t2, by omega, by go_num, rfl, by trivial, HT2⟩
      case measure => simp [intOf]; omega
    · obtain rfl : k = c := by omega
      have htb : t ≤ 2401 := by rw [HT.out]; exact pow_bound hq7 (Nat.le_refl k) hc4
      go_wp2_with fail
      go_loopw [9, 10] (fun n' x' wr => ∃ x m : Nat, x ≤ t ∧ x' = .int .i64 x ∧ n' = .int .i64 m ∧ Hid (m = cnt (fun y => decide (PrK q xss k y n)) x) ∧ m ≤ x ∧ Hid (∃ N, wr = w.drewN N)) (fun _ x _ => t - (intOf x).toNat)
      case atStart => exact ⟨0, 0, Nat.zero_le _, rfl, rfl, rfl, Nat.le_refl _, ⟨0, rfl⟩⟩
      case round =>
        obtain ⟨x, m, hx, rfl, rfl, HM, hmx, HW⟩ := hrel
        by_cases hltx : x < t
        · go_wp2_with fail
          go_loopw [11, 12] (fun o' i' wr => ∃ i : Nat, i ≤ n ∧ i' = .int .i64 i ∧ o' = .bool (decide (PrK q xss k x i)) ∧ Hid (∃ N, wr = w.drewN N)) (fun _ i _ => n - (intOf i).toNat)
          case atStart => exact ⟨0, Nat.zero_le _, rfl, by rw [decide_eq_true (show PrK q xss k x 0 from fun a ha => by omega)], HW⟩
          case round =>
            clear HW
            obtain ⟨i, hi, rfl, rfl, HW⟩ := hrel
            by_cases hlti : i < n
            · go_wp2_with fail
              go_loopw [13, 14, 15] (fun r' s' j' wr => ∃ (j r : Nat) (s : Int), j ≤ k ∧ j' = .int .i64 j ∧ r' = .int .i64 r ∧ s' = .int .i64 s ∧ Hid (r = x / q ^ j) ∧ Hid (SuM q xss i x j s) ∧ Hid (∃ N, wr = w.drewN N)) (fun _ _ j _ => k - (intOf j).toNat)
              case atStart => exact ⟨0, x, 0, Nat.zero_le _, rfl, rfl, rfl, by rw [Nat.pow_zero, Nat.div_one]; exact rfl, SuM.zero (by omega), HW⟩
              case round =>
                clear HW
                obtain ⟨j, r, s, hj, rfl, rfl, rfl, HR, HS, HW⟩ := hrel
                by_cases hltj : j < k
                · obtain ⟨b, off, Ak, ck, rfl, c1, hri⟩ := HX.out.head hlti
                  rw [HRC.out i hlti] at c1
                  obtain ⟨bk, ok, rfl, -, hcj⟩ := hri.at_ (k := j) (by show j < rowL xss i; rw [HRC.out i hlti]; exact hltj)
                  have c2 := hcj j (by show j < rowL xss i; rw [HRC.out i hlti]; exact hltj)
                  obtain ⟨y, hy⟩ : ∃ y, gi (xss.getD i []) j = y := ⟨_, rfl⟩
                  rw [hy] at c2
                  obtain ⟨D, hD⟩ : ∃ D, r % q = D := ⟨_, rfl⟩
                  have hDq : D < q := by rw [← hD]; exact Nat.mod_lt _ (by omega)
                  have hdg : dgt q x j = D := by rw [dgt_div, ← HR.out, hD]
                  have HS2 : Hid (SuM q xss i x (j + 1) ((s + y.tmod q * D).tmod q)) := HS.out.step (by omega) hy hdg
                  have hyt := tmod_lt y (q := q) (by omega)
                  have hst := HS.out.lt
                  obtain ⟨y1, hy1⟩ : ∃ y1, y.tmod (q : Int) = y1 := ⟨_, rfl⟩
                  rw [hy1] at hyt HS2
                  have hpb : (y1 * (D : Int)).natAbs ≤ 49 := by
                    rw [Int.natAbs_mul, Int.natAbs_natCast]
                    exact Nat.le_trans (Nat.mul_le_mul (show y1.natAbs ≤ 7 by omega) (show D ≤ 7 by omega)) (by decide)
                  obtain ⟨p1, hp1⟩ : ∃ p1, y1 * (D : Int) = p1 := ⟨_, rfl⟩
                  rw [hp1] at hpb HS2
                  obtain ⟨s2, hs2⟩ : ∃ s2, (s + p1).tmod (q : Int) = s2 := ⟨_, rfl⟩
                  rw [hs2] at HS2
                  have hs2b := HS2.out.lt
                  obtain ⟨r2, hr2⟩ : ∃ r2, r / q = r2 := ⟨_, rfl⟩
                  have HR2 : Hid (r2 = x / q ^ (j + 1)) := by rw [← hr2, HR.out, Nat.div_div_eq_div_mul, Nat.pow_succ]; exact rfl
                  have hrx : r ≤ x := by rw [HR.out]; exact Nat.div_le_self _ _
                  have hr2l : r2 ≤ r := by rw [← hr2]; exact Nat.div_le_self _ _
                  have z1 : IntKind.i64.wrap y1 = y1 := IntWalk.i64_in _ (by omega)
                  have z2 : IntKind.i64.wrap p1 = p1 := IntWalk.i64_in _ (by omega)
                  have z3 : IntKind.i64.wrap (s + p1) = s + p1 := IntWalk.i64_in _ (by omega)
                  have z4 : IntKind.i64.wrap s2 = s2 := IntWalk.i64_in _ (by omega)
                  have z5 : (r : Int).tmod (q : Int) = (D : Int) := by rw [← hD]; exact Int.ofNat_tmod r q
                  have z5' : (r : Int) % (q : Int) = (D : Int) := by rw [← hD]; rfl
                  have z6 : IntKind.i64.wrap (D : Int) = (D : Int) := IntWalk.i64_in _ (by omega)
                  have z7 : (r : Int).tdiv (q : Int) = (r2 : Int) := by rw [← hr2]; exact Int.ofNat_tdiv r q
                  have z7' : (r : Int) / (q : Int) = (r2 : Int) := by rw [← hr2]; rfl
                  have z8 : IntKind.i64.wrap (r2 : Int) = (r2 : Int) := IntWalk.i64_in _ (by omega)
                  obtain ⟨N, rfl⟩ := HW.out
                  clear hri hcj hy hD hdg hyt hst hpb hs2b hr2 hrx hr2l HW HS HR hDq
                  go_wp2_with fail
                  go_quiet (fail)
                  go_wp2_with fail
                  go_roundw
                  case rel => exact ⟨j + 1, r2, s2, by omega, by go_num, rfl, rfl, HR2, HS2, ⟨N + nq, rfl⟩⟩
                  case measure => simp [intOf]; omega
                · obtain rfl : j = k := by omega
                  have HDN := Lib.hid HS.out.done
                  by_cases hp : PrK q xss j x i
                  · have e1 : decide (PrK q xss j x i) = true := decide_eq_true hp
                    by_cases hs : s = 0
                    · subst hs
                      have e2 := Lib.hid (decide_eq_true (show PrK q xss j x (i + 1) from PrK.step.2 ⟨hp, HDN.out.1 rfl⟩))
                      clear hp
                      go_wp2_with fail
                      go_roundw
                      case rel => exact ⟨i + 1, by omega, by go_num, by rw [e2.out], HW⟩
                      case measure => simp [intOf]; omega
                    · have hs' : (s == 0) = false := by rw [beq_eq_false_iff_ne]; exact hs
                      have e2 := Lib.hid (decide_eq_false (show ¬ PrK q xss j x (i + 1) from fun h => hs (HDN.out.2 (PrK.step.1 h).2)))
                      clear hp hs
                      go_wp2_with fail
                      go_roundw
                      case rel => exact ⟨i + 1, by omega, by go_num, by rw [e2.out], HW⟩
                      case measure => simp [intOf]; omega
                  · have e1 : decide (PrK q xss j x i) = false := decide_eq_false hp
                    have e2 := Lib.hid (decide_eq_false (show ¬ PrK q xss j x (i + 1) from fun h => hp (PrK.step.1 h).1))
                    clear hp
                    go_wp2_with fail
                    go_roundw
                    case rel => exact ⟨i + 1, by omega, by go_num, by rw [e2.out], HW⟩
                    case measure => simp [intOf]; omega
            · obtain rfl : i = n := by omega
              have HCS := Lib.hid (cnt_succ (fun y => decide (PrK q xss k y i)) x)
              by_cases hp : PrK q xss k x i
              · have e1 : decide (PrK q xss k x i) = true := decide_eq_true hp
                have HM2 : Hid (m + 1 = cnt (fun y => decide (PrK q xss k y i)) (x + 1)) := by
                  rw [HCS.out, if_pos e1, ← HM.out]; exact rfl
                clear HM HCS
                go_wp2_with fail
                go_roundw
                case rel => exact ⟨x + 1, m + 1, by omega, by go_num, by go_num, HM2, by omega, HW⟩
                case measure => simp [intOf]; omega
              · have e1 : decide (PrK q xss k x i) = false := decide_eq_false hp
                have HM2 : Hid (m = cnt (fun y => decide (PrK q xss k y i)) (x + 1)) := by
                  rw [HCS.out, if_neg (by rw [e1]; decide), ← HM.out]; exact rfl
                clear HM HCS
                go_wp2_with fail
                go_roundw
                case rel => exact ⟨x + 1, m, by omega, by go_num, rfl, HM2, by omega, HW⟩
                case measure => simp [intOf]; omega
        · obtain rfl : x = t := by omega
          have HKM : Hid (((kerN n k (eI xss) q : Nat) : Int) = (m : Int)) := by rw [HK.out, ← HT.out, ← HM.out]; exact rfl
          go_wp2_with fail
          go_ret
          exact ⟨ret_int HKM.out.symm, HW.out⟩
end Go.Proofs.Ytjlokbolmindgaa

