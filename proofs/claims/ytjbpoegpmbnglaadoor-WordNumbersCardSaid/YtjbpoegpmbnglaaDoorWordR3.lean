/- The document's bits: bit, Turn, Count, Low. -/
import Derived.Test.YtjbpoegpmbnglaaDoorWordR2
namespace Go.Proofs.YtjbpoegpmbnglaaDoor
open Go.RowKit

set_option maxHeartbeats 1000000 in
theorem bit_calls {w : World} {u K : Nat} (hu : u < 18446744073709551616) (hK : K ≤ 64) : Calls Tryd.prog 40 #[.int .u64 u, .int .i64 (K : Int)] w fun e w' => e = .returned (.int .u64 ((u / 2 ^ K % 2 : Nat) : Int)) ∧ w' = w := by
  have Hu := Lib.hid hu; clear hu
  go_enter Tryd.func40, Tryd.ntmps40
  go_wp2_with fail
  go_loopw [0, 5] (fun x i wr => ∃ j : Nat, j ≤ K ∧ i = .int .i64 (j : Int) ∧ x = .int .u64 ((u / 2 ^ j : Nat) : Int) ∧ wr = w) (fun _ i _ => K - (intOf i).toNat)
  case atStart => exact ⟨0, by omega, rfl, by rw [Nat.pow_zero, Nat.div_one], rfl⟩
  case round =>
    obtain ⟨j, hj, rfl, rfl, rfl⟩ := hrel
    have hX : u / 2 ^ j < 18446744073709551616 := Nat.lt_of_le_of_lt (Nat.div_le_self _ _) Hu.out
    have ht : ((u / 2 ^ j : Nat) : Int).tdiv 2 = ((u / 2 ^ j / 2 : Nat) : Int) := by rw [Int.tdiv_eq_ediv_of_nonneg (Int.natCast_nonneg _)]; rfl
    have hm : ((u / 2 ^ j : Nat) : Int).tmod 2 = ((u / 2 ^ j % 2 : Nat) : Int) := by rw [Int.tmod_eq_emod_of_nonneg (Int.natCast_nonneg _)]; rfl
    by_cases hlt : j < K
    · have hs : u / 2 ^ (j + 1) = u / 2 ^ j / 2 := by rw [Nat.pow_succ, Nat.div_div_eq_div_mul]
      generalize u / 2 ^ j = X at *
      have Hs := Lib.hid hs; clear hs hm
      have Ht := Lib.hid ht; clear ht
      go_wp2_with fail
      go_roundw
      case rel => exact ⟨j + 1, by omega, by go_num, by rw [Hs.out]; rfl, trivial⟩
      case measure => simp [intOf]; omega
    · obtain rfl : j = K := by omega
      have Hm := Lib.hid hm; clear hm ht
      go_wp2
      go_ret
      exact ⟨rfl, rfl⟩
theorem rot_step {v : Nat} (hv : v < 18446744073709551616) : IntKind.u64.wrap (IntKind.u64.wrap ((v : Int) * 2) + ((v / 2 ^ 63 % 2 : Nat) : Int)) = ((rot1 v : Nat) : Int) := by
  rw [IntKind.wrap_u64, IntKind.wrap_u64]
  unfold rot1
  have : v / 2 ^ 63 % 2 = v / 2 ^ 63 := by omega
  rw [this]
  omega
set_option maxHeartbeats 1000000 in
theorem RTurn_calls {w : World} {u : Nat} (hu : u < 2 ^ 64) (k : Int) : Calls Tryd.prog 21 #[.int .u64 u, .int .i64 k] w fun e w' => e = .returned (.int .u64 (turnS u k)) ∧ w' = w := by
  unfold turnS
  obtain ⟨K, hK⟩ : ∃ K : Nat, K = (k % 64).toNat := ⟨_, rfl⟩
  rw [← hK]
  have hK64 : K < 64 := by omega
  obtain ⟨T, hT⟩ : ∃ T, k.tmod 64 = T := ⟨_, rfl⟩
  have hd : (decide (T < 0) = true ∧ T + 64 = (K : Int)) ∨ (decide (T < 0) = false ∧ T = (K : Int)) := by
    rw [← hT]
    rcases Int.le_total 0 k with h | h
    · rw [Int.tmod_eq_emod_of_nonneg h]
      exact .inr ⟨decide_eq_false (by omega), by omega⟩
    · rcases Int.lt_or_eq_of_le h with h | rfl
      · rw [tmod_neg k h 64]
        by_cases h0 : (-k) % 64 = 0
        · exact .inr ⟨decide_eq_false (by omega), by omega⟩
        · exact .inl ⟨decide_eq_true (by omega), by omega⟩
      · exact .inr ⟨by decide, by have : K = 0 := (by simpa using hK); rw [this]; rfl⟩
  have Hu := Lib.hid hu; clear hu hK
  rcases hd with ⟨d1, hKT⟩ | ⟨d1, rfl⟩
  all_goals
    go_enter Tryd.func21, Tryd.ntmps21
    go_wp2_with fail
    go_loopw [0, 5] (fun x i wr => ∃ j : Nat, j ≤ K ∧ i = .int .i64 (j : Int) ∧ x = .int .u64 ((rots j u : Nat) : Int) ∧ wr = w) (fun _ i _ => K - (intOf i).toNat)
    case atStart => exact ⟨0, by omega, rfl, rfl, rfl⟩
    case round =>
      obtain ⟨j, hj, rfl, rfl, rfl⟩ := hrel
      have hv : rots j u < 18446744073709551616 := rots_lt Hu.out j
      by_cases hlt : j < K
      · have hs : rots (j + 1) u = rot1 (rots j u) := rfl
        have hst := rot_step hv
        have hbit := fun w : World => bit_calls (w := w) (K := 63) hv (by decide)
        generalize rots j u = X at *
        rw [show ((63 : Nat) : Int) = 63 from rfl] at hbit
        generalize X / 2 ^ 63 % 2 = Y at *
        have Hs := Lib.hid hs; clear hs
        have Hst := Lib.hid hst; clear hst hv
        have Hbit := Lib.hid hbit; clear hbit
        go_wp2_with fail
        refine (Hbit.out _).mono ?_
        rintro e w1 ⟨rfl, rfl⟩
        go_wp2_with fail
        go_roundw
        case rel => exact ⟨j + 1, by omega, by go_num, by rw [Hs.out, ← Hst.out], trivial⟩
        case measure => simp [intOf]; omega
      · obtain rfl : j = K := by omega
        go_wp2
        go_ret
        exact ⟨rfl, rfl⟩
set_option maxHeartbeats 1000000 in
theorem RCount_calls {w : World} {u : Nat} (hu : u < 18446744073709551616) : Calls Tryd.prog 23 #[.int .u64 u] w fun e w' => e = .returned (.int .i64 (pop u)) ∧ w' = w := by
  have Hu := Lib.hid hu; clear hu
  go_enter Tryd.func23, Tryd.ntmps23
  go_wp2_with fail
  go_loopw [3, 4] (fun x i wr => ∃ j : Nat, j ≤ 64 ∧ i = .int .i64 (j : Int) ∧ x = .int .i64 ((Lib.popAux j u : Nat) : Int) ∧ Lib.popAux j u ≤ j ∧ wr = w) (fun _ i _ => 64 - (intOf i).toNat)
  case atStart => exact ⟨0, by omega, rfl, rfl, Nat.le_refl _, rfl⟩
  case round =>
    obtain ⟨j, hj, rfl, rfl, hle, rfl⟩ := hrel
    by_cases hlt : j < 64
    · have hs : Lib.popAux (j + 1) u = Lib.popAux j u + u / 2 ^ j % 2 := by
        rw [pop_add]
        show _ + (u / 2 ^ j % 2 + 0) = _
        omega
      have hbit := fun w : World => bit_calls (w := w) (K := j) Hu.out (by omega)
      have hY : u / 2 ^ j % 2 ≤ 1 := by omega
      generalize Lib.popAux j u = X at *
      generalize u / 2 ^ j % 2 = Y at *
      have Hs := Lib.hid hs; clear hs
      have Hbit := Lib.hid hbit; clear hbit
      have d1 : decide ((j : Int) < 64) = true := decide_eq_true (by omega)
      go_wp2_with fail
      refine (Hbit.out _).mono ?_
      rintro e w1 ⟨rfl, rfl⟩
      go_wp2_with fail
      go_roundw
      case rel => exact ⟨j + 1, by omega, by go_num, by rw [Hs.out]; go_num, by rw [Hs.out]; omega, trivial⟩
      case measure => simp [intOf]; omega
    · obtain rfl : j = 64 := by omega
      go_wp2
      go_ret
      exact ⟨rfl, rfl⟩
set_option maxHeartbeats 1000000 in
theorem RLow_calls {w : World} {u : Nat} (hu : u < 18446744073709551616) : Calls Tryd.prog 25 #[.int .u64 u] w fun e w' => e = .returned (.int .i64 (lowS u)) ∧ w' = w := by
  obtain ⟨L, hL⟩ : ∃ L, L = lowS u := ⟨_, rfl⟩
  rw [← hL]
  have Hu := Lib.hid hu; clear hu
  have HL := Lib.hid hL; clear hL
  go_enter Tryd.func25, Tryd.ntmps25
  go_wp2_with fail
  go_loopw [3] (fun i wr => ∃ j : Nat, j ≤ 64 ∧ i = .int .i64 (j : Int) ∧ u % 2 ^ j = 0 ∧ wr = w) (fun i _ => 64 - (intOf i).toNat)
  case atStart => exact ⟨0, by omega, rfl, Nat.mod_one u, rfl⟩
  case round =>
    obtain ⟨j, hj, rfl, hz, rfl⟩ := hrel
    have Hz := Lib.hid hz; clear hz
    by_cases hlt : j < 64
    · have d1 : decide ((j : Int) < 64) = true := decide_eq_true (by omega)
      have hbit := fun w : World => bit_calls (w := w) (K := j) Hu.out (by omega)
      by_cases h1 : u / 2 ^ j % 2 = 1
      · have hLj : L = j := by
          rw [HL.out]
          have e : u = 2 ^ j * (2 * (u / 2 ^ j / 2) + 1) := by
            have h2 := Nat.div_add_mod u (2 ^ j)
            rw [Hz.out, Nat.add_zero] at h2
            have h3 : 2 * (u / 2 ^ j / 2) + 1 = u / 2 ^ j := by omega
            rw [h3]
            exact h2.symm
          unfold lowS
          conv => lhs; rw [e]
          exact ctz_at hlt
        rw [h1] at hbit
        have Hbit := Lib.hid hbit; clear hbit h1
        go_wp2_with fail
        refine (Hbit.out _).mono ?_
        rintro e w1 ⟨rfl, rfl⟩
        go_wp2
        go_ret
        exact ⟨by rw [hLj]; rfl, rfl⟩
      · have h0 : u / 2 ^ j % 2 = 0 := by omega
        have hz2 : u % 2 ^ (j + 1) = 0 := by rw [Nat.pow_succ, Nat.mod_mul, Hz.out, h0]; rfl
        rw [h0] at hbit
        have Hbit := Lib.hid hbit; clear hbit h1 h0
        have Hz2 := Lib.hid hz2; clear hz2
        go_wp2_with fail
        refine (Hbit.out _).mono ?_
        rintro e w1 ⟨rfl, rfl⟩
        go_wp2_with fail
        go_roundw
        case rel => exact ⟨j + 1, by omega, by go_num, Hz2.out, trivial⟩
        case measure => simp [intOf]; omega
    · obtain rfl : j = 64 := by omega
      have hL64 : L = 64 := by
        rw [HL.out]
        have : u = 0 := by
          have h2 := Hz.out
          rw [Nat.mod_eq_of_lt Hu.out] at h2
          exact h2
        rw [this]
        rfl
      go_wp2
      go_ret
      exact ⟨by rw [hL64]; rfl, rfl⟩
end Go.Proofs.YtjbpoegpmbnglaaDoor
