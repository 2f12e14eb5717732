/- The document's numbers: power, Fits, Cut, Zig, Zag. -/
import Derived.Test.YtjbpoegpmbnglaaDoorWordL2
namespace Go.Proofs.YtjbpoegpmbnglaaDoor
open Go.RowKit

set_option maxHeartbeats 1000000 in
theorem power_calls {w : World} {K : Nat} (h : K ≤ 62) : Calls Tryd.prog 38 #[.int .i64 (K : Int)] w fun e w' => e = .returned (.int .i64 ((2 ^ K : Nat) : Int)) ∧ w' = w := by
  go_enter Tryd.func38, Tryd.ntmps38
  go_wp2_with fail
  go_loopw [3, 4] (fun x i wr => ∃ j : Nat, j ≤ K ∧ i = .int .i64 (j : Int) ∧ x = .int .i64 ((2 ^ j : Nat) : Int) ∧ wr = w) (fun _ i _ => K - (intOf i).toNat)
  case atStart => exact ⟨0, by omega, rfl, rfl, rfl⟩
  case round =>
    obtain ⟨j, hj, rfl, rfl, rfl⟩ := hrel
    by_cases hlt : j < K
    · have hX : 2 ^ j ≤ 2 ^ 61 := Nat.pow_le_pow_right (by decide) (by omega)
      have hs : 2 ^ (j + 1) = 2 ^ j * 2 := Nat.pow_succ _ _
      generalize 2 ^ j = X at *
      have hX : X ≤ 2305843009213693952 := hX
      have Hs := Lib.hid hs; clear hs
      go_wp2_with fail
      go_roundw
      case rel => exact ⟨j + 1, by omega, by go_num, by rw [Hs.out]; go_num, trivial⟩
      case measure => simp [intOf]; omega
    · obtain rfl : j = K := by omega
      go_wp2
      go_ret
      exact ⟨rfl, rfl⟩
theorem bmod64 {n : Int} (h0 : -9223372036854775808 ≤ n) (h1 : n ≤ 9223372036854775807) : Int.bmod n (2 ^ 64) = n := by
  rw [Int.bmod_def]
  omega
set_option maxHeartbeats 1000000 in
theorem RFits_calls {w : World} {n k : Int} (h0 : -9223372036854775808 ≤ n) (h1 : n ≤ 9223372036854775807) : Calls Tryd.prog 13 #[.int .i64 n, .int .i64 k] w fun e w' => e = .returned (.bool (fitsS n k)) ∧ w' = w := by
  by_cases hk : 1 ≤ k ∧ k ≤ 64
  · obtain ⟨K, rfl⟩ : ∃ K : Nat, k = K := ⟨k.toNat, by omega⟩
    have e1 : decide ((K : Int) < 1) = false := decide_eq_false (by omega)
    have e2 : decide (64 < (K : Int)) = false := decide_eq_false (by omega)
    by_cases h64 : K = 64
    · subst h64
      have hf : fitsS n ((64 : Nat) : Int) = true := decide_eq_true ⟨by decide, by decide, bmod64 h0 h1⟩
      rw [hf]
      clear hf h0 h1 hk e1 e2
      go_enter Tryd.func13, Tryd.ntmps13
      go_wp2
      go_ret
      exact ⟨rfl, rfl⟩
    · have e3 : ((K : Int) == 64) = false := by simp; omega
      rw [fits_range (by omega : 1 ≤ K) (by omega)]
      obtain ⟨D, hD⟩ : ∃ D : Nat, D = K - 1 := ⟨_, rfl⟩
      have hKD : (K : Int) - 1 = (D : Int) := by omega
      have hP : 2 ^ D ≤ 2 ^ 62 := Nat.pow_le_pow_right (by decide) (by omega)
      have hp := fun w : World => power_calls (w := w) (K := D) (by omega)
      rw [← hD, show (2 : Int) ^ D = ((2 ^ D : Nat) : Int) by push_cast; rfl]
      generalize 2 ^ D = P at *
      have hP : P ≤ 4611686018427387904 := hP
      have Hp := Lib.hid hp; clear hp
      have hlt1 : (K : Int) ≤ 64 := by omega
      have hlt2 : 1 ≤ (K : Int) := by omega
      clear hk h64 hD
      by_cases a1 : -(P : Int) ≤ n
      · have d1 : decide (-(P : Int) ≤ n) = true := decide_eq_true a1
        have hr : decide (-(P : Int) ≤ n ∧ n < (P : Int)) = decide (n < (P : Int)) := by congr 1; exact propext ⟨fun h => h.2, fun h => ⟨a1, h⟩⟩
        rw [hr]
        clear hr a1
        obtain ⟨B, hB⟩ : ∃ B, decide (n < (P : Int)) = B := ⟨_, rfl⟩
        rw [hB]
        go_enter Tryd.func13, Tryd.ntmps13
        go_wp2_with fail
        refine (Hp.out _).mono ?_
        rintro e w1 ⟨rfl, rfl⟩
        go_wp2_with fail
        refine (Hp.out _).mono ?_
        rintro e w1 ⟨rfl, rfl⟩
        go_wp2
        go_ret
        exact ⟨rfl, rfl⟩
      · have d1 : decide (-(P : Int) ≤ n) = false := decide_eq_false a1
        have hr : decide (-(P : Int) ≤ n ∧ n < (P : Int)) = false := decide_eq_false fun h => a1 h.1
        rw [hr]
        clear hr a1
        go_enter Tryd.func13, Tryd.ntmps13
        go_wp2_with fail
        refine (Hp.out _).mono ?_
        rintro e w1 ⟨rfl, rfl⟩
        go_wp2
        go_ret
        exact ⟨rfl, rfl⟩
  · have hf : fitsS n k = false := decide_eq_false fun h => hk ⟨h.1, h.2.1⟩
    rw [hf]
    have hd : decide (k < 1) = true ∨ (decide (k < 1) = false ∧ decide (64 < k) = true) := by
      by_cases h : k < 1
      · exact .inl (decide_eq_true h)
      · exact .inr ⟨decide_eq_false h, decide_eq_true (by omega)⟩
    clear hk hf h0 h1
    rcases hd with e1 | ⟨e1, e2⟩
    all_goals
      go_enter Tryd.func13, Tryd.ntmps13
      go_wp2
      go_ret
      exact ⟨rfl, rfl⟩
theorem RZig_calls {w : World} {n : Int} (h0 : -9223372036854775808 ≤ n) (h1 : n ≤ 9223372036854775807) : Calls Tryd.prog 17 #[.int .i64 n] w fun e w' => e = .returned (.int .u64 (zigS n)) ∧ w' = w := by
  unfold zigS
  by_cases h : n < 0
  · rw [if_pos h]
    have d1 : decide (n < 0) = true := decide_eq_true h
    have e1 : IntKind.u64.wrap (IntKind.u64.wrap (2 * IntKind.u64.wrap (wrap64 (-wrap64 (n + 1)))) + 1) = -2 * n - 1 := by
      simp only [IntKind.wrap_u64]; unfold wrap64; omega
    have H1 := Lib.hid e1; clear e1 h h0 h1
    go_enter Tryd.func17, Tryd.ntmps17
    go_wp2
    go_ret
    exact ⟨by show Ending.returned (.int .u64 _) = _; rw [← H1.out], rfl⟩
  · rw [if_neg h]
    have d1 : decide (n < 0) = false := decide_eq_false h
    have e1 : IntKind.u64.wrap (2 * IntKind.u64.wrap n) = 2 * n := by simp only [IntKind.wrap_u64]; omega
    have H1 := Lib.hid e1; clear e1 h h0 h1
    go_enter Tryd.func17, Tryd.ntmps17
    go_wp2
    go_ret
    exact ⟨by show Ending.returned (.int .u64 _) = _; rw [← H1.out], rfl⟩
theorem RZag_calls {w : World} {u : Nat} (hu : u < 18446744073709551616) : Calls Tryd.prog 19 #[.int .u64 u] w fun e w' => e = .returned (.int .i64 (zagS u)) ∧ w' = w := by
  unfold zagS
  have ht : (u : Int).tmod 2 = (u : Int) % 2 := Int.tmod_eq_emod_of_nonneg (by omega)
  have hd : (u : Int).tdiv 2 = (u : Int) / 2 := Int.tdiv_eq_ediv_of_nonneg (by omega)
  have hw : wrap64 ((u : Int) / 2) = (u : Int) / 2 := by unfold wrap64; omega
  by_cases h : (u : Int) % 2 = 1
  · rw [if_pos h]
    have d1 : ((u : Int) % 2 == 1) = true := by simpa using h
    clear h
    go_enter Tryd.func19, Tryd.ntmps19
    go_wp2
    go_ret
    exact ⟨rfl, rfl⟩
  · rw [if_neg h]
    have d1 : ((u : Int) % 2 == 1) = false := by simpa using h
    clear h
    go_enter Tryd.func19, Tryd.ntmps19
    go_wp2
    go_ret
    exact ⟨rfl, rfl⟩
theorem tmod_fix {n M : Int} (hM : 0 < M) : (n.tmod M < 0 ∧ n % M = n.tmod M + M) ∨ (0 ≤ n.tmod M ∧ n % M = n.tmod M) := by
  rcases Int.le_total 0 n with h | h
  · rw [Int.tmod_eq_emod_of_nonneg h]
    exact .inr ⟨Int.emod_nonneg _ (by omega), rfl⟩
  · rcases Int.lt_or_eq_of_le h with h | rfl
    · rw [tmod_neg n h M]
      have h1 := Int.emod_nonneg (-n) (b := M) (by omega)
      have h2 := Int.emod_lt_of_pos (-n) hM
      have h3 := Int.emod_add_mul_ediv (-n) M
      have h4 : n = -((-n) % M) + M * (-((-n) / M)) := by rw [Int.mul_neg]; omega
      by_cases h0 : (-n) % M = 0
      · refine .inr ⟨by omega, ?_⟩
        conv => lhs; rw [h4]
        rw [Int.add_mul_emod_self_left, h0]
        rfl
      · refine .inl ⟨by omega, ?_⟩
        conv => lhs; rw [h4]
        rw [Int.add_mul_emod_self_left, ← Int.add_emod_right, Int.emod_eq_of_lt (by omega) (by omega)]
    · right; simp
theorem bmod_fix {n : Int} {D : Nat} : Int.bmod n (2 * D) = if (D : Int) ≤ n % (2 * (D : Int)) then n % (2 * (D : Int)) - 2 * (D : Int) else n % (2 * (D : Int)) := by
  rw [Int.bmod_def]
  have e : ((2 * D : Nat) : Int) = 2 * (D : Int) := by push_cast; rfl
  rw [e]
  generalize n % (2 * (D : Int)) = r
  by_cases h : (D : Int) ≤ r
  · rw [if_pos h, if_neg (by omega)]
  · rw [if_neg h, if_pos (by omega)]
/-- The half that a number lies in, as the document counts it. -/
theorem cut63 {n : Int} (h0 : -9223372036854775808 ≤ n) (h1 : n ≤ 9223372036854775807) {T H : Int} (hT : T = n.tmod 4611686018427387904) (hH : H = (n.tdiv 4611686018427387904).tmod 2) :
    (T < 0 → cutS n 63 = if ((H - 1).tmod 2 != 0) = true then T + 4611686018427387904 - 4611686018427387904 else T + 4611686018427387904) ∧ (0 ≤ T → cutS n 63 = if (H.tmod 2 != 0) = true then T - 4611686018427387904 else T) ∧ -4611686018427387904 < T ∧ T < 4611686018427387904 ∧ -2 < H ∧ H < 2 := by
  have hc : cutS n 63 = Int.bmod n 9223372036854775808 := if_pos (by decide)
  rw [hc]
  have hB : (Int.bmod n 9223372036854775808 = n ∨ Int.bmod n 9223372036854775808 = n - 9223372036854775808 ∨ Int.bmod n 9223372036854775808 = n + 9223372036854775808) ∧ -4611686018427387904 ≤ Int.bmod n 9223372036854775808 ∧ Int.bmod n 9223372036854775808 < 4611686018427387904 := by
    rw [Int.bmod_def]
    split <;> omega
  generalize Int.bmod n 9223372036854775808 = B at hB
  clear hc
  rcases Int.le_total 0 n with h | h
  · rw [Int.tmod_eq_emod_of_nonneg h] at hT
    rw [Int.tdiv_eq_ediv_of_nonneg h, Int.tmod_eq_emod_of_nonneg (by omega)] at hH
    have hq : H = 0 ∨ H = 1 := by omega
    rcases hq with rfl | rfl
    · refine ⟨fun hlt => by omega, fun _ => ?_, by omega, by omega, by omega, by omega⟩
      rw [if_neg (by decide)]
      omega
    · refine ⟨fun hlt => by omega, fun _ => ?_, by omega, by omega, by omega, by omega⟩
      rw [if_pos (by decide)]
      omega
  · rcases Int.lt_or_eq_of_le h with h | rfl
    · rw [tmod_neg n h] at hT
      rw [tdiv_neg' n h] at hH
      have hq : (-n) / 4611686018427387904 = 0 ∨ (-n) / 4611686018427387904 = 1 ∨ (-n) / 4611686018427387904 = 2 := by omega
      rcases hq with hq | hq | hq
      · rw [hq] at hH
        have : H = 0 := hH
        subst this
        refine ⟨fun hlt => ?_, fun hge => ?_, by omega, by omega, by omega, by omega⟩
        · rw [if_pos (by decide)]
          omega
        · rw [if_neg (by decide)]
          omega
      · rw [hq] at hH
        have : H = -1 := hH
        subst this
        refine ⟨fun hlt => ?_, fun hge => ?_, by omega, by omega, by omega, by omega⟩
        · rw [if_neg (by decide)]
          omega
        · rw [if_pos (by decide)]
          omega
      · rw [hq] at hH
        have : H = 0 := hH
        subst this
        refine ⟨fun hlt => ?_, fun hge => ?_, by omega, by omega, by omega, by omega⟩
        · omega
        · rw [if_neg (by decide)]
          omega
    · subst hT hH
      refine ⟨fun hlt => absurd hlt (by decide), fun _ => ?_, by decide, by decide, by decide, by decide⟩
      rw [if_neg (by decide)]
      show B = 0
      omega
end Go.Proofs.YtjbpoegpmbnglaaDoor
