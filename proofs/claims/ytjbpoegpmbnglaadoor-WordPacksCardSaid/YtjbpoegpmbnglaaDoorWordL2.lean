/- The laws WordZigs, WordTurns. -/
import Derived.Test.YtjbpoegpmbnglaaDoorWord6
namespace Go.Proofs.YtjbpoegpmbnglaaDoor
open Go.RowKit

theorem u64_nat {a : Int} (h : (Lit.int .u64 a).wf = true) : ∃ u : Nat, a = (u : Int) ∧ u < 18446744073709551616 := by
  have := wf_of h
  simp [IntKind.min, IntKind.max, IntKind.signed, IntKind.bits] at this
  exact ⟨a.toNat, by omega, by omega⟩
theorem zag_range {u : Nat} (h : u < 18446744073709551616) : -9223372036854775808 ≤ zagS u ∧ zagS u ≤ 9223372036854775807 := by
  unfold zagS
  split <;> omega
theorem zig_nat {n : Int} (h0 : -9223372036854775808 ≤ n) (h1 : n ≤ 9223372036854775807) : ∃ u : Nat, zigS n = (u : Int) ∧ u < 18446744073709551616 := by
  unfold zigS
  split
  · exact ⟨(-2 * n - 1).toNat, by omega, by omega⟩
  · exact ⟨(2 * n).toNat, by omega, by omega⟩
theorem zag_zig {n : Int} {u : Nat} (h : zigS n = (u : Int)) : zagS u = n := by
  rw [← h]
  unfold zigS zagS
  split <;> split <;> omega
theorem zig_zag (u : Nat) : zigS (zagS u) = u := by
  unfold zigS zagS
  split <;> split <;> omega
theorem fits_range {n : Int} {K : Nat} (h1 : 1 ≤ K) (h63 : K ≤ 63) : fitsS n K = decide (-(2 : Int) ^ (K - 1) ≤ n ∧ n < 2 ^ (K - 1)) := by
  unfold fitsS
  rw [Int.toNat_natCast]
  congr 1
  apply propext
  have hp : ((2 ^ K : Nat) : Int) = 2 * 2 ^ (K - 1) := by
    have : 2 ^ K = 2 * 2 ^ (K - 1) := by rw [← Nat.pow_succ']; congr 1; omega
    rw [this]; push_cast; rfl
  have hpos : (0 : Int) < 2 ^ (K - 1) := Int.pow_pos (by decide)
  rw [Int.bmod_def, hp]
  have h8 := Int.emod_nonneg n (b := 2 * 2 ^ (K - 1)) (by omega)
  have h9 := Int.emod_lt_of_pos n (b := 2 * 2 ^ (K - 1)) (by omega)
  have h6 := Int.emod_add_mul_ediv n (2 * 2 ^ (K - 1))
  generalize (2 : Int) ^ (K - 1) = D at *
  constructor
  · rintro ⟨_, _, h⟩
    split at h <;> omega
  · rintro ⟨a, b⟩
    refine ⟨by omega, by omega, ?_⟩
    by_cases hn : 0 ≤ n
    · rw [Int.emod_eq_of_lt hn (by omega), if_pos (by omega)]
    · have : n % (2 * D) = n + 2 * D := by
        rw [← Int.add_emod_right, Int.emod_eq_of_lt (by omega) (by omega)]
      rw [this, if_neg (by omega)]
      omega
theorem zig_fits {n : Int} {K u : Nat} (h1 : 1 ≤ K) (h63 : K ≤ 63) (hu : zigS n = (u : Int)) : fitsS n K = ((u : Int) / 2 ^ K == 0) := by
  rw [fits_range h1 h63]
  have hp : (2 : Int) ^ K = 2 * 2 ^ (K - 1) := by
    have : (2 : Nat) ^ K = 2 * 2 ^ (K - 1) := by rw [← Nat.pow_succ']; congr 1; omega
    have h2 : ((2 ^ K : Nat) : Int) = ((2 * 2 ^ (K - 1) : Nat) : Int) := by rw [this]
    push_cast at h2
    exact h2
  have hpos : (0 : Int) < 2 ^ (K - 1) := Int.pow_pos (by decide)
  rw [hp]
  generalize (2 : Int) ^ (K - 1) = D at *
  have hd : ((u : Int) / (2 * D) = 0) ↔ (u : Int) < 2 * D := by
    constructor
    · intro h
      have := Int.emod_add_mul_ediv (u : Int) (2 * D)
      have h9 := Int.emod_lt_of_pos (u : Int) (b := 2 * D) (by omega)
      rw [h, Int.mul_zero] at this
      omega
    · exact fun h => Int.ediv_eq_zero_of_lt (by omega) h
  rw [Bool.eq_iff_iff, decide_eq_true_iff, beq_iff_eq, hd, ← hu]
  unfold zigS
  split <;> omega
set_option maxHeartbeats 1000000 in
theorem lawWordZigs {w : World} {n a k : Int} (hT : TabOk w) (h1 : (Lit.int .i64 n).wf = true) (h2 : (Lit.int .u64 a).wf = true) (_h3 : (Lit.int .i64 k).wf = true) :
    Calls Tryd.prog 6 #[.int .i64 n, .int .u64 a, .int .i64 k] w fun e w' => e = .returned (.bool true) ∧ Below w.heap.size w w' := by
  clear _h3
  have ha := alive_calls hT
  have hA := Lib.hid ha; clear ha hT
  obtain ⟨u, rfl, hu⟩ := u64_nat h2
  have hn := wf_i64 h1
  clear h1 h2
  obtain ⟨z, hz, hzl⟩ := zig_nat hn.1 hn.2
  have c1 := fun w : World => Zig_calls (w := w) hn.1 hn.2
  have c2 := fun w : World => Zag_calls (w := w) hzl
  rw [zag_zig hz] at c2
  rw [hz] at c1
  have c3 := fun w : World => Zag_calls (w := w) hu
  have c4 := fun w : World => Zig_calls (w := w) (zag_range hu).1 (zag_range hu).2
  rw [zig_zag] at c4
  have hfk := fun (K : Nat) (hK : 1 ≤ K) (hK2 : K ≤ 63) => zig_fits (n := n) hK hK2 hz
  have c5 := fun w : World => Fits_calls (w := w) n k
  generalize zagS u = Z at c3 c4
  have d1 : (n != n) = false := by simp
  have d2 : ((u : Int) != (u : Int)) = false := by simp
  have C1 := Lib.hid c1; clear c1 hz hzl
  have C2 := Lib.hid c2; clear c2 hu hn
  have C3 := Lib.hid c3; clear c3
  have C4 := Lib.hid c4; clear c4
  have hK := Lib.hid hfk; clear hfk
  have C5 := Lib.hid c5; clear c5
  go_enter Tryd.func6, Tryd.ntmps6
  go_wp2_with fail
  refine hA.out.mono ?_
  rintro e w1 ⟨rfl, b1⟩
  have hB := Lib.hid b1; clear b1
  go_wp2_with fail
  refine (C1.out _).mono ?_
  rintro e w2 ⟨rfl, rfl⟩
  go_wp2_with fail
  refine (C2.out _).mono ?_
  rintro e w2 ⟨rfl, rfl⟩
  go_wp2_with fail
  refine (C3.out _).mono ?_
  rintro e w2 ⟨rfl, rfl⟩
  go_wp2_with fail
  refine (C4.out _).mono ?_
  rintro e w2 ⟨rfl, rfl⟩
  by_cases hk : 1 ≤ k ∧ k ≤ 63
  · obtain ⟨K, rfl⟩ : ∃ K : Nat, k = K := ⟨k.toNat, by omega⟩
    have k1 : decide ((K : Int) < 1) = false := decide_eq_false (by omega)
    have k2 : decide (63 < (K : Int)) = false := decide_eq_false (by omega)
    have hfz := hK.out K (by omega) (by omega)
    have hmin : min K 64 = K := by omega
    have hwk : IntKind.u64.wrap (K : Int) = (K : Int) := by rw [IntKind.wrap_u64]; omega
    rw [hfz] at C5
    clear hK hk hfz
    obtain ⟨E, hE⟩ : ∃ E, ((z : Int) / 2 ^ K == 0) = E := ⟨_, rfl⟩
    rw [hE] at C5
    have d3 : (E == E) = true := by simp
    go_wp2_with fail
    refine (C5.out _).mono ?_
    rintro e w2 ⟨rfl, rfl⟩
    go_wp2_with fail
    refine (C1.out _).mono ?_
    rintro e w2 ⟨rfl, rfl⟩
    go_wp2
    go_ret
    exact ⟨rfl, hB.out⟩
  · have hd : decide (k < 1) = true ∨ (decide (k < 1) = false ∧ decide (63 < k) = true) := by
      by_cases h : k < 1
      · exact .inl (decide_eq_true h)
      · exact .inr ⟨decide_eq_false h, decide_eq_true (by omega)⟩
    clear hk hK
    rcases hd with e1 | ⟨e1, e2⟩
    all_goals
      go_wp2
      go_ret
      exact ⟨rfl, hB.out⟩
end Go.Proofs.YtjbpoegpmbnglaaDoor
