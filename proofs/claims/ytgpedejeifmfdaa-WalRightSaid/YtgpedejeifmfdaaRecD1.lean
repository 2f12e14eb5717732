/- The document's value and small. -/
import Derived.Test.YtgpedejeifmfdaaRecJ
namespace Go.Proofs.Ytgpedejeifmfdaa
open Go.RowKit

theorem Rvalue_calls {w : World} (t : Bool) (n : Int) : Calls Try.prog 34 #[.agg #[.bool t, .int .i64 n]] w fun e w' => e = .returned (.bool (decide (valOk t n))) ∧ Below w.heap.size w w' := by
  have hb := (Below.refl w.heap.size w).alloc (Nat.le_refl _) (.cells #[.bool t, .int .i64 n] 46)
  cases t
  · by_cases h : n = 0
    · subst h
      go_enter Try.func34, Try.ntmps34
      go_wp2
      go_ret
      exact ⟨rfl, hb⟩
    · have e1 : (n == 0) = false := by simpa using h
      rw [decide_eq_false (show ¬ valOk false n by unfold valOk; simpa using h)]
      clear h
      go_enter Try.func34, Try.ntmps34
      go_wp2
      go_ret
      exact ⟨rfl, hb⟩
  · rw [decide_eq_true (show valOk true n from .inl rfl)]
    go_enter Try.func34, Try.ntmps34
    go_wp2
    go_ret
    exact ⟨rfl, hb⟩
theorem nat_rem (U : Nat) : (U : Int).tmod 256 = ((U % 256 : Nat) : Int) ∧ (U : Int).tdiv 256 = ((U / 256 : Nat) : Int) := ⟨by rw [Int.tmod_eq_emod_of_nonneg (by omega)]; omega, by rw [Int.tdiv_eq_ediv_of_nonneg (by omega)]; omega⟩
theorem nb_of {U i : Nat} (h1 : 1 ≤ i) (h2 : i ≤ nb U) (h : U / 256 ^ i = 0) : i = nb U := by
  rcases Nat.lt_or_ge i (nb U) with hl | hl
  · have := nbF_ge 7 U i h1 hl
    have h3 := (Nat.div_eq_zero_iff_lt (Nat.pow_pos (by decide))).1 h
    omega
  · omega
theorem nb_lt_of {U i : Nat} (hU : U < 18446744073709551616) (h2 : i ≤ nb U) (h : U / 256 ^ i ≠ 0) : i < nb U := by
  rcases Nat.lt_or_ge i (nb U) with hl | hl
  · exact hl
  · obtain rfl : i = nb U := by omega
    exact absurd (Nat.div_eq_of_lt (nb_lt hU)) h
end Go.Proofs.Ytgpedejeifmfdaa
