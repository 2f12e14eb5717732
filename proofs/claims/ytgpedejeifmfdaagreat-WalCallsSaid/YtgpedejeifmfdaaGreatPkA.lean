/- word.within. -/
import Derived.Laws.Bits64b
import Derived.Test.YtgpedejeifmfdaaGreatWorlds
import Derived.Test.YtgpedejeifmfdaaGreatUse
import Derived.Test.YtgpedejeifmfdaaGreatChecked
namespace Go.Proofs.YtgpedejeifmfdaaGreat
open Go.RowKit

def val8 : List Nat → Nat
  | [] => 0
  | b :: bs => b + 256 * val8 bs
def dig8 : Nat → Nat → List Nat
  | 0, _ => []
  | n + 1, x => x % 256 :: dig8 n (x / 256)
theorem val_dig : ∀ (n x : Nat), x < 256 ^ n → val8 (dig8 n x) = x
  | 0, x, h => by simp at h; simp [dig8, val8, h]
  | n + 1, x, h => by
    unfold dig8 val8
    rw [val_dig n (x / 256) (by rw [Nat.pow_succ] at h; omega)]
    omega
theorem within_calls {w : World} (n a b : Int) : Calls Tryz.prog 98 #[.int .i64 n, .int .i64 a, .int .i64 b] w fun e w' => e = .returned (.bool (decide (a ≤ n ∧ n ≤ b))) ∧ w' = w := by
  by_cases h1 : a ≤ n
  · have d1 : decide (a ≤ n) = true := decide_eq_true h1
    by_cases h2 : n ≤ b
    · have d2 : decide (n ≤ b) = true := decide_eq_true h2
      have e : decide (a ≤ n ∧ n ≤ b) = true := decide_eq_true ⟨h1, h2⟩
      rw [e]
      clear h1 h2 e
      go_enter Tryz.func98, Tryz.ntmps98
      go_wp2
      go_ret
      exact ⟨rfl, rfl⟩
    · have d2 : decide (n ≤ b) = false := decide_eq_false h2
      have e : decide (a ≤ n ∧ n ≤ b) = false := decide_eq_false fun h => h2 h.2
      rw [e]
      clear h1 h2 e
      go_enter Tryz.func98, Tryz.ntmps98
      go_wp2
      go_ret
      exact ⟨rfl, rfl⟩
  · have d1 : decide (a ≤ n) = false := decide_eq_false h1
    have e : decide (a ≤ n ∧ n ≤ b) = false := decide_eq_false fun h => h1 h.1
    rw [e]
    clear h1 e
    go_enter Tryz.func98, Tryz.ntmps98
    go_wp2
    go_ret
    exact ⟨rfl, rfl⟩
theorem wrap_small {X : Nat} (h : X < 9223372036854775808) : wrap64 (X : Int) = (X : Int) := by unfold wrap64; omega
end Go.Proofs.YtgpedejeifmfdaaGreat
