/- The other functions of package sum and of its reference. -/
import Derived.Test.YtgpedejeifmfdaaSumW
import Derived.Test.YtgpedejeifmfdaaConcat
namespace Go.Proofs.Ytgpedejeifmfdaa
open Go.RowKit

def xr (x y k : Nat) : Nat := (x ^^^ y) % 2 ^ k
theorem xr_lt (x y k : Nat) (h : k ≤ 25) : xr x y k < 33554432 := by
  unfold xr
  exact Nat.lt_of_lt_of_le (Nat.mod_lt _ (Nat.pow_pos (by decide))) (Nat.pow_le_pow_right (by decide) h)
theorem xr_succ (x y k : Nat) : xr x y (k + 1) = xr x y k + if x / 2 ^ k % 2 = y / 2 ^ k % 2 then 0 else 2 ^ k := by
  unfold xr
  rw [Nat.mod_pow_succ]
  congr 1
  have e : (x ^^^ y) / 2 ^ k % 2 = if x / 2 ^ k % 2 = y / 2 ^ k % 2 then 0 else 1 := by
    have h1 : (x ^^^ y).testBit k = (x.testBit k ^^ y.testBit k) := Nat.testBit_xor ..
    simp only [Nat.testBit_eq_decide_div_mod_eq] at h1
    rcases Nat.mod_two_eq_zero_or_one (x / 2^k) with h | h <;> rcases Nat.mod_two_eq_zero_or_one (y / 2^k) with h' | h' <;> rw [h, h'] at h1 ⊢ <;> simp at h1 ⊢ <;> omega
  rw [e]; split <;> simp






end Go.Proofs.Ytgpedejeifmfdaa
