/- word.Zig, Zag, and the document's. -/
import Derived.Laws.Bits64b
import Derived.WalkKit
import Derived.Test.YtgpedejeifmfdaaBase
import Derived.Test.YtgpedejeifmfdaaUse
import Derived.Test.YtgpedejeifmfdaaChecked
namespace Go.Proofs.Ytgpedejeifmfdaa
open Go.RowKit

theorem ofInt_nat (a : Nat) (h : a < 18446744073709551616) : (BitVec.ofInt 64 (a : Int)).toNat = a := by
  rw [BitVec.ofInt_natCast, BitVec.toNat_ofNat]; exact Nat.mod_eq_of_lt (by omega)
theorem bits_and_i64_nat (a b : Nat) (ha : a < 9223372036854775808) (hb : b < 9223372036854775808) : bits .and .i64 (a : Int) (b : Int) = ((a &&& b : Nat) : Int) := by
  have hx : a &&& b ≤ a := Nat.and_le_left
  show IntKind.i64.wrap ((BitVec.ofInt 64 (a : Int) &&& BitVec.ofInt 64 (b : Int)).toNat : Int) = _
  rw [BitVec.toNat_and, ofInt_nat a (by omega), ofInt_nat b (by omega)]
  simp only [IntKind.wrap, IntKind.bits, IntKind.signed]
  simp
  omega
theorem bits_xor_i64_zero (a : Nat) (ha : a < 9223372036854775808) : bits .xor .i64 (a : Int) 0 = (a : Int) := by
  show IntKind.i64.wrap ((BitVec.ofInt 64 (a : Int) ^^^ BitVec.ofInt 64 ((0 : Nat) : Int)).toNat : Int) = _
  rw [BitVec.toNat_xor, ofInt_nat a (by omega), ofInt_nat 0 (by omega), Nat.xor_zero]
  simp only [IntKind.wrap, IntKind.bits, IntKind.signed]
  simp
  omega
theorem xor_ones (x : BitVec 64) : (x ^^^ BitVec.allOnes 64).toNat = 18446744073709551615 - x.toNat := by
  rw [BitVec.xor_allOnes, BitVec.toNat_not]
theorem bits_xor_i64_ones (a : Nat) (ha : a < 9223372036854775808) : bits .xor .i64 (a : Int) (-1) = -(a : Int) - 1 := by
  show IntKind.i64.wrap ((BitVec.ofInt 64 (a : Int) ^^^ BitVec.ofInt 64 (-1)).toNat : Int) = _
  have e : BitVec.ofInt 64 (-1) = BitVec.allOnes 64 := by decide
  rw [e, xor_ones, ofInt_nat a (by omega)]
  simp only [IntKind.wrap, IntKind.bits, IntKind.signed]
  simp
  omega
theorem bits_xor_u64_ones (a : Nat) (ha : a < 18446744073709551616) : bits .xor .u64 (a : Int) 18446744073709551615 = ((18446744073709551615 - a : Nat) : Int) := by
  show IntKind.u64.wrap ((BitVec.ofInt 64 (a : Int) ^^^ BitVec.ofInt 64 18446744073709551615).toNat : Int) = _
  have e : BitVec.ofInt 64 18446744073709551615 = BitVec.allOnes 64 := by decide
  rw [e, xor_ones, ofInt_nat a ha, IntKind.wrap_u64]
  omega
theorem bits_xor_u64_zero (a : Nat) (ha : a < 18446744073709551616) : bits .xor .u64 (a : Int) 0 = (a : Int) := by
  have := bits_xor_u64_nat a 0 ha (by decide)
  rw [Nat.xor_zero] at this
  exact this
def zigS (n : Int) : Int := if n < 0 then -2 * n - 1 else 2 * n
def zagS (u : Int) : Int := if u % 2 = 1 then -(u / 2) - 1 else u / 2
theorem zig_eq {n : Int} (h0 : -9223372036854775808 ≤ n) (h1 : n ≤ 9223372036854775807) : bits .xor .u64 (IntKind.u64.wrap (IntKind.u64.wrap n * 2)) (IntKind.u64.wrap (n / 9223372036854775808)) = zigS n := by
  unfold zigS
  by_cases h : n < 0
  · rw [if_pos h]
    obtain ⟨a, ha⟩ : ∃ a : Nat, IntKind.u64.wrap (IntKind.u64.wrap n * 2) = (a : Int) := ⟨(2 * n + 18446744073709551616).toNat, by rw [IntKind.wrap_u64, IntKind.wrap_u64]; omega⟩
    have e : IntKind.u64.wrap (n / 9223372036854775808) = 18446744073709551615 := by rw [IntKind.wrap_u64]; omega
    rw [IntKind.wrap_u64, IntKind.wrap_u64] at ha
    have ha2 : (a : Int) = 2 * n + 18446744073709551616 := by omega
    rw [e, IntKind.wrap_u64, IntKind.wrap_u64, ha, bits_xor_u64_ones a (by omega)]
    omega
  · rw [if_neg h]
    have e : IntKind.u64.wrap (n / 9223372036854775808) = 0 := by rw [IntKind.wrap_u64]; omega
    obtain ⟨a, ha⟩ : ∃ a : Nat, (a : Int) = 2 * n := ⟨(2 * n).toNat, by omega⟩
    have ha2 : IntKind.u64.wrap (IntKind.u64.wrap n * 2) = (a : Int) := by rw [IntKind.wrap_u64, IntKind.wrap_u64]; omega
    rw [e, ha2, bits_xor_u64_zero a (by omega), ha]
theorem zag_eq {u : Nat} (h : u < 18446744073709551616) : bits .xor .i64 (wrap64 ((u : Int) / 2)) (wrap64 (-wrap64 (bits .and .u64 (u : Int) 1))) = zagS u := by
  have e1 : bits .and .u64 (u : Int) 1 = ((u % 2 : Nat) : Int) := by
    have := bits_and_u64_nat u 1 h (by decide)
    rw [show ((1 : Nat) : Int) = 1 by rfl] at this
    rw [this, show (1 : Nat) = 2 ^ 1 - 1 by rfl, Nat.and_two_pow_sub_one_eq_mod]
  have e2 : wrap64 ((u : Int) / 2) = ((u / 2 : Nat) : Int) := by unfold wrap64; omega
  rw [e1, e2]
  unfold zagS
  by_cases hp : u % 2 = 1
  · have e3 : wrap64 (-wrap64 ((u % 2 : Nat) : Int)) = -1 := by rw [hp]; unfold wrap64; omega
    rw [e3, bits_xor_i64_ones _ (by omega), if_pos (by omega)]
    omega
  · have hp0 : u % 2 = 0 := by omega
    have e3 : wrap64 (-wrap64 ((u % 2 : Nat) : Int)) = 0 := by rw [hp0]; unfold wrap64; omega
    rw [e3, bits_xor_i64_zero _ (by omega), if_neg (by omega)]
    omega
theorem Zig_calls {w : World} {n : Int} (h0 : -9223372036854775808 ≤ n) (h1 : n ≤ 9223372036854775807) : Calls Try.prog 74 #[.int .i64 n] w fun e w' => e = .returned (.int .u64 (zigS n)) ∧ w' = w := by
  rw [← zig_eq h0 h1]
  clear h0 h1
  go_enter Try.func74, Try.ntmps74
  go_wp2
  go_ret
  exact ⟨rfl, rfl⟩
theorem Zag_calls {w : World} {u : Nat} (h : u < 18446744073709551616) : Calls Try.prog 79 #[.int .u64 u] w fun e w' => e = .returned (.int .i64 (zagS u)) ∧ w' = w := by
  rw [← zag_eq h]
  clear h
  go_enter Try.func79, Try.ntmps79
  go_wp2
  go_ret
  exact ⟨rfl, rfl⟩
end Go.Proofs.Ytgpedejeifmfdaa
