/- word.Zig, Zag, and the document's. -/
import Derived.Laws.Bits64b
import Derived.WalkKit
import Derived.Test.YtgpedejeifmfdaaGreatBase
import Derived.Test.YtgpedejeifmfdaaGreatUse
import Derived.Test.YtgpedejeifmfdaaGreatChecked
namespace Go.Proofs.YtgpedejeifmfdaaGreat
open Go.RowKit

theorem ofInt_nat (a : Nat) (h : a < 18446744073709551616) : (BitVec.ofInt 64 (a : Int)).toNat = a := by
  rw [BitVec.ofInt_natCast, BitVec.toNat_ofNat]; exact Nat.mod_eq_of_lt (by omega)
theorem bits_xor_i64_zero (a : Nat) (ha : a < 9223372036854775808) : bits .xor .i64 (a : Int) 0 = (a : Int) := by
  show IntKind.i64.wrap ((BitVec.ofInt 64 (a : Int) ^^^ BitVec.ofInt 64 ((0 : Nat) : Int)).toNat : Int) = _
  rw [BitVec.toNat_xor, ofInt_nat a (by omega), ofInt_nat 0 (by omega), Nat.xor_zero]
  simp only [IntKind.wrap, IntKind.bits, IntKind.signed]
  simp
  omega
theorem xor_ones (x : BitVec 64) : (x ^^^ BitVec.allOnes 64).toNat = 18446744073709551615 - x.toNat := by
  rw [BitVec.xor_allOnes, BitVec.toNat_not]
theorem bits_xor_i64_ones (a : Nat) (ha : a < 9223372036854775808) : bits .xor .i64 (a : Int) (-1) = -(a : Int) - 1 := by
  show IntKind.i64.wrap ((BitVec.ofInt 64 (a : Int) ^^^ BitVec.ofInt 64 (-1)).toNat : Int) = _
  have e : BitVec.ofInt 64 (-1) = BitVec.allOnes 64 := by decide
  rw [e, xor_ones, ofInt_nat a (by omega)]
  simp only [IntKind.wrap, IntKind.bits, IntKind.signed]
  simp
  omega
theorem bits_xor_u64_ones (a : Nat) (ha : a < 18446744073709551616) : bits .xor .u64 (a : Int) 18446744073709551615 = ((18446744073709551615 - a : Nat) : Int) := by
  show IntKind.u64.wrap ((BitVec.ofInt 64 (a : Int) ^^^ BitVec.ofInt 64 18446744073709551615).toNat : Int) = _
  have e : BitVec.ofInt 64 18446744073709551615 = BitVec.allOnes 64 := by decide
  rw [e, xor_ones, ofInt_nat a ha, IntKind.wrap_u64]
  omega
theorem bits_xor_u64_zero (a : Nat) (ha : a < 18446744073709551616) : bits .xor .u64 (a : Int) 0 = (a : Int) := by
  have := bits_xor_u64_nat a 0 ha (by decide)
  rw [Nat.xor_zero] at this
  exact this
def zigS (n : Int) : Int := if n < 0 then -2 * n - 1 else 2 * n
def zagS (u : Int) : Int := if u % 2 = 1 then -(u / 2) - 1 else u / 2
theorem zig_eq {n : Int} (h0 : -9223372036854775808 ≤ n) (h1 : n ≤ 9223372036854775807) : bits .xor .u64 (IntKind.u64.wrap (IntKind.u64.wrap n * 2)) (IntKind.u64.wrap (n / 9223372036854775808)) = zigS n := by
  unfold zigS
  by_cases h : n < 0
  · rw [if_pos h]
    obtain ⟨a, ha⟩ : ∃ a : Nat, IntKind.u64.wrap (IntKind.u64.wrap n * 2) = (a : Int) := ⟨(2 * n + 18446744073709551616).toNat, by rw [IntKind.wrap_u64, IntKind.wrap_u64]; omega⟩
    have e : IntKind.u64.wrap (n / 9223372036854775808) = 18446744073709551615 := by rw [IntKind.wrap_u64]; omega
    rw [IntKind.wrap_u64, IntKind.wrap_u64] at ha
    have ha2 : (a : Int) = 2 * n + 18446744073709551616 := by omega
    rw [e, IntKind.wrap_u64, IntKind.wrap_u64, ha, bits_xor_u64_ones a (by omega)]
    omega
  · rw [if_neg h]
    have e : IntKind.u64.wrap (n / 9223372036854775808) = 0 := by rw [IntKind.wrap_u64]; omega
    obtain ⟨a, ha⟩ : ∃ a : Nat, (a : Int) = 2 * n := ⟨(2 * n).toNat, by omega⟩
    have ha2 : IntKind.u64.wrap (IntKind.u64.wrap n * 2) = (a : Int) := by rw [IntKind.wrap_u64, IntKind.wrap_u64]; omega
    rw [e, ha2, bits_xor_u64_zero a (by omega), ha]
theorem zag_eq {u : Nat} (h : u < 18446744073709551616) : bits .xor .i64 (wrap64 ((u : Int) / 2)) (wrap64 (-wrap64 (bits .and .u64 (u : Int) 1))) = zagS u := by
  have e1 : bits .and .u64 (u : Int) 1 = ((u % 2 : Nat) : Int) := by
    have := bits_and_u64_nat u 1 h (by decide)
    rw [show ((1 : Nat) : Int) = 1 by rfl] at this
    rw [this, show (1 : Nat) = 2 ^ 1 - 1 by rfl, Nat.and_two_pow_sub_one_eq_mod]
  have e2 : wrap64 ((u : Int) / 2) = ((u / 2 : Nat) : Int) := by unfold wrap64; omega
  rw [e1, e2]
  unfold zagS
  by_cases hp : u % 2 = 1
  · have e3 : wrap64 (-wrap64 ((u % 2 : Nat) : Int)) = -1 := by rw [hp]; unfold wrap64; omega
    rw [e3, bits_xor_i64_ones _ (by omega), if_pos (by omega)]
    omega
  · have hp0 : u % 2 = 0 := by omega
    have e3 : wrap64 (-wrap64 ((u % 2 : Nat) : Int)) = 0 := by rw [hp0]; unfold wrap64; omega
    rw [e3, bits_xor_i64_zero _ (by omega), if_neg (by omega)]
    omega
theorem Zig_calls {w : World} {n : Int} (h0 : -9223372036854775808 ≤ n) (h1 : n ≤ 9223372036854775807) : Calls Tryz.prog 106 #[.int .i64 n] w fun e w' => e = .returned (.int .u64 (zigS n)) ∧ w' = w := by
  rw [← zig_eq h0 h1]
  clear h0 h1
  go_enter Tryz.func106, Tryz.ntmps106
  go_wp2
  go_ret
  exact ⟨rfl, rfl⟩
theorem Zag_calls {w : World} {u : Nat} (h : u < 18446744073709551616) : Calls Tryz.prog 111 #[.int .u64 u] w fun e w' => e = .returned (.int .i64 (zagS u)) ∧ w' = w := by
  rw [← zag_eq h]
  clear h
  go_enter Tryz.func111, Tryz.ntmps111
  go_wp2
  go_ret
  exact ⟨rfl, rfl⟩
theorem RZig_calls {w : World} {n : Int} (h0 : -9223372036854775808 ≤ n) (h1 : n ≤ 9223372036854775807) : Calls Tryz.prog 96 #[.int .i64 n] w fun e w' => e = .returned (.int .u64 (zigS n)) ∧ w' = w := by
  unfold zigS
  by_cases h : n < 0
  · rw [if_pos h]
    have d1 : decide (n < 0) = true := decide_eq_true h
    have e1 : IntKind.u64.wrap (IntKind.u64.wrap (2 * IntKind.u64.wrap (wrap64 (-wrap64 (n + 1)))) + 1) = -2 * n - 1 := by
      simp only [IntKind.wrap_u64]; unfold wrap64; omega
    have H1 := Lib.hid e1; clear e1 h h0 h1
    go_enter Tryz.func96, Tryz.ntmps96
    go_wp2
    go_ret
    exact ⟨by show Ending.returned (.int .u64 _) = _; rw [← H1.out], rfl⟩
  · rw [if_neg h]
    have d1 : decide (n < 0) = false := decide_eq_false h
    have e1 : IntKind.u64.wrap (2 * IntKind.u64.wrap n) = 2 * n := by simp only [IntKind.wrap_u64]; omega
    have H1 := Lib.hid e1; clear e1 h h0 h1
    go_enter Tryz.func96, Tryz.ntmps96
    go_wp2
    go_ret
    exact ⟨by show Ending.returned (.int .u64 _) = _; rw [← H1.out], rfl⟩
theorem RZag_calls {w : World} {u : Nat} (hu : u < 18446744073709551616) : Calls Tryz.prog 94 #[.int .u64 u] w fun e w' => e = .returned (.int .i64 (zagS u)) ∧ w' = w := by
  unfold zagS
  have ht : (u : Int).tmod 2 = (u : Int) % 2 := Int.tmod_eq_emod_of_nonneg (by omega)
  have hd : (u : Int).tdiv 2 = (u : Int) / 2 := Int.tdiv_eq_ediv_of_nonneg (by omega)
  have hw : wrap64 ((u : Int) / 2) = (u : Int) / 2 := by unfold wrap64; omega
  by_cases h : (u : Int) % 2 = 1
  · rw [if_pos h]
    have d1 : ((u : Int) % 2 == 1) = true := by simpa using h
    clear h
    go_enter Tryz.func94, Tryz.ntmps94
    go_wp2
    go_ret
    exact ⟨rfl, rfl⟩
  · rw [if_neg h]
    have d1 : ((u : Int) % 2 == 1) = false := by simpa using h
    clear h
    go_enter Tryz.func94, Tryz.ntmps94
    go_wp2
    go_ret
    exact ⟨rfl, rfl⟩
end Go.Proofs.YtgpedejeifmfdaaGreat
