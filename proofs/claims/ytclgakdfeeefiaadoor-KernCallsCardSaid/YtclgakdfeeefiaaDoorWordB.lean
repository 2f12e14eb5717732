/- Bits of integers, as numbers. Of no program. -/
import Derived.Laws.Bits64b
import Derived.WalkKit
import Derived.Test.YtclgakdfeeefiaaDoorWordQ
namespace Go.Proofs.YtclgakdfeeefiaaDoor
open Go.RowKit

theorem ofInt_nat (a : Nat) (h : a < 18446744073709551616) : (BitVec.ofInt 64 (a : Int)).toNat = a := by
  rw [BitVec.ofInt_natCast, BitVec.toNat_ofNat]; exact Nat.mod_eq_of_lt (by omega)
theorem bits_and_i64_nat (a b : Nat) (ha : a < 9223372036854775808) (hb : b < 9223372036854775808) : bits .and .i64 (a : Int) (b : Int) = ((a &&& b : Nat) : Int) := by
  have hx : a &&& b ≤ a := Nat.and_le_left
  show IntKind.i64.wrap ((BitVec.ofInt 64 (a : Int) &&& BitVec.ofInt 64 (b : Int)).toNat : Int) = _
  rw [BitVec.toNat_and, ofInt_nat a (by omega), ofInt_nat b (by omega)]
  simp only [IntKind.wrap, IntKind.bits, IntKind.signed]
  simp
  omega
theorem bits_xor_i64_zero (a : Nat) (ha : a < 9223372036854775808) : bits .xor .i64 (a : Int) 0 = (a : Int) := by
  show IntKind.i64.wrap ((BitVec.ofInt 64 (a : Int) ^^^ BitVec.ofInt 64 ((0 : Nat) : Int)).toNat : Int) = _
  rw [BitVec.toNat_xor, ofInt_nat a (by omega), ofInt_nat 0 (by omega), Nat.xor_zero]
  simp only [IntKind.wrap, IntKind.bits, IntKind.signed]
  simp
  omega
theorem xor_ones (x : BitVec 64) : (x ^^^ BitVec.allOnes 64).toNat = 18446744073709551615 - x.toNat := by
  rw [BitVec.xor_allOnes, BitVec.toNat_not]
theorem bits_xor_i64_ones (a : Nat) (ha : a < 9223372036854775808) : bits .xor .i64 (a : Int) (-1) = -(a : Int) - 1 := by
  show IntKind.i64.wrap ((BitVec.ofInt 64 (a : Int) ^^^ BitVec.ofInt 64 (-1)).toNat : Int) = _
  have e : BitVec.ofInt 64 (-1) = BitVec.allOnes 64 := by decide
  rw [e, xor_ones, ofInt_nat a (by omega)]
  simp only [IntKind.wrap, IntKind.bits, IntKind.signed]
  simp
  omega
theorem bits_xor_u64_ones (a : Nat) (ha : a < 18446744073709551616) : bits .xor .u64 (a : Int) 18446744073709551615 = ((18446744073709551615 - a : Nat) : Int) := by
  show IntKind.u64.wrap ((BitVec.ofInt 64 (a : Int) ^^^ BitVec.ofInt 64 18446744073709551615).toNat : Int) = _
  have e : BitVec.ofInt 64 18446744073709551615 = BitVec.allOnes 64 := by decide
  rw [e, xor_ones, ofInt_nat a ha, IntKind.wrap_u64]
  omega
theorem bits_xor_u64_zero (a : Nat) (ha : a < 18446744073709551616) : bits .xor .u64 (a : Int) 0 = (a : Int) := by
  have := bits_xor_u64_nat a 0 ha (by decide)
  rw [Nat.xor_zero] at this
  exact this

def fitsS (n k : Int) : Bool := decide (1 ≤ k ∧ k ≤ 64 ∧ Int.bmod n (2 ^ k.toNat) = n)
def cutS (n k : Int) : Int := if 1 ≤ k ∧ k ≤ 64 then Int.bmod n (2 ^ k.toNat) else 0
def zigS (n : Int) : Int := if n < 0 then -2 * n - 1 else 2 * n
def zagS (u : Int) : Int := if u % 2 = 1 then -(u / 2) - 1 else u / 2
def lowS (u : Nat) : Nat := Lib.ctz 64 u

theorem cut_eq {n : Int} {K : Nat} (h1 : 1 ≤ K) (h2 : K ≤ 64) : wrap64 (n * 2 ^ (64 - K)) / 2 ^ (64 - K) = Int.bmod n (2 ^ K) := by
  obtain ⟨d, hd⟩ : ∃ d, K = d + 1 := ⟨K - 1, by omega⟩
  have hp : (18446744073709551616 : Int) = 2 ^ (64 - K) * 2 ^ K := by
    rw [← Int.pow_add, show 64 - K + K = 64 by omega]; rfl
  have hp2 : (9223372036854775808 : Int) = 2 ^ (64 - K) * 2 ^ d := by
    rw [← Int.pow_add, show 64 - K + d = 63 by omega]; rfl
  have hA : (0 : Int) < 2 ^ (64 - K) := Int.pow_pos (by decide)
  have hM : (0 : Int) < 2 ^ K := Int.pow_pos (by decide)
  have hD : (0 : Int) < 2 ^ d := Int.pow_pos (by decide)
  have hMD : (2 : Int) ^ K = 2 * 2 ^ d := by rw [hd, Int.pow_succ]; omega
  unfold wrap64
  have e : (n * 2 ^ (64 - K) + 9223372036854775808) % 18446744073709551616 - 9223372036854775808 = 2 ^ (64 - K) * ((n + 2 ^ d) % 2 ^ K - 2 ^ d) := by
    rw [hp, hp2, Int.mul_sub, Int.mul_comm n, ← Int.mul_add, Int.mul_emod_mul_of_pos _ _ hA]
  rw [e, Int.mul_ediv_cancel_left _ (by omega)]
  clear e
  have h8 := Int.emod_nonneg n (b := 2 ^ K) (by omega)
  have h9 := Int.emod_lt_of_pos n hM
  have ec : (((2 : Nat) ^ K : Nat) : Int) = 2 ^ K := by push_cast; rfl
  rw [Int.bmod_def, ec, ← Int.emod_add_emod n (2 ^ K) (2 ^ d)]
  clear hp hp2 hA ec
  generalize n % 2 ^ K = r at *
  rw [hMD] at *
  generalize (2 : Int) ^ d = D at *
  by_cases hr : r < D
  · rw [if_pos (by omega), Int.emod_eq_of_lt (by omega) (by omega)]
    omega
  · rw [if_neg (by omega), show r + D = (r - D) + 2 * D by omega, Int.add_emod_right, Int.emod_eq_of_lt (by omega) (by omega)]
    omega
theorem zig_eq {n : Int} (h0 : -9223372036854775808 ≤ n) (h1 : n ≤ 9223372036854775807) : bits .xor .u64 (IntKind.u64.wrap (IntKind.u64.wrap n * 2)) (IntKind.u64.wrap (n / 9223372036854775808)) = zigS n := by
  unfold zigS
  by_cases h : n < 0
  · rw [if_pos h]
    obtain ⟨a, ha⟩ : ∃ a : Nat, IntKind.u64.wrap (IntKind.u64.wrap n * 2) = (a : Int) := ⟨(2 * n + 18446744073709551616).toNat, by rw [IntKind.wrap_u64, IntKind.wrap_u64]; omega⟩
    have e : IntKind.u64.wrap (n / 9223372036854775808) = 18446744073709551615 := by rw [IntKind.wrap_u64]; omega
    rw [IntKind.wrap_u64, IntKind.wrap_u64] at ha
    have ha2 : (a : Int) = 2 * n + 18446744073709551616 := by omega
    rw [e, IntKind.wrap_u64, IntKind.wrap_u64, ha, bits_xor_u64_ones a (by omega)]
    omega
  · rw [if_neg h]
    have e : IntKind.u64.wrap (n / 9223372036854775808) = 0 := by rw [IntKind.wrap_u64]; omega
    obtain ⟨a, ha⟩ : ∃ a : Nat, (a : Int) = 2 * n := ⟨(2 * n).toNat, by omega⟩
    have ha2 : IntKind.u64.wrap (IntKind.u64.wrap n * 2) = (a : Int) := by rw [IntKind.wrap_u64, IntKind.wrap_u64]; omega
    rw [e, ha2, bits_xor_u64_zero a (by omega), ha]
theorem zag_eq {u : Nat} (h : u < 18446744073709551616) : bits .xor .i64 (wrap64 ((u : Int) / 2)) (wrap64 (-wrap64 (bits .and .u64 (u : Int) 1))) = zagS u := by
  have e1 : bits .and .u64 (u : Int) 1 = ((u % 2 : Nat) : Int) := by
    have := bits_and_u64_nat u 1 h (by decide)
    rw [show ((1 : Nat) : Int) = 1 by rfl] at this
    rw [this, show (1 : Nat) = 2 ^ 1 - 1 by rfl, Nat.and_two_pow_sub_one_eq_mod]
  have e2 : wrap64 ((u : Int) / 2) = ((u / 2 : Nat) : Int) := by unfold wrap64; omega
  rw [e1, e2]
  unfold zagS
  by_cases hp : u % 2 = 1
  · have e3 : wrap64 (-wrap64 ((u % 2 : Nat) : Int)) = -1 := by rw [hp]; unfold wrap64; omega
    rw [e3, bits_xor_i64_ones _ (by omega), if_pos (by omega)]
    omega
  · have hp0 : u % 2 = 0 := by omega
    have e3 : wrap64 (-wrap64 ((u % 2 : Nat) : Int)) = 0 := by rw [hp0]; unfold wrap64; omega
    rw [e3, bits_xor_i64_zero _ (by omega), if_neg (by omega)]
    omega
theorem rot_s (k : Int) : bits .and .u64 (IntKind.u64.wrap k) 63 = (((k % 64).toNat : Nat) : Int) := by
  obtain ⟨a, ha⟩ : ∃ a : Nat, IntKind.u64.wrap k = (a : Int) := ⟨(k % 18446744073709551616).toNat, by rw [IntKind.wrap_u64]; omega⟩
  have ha2 := ha
  rw [IntKind.wrap_u64] at ha2
  have := bits_and_u64_nat a 63 (by omega) (by decide)
  rw [show ((63 : Nat) : Int) = 63 by rfl, show (63 : Nat) = 2 ^ 6 - 1 by rfl, Nat.and_two_pow_sub_one_eq_mod] at this
  rw [ha, this]
  omega
theorem rot_eq {u s : Nat} (h : u < 2 ^ 64) (hs : s < 64) : bits .or .u64 (IntKind.u64.wrap ((u : Int) * 2 ^ s)) ((u : Int) / 2 ^ (64 - s)) = ((rots s u : Nat) : Int) := by
  have hp : (2 : Nat) ^ 64 = 2 ^ (64 - s) * 2 ^ s := by rw [← Nat.pow_add]; congr 1; omega
  have hS := Nat.two_pow_pos s
  have e1 : IntKind.u64.wrap ((u : Int) * 2 ^ s) = (((u % 2 ^ (64 - s)) * 2 ^ s : Nat) : Int) := by
    rw [IntKind.wrap_u64]
    have : (u * 2 ^ s) % 2 ^ 64 = (u % 2 ^ (64 - s)) * 2 ^ s := by rw [hp, Nat.mul_mod_mul_right]
    have hx : ((u : Int) * 2 ^ s) = ((u * 2 ^ s : Nat) : Int) := by push_cast; rfl
    rw [hx]
    generalize u * 2 ^ s = X at this
    generalize (u % 2 ^ (64 - s)) * 2 ^ s = Y at this
    omega
  have e2 : (u : Int) / 2 ^ (64 - s) = ((u / 2 ^ (64 - s) : Nat) : Int) := by push_cast; rfl
  have hl : u / 2 ^ (64 - s) < 2 ^ s := by
    rw [Nat.div_lt_iff_lt_mul (Nat.two_pow_pos _), Nat.mul_comm, ← hp]; exact h
  have hm : (u % 2 ^ (64 - s)) * 2 ^ s < 2 ^ 64 := by
    rw [hp]; exact Nat.mul_lt_mul_of_pos_right (Nat.mod_lt _ (Nat.two_pow_pos _)) hS
  have hl2 : u / 2 ^ (64 - s) < 2 ^ 64 := Nat.lt_of_le_of_lt (Nat.div_le_self _ _) h
  rw [e1, e2, bits_or_u64_nat _ _ hm hl2, rots_eq h s (by omega)]
  congr 1
  rw [Nat.mul_comm, ← Nat.two_pow_add_eq_or_of_lt hl]
theorem ones_le {x : Nat} (h : x < 2 ^ 64) : onesOf x ≤ 64 := by obtain ⟨h1, h2⟩ := ones_pop x h; omega
end Go.Proofs.YtclgakdfeeefiaaDoor
