/- Sets of categories: the document's 'one' and 'Has'; bits. -/
import Derived.Test.YtclgakdfeeefiaaDoorBase
import Derived.Test.YtclgakdfeeefiaaDoorChecked
namespace Go.Proofs.YtclgakdfeeefiaaDoor
open Go.RowKit

def has (s : Int) (c : Nat) : Bool := s.toNat.testBit c
theorem has_div (S c : Nat) : has (S : Int) c = ((S : Int) / ((2 ^ c : Nat) : Int) % 2 == 1) := by
  unfold has
  rw [Int.toNat_natCast, Nat.testBit_eq_decide_div_mod_eq]
  have : (S : Int) / ((2 ^ c : Nat) : Int) % 2 = ((S / 2 ^ c % 2 : Nat) : Int) := by simp
  rw [this]
  by_cases h : S / 2 ^ c % 2 = 1
  · rw [h]; rfl
  · have h2 : (((S / 2 ^ c % 2 : Nat) : Int) == 1) = false := by rw [beq_eq_false_iff_ne]; omega
    rw [h2, decide_eq_false h]

theorem pow63 {k : Nat} (h : k ≤ 63) : 2 ^ k ≤ 9223372036854775808 := by
  have := Nat.pow_le_pow_right (n := 2) (by decide) h
  simpa using this

theorem one_calls {w : World} {k : Nat} (hk : k ≤ 63) : Calls Tryd.prog 79 #[.int .i64 (k : Int)] w fun e w' => e = .returned (.int .u64 ((2 ^ k : Nat) : Int)) ∧ w' = w := by
  go_enter Tryd.func79, Tryd.ntmps79
  go_wp2_with fail
  go_loopw [3, 4] (fun u i wr => ∃ j : Nat, j ≤ k ∧ i = .int .i64 j ∧ u = .int .u64 ((2 ^ j : Nat) : Int) ∧ wr = w) (fun _ i _ => k - (intOf i).toNat)
  case atStart => exact ⟨0, by omega, rfl, rfl, rfl⟩
  case round =>
    obtain ⟨j, hj, rfl, rfl, rfl⟩ := hrel
    by_cases hlt : j < k
    · have hp := pow63 (k := j + 1) (by omega)
      rw [Nat.pow_succ] at hp
      obtain ⟨p, hpe⟩ : ∃ p, p = 2 ^ j := ⟨_, rfl⟩
      rw [← hpe] at hp ⊢
      have Hpe := Lib.hid hpe; clear hpe
      go_wp2_with fail
      go_roundw
      case rel => exact ⟨j + 1, by omega, by go_num, by rw [Nat.pow_succ, ← Hpe.out]; go_num, by first | trivial | rfl⟩
      case measure => simp [intOf]; omega
    · obtain rfl : j = k := by omega
      go_wp2
      go_ret
      exact ⟨rfl, rfl⟩
theorem Has_calls {w : World} {s : Int} (hs : (Lit.int .u64 s).wf = true) {k : Nat} (hk : k < 64) : Calls Tryd.prog 74 #[.int .u64 s, .int .i64 (k : Int)] w fun e w' => e = .returned (.bool (has s k)) ∧ w' = w := by
  have h0 := hs
  simp [Lit.wf, IntKind.min, IntKind.max, IntKind.signed, IntKind.bits] at h0
  obtain ⟨S, rfl⟩ : ∃ S : Nat, s = S := ⟨s.toNat, by omega⟩
  rw [has_div]
  obtain ⟨p, hpe⟩ : ∃ p, p = 2 ^ k := ⟨_, rfl⟩
  have hp := pow63 (k := k) (by omega)
  have hp1 : 1 ≤ 2 ^ k := Nat.one_le_two_pow
  have hc := one_calls (w := w) (k := k) (by omega)
  rw [← hpe] at hp hp1 hc ⊢
  clear hpe
  have Hc := Lib.hid hc; clear hc
  clear hs
  go_enter Tryd.func74, Tryd.ntmps74
  go_wp2_with fail
  refine Hc.out.mono ?_
  rintro e w1 ⟨rfl, rfl⟩
  go_wp2_with fail
  have n0 : 0 ≤ (S : Int) / (p : Int) := Int.ediv_nonneg (by omega) (by omega)
  have n1 : (S : Int) / (p : Int) ≤ (S : Int) := Int.ediv_le_self _ (by omega)
  have hw : IntKind.u64.wrap ((S : Int) / (p : Int)) = (S : Int) / (p : Int) := IntWalk.u64_in _ (by omega)
  rw [hw, Int.tmod_eq_emod_of_nonneg n0]
  go_ret
  exact ⟨rfl, rfl⟩

/-! ### bits of sums of sets -/
abbrev bv (s : Int) : BitVec 64 := BitVec.ofInt 64 s
theorem bv_nat (X : BitVec 64) : bv (X.toNat : Int) = X := by
  unfold bv; rw [BitVec.ofInt_natCast, BitVec.ofNat_toNat, BitVec.setWidth_eq]
theorem has_bv {s : Int} (hs : (Lit.int .u64 s).wf = true) (c : Nat) : has s c = (bv s).getLsbD c := by
  simp [Lit.wf, IntKind.min, IntKind.max, IntKind.signed, IntKind.bits] at hs
  obtain ⟨S, rfl⟩ : ∃ S : Nat, s = S := ⟨s.toNat, by omega⟩
  unfold has bv
  rw [BitVec.ofInt_natCast, Int.toNat_natCast, BitVec.getLsbD_ofNat]
  by_cases h : c < 64
  · simp [h]
  · simp only [h, decide_false, Bool.false_and]
    exact Nat.testBit_lt_two_pow (Nat.lt_of_lt_of_le (show S < 2 ^ 64 by omega) (Nat.pow_le_pow_right (by decide) (by omega)))
theorem bits_andNot_u64 (a b : Int) : bits .andNot .u64 a b = ((bv a &&& ~~~ bv b).toNat : Int) := by
  have h := (bv a &&& ~~~ bv b).isLt
  show IntKind.u64.wrap ((bv a &&& ~~~ bv b).toNat : Int) = _
  rw [IntKind.wrap_u64]
  omega
theorem bits_or_u64 (a b : Int) : bits .or .u64 a b = ((bv a ||| bv b).toNat : Int) := by
  have h := (bv a ||| bv b).isLt
  show IntKind.u64.wrap ((bv a ||| bv b).toNat : Int) = _
  rw [IntKind.wrap_u64]
  omega
end Go.Proofs.YtclgakdfeeefiaaDoor
