/- The laws WordTurns, WordCounts. -/
import Derived.Test.YtjbpoegpmbnglaaDoorWord6
namespace Go.Proofs.YtjbpoegpmbnglaaDoor
open Go.RowKit

theorem u64_nat' {a : Int} (h : (Lit.int .u64 a).wf = true) : ∃ u : Nat, a = (u : Int) ∧ u < 18446744073709551616 := by
  have := wf_of h
  simp [IntKind.min, IntKind.max, IntKind.signed, IntKind.bits] at this
  exact ⟨a.toNat, by omega, by omega⟩
set_option maxHeartbeats 2000000 in
theorem lawWordTurns {w : World} {a p q : Int} (hT : TabOk w) (h1 : (Lit.int .u64 a).wf = true) (_h2 : (Lit.int .i64 p).wf = true) (_h3 : (Lit.int .i64 q).wf = true) :
    Calls Tryd.prog 7 #[.int .u64 a, .int .i64 p, .int .i64 q] w fun e w' => e = .returned (.bool true) ∧ Below w.heap.size w w' := by
  clear _h2 _h3
  have ha := alive_calls hT
  obtain ⟨u, rfl, hu⟩ := u64_nat' h1
  have hu2 : u < 2 ^ 64 := hu
  have hx : turnS u p < 2 ^ 64 := turnS_lt hu2 p
  have c1 := fun w : World => Turn_calls (w := w) hu2 p
  have hm : ∀ t : Int, t.tmod 64 % 64 = t % 64 ∧ -64 < t.tmod 64 ∧ t.tmod 64 < 64 := fun t => by
    rcases Int.le_total 0 t with h | h
    · rw [Int.tmod_eq_emod_of_nonneg h]; omega
    · rcases Int.lt_or_eq_of_le h with h | rfl
      · rw [tmod_neg t h 64]; omega
      · decide
  obtain ⟨mp1, mp2, mp3⟩ := hm p
  obtain ⟨mq1, mq2, mq3⟩ := hm q
  have c2 := fun w : World => Turn_calls (w := w) hx (-(p.tmod 64))
  have e2 : turnS (turnS u p) (-(p.tmod 64)) = u := by rw [turn_turn hu2]; exact turn_zero u (by omega)
  rw [e2] at c2
  clear e2
  have c3 := fun w : World => Count_calls (w := w) hx
  rw [pop_turn hu2] at c3
  have c4 := fun w : World => Count_calls (w := w) hu2
  have c5 := fun w : World => Turn_calls (w := w) hx q
  have c6 := fun w : World => Turn_calls (w := w) hu2 (p.tmod 64 + q.tmod 64)
  rw [turn_turn hu2] at c5
  rw [turn_cong u (by omega : (p.tmod 64 + q.tmod 64) % 64 = (p + q) % 64)] at c6
  have c7 := fun w' (hb : Below w.heap.size w w') => Low_calls (hT.below hb) hu
  have hlow : (lowS u = 64) ↔ u = 0 := by
    unfold lowS
    constructor
    · intro h
      by_cases h0 : u = 0
      · exact h0
      · have := (ctz_spec h0 hu2).choose_spec.2
        omega
    · rintro rfl
      rfl
  have hd : (((u : Int) == 0) != ((lowS u : Int) == 64)) = false := by
    by_cases h0 : u = 0
    · have := hlow.2 h0
      rw [this, h0]; rfl
    · have := fun h => h0 (hlow.1 h)
      have e1 : ((u : Int) == 0) = false := by simp; exact h0
      have e2 : ((lowS u : Int) == 64) = false := by simp; omega
      rw [e1, e2]; rfl
  obtain ⟨E, hE⟩ : ∃ E, ((u : Int) == 0) = E := ⟨_, rfl⟩
  rw [hE] at hd
  have hE2 : ((lowS u : Int) == 64) = E := by cases E <;> cases h : ((lowS u : Int) == 64) <;> simp_all
  generalize lowS u = Lw at *
  generalize turnS u (p + q) = Y at *
  generalize turnS u p = X at *
  have hpp := (pop u : Int)
  clear hpp
  generalize pop u = C at *
  have d1 : ((u : Int) == (u : Int)) = true := by simp
  have d2 : ((C : Int) == (C : Int)) = true := by simp
  have d3 : ((Y : Int) == (Y : Int)) = true := by simp
  have d4 : (E == E) = true := by simp
  have hw1 : wrap64 (-(p.tmod 64)) = -(p.tmod 64) := by unfold wrap64; omega
  have hw2 : wrap64 (p.tmod 64 + q.tmod 64) = p.tmod 64 + q.tmod 64 := by unfold wrap64; omega
  clear mp2 mp3 mq2 mq3
  clear hm hlow hd hu2 hx mp1 mq1 h1
  have hA := Lib.hid ha; clear ha hT
  have C1 := Lib.hid c1; clear c1
  have C2 := Lib.hid c2; clear c2
  have C3 := Lib.hid c3; clear c3
  have C4 := Lib.hid c4; clear c4
  have C5 := Lib.hid c5; clear c5
  have C6 := Lib.hid c6; clear c6
  have C7 := Lib.hid c7; clear c7 hu
  go_enter Tryd.func7, Tryd.ntmps7
  go_wp2_with fail
  refine hA.out.mono ?_
  rintro e w1 ⟨rfl, b1⟩
  have hB := Lib.hid b1; clear b1
  go_wp2_with fail
  refine (C1.out _).mono ?_
  rintro e w2 ⟨rfl, rfl⟩
  go_wp2_with fail
  refine (C2.out _).mono ?_
  rintro e w2 ⟨rfl, rfl⟩
  go_wp2_with fail
  refine (C3.out _).mono ?_
  rintro e w2 ⟨rfl, rfl⟩
  go_wp2_with fail
  refine (C4.out _).mono ?_
  rintro e w2 ⟨rfl, rfl⟩
  go_wp2_with fail
  refine (C5.out _).mono ?_
  rintro e w2 ⟨rfl, rfl⟩
  go_wp2_with fail
  refine (C6.out _).mono ?_
  rintro e w2 ⟨rfl, rfl⟩
  go_wp2_with fail
  refine (C7.out _ hB.out).mono ?_
  rintro e w2 ⟨rfl, rfl⟩
  go_wp2
  go_ret
  exact ⟨rfl, hB.out⟩
theorem high_eq {u k : Nat} (hu : u < 18446744073709551616) : IntKind.u64.wrap ((u : Int) / 2 ^ k * 2 ^ k) = ((2 ^ k * (u / 2 ^ k) : Nat) : Int) ∧ 2 ^ k * (u / 2 ^ k) < 18446744073709551616 := by
  have h1 : 2 ^ k * (u / 2 ^ k) ≤ u := Nat.mul_div_le u (2 ^ k)
  have h2 : (u : Int) / 2 ^ k * 2 ^ k = ((2 ^ k * (u / 2 ^ k) : Nat) : Int) := by rw [Nat.mul_comm]; push_cast; rfl
  rw [h2, IntKind.wrap_u64]
  generalize 2 ^ k * (u / 2 ^ k) = X at *
  omega
theorem xor_high {u k : Nat} (hu : u < 18446744073709551616) : bits .xor .u64 (u : Int) ((2 ^ k * (u / 2 ^ k) : Nat) : Int) = ((u % 2 ^ k : Nat) : Int) := by
  have h1 : 2 ^ k * (u / 2 ^ k) ≤ u := Nat.mul_div_le u (2 ^ k)
  rw [bits_xor_u64_nat u _ hu (by omega)]
  congr 1
  have hm : u % 2 ^ k < 2 ^ k := Nat.mod_lt _ (Nat.two_pow_pos k)
  have e : u = 2 ^ k * (u / 2 ^ k) ^^^ (u % 2 ^ k) := by
    apply Nat.eq_of_testBit_eq
    intro i
    rw [Nat.testBit_xor, Nat.testBit_mod_two_pow, Nat.testBit_two_pow_mul, Nat.testBit_div_two_pow]
    by_cases hi : i < k
    · simp [hi, show ¬ (k ≤ i) by omega]
    · simp [hi, show k ≤ i by omega, show i - k + k = i by omega]
  conv => lhs; lhs; rw [e]
  rw [Nat.xor_comm, ← Nat.xor_assoc, Nat.xor_self, Nat.zero_xor]
theorem xor_low {u : Nat} (hu : u < 18446744073709551616) (h0 : u ≠ 0) : bits .xor .u64 (u : Int) (IntKind.u64.wrap (2 ^ lowS u)) = ((u - 2 ^ lowS u : Nat) : Int) := by
  obtain ⟨m, hm, hl⟩ := ctz_spec h0 hu
  have hlow := (without_low h0 hu).2.2
  unfold lowS
  generalize Lib.ctz 64 u = l at *
  have hp : (2 : Nat) ^ l < 18446744073709551616 := by omega
  have e1 : IntKind.u64.wrap (2 ^ l) = ((2 ^ l : Nat) : Int) := by
    rw [show (2 : Int) ^ l = ((2 ^ l : Nat) : Int) by push_cast; rfl, IntKind.wrap_u64]
    generalize (2 : Nat) ^ l = X at *
    omega
  rw [e1, bits_xor_u64_nat u _ hu hp]
  congr 1
  have e2 : u - 2 ^ l = 2 ^ (l + 1) * m := by
    rw [hm, Nat.mul_add, Nat.mul_one, Nat.add_sub_cancel, ← Nat.mul_assoc, Nat.pow_succ]
  have e3 : u = 2 ^ (l + 1) * m ^^^ 2 ^ l := by
    have h4 : 2 ^ l < 2 ^ (l + 1) := by rw [Nat.pow_succ]; have := Nat.two_pow_pos l; omega
    have h5 : 2 ^ (l + 1) * m ^^^ 2 ^ l = 2 ^ (l + 1) * m + 2 ^ l := by
      rw [Nat.two_pow_add_eq_or_of_lt h4]
      apply Nat.eq_of_testBit_eq
      intro i
      rw [Nat.testBit_xor, Nat.testBit_or, Nat.testBit_two_pow_mul, Nat.testBit_two_pow]
      by_cases hi : l + 1 ≤ i
      · simp [hi, show ¬ (l = i) by omega]
      · simp [hi]
    omega
  rw [e2]
  conv => lhs; lhs; rw [e3]
  rw [Nat.xor_assoc, Nat.xor_self, Nat.xor_zero]
end Go.Proofs.YtjbpoegpmbnglaaDoor
