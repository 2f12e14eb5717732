/- The law WordCounts. -/
import Derived.Test.YtjbpoegpmbnglaaDoorWordL3
namespace Go.Proofs.YtjbpoegpmbnglaaDoor
open Go.RowKit

theorem counts_q {ph pr pu pv Lw Lv : Nat} (hsum : ph + pr = pu) (l1 : pu = pv + 1) (l2 : Lw < Lv) :
    ((ph : Int) + (pr : Int) != (pu : Int)) = false ∧ ((pv : Int) == (pu : Int) - 1) = true ∧ decide ((Lw : Int) < (Lv : Int)) = true ∧ decide (Lw < Lv) = true := by
  refine ⟨?_, ?_, decide_eq_true (by omega), decide_eq_true l2⟩
  · rw [bne_eq_false_iff_eq]; omega
  · rw [beq_iff_eq]; omega
theorem low_q {L : Nat} (h : L < 64) : min L 64 = L ∧ IntKind.u64.wrap (L : Int) = (L : Int) := ⟨by omega, by rw [IntKind.wrap_u64]; omega⟩
set_option maxHeartbeats 1000000 in
theorem lawWordCounts {w : World} {a k : Int} (hT : TabOk w) (h1 : (Lit.int .u64 a).wf = true) (_h2 : (Lit.int .i64 k).wf = true) :
    Calls Tryd.prog 10 #[.int .u64 a, .int .i64 k] w fun e w' => e = .returned (.bool true) ∧ Below w.heap.size w w' := by
  clear _h2
  have ha := alive_calls hT
  obtain ⟨u, rfl, hu⟩ := u64_nat' h1
  clear h1
  have hA := Lib.hid ha; clear ha
  by_cases hk : ¬ (0 ≤ k ∧ k ≤ 63)
  · have hd : decide (k < 0) = true ∨ (decide (k < 0) = false ∧ decide (63 < k) = true) := by
      by_cases h : k < 0
      · exact .inl (decide_eq_true h)
      · exact .inr ⟨decide_eq_false h, decide_eq_true (by omega)⟩
    clear hk hT hu
    rcases hd with e1 | ⟨e1, e2⟩
    all_goals
      go_enter Tryd.func10, Tryd.ntmps10
      go_wp2_with fail
      refine hA.out.mono ?_
      rintro e w1 ⟨rfl, b1⟩
      have hB := Lib.hid b1; clear b1
      go_wp2
      go_ret
      exact ⟨rfl, hB.out⟩
  · have hk := Decidable.not_not.1 hk
    obtain ⟨K, rfl⟩ : ∃ K : Nat, k = K := ⟨k.toNat, by omega⟩
    have k1 : decide ((K : Int) < 0) = false := decide_eq_false (by omega)
    have k2 : decide (63 < (K : Int)) = false := decide_eq_false (by omega)
    have hmin : min K 64 = K := by omega
    have hwk : IntKind.u64.wrap (K : Int) = (K : Int) := by rw [IntKind.wrap_u64]; omega
    obtain ⟨hh1, hh2⟩ := high_eq (k := K) hu
    have hx := xor_high (k := K) hu
    have hsum := high_part (u := u) (k := K) (by omega)
    have hR : u % 2 ^ K < 18446744073709551616 := Nat.lt_of_le_of_lt (Nat.mod_le _ _) hu
    have c1 := fun w : World => Count_calls (w := w) (u := 2 ^ K * (u / 2 ^ K)) hh2
    have c2 := fun w : World => Count_calls (w := w) (u := u % 2 ^ K) hR
    have c3 := fun w : World => Count_calls (w := w) (u := u) hu
    have p1 := (ones_pop _ hh2).2
    have p2 := (ones_pop _ hR).2
    have p3 := (ones_pop u hu).2
    generalize 2 ^ K * (u / 2 ^ K) = H at *
    generalize u % 2 ^ K = R at *
    have c4 := fun w' (hb : Below w.heap.size w w') => Low_calls (hT.below hb) hu
    have C1 := Lib.hid c1; clear c1 hh2
    have C2 := Lib.hid c2; clear c2 hR
    clear hk
    by_cases h0 : u = 0
    · have e1 : pop u = 0 := by rw [h0]; rfl
      have e2 : lowS u = 64 := by rw [h0]; rfl
      have q0 : ((u : Int) == 0) = true := by rw [h0]; rfl
      rw [e1] at c3 hsum
      rw [e2] at c4
      have e3 : pop H = 0 := by omega
      have e4 : pop R = 0 := by omega
      rw [e3] at C1
      rw [e4] at C2
      have C3 := Lib.hid c3; clear c3 p1 p2 p3 hsum e1 e2 e3 e4 h0
      have C4 := Lib.hid c4; clear c4 hT
      go_enter Tryd.func10, Tryd.ntmps10
      go_wp2_with fail
      refine hA.out.mono ?_
      rintro e w1 ⟨rfl, b1⟩
      have hB := Lib.hid b1; clear b1
      go_wp2_with fail
      refine (C1.out _).mono ?_
      rintro e w2 ⟨rfl, rfl⟩
      go_wp2_with fail
      refine (C2.out _).mono ?_
      rintro e w2 ⟨rfl, rfl⟩
      go_wp2_with fail
      refine (C3.out _).mono ?_
      rintro e w2 ⟨rfl, rfl⟩
      go_wp2_with fail
      refine (C4.out _ hB.out).mono ?_
      rintro e w2 ⟨rfl, rfl⟩
      go_wp2_with fail
      refine (C3.out _).mono ?_
      rintro e w2 ⟨rfl, rfl⟩
      go_wp2
      go_ret
      exact ⟨rfl, hB.out⟩
    · obtain ⟨m1, m2, m3⟩ := without_low h0 hu
      have hxl := xor_low hu h0
      have m4 := (ctz_spec h0 hu).choose_spec.2
      have hV : u - 2 ^ lowS u < 18446744073709551616 := Nat.lt_of_le_of_lt (Nat.sub_le _ _) hu
      have c5 := fun w : World => Count_calls (w := w) (u := u - 2 ^ lowS u) hV
      have c6 := fun w' (hb : Below w.heap.size w w') => Low_calls (hT.below hb) hV
      have l1 : pop u = pop (u - 2 ^ lowS u) + 1 := m1
      have l2 : lowS u < lowS (u - 2 ^ lowS u) := m2
      have hl64 : lowS u < 64 := m4
      clear m1 m2 m3 m4
      generalize u - 2 ^ lowS u = V at *
      generalize lowS u = Lw at *
      generalize lowS V = Lv at *
      generalize pop u = pu at *
      generalize pop V = pv at *
      generalize pop H = ph at *
      generalize pop R = pr at *
      have q0 : ((u : Int) == 0) = false := by simp; exact h0
      obtain ⟨q1, q2, q3, q3n⟩ := counts_q hsum l1 l2
      obtain ⟨hmin2, hwk2⟩ := low_q hl64
      clear h0 l1 l2 hsum
      have C3 := Lib.hid c3; clear c3
      have C4 := Lib.hid c4; clear c4 hT
      have C5 := Lib.hid c5; clear c5 hV
      have C6 := Lib.hid c6; clear c6
      go_enter Tryd.func10, Tryd.ntmps10
      go_wp2_with fail
      refine hA.out.mono ?_
      rintro e w1 ⟨rfl, b1⟩
      have hB := Lib.hid b1; clear b1
      go_wp2_with fail
      refine (C1.out _).mono ?_
      rintro e w2 ⟨rfl, rfl⟩
      go_wp2_with fail
      refine (C2.out _).mono ?_
      rintro e w2 ⟨rfl, rfl⟩
      go_wp2_with fail
      refine (C3.out _).mono ?_
      rintro e w2 ⟨rfl, rfl⟩
      go_wp2_with fail
      refine (C4.out _ hB.out).mono ?_
      rintro e w2 ⟨rfl, rfl⟩
      go_wp2_with fail
      refine (C5.out _).mono ?_
      rintro e w2 ⟨rfl, rfl⟩
      go_wp2_with fail
      refine (C3.out _).mono ?_
      rintro e w2 ⟨rfl, rfl⟩
      go_wp2_with fail
      refine (C6.out _ hB.out).mono ?_
      rintro e w2 ⟨rfl, rfl⟩
      go_wp2
      go_ret
      exact ⟨rfl, hB.out⟩
end Go.Proofs.YtjbpoegpmbnglaaDoor
