/- The document's Cut. -/
import Derived.Test.YtjbpoegpmbnglaaDoorWordR1
namespace Go.Proofs.YtjbpoegpmbnglaaDoor
open Go.RowKit

set_option maxHeartbeats 2000000 in
theorem RCut_calls {w : World} {n k : Int} (h0 : -9223372036854775808 ≤ n) (h1 : n ≤ 9223372036854775807) : Calls Tryd.prog 15 #[.int .i64 n, .int .i64 k] w fun e w' => e = .returned (.int .i64 (cutS n k)) ∧ w' = w := by
  by_cases hk : 1 ≤ k ∧ k ≤ 64
  · obtain ⟨K, rfl⟩ : ∃ K : Nat, k = K := ⟨k.toNat, by omega⟩
    have e1 : decide ((K : Int) < 1) = false := decide_eq_false (by omega)
    have e2 : decide (64 < (K : Int)) = false := decide_eq_false (by omega)
    by_cases h64 : K = 64
    · subst h64
      have hc : cutS n ((64 : Nat) : Int) = n := (if_pos (by decide)).trans (bmod64 h0 h1)
      rw [hc]
      clear hc h0 h1 hk e1 e2
      go_enter Tryd.func15, Tryd.ntmps15
      go_wp2
      go_ret
      exact ⟨rfl, rfl⟩
    by_cases h63 : K = 63
    · subst h63
      obtain ⟨T, hT⟩ : ∃ T, T = n.tmod 4611686018427387904 := ⟨_, rfl⟩
      obtain ⟨H, hH⟩ : ∃ H, H = (n.tdiv 4611686018427387904).tmod 2 := ⟨_, rfl⟩
      obtain ⟨c1, c2, b1, b2, b3, b4⟩ := cut63 h0 h1 hT hH
      obtain ⟨Q, hQ⟩ : ∃ Q : Int, 4611686018427387904 = Q := ⟨_, rfl⟩
      have hp := fun w : World => power_calls (w := w) (K := 62) (by decide)
      rw [show ((2 ^ 62 : Nat) : Int) = 4611686018427387904 from rfl, show ((62 : Nat) : Int) = 62 from rfl] at hp
      rw [hQ] at hp hT hH c1 c2 b1 b2
      obtain ⟨G, hG⟩ : ∃ G, n.tdiv Q = G := ⟨_, rfl⟩
      have hGb : -3 ≤ G ∧ G ≤ 3 := by
        rw [← hG, ← hQ]
        rcases Int.le_total 0 n with h | h
        · rw [Int.tdiv_eq_ediv_of_nonneg h]; omega
        · rcases Int.lt_or_eq_of_le h with h | rfl
          · rw [tdiv_neg' n h]; omega
          · decide
      obtain ⟨hG1, hG2⟩ := hGb
      rw [hG] at hH
      replace hT := hT.symm
      replace hH := hH.symm
      have hQb : Q ≤ 4611686018427387904 := by omega
      have hQ1 : 1 ≤ Q := by omega
      have hQ0 : (Q == 0) = false := by simp; omega
      have hQne : Q ≠ 0 := by omega
      have Hp := Lib.hid hp; clear hp hk e1 e2 h64 hQ
      have hcut : cutS n ((63 : Nat) : Int) = cutS n 63 := rfl
      rw [hcut]
      clear hcut
      show Calls _ _ #[.int .i64 n, .int .i64 63] _ _
      by_cases ht : T < 0
      · have d1 : decide (T < 0) = true := decide_eq_true ht
        have c := c1 ht
        have hw1 : wrap64 (T + Q) = T + Q := by unfold wrap64; omega
        have hw2 : wrap64 (H - 1) = H - 1 := by unfold wrap64; omega
        have hw3 : wrap64 (T + Q - Q) = T + Q - Q := by unfold wrap64; omega
        rw [c]
        have C := Lib.hid c; clear c c1 c2 h0 h1
        cases hZ : ((H - 1).tmod 2 != 0)
        · rw [if_neg (by decide)]
          go_enter Tryd.func15, Tryd.ntmps15
          go_wp2_with fail
          refine (Hp.out _).mono ?_
          rintro e w1 ⟨rfl, rfl⟩
          go_wp2_with fail
          refine (Hp.out _).mono ?_
          rintro e w1 ⟨rfl, rfl⟩
          go_wp2_with fail
          refine (Hp.out _).mono ?_
          rintro e w1 ⟨rfl, rfl⟩
          go_wp2_with fail
          go_ret
          exact ⟨rfl, rfl⟩
        · rw [if_pos rfl]
          go_enter Tryd.func15, Tryd.ntmps15
          go_wp2_with fail
          refine (Hp.out _).mono ?_
          rintro e w1 ⟨rfl, rfl⟩
          go_wp2_with fail
          refine (Hp.out _).mono ?_
          rintro e w1 ⟨rfl, rfl⟩
          go_wp2_with fail
          refine (Hp.out _).mono ?_
          rintro e w1 ⟨rfl, rfl⟩
          go_wp2_with fail
          refine (Hp.out _).mono ?_
          rintro e w1 ⟨rfl, rfl⟩
          go_wp2_with fail
          go_ret
          exact ⟨by first | rfl | (show Ending.returned (.int .i64 _) = _; congr 2; omega), rfl⟩
      · have d1 : decide (T < 0) = false := decide_eq_false ht
        have c := c2 (by omega)
        have hw4 : wrap64 (T - Q) = T - Q := by unfold wrap64; omega
        rw [c]
        have C := Lib.hid c; clear c c1 c2 h0 h1
        cases hZ : (H.tmod 2 != 0)
        · rw [if_neg (by decide)]
          go_enter Tryd.func15, Tryd.ntmps15
          go_wp2_with fail
          refine (Hp.out _).mono ?_
          rintro e w1 ⟨rfl, rfl⟩
          go_wp2_with fail
          refine (Hp.out _).mono ?_
          rintro e w1 ⟨rfl, rfl⟩
          go_wp2_with fail
          go_ret
          exact ⟨rfl, rfl⟩
        · rw [if_pos rfl]
          go_enter Tryd.func15, Tryd.ntmps15
          go_wp2_with fail
          refine (Hp.out _).mono ?_
          rintro e w1 ⟨rfl, rfl⟩
          go_wp2_with fail
          refine (Hp.out _).mono ?_
          rintro e w1 ⟨rfl, rfl⟩
          go_wp2_with fail
          refine (Hp.out _).mono ?_
          rintro e w1 ⟨rfl, rfl⟩
          go_wp2_with fail
          go_ret
          exact ⟨rfl, rfl⟩
    · have e3 : ((K : Int) == 64) = false := by simp; omega
      have e4 : ((K : Int) == 63) = false := by simp; omega
      have hc : cutS n (K : Int) = Int.bmod n (2 ^ K) := by unfold cutS; rw [if_pos hk, Int.toNat_natCast]
      have hKs : (2 : Nat) ^ K = 2 * 2 ^ (K - 1) := by rw [← Nat.pow_succ']; congr 1; omega
      have hb := bmod_fix (n := n) (D := 2 ^ (K - 1))
      rw [← hKs] at hb
      have hc : cutS n (K : Int) = _ := hc.trans hb
      obtain ⟨D1, hD1⟩ : ∃ D1 : Nat, D1 = K - 1 := ⟨_, rfl⟩
      have hKD : (K : Int) - 1 = (D1 : Int) := by omega
      have hp1 := fun w : World => power_calls (w := w) (K := K) (by omega)
      have hp2 := fun w : World => power_calls (w := w) (K := D1) (by omega)
      have hDb : 2 ^ (K - 1) ≤ 2 ^ 61 := Nat.pow_le_pow_right (by decide) (by omega)
      have hD0 := Nat.two_pow_pos (K - 1)
      rw [hKs] at hp1
      rw [hD1] at hp2
      generalize 2 ^ (K - 1) = D at *
      have hDb : D ≤ 2305843009213693952 := hDb
      have eM : ((2 * D : Nat) : Int) = 2 * (D : Int) := by push_cast; rfl
      rw [eM] at hp1
      obtain ⟨M, hM⟩ : ∃ M : Int, M = 2 * (D : Int) := ⟨_, rfl⟩
      rw [← hM] at hp1 hc
      have hM0 : 0 < M := by omega
      have hMb : M ≤ 4611686018427387904 := by omega
      have hMne : (M == 0) = false := by simp; omega
      have hMne2 : M ≠ 0 := by omega
      have hfix := tmod_fix (n := n) hM0
      have hem := Int.emod_nonneg n (b := M) (by omega)
      have hel := Int.emod_lt_of_pos n hM0
      obtain ⟨T, hT⟩ : ∃ T, n.tmod M = T := ⟨_, rfl⟩
      rw [hT] at hfix
      have Hp1 := Lib.hid hp1; clear hp1
      have Hp2 := Lib.hid hp2; clear hp2
      rw [← hD1] at Hp2
      have kl : (K : Int) ≤ 64 := by omega
      have kg : 1 ≤ (K : Int) := by omega
      clear hk h64 h63 hKs hb eM hD1
      rcases hfix with ⟨ht, hE⟩ | ⟨ht, hE⟩
      · have d1 : decide (T < 0) = true := decide_eq_true ht
        rw [hE] at hc hem hel
        have hw1 : wrap64 (T + M) = T + M := by unfold wrap64; omega
        have hw2 : wrap64 (T + M - M) = T + M - M := by unfold wrap64; omega
        rw [hc]
        clear hc hE hM h0 h1
        by_cases hz : (D : Int) ≤ T + M
        · have d2 : decide ((D : Int) ≤ T + M) = true := decide_eq_true hz
          rw [if_pos hz]
          go_enter Tryd.func15, Tryd.ntmps15
          go_wp2_with fail
          refine (Hp1.out _).mono ?_
          rintro e w1 ⟨rfl, rfl⟩
          go_wp2_with fail
          refine (Hp1.out _).mono ?_
          rintro e w1 ⟨rfl, rfl⟩
          go_wp2_with fail
          refine (Hp2.out _).mono ?_
          rintro e w1 ⟨rfl, rfl⟩
          go_wp2_with fail
          refine (Hp1.out _).mono ?_
          rintro e w1 ⟨rfl, rfl⟩
          go_wp2_with fail
          go_ret
          exact ⟨by first | rfl | (show Ending.returned (.int .i64 _) = _; congr 2; omega), rfl⟩
        · have d2 : decide ((D : Int) ≤ T + M) = false := decide_eq_false hz
          rw [if_neg hz]
          go_enter Tryd.func15, Tryd.ntmps15
          go_wp2_with fail
          refine (Hp1.out _).mono ?_
          rintro e w1 ⟨rfl, rfl⟩
          go_wp2_with fail
          refine (Hp1.out _).mono ?_
          rintro e w1 ⟨rfl, rfl⟩
          go_wp2_with fail
          refine (Hp2.out _).mono ?_
          rintro e w1 ⟨rfl, rfl⟩
          go_wp2_with fail
          go_ret
          exact ⟨rfl, rfl⟩
      · have d1 : decide (T < 0) = false := decide_eq_false (by omega)
        rw [hE] at hc hem hel
        have hw2 : wrap64 (T - M) = T - M := by unfold wrap64; omega
        rw [hc]
        clear hc hE hM h0 h1
        by_cases hz : (D : Int) ≤ T
        · have d2 : decide ((D : Int) ≤ T) = true := decide_eq_true hz
          rw [if_pos hz]
          go_enter Tryd.func15, Tryd.ntmps15
          go_wp2_with fail
          refine (Hp1.out _).mono ?_
          rintro e w1 ⟨rfl, rfl⟩
          go_wp2_with fail
          refine (Hp2.out _).mono ?_
          rintro e w1 ⟨rfl, rfl⟩
          go_wp2_with fail
          refine (Hp1.out _).mono ?_
          rintro e w1 ⟨rfl, rfl⟩
          go_wp2_with fail
          go_ret
          exact ⟨rfl, rfl⟩
        · have d2 : decide ((D : Int) ≤ T) = false := decide_eq_false hz
          rw [if_neg hz]
          go_enter Tryd.func15, Tryd.ntmps15
          go_wp2_with fail
          refine (Hp1.out _).mono ?_
          rintro e w1 ⟨rfl, rfl⟩
          go_wp2_with fail
          refine (Hp2.out _).mono ?_
          rintro e w1 ⟨rfl, rfl⟩
          go_wp2_with fail
          go_ret
          exact ⟨rfl, rfl⟩
  · have hf : cutS n k = 0 := if_neg hk
    rw [hf]
    have hd : decide (k < 1) = true ∨ (decide (k < 1) = false ∧ decide (64 < k) = true) := by
      by_cases h : k < 1
      · exact .inl (decide_eq_true h)
      · exact .inr ⟨decide_eq_false h, decide_eq_true (by omega)⟩
    clear hk hf h0 h1
    rcases hd with e1 | ⟨e1, e2⟩
    all_goals
      go_enter Tryd.func15, Tryd.ntmps15
      go_wp2
      go_ret
      exact ⟨rfl, rfl⟩
end Go.Proofs.YtjbpoegpmbnglaaDoor
