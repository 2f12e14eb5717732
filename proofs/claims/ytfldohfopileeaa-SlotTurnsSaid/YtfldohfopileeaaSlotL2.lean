/- The law SlotTurns. -/
import Derived.Test.YtfldohfopileeaaSlotL6
namespace Go.Proofs.Ytfldohfopileeaa
open Go.RowKit

theorem turns_plain {a t who : Int} (h1 : 1 ≤ a) (h2 : a ≤ 6) (ht : 0 ≤ t) (h3 : 0 ≤ who) (h4 : who ≤ a) : ∃ N, nextOf (a, 1, 2) t who = N ∧ t ≤ N ∧ N ≤ t + a ∧ ownOf (a, 1, 2) N = who ∧ nextOf (a, 1, 2) N who = N ∧ nextOf (a, 1, 2) (N + 1) who = N + a + 1 := by
  refine ⟨_, rfl, ?_⟩
  unfold nextOf ownOf
  simp only [Pl.parts]
  have h : ¬ (who < 0 ∨ a < who) := by omega
  simp only [if_neg h, tick_of ht]
  have hp : 0 ≤ (who - t % (a + 1) + (a + 1)) % (a + 1) := Int.emod_nonneg _ (by omega)
  rw [tick_of (by omega), tick_of (by omega)]
  rcases six h1 h2 with rfl | rfl | rfl | rfl | rfl | rfl <;> omega
theorem turns_no {a t who : Int} (h : who < 0 ∨ a < who) : nextOf (a, 1, 2) t who = -1 := if_pos h
theorem turns_at {a t i : Int} (h1 : 1 ≤ a) (h2 : a ≤ 6) (ht : 0 ≤ t) (hi : 0 ≤ i) : ownOf (a, 1, 2) (t + i) = (ownOf (a, 1, 2) t + i) % (a + 1) ∧ 0 ≤ ownOf (a, 1, 2) t ∧ ownOf (a, 1, 2) t ≤ a := by
  unfold ownOf
  rw [tick_of ht, tick_of (by omega)]
  simp only [Pl.parts]
  rcases six h1 h2 with rfl | rfl | rfl | rfl | rfl | rfl <;> omega
theorem turns_end {a t : Int} (h1 : 1 ≤ a) (h2 : a ≤ 6) (ht : 0 ≤ t) : rndOf (a, 1, 2) (t + a + 1) = rndOf (a, 1, 2) t + 1 ∧ 0 ≤ rndOf (a, 1, 2) t ∧ rndOf (a, 1, 2) t ≤ t ∧ rndOf (a, 1, 2) t * (a + 1) + ownOf (a, 1, 2) t = t ∧ 0 ≤ rndOf (a, 1, 2) t * (a + 1) ∧ rndOf (a, 1, 2) t * (a + 1) ≤ t := by
  unfold rndOf ownOf
  rw [tick_of (by omega), tick_of ht]
  simp only [Pl.parts]
  rcases six h1 h2 with rfl | rfl | rfl | rfl | rfl | rfl <;> omega
set_option maxHeartbeats 8000000 in
theorem lawSlotTurns {w : World} {a t who : Int} (_h1 : (Lit.int .i64 a).wf = true) (_h2 : (Lit.int .i64 t).wf = true) (_h3 : (Lit.int .i64 who).wf = true) : Calls Try.prog 4 #[.int .i64 a, .int .i64 t, .int .i64 who] w fun e w' => e = .returned (.bool true) ∧ Below w.heap.size w w' := by
  clear _h1 _h2 _h3
  have Hb := Lib.hid (Below.refl w.heap.size w)
  by_cases c1 : t < 0
  · have e0 : decide (t < 0) = true := decide_eq_true c1
    clear c1
    go_enter Try.func4, Try.ntmps4
    go_wp2_with fail
    refine (alive_calls).mono ?_
    rintro e w1 ⟨rfl, bk⟩
    have hb := Hb.out.trans (bk.mono Hb.out.size)
    clear Hb bk
    have Hb := Lib.hid hb; clear hb
    go_wp2
    go_ret
    exact ⟨rfl, Hb.out⟩
  by_cases c2 : 1125899906842624 < t
  · have e0 : decide (t < 0) = false := decide_eq_false c1
    have e1 : decide (1125899906842624 < t) = true := decide_eq_true c2
    clear c1 c2
    go_enter Try.func4, Try.ntmps4
    go_wp2_with fail
    refine (alive_calls).mono ?_
    rintro e w1 ⟨rfl, bk⟩
    have hb := Hb.out.trans (bk.mono Hb.out.size)
    clear Hb bk
    have Hb := Lib.hid hb; clear hb
    go_wp2
    go_ret
    exact ⟨rfl, Hb.out⟩
  by_cases c3 : a < 1
  · have e0 : decide (t < 0) = false := decide_eq_false c1
    have e1 : decide (1125899906842624 < t) = false := decide_eq_false c2
    have e2 : decide (a < 1) = true := decide_eq_true c3
    clear c1 c2 c3
    go_enter Try.func4, Try.ntmps4
    go_wp2_with fail
    refine (alive_calls).mono ?_
    rintro e w1 ⟨rfl, bk⟩
    have hb := Hb.out.trans (bk.mono Hb.out.size)
    clear Hb bk
    have Hb := Lib.hid hb; clear hb
    go_wp2
    go_ret
    exact ⟨rfl, Hb.out⟩
  by_cases c4 : 6 < a
  · have e0 : decide (t < 0) = false := decide_eq_false c1
    have e1 : decide (1125899906842624 < t) = false := decide_eq_false c2
    have e2 : decide (a < 1) = false := decide_eq_false c3
    have e3 : decide (6 < a) = true := decide_eq_true c4
    clear c1 c2 c3 c4
    go_enter Try.func4, Try.ntmps4
    go_wp2_with fail
    refine (alive_calls).mono ?_
    rintro e w1 ⟨rfl, bk⟩
    have hb := Hb.out.trans (bk.mono Hb.out.size)
    clear Hb bk
    have Hb := Lib.hid hb; clear hb
    go_wp2
    go_ret
    exact ⟨rfl, Hb.out⟩
  have e0 : decide (t < 0) = false := decide_eq_false c1
  have e1 : decide (1125899906842624 < t) = false := decide_eq_false c2
  have e2 : decide (a < 1) = false := decide_eq_false c3
  have e3 : decide (6 < a) = false := decide_eq_false c4
  have a1 : 1 ≤ a := by omega
  have a2 : a ≤ 6 := by omega
  have t0 : 0 ≤ t := by omega
  have tm : t ≤ 1125899906842624 := by omega
  clear c1 c2 c3 c4
  have hg := pl_fine a1 a2
  have n1 := fun w : World => slotNew_calls (w := w) (a, 1, 2)
  rw [if_pos hg, if_pos hg] at n1
  have xx := fun (w : World) x hx => Next_calls (w := w) (a, 1, 2) hg.fine x who hx
  have x1 := fun w : World => xx w t (by omega)
  have oo := fun (w : World) x => Owner_calls (w := w) (a, 1, 2) hg.fine x
  have rr := fun (w : World) x hx => Round_calls (w := w) (a, 1, 2) hg.fine x hx
  by_cases c5 : who < 0
  · rw [turns_no (a := a) (.inl c5)] at x1
    have e4 : decide (who < 0) = true := decide_eq_true c5
    simp only [Pl.cells, Pl.parts, Pl.window, Pl.delay] at n1 x1
    clear hg oo rr xx c5
    have N1 := Lib.hid n1; clear n1
    have X1 := Lib.hid x1; clear x1
    go_enter Try.func4, Try.ntmps4
    go_wp2_with fail
    refine (alive_calls).mono ?_
    rintro e w1 ⟨rfl, bk⟩
    have hb := Hb.out.trans (bk.mono Hb.out.size)
    clear Hb bk
    have Hb := Lib.hid hb; clear hb
    go_wp2_with fail
    refine (N1.out _).mono ?_
    rintro e w2 ⟨rfl, bk⟩
    have hb := Hb.out.trans (bk.mono Hb.out.size)
    clear Hb bk
    have Hb := Lib.hid hb; clear hb
    have bk := (Below.refl w2.heap.size w2).alloc (Nat.le_refl _) (.cells #[.int .i64 a, .int .i64 1, .int .i64 2] 24)
    have zP := heap_alloc_new w2 (.cells #[.int .i64 a, .int .i64 1, .int .i64 2] 24)
    have hb := Hb.out.trans (bk.mono Hb.out.size)
    clear Hb bk
    have Hb := Lib.hid hb; clear hb
    have XP := Lib.hid zP; clear zP
    have yP0 := cells_at XP.out 0
    have yP1 := cells_at XP.out 1
    have yP2 := cells_at XP.out 2
    go_wp2_with fail
    clear yP0 yP1 yP2
    generalize w2.heap.size = g2 at *
    generalize w2.alloc (.cells #[.int .i64 a, .int .i64 1, .int .i64 2] 24) = w3 at *
    refine (X1.out _).mono ?_
    rintro e w4 ⟨rfl, bk⟩
    have xP := keepAt XP.out bk
    have hb := Hb.out.trans (bk.mono Hb.out.size)
    clear Hb bk
    clear XP
    have XP := Lib.hid xP; clear xP
    have Hb := Lib.hid hb; clear hb
    go_wp2
    go_ret
    exact ⟨rfl, Hb.out⟩
  by_cases c6 : a < who
  · rw [turns_no (a := a) (.inr c6)] at x1
    have e4 : decide (who < 0) = false := decide_eq_false c5
    have e5 : decide (a < who) = true := decide_eq_true c6
    simp only [Pl.cells, Pl.parts, Pl.window, Pl.delay] at n1 x1
    clear hg oo rr xx c5 c6
    have N1 := Lib.hid n1; clear n1
    have X1 := Lib.hid x1; clear x1
    go_enter Try.func4, Try.ntmps4
    go_wp2_with fail
    refine (alive_calls).mono ?_
    rintro e w1 ⟨rfl, bk⟩
    have hb := Hb.out.trans (bk.mono Hb.out.size)
    clear Hb bk
    have Hb := Lib.hid hb; clear hb
    go_wp2_with fail
    refine (N1.out _).mono ?_
    rintro e w2 ⟨rfl, bk⟩
    have hb := Hb.out.trans (bk.mono Hb.out.size)
    clear Hb bk
    have Hb := Lib.hid hb; clear hb
    have bk := (Below.refl w2.heap.size w2).alloc (Nat.le_refl _) (.cells #[.int .i64 a, .int .i64 1, .int .i64 2] 24)
    have zP := heap_alloc_new w2 (.cells #[.int .i64 a, .int .i64 1, .int .i64 2] 24)
    have hb := Hb.out.trans (bk.mono Hb.out.size)
    clear Hb bk
    have Hb := Lib.hid hb; clear hb
    have XP := Lib.hid zP; clear zP
    have yP0 := cells_at XP.out 0
    have yP1 := cells_at XP.out 1
    have yP2 := cells_at XP.out 2
    go_wp2_with fail
    clear yP0 yP1 yP2
    generalize w2.heap.size = g2 at *
    generalize w2.alloc (.cells #[.int .i64 a, .int .i64 1, .int .i64 2] 24) = w3 at *
    refine (X1.out _).mono ?_
    rintro e w4 ⟨rfl, bk⟩
    have xP := keepAt XP.out bk
    have hb := Hb.out.trans (bk.mono Hb.out.size)
    clear Hb bk
    clear XP
    have XP := Lib.hid xP; clear xP
    have Hb := Lib.hid hb; clear hb
    go_wp2
    go_ret
    exact ⟨rfl, Hb.out⟩
  have e4 : decide (who < 0) = false := decide_eq_false c5
  have e5 : decide (a < who) = false := decide_eq_false c6
  have w0 : 0 ≤ who := by omega
  have w6 : who ≤ a := by omega
  clear c5 c6
  obtain ⟨N, hN, n2, n3, n4, n5, n6⟩ := turns_plain a1 a2 t0 w0 w6
  rw [hN] at x1
  have x2 := fun w : World => xx w N (by omega)
  have x3 := fun w : World => xx w (N + 1) (by omega)
  have oN := fun w : World => oo w N
  rw [n5] at x2
  rw [n6] at x3
  rw [n4] at oN
  have ta := fun i hi => turns_at (i := i) a1 a2 t0 hi
  have ot := fun w : World => oo w t
  obtain ⟨r1, r2, r3, r4, r5, r6⟩ := turns_end a1 a2 t0
  have rE := fun w : World => rr w (t + a + 1) (by omega)
  have rt := fun w : World => rr w t (by omega)
  rw [r1] at rE
  obtain ⟨t1, t2⟩ := (ta 0 (Int.le_refl _)).2
  obtain ⟨O, hO⟩ : ∃ O, ownOf (a, 1, 2) t = O := ⟨_, rfl⟩
  rw [hO] at ot t1 t2 r4
  have oI : ∀ (w : World) i, 0 ≤ i → Calls Try.prog 12 #[.agg #[.int .i64 a, .int .i64 1, .int .i64 2], .int .i64 (t + i)] w fun e w' => e = .returned (.int .i64 ((O + i) % (a + 1))) ∧ Below w.heap.size w w' := fun w i hi => by
    have := oo w (t + i)
    rw [(ta i hi).1, hO] at this
    exact this
  generalize rndOf (a, 1, 2) t = K at *
  simp only [Pl.cells, Pl.parts, Pl.window, Pl.delay] at n1 x1 x2 x3 oN ot rE rt
  clear hg oo rr xx ta hN n4 n5 n6 r1 hO
  have N1 := Lib.hid n1; clear n1
  have X1 := Lib.hid x1; clear x1
  have X2 := Lib.hid x2; clear x2
  have X3 := Lib.hid x3; clear x3
  have ON := Lib.hid oN; clear oN
  have Ot := Lib.hid ot; clear ot
  have RE := Lib.hid rE; clear rE
  have Rt := Lib.hid rt; clear rt
  have OI := Lib.hid oI; clear oI
  have R4 := Lib.hid r4; clear r4
  go_enter Try.func4, Try.ntmps4
  go_wp2_with fail
  refine (alive_calls).mono ?_
  rintro e w1 ⟨rfl, bk⟩
  have hb := Hb.out.trans (bk.mono Hb.out.size)
  clear Hb bk
  have Hb := Lib.hid hb; clear hb
  go_wp2_with fail
  refine (N1.out _).mono ?_
  rintro e w2 ⟨rfl, bk⟩
  have hb := Hb.out.trans (bk.mono Hb.out.size)
  clear Hb bk
  have Hb := Lib.hid hb; clear hb
  have bk := (Below.refl w2.heap.size w2).alloc (Nat.le_refl _) (.cells #[.int .i64 a, .int .i64 1, .int .i64 2] 24)
  have zP := heap_alloc_new w2 (.cells #[.int .i64 a, .int .i64 1, .int .i64 2] 24)
  have hb := Hb.out.trans (bk.mono Hb.out.size)
  clear Hb bk
  have Hb := Lib.hid hb; clear hb
  have XP := Lib.hid zP; clear zP
  have yP0 := cells_at XP.out 0
  have yP1 := cells_at XP.out 1
  have yP2 := cells_at XP.out 2
  go_wp2_with fail
  clear yP0 yP1 yP2
  generalize w2.heap.size = g2 at *
  generalize w2.alloc (.cells #[.int .i64 a, .int .i64 1, .int .i64 2] 24) = w3 at *
  refine (X1.out _).mono ?_
  rintro e w4 ⟨rfl, bk⟩
  have xP := keepAt XP.out bk
  have hb := Hb.out.trans (bk.mono Hb.out.size)
  clear Hb bk
  clear XP
  have XP := Lib.hid xP; clear xP
  have Hb := Lib.hid hb; clear hb
  have f1 : decide (N < t) = false := decide_eq_false (by omega)
  have f2 : decide (t + a < N) = false := decide_eq_false (by omega)
  have f3 : (who != who) = false := by simp
  have f4 : (N != N) = false := by simp
  have f5 : (N + a + 1 != N + a + 1) = false := by simp
  have yP0 := cells_at XP.out 0
  have yP1 := cells_at XP.out 1
  have yP2 := cells_at XP.out 2
  go_wp2_with fail
  refine (ON.out _).mono ?_
  rintro e w5 ⟨rfl, bk⟩
  clear yP0 yP1 yP2
  have xP := keepAt XP.out bk
  have hb := Hb.out.trans (bk.mono Hb.out.size)
  clear Hb bk
  clear XP
  have XP := Lib.hid xP; clear xP
  have Hb := Lib.hid hb; clear hb
  have yP0 := cells_at XP.out 0
  have yP1 := cells_at XP.out 1
  have yP2 := cells_at XP.out 2
  go_wp2_with fail
  refine (X2.out _).mono ?_
  rintro e w6 ⟨rfl, bk⟩
  clear yP0 yP1 yP2
  have xP := keepAt XP.out bk
  have hb := Hb.out.trans (bk.mono Hb.out.size)
  clear Hb bk
  clear XP
  have XP := Lib.hid xP; clear xP
  have Hb := Lib.hid hb; clear hb
  have yP0 := cells_at XP.out 0
  have yP1 := cells_at XP.out 1
  have yP2 := cells_at XP.out 2
  go_wp2_with fail
  refine (X3.out _).mono ?_
  rintro e w7 ⟨rfl, bk⟩
  clear yP0 yP1 yP2
  have xP := keepAt XP.out bk
  have hb := Hb.out.trans (bk.mono Hb.out.size)
  clear Hb bk
  clear XP
  have XP := Lib.hid xP; clear xP
  have Hb := Lib.hid hb; clear hb
  go_wp2_with fail
  clear e0 e1 e2 e3 e4 e5 f1 f2 f3 f4 f5
  go_loopw [10] (fun u wr => ∃ i : Int, u = .int .i64 i ∧ 0 ≤ i ∧ i ≤ a + 1 ∧ Below w.heap.size w wr ∧ wr.heap[g2]? = some (.cells #[.int .i64 a, .int .i64 1, .int .i64 2] 24 (0, 0))) (fun u _ => (a + 1 - intOf u).toNat)
  case atStart => exact ⟨0, rfl, Int.le_refl _, by omega, Hb.out, XP.out⟩
  case round =>
    clear Hb XP
    obtain ⟨i, rfl, i1, i2, hb, xP⟩ := hrel
    obtain ⟨w8, rfl⟩ : ∃ w8, w8 = wr := ⟨_, rfl⟩
    have Hb := Lib.hid hb; clear hb
    have XP := Lib.hid xP; clear xP
    by_cases hi : i ≤ a
    · have j1 : decide (i ≤ a) = true := decide_eq_true hi
      have oi := (OI.out · i i1)
      obtain ⟨M, hM⟩ : ∃ M, M = (O + i) % (a + 1) := ⟨_, rfl⟩
      have q1 : ((O + i) % (a + 1) != (O + i) % (a + 1)) = false := by simp
      have q2 : ¬ (a + 1 = 0) := by omega
      have q3 : 0 ≤ O + i := by omega
      clear hM M
      have Oi := Lib.hid oi; clear oi
      go_wp2_with fail
      have zP0 := cell_regrown (cells_at XP.out 0)
      have zP1 := cell_regrown (cells_at XP.out 1)
      have zP2 := cell_regrown (cells_at XP.out 2)
      refine wp_region_quiet_below (by kernel_rfl) (by kernel_rfl) ?_
      repeat (any_goals (first | go_big_quiet_step ((first
            | (go_at_call 12; exact Calls.regrown_of (Oi.out _))
            | (go_at_call 12; exact Calls.regrown_of (Ot.out _)))) | quiet_step ((first
            | (go_at_call 12; exact Calls.regrown_of (Oi.out _))
            | (go_at_call 12; exact Calls.regrown_of (Ot.out _))))))
      refine wpQuiet_nil ?_
      intro wq hwq
      have bk : Below w8.heap.size w8 wq := by obtain ⟨q, rfl⟩ := hwq; exact below_regrown _ _ _
      clear hwq zP0 zP1 zP2
      have xP := keepAt XP.out bk
      have hb := Hb.out.trans (bk.mono Hb.out.size)
      clear Hb bk
      clear XP
      have XP := Lib.hid xP; clear xP
      have Hb := Lib.hid hb; clear hb
      go_wp2_with fail
      go_roundw
      case rel => exact ⟨i + 1, by go_num, by omega, by omega, Hb.out, XP.out⟩
      case measure => simp [intOf]; omega
    · obtain rfl : i = a + 1 := by omega
      have j1 : decide (a + 1 ≤ a) = false := decide_eq_false hi
      have q2 : (K + 1 == K + 1) = true := by simp
      have q3 : t = K * (a + 1) + O := R4.out.symm
      have q4 : (t == K * (a + 1) + O) = true := by simpa using q3
      clear q3
      go_wp2_with fail
      have zP0 := cell_regrown (cells_at XP.out 0)
      have zP1 := cell_regrown (cells_at XP.out 1)
      have zP2 := cell_regrown (cells_at XP.out 2)
      refine wp_region_quiet_below (by kernel_rfl) (by kernel_rfl) ?_
      repeat (any_goals (first | go_big_quiet_step ((first
            | (go_at_call 14; exact Calls.regrown_of (RE.out _))
            | (go_at_call 14; exact Calls.regrown_of (Rt.out _))
            | (go_at_call 12; exact Calls.regrown_of (Ot.out _)))) | quiet_step ((first
            | (go_at_call 14; exact Calls.regrown_of (RE.out _))
            | (go_at_call 14; exact Calls.regrown_of (Rt.out _))
            | (go_at_call 12; exact Calls.regrown_of (Ot.out _))))))
      refine wpQuiet_nil ?_
      intro wq hwq
      have bk : Below w8.heap.size w8 wq := by obtain ⟨q, rfl⟩ := hwq; exact below_regrown _ _ _
      clear hwq zP0 zP1 zP2
      have xP := keepAt XP.out bk
      have hb := Hb.out.trans (bk.mono Hb.out.size)
      clear Hb bk
      clear XP
      have XP := Lib.hid xP; clear xP
      have Hb := Lib.hid hb; clear hb
      go_wp2
      go_ret
      exact ⟨rfl, Hb.out⟩
end Go.Proofs.Ytfldohfopileeaa
