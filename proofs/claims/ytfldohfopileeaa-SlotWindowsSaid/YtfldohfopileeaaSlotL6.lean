/- The law SlotRounds. -/
import Derived.Test.YtfldohfopileeaaSlotL1
namespace Go.Proofs.Ytfldohfopileeaa
open Go.RowKit

theorem pl_fine {a : Int} (h1 : 1 ≤ a) (h2 : a ≤ 6) : Pl.good (a, 1, 2) := ⟨h1, h2, (by decide : (1 : Int) ≤ 1), (by decide : (1 : Int) ≤ 100), (by decide : (1 : Int) < 2), (by decide : (2 : Int) ≤ 200)⟩
theorem six {a : Int} (h1 : 1 ≤ a) (h2 : a ≤ 6) : a = 1 ∨ a = 2 ∨ a = 3 ∨ a = 4 ∨ a = 5 ∨ a = 6 := by omega
theorem rounds_at {a F i : Int} (h1 : 1 ≤ a) (h2 : a ≤ 6) (hF : 0 ≤ F) (hm : F % (a + 1) = 0) (hi : 0 ≤ i) (hi2 : i ≤ a) : ownOf (a, 1, 2) (F + i) = i ∧ rndOf (a, 1, 2) (F + i) = rndOf (a, 1, 2) F := by
  unfold ownOf rndOf
  rw [tick_of (by omega), tick_of hF]
  simp only [Pl.parts]
  rcases six h1 h2 with rfl | rfl | rfl | rfl | rfl | rfl <;> omega
theorem rounds_end {a F : Int} (h1 : 1 ≤ a) (h2 : a ≤ 6) (hF : 0 ≤ F) : rndOf (a, 1, 2) (F + a + 1) = rndOf (a, 1, 2) F + 1 ∧ 0 ≤ rndOf (a, 1, 2) F ∧ rndOf (a, 1, 2) F ≤ F := by
  unfold rndOf
  rw [tick_of (by omega), tick_of hF]
  simp only [Pl.parts]
  rcases six h1 h2 with rfl | rfl | rfl | rfl | rfl | rfl <;> omega
theorem first_at {a t : Int} (h1 : 1 ≤ a) (h2 : a ≤ 6) (ht : 0 ≤ t) : t ≤ nextOf (a, 1, 2) t 0 ∧ nextOf (a, 1, 2) t 0 ≤ t + 6 ∧ nextOf (a, 1, 2) t 0 % (a + 1) = 0 := by
  unfold nextOf ownOf
  rw [if_neg (by simp only [Pl.parts]; omega), tick_of ht]
  simp only [Pl.parts]
  rcases six h1 h2 with rfl | rfl | rfl | rfl | rfl | rfl <;> omega
set_option maxHeartbeats 8000000 in
theorem lawSlotRounds {w : World} {a t : Int} (_h1 : (Lit.int .i64 a).wf = true) (_h2 : (Lit.int .i64 t).wf = true) : Calls Try.prog 8 #[.int .i64 a, .int .i64 t] w fun e w' => e = .returned (.bool true) ∧ Below w.heap.size w w' := by
  clear _h1 _h2
  have Hb := Lib.hid (Below.refl w.heap.size w)
  by_cases c1 : a < 1
  · have e0 : decide (a < 1) = true := decide_eq_true c1
    clear c1
    go_enter Try.func8, Try.ntmps8
    go_wp2_with fail
    refine (alive_calls).mono ?_
    rintro e w1 ⟨rfl, bk⟩
    have hb := Hb.out.trans (bk.mono Hb.out.size)
    clear Hb bk
    have Hb := Lib.hid hb; clear hb
    go_wp2
    go_ret
    exact ⟨rfl, Hb.out⟩
  by_cases c2 : 6 < a
  · have e0 : decide (a < 1) = false := decide_eq_false c1
    have e1 : decide (6 < a) = true := decide_eq_true c2
    clear c1 c2
    go_enter Try.func8, Try.ntmps8
    go_wp2_with fail
    refine (alive_calls).mono ?_
    rintro e w1 ⟨rfl, bk⟩
    have hb := Hb.out.trans (bk.mono Hb.out.size)
    clear Hb bk
    have Hb := Lib.hid hb; clear hb
    go_wp2
    go_ret
    exact ⟨rfl, Hb.out⟩
  by_cases c3 : t < 0
  · have e0 : decide (a < 1) = false := decide_eq_false c1
    have e1 : decide (6 < a) = false := decide_eq_false c2
    have e2 : decide (t < 0) = true := decide_eq_true c3
    clear c1 c2 c3
    go_enter Try.func8, Try.ntmps8
    go_wp2_with fail
    refine (alive_calls).mono ?_
    rintro e w1 ⟨rfl, bk⟩
    have hb := Hb.out.trans (bk.mono Hb.out.size)
    clear Hb bk
    have Hb := Lib.hid hb; clear hb
    go_wp2
    go_ret
    exact ⟨rfl, Hb.out⟩
  by_cases c4 : 1125899906842624 < t
  · have e0 : decide (a < 1) = false := decide_eq_false c1
    have e1 : decide (6 < a) = false := decide_eq_false c2
    have e2 : decide (t < 0) = false := decide_eq_false c3
    have e3 : decide (1125899906842624 < t) = true := decide_eq_true c4
    clear c1 c2 c3 c4
    go_enter Try.func8, Try.ntmps8
    go_wp2_with fail
    refine (alive_calls).mono ?_
    rintro e w1 ⟨rfl, bk⟩
    have hb := Hb.out.trans (bk.mono Hb.out.size)
    clear Hb bk
    have Hb := Lib.hid hb; clear hb
    go_wp2
    go_ret
    exact ⟨rfl, Hb.out⟩
  have e0 : decide (a < 1) = false := decide_eq_false c1
  have e1 : decide (6 < a) = false := decide_eq_false c2
  have e2 : decide (t < 0) = false := decide_eq_false c3
  have e3 : decide (1125899906842624 < t) = false := decide_eq_false c4
  have a1 : 1 ≤ a := by omega
  have a2 : a ≤ 6 := by omega
  have t0 : 0 ≤ t := by omega
  have tm : t ≤ 1125899906842624 := by omega
  clear c1 c2 c3 c4
  have hg := pl_fine a1 a2
  have n1 := fun w : World => slotNew_calls (w := w) (a, 1, 2)
  rw [if_pos hg, if_pos hg] at n1
  have x1 := fun w : World => Next_calls (w := w) (a, 1, 2) hg.fine t 0 (by omega)
  obtain ⟨f1, f2, f3⟩ := first_at a1 a2 t0
  have oo := fun (w : World) x => Owner_calls (w := w) (a, 1, 2) hg.fine x
  have rr := fun (w : World) x hx => Round_calls (w := w) (a, 1, 2) hg.fine x hx
  generalize nextOf (a, 1, 2) t 0 = F at *
  have ff : 0 ≤ F := by omega
  have fm : F ≤ 1125899906842630 := by omega
  have re := rounds_end a1 a2 ff
  have ra := fun i h1 h2 => rounds_at (i := i) a1 a2 ff f3 h1 h2
  obtain ⟨K, hK⟩ : ∃ K, rndOf (a, 1, 2) F = K := ⟨_, rfl⟩
  rw [hK] at re
  have rF := fun w : World => rr w F (by omega)
  have rE := fun w : World => rr w (F + a + 1) (by omega)
  rw [hK] at rF
  rw [re.1] at rE
  obtain ⟨-, k1, k2⟩ := re
  have rI : ∀ (w : World) i, 0 ≤ i → i ≤ a → Calls Try.prog 14 #[.agg #[.int .i64 a, .int .i64 1, .int .i64 2], .int .i64 (F + i)] w fun e w' => e = .returned (.int .i64 K) ∧ Below w.heap.size w w' := fun w i h1 h2 => by
    have := rr w (F + i) (by omega)
    rw [(ra i h1 h2).2, hK] at this
    exact this
  have oI : ∀ (w : World) i, 0 ≤ i → i ≤ a → Calls Try.prog 12 #[.agg #[.int .i64 a, .int .i64 1, .int .i64 2], .int .i64 (F + i)] w fun e w' => e = .returned (.int .i64 i) ∧ Below w.heap.size w w' := fun w i h1 h2 => by
    have := oo w (F + i)
    rw [(ra i h1 h2).1] at this
    exact this
  simp only [Pl.cells, Pl.parts, Pl.window, Pl.delay] at n1 x1 rF rE
  clear hg oo rr ra hK f1 f2 f3
  have N1 := Lib.hid n1; clear n1
  have X1 := Lib.hid x1; clear x1
  have RF := Lib.hid rF; clear rF
  have RE := Lib.hid rE; clear rE
  have RI := Lib.hid rI; clear rI
  have OI := Lib.hid oI; clear oI
  go_enter Try.func8, Try.ntmps8
  go_wp2_with fail
  refine (alive_calls).mono ?_
  rintro e w1 ⟨rfl, bk⟩
  have hb := Hb.out.trans (bk.mono Hb.out.size)
  clear Hb bk
  have Hb := Lib.hid hb; clear hb
  go_wp2_with fail
  refine (N1.out _).mono ?_
  rintro e w2 ⟨rfl, bk⟩
  have hb := Hb.out.trans (bk.mono Hb.out.size)
  clear Hb bk
  have Hb := Lib.hid hb; clear hb
  have bk := (Below.refl w2.heap.size w2).alloc (Nat.le_refl _) (.cells #[.int .i64 a, .int .i64 1, .int .i64 2] 24)
  have zP := heap_alloc_new w2 (.cells #[.int .i64 a, .int .i64 1, .int .i64 2] 24)
  have hb := Hb.out.trans (bk.mono Hb.out.size)
  clear Hb bk
  have Hb := Lib.hid hb; clear hb
  have XP := Lib.hid zP; clear zP
  have yP0 := cells_at XP.out 0
  have yP1 := cells_at XP.out 1
  have yP2 := cells_at XP.out 2
  go_wp2_with fail
  clear yP0 yP1 yP2
  generalize w2.heap.size = g2 at *
  generalize w2.alloc (.cells #[.int .i64 a, .int .i64 1, .int .i64 2] 24) = w3 at *
  refine (X1.out _).mono ?_
  rintro e w4 ⟨rfl, bk⟩
  have xP := keepAt XP.out bk
  have hb := Hb.out.trans (bk.mono Hb.out.size)
  clear Hb bk
  clear XP
  have XP := Lib.hid xP; clear xP
  have Hb := Lib.hid hb; clear hb
  go_wp2_with fail
  clear e0 e1 e2 e3
  go_loopw [8] (fun u wr => ∃ i : Int, u = .int .i64 i ∧ 0 ≤ i ∧ i ≤ a + 1 ∧ Below w.heap.size w wr ∧ wr.heap[g2]? = some (.cells #[.int .i64 a, .int .i64 1, .int .i64 2] 24 (0, 0))) (fun u _ => (a + 1 - intOf u).toNat)
  case atStart => exact ⟨0, rfl, Int.le_refl _, by omega, Hb.out, XP.out⟩
  case round =>
    clear Hb XP
    obtain ⟨i, rfl, i1, i2, hb, xP⟩ := hrel
    obtain ⟨w5, rfl⟩ : ∃ w5, w5 = wr := ⟨_, rfl⟩
    have Hb := Lib.hid hb; clear hb
    have XP := Lib.hid xP; clear xP
    by_cases hi : i ≤ a
    · have j1 : decide (i ≤ a) = true := decide_eq_true hi
      have q1 : (i != i) = false := by simp
      have q2 : (K != K) = false := by simp
      have oi := (OI.out · i i1 hi)
      have ri := (RI.out · i i1 hi)
      have Oi := Lib.hid oi; clear oi
      have Ri := Lib.hid ri; clear ri
      go_wp2_with fail
      have zP0 := cell_regrown (cells_at XP.out 0)
      have zP1 := cell_regrown (cells_at XP.out 1)
      have zP2 := cell_regrown (cells_at XP.out 2)
      refine wp_region_quiet_below (by kernel_rfl) (by kernel_rfl) ?_
      repeat (any_goals (first | go_big_quiet_step ((first
            | (go_at_call 12; exact Calls.regrown_of (Oi.out _))
            | (go_at_call 14; exact Calls.regrown_of (Ri.out _))
            | (go_at_call 14; exact Calls.regrown_of (RF.out _)))) | quiet_step ((first
            | (go_at_call 12; exact Calls.regrown_of (Oi.out _))
            | (go_at_call 14; exact Calls.regrown_of (Ri.out _))
            | (go_at_call 14; exact Calls.regrown_of (RF.out _))))))
      refine wpQuiet_nil ?_
      intro wq hwq
      have bk : Below w5.heap.size w5 wq := by obtain ⟨q, rfl⟩ := hwq; exact below_regrown _ _ _
      clear hwq zP0 zP1 zP2
      have xP := keepAt XP.out bk
      have hb := Hb.out.trans (bk.mono Hb.out.size)
      clear Hb bk
      clear XP
      have XP := Lib.hid xP; clear xP
      have Hb := Lib.hid hb; clear hb
      go_wp2_with fail
      go_roundw
      case rel => exact ⟨i + 1, by go_num, by omega, by omega, Hb.out, XP.out⟩
      case measure => simp [intOf]; omega
    · obtain rfl : i = a + 1 := by omega
      have j1 : decide (a + 1 ≤ a) = false := decide_eq_false hi
      have q2 : (K + 1 == K + 1) = true := by simp
      go_wp2_with fail
      have zP0 := cell_regrown (cells_at XP.out 0)
      have zP1 := cell_regrown (cells_at XP.out 1)
      have zP2 := cell_regrown (cells_at XP.out 2)
      refine wp_region_quiet_below (by kernel_rfl) (by kernel_rfl) ?_
      repeat (any_goals (first | go_big_quiet_step ((first
            | (go_at_call 14; exact Calls.regrown_of (RE.out _))
            | (go_at_call 14; exact Calls.regrown_of (RF.out _)))) | quiet_step ((first
            | (go_at_call 14; exact Calls.regrown_of (RE.out _))
            | (go_at_call 14; exact Calls.regrown_of (RF.out _))))))
      refine wpQuiet_nil ?_
      intro wq hwq
      have bk : Below w5.heap.size w5 wq := by obtain ⟨q, rfl⟩ := hwq; exact below_regrown _ _ _
      clear hwq zP0 zP1 zP2
      have xP := keepAt XP.out bk
      have hb := Hb.out.trans (bk.mono Hb.out.size)
      clear Hb bk
      clear XP
      have XP := Lib.hid xP; clear xP
      have Hb := Lib.hid hb; clear hb
      go_wp2
      go_ret
      exact ⟨rfl, Hb.out⟩
end Go.Proofs.Ytfldohfopileeaa
