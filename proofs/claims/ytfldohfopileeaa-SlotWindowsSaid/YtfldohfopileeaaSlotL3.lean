/- The law SlotWindows. -/
import Derived.Test.YtfldohfopileeaaSlotL6
namespace Go.Proofs.Ytfldohfopileeaa
open Go.RowKit

theorem low_in {a : Int} (h0 : 0 ≤ a) (h1 : a ≤ 1099511627776) : lowTick a = a := by unfold lowTick; rw [if_neg (by omega), if_neg (by omega)]
theorem win_plain {p q r a : Int} (h : Pl.good (p, q, r)) (h0 : 0 ≤ a) (h1 : a ≤ 1099511627776) : a < deadOf (p, q, r) a ∧ deadOf (p, q, r) a < releaseOf (p, q, r) a ∧ p + 1 ≤ releaseOf (p, q, r) a - deadOf (p, q, r) a ∧ releaseOf (p, q, r) a ≤ 1099511629176 ∧
    ownOf (p, q, r) (deadOf (p, q, r) a) = ownOf (p, q, r) a ∧ ownOf (p, q, r) (releaseOf (p, q, r) a) = ownOf (p, q, r) a ∧ ∀ who, 0 ≤ who → who ≤ p → nextOf (p, q, r) (deadOf (p, q, r) a) who < releaseOf (p, q, r) a := by
  obtain ⟨g1, g2, g3, g4, g5, g6⟩ := h
  simp only [Pl.parts, Pl.window, Pl.delay] at g1 g2 g3 g4 g5 g6
  have hd : deadOf (p, q, r) a = a + q * (p + 1) := by unfold deadOf laterOf; rw [low_in h0 h1]
  have hr : releaseOf (p, q, r) a = a + r * (p + 1) := by unfold releaseOf laterOf; rw [low_in h0 h1]
  rw [hd, hr]
  have hq : 0 ≤ q * (p + 1) := Int.mul_nonneg (by omega) (by omega)
  have hrr : 0 ≤ r * (p + 1) := Int.mul_nonneg (by omega) (by omega)
  unfold nextOf ownOf
  simp only [Pl.parts]
  rw [tick_of h0, tick_of (by omega), tick_of (by omega)]
  refine ⟨?_, ?_, ?_, ?_, ?_, ?_, fun who k1 k2 => ?_⟩
  · rcases six g1 g2 with rfl | rfl | rfl | rfl | rfl | rfl <;> omega
  · rcases six g1 g2 with rfl | rfl | rfl | rfl | rfl | rfl <;> omega
  · rcases six g1 g2 with rfl | rfl | rfl | rfl | rfl | rfl <;> omega
  · rcases six g1 g2 with rfl | rfl | rfl | rfl | rfl | rfl <;> omega
  · exact Int.add_mul_emod_self_right _ _ _
  · exact Int.add_mul_emod_self_right _ _ _
  · rw [if_neg (by omega)]
    rcases six g1 g2 with rfl | rfl | rfl | rfl | rfl | rfl <;> omega
theorem win_order {p q r a b : Int} (h0 : 0 ≤ a) (h1 : a ≤ 1099511627776) (h2 : 0 ≤ b) (h3 : b ≤ 1099511627776) : decide (deadOf (p, q, r) a < deadOf (p, q, r) b) = decide (a < b) ∧ decide (releaseOf (p, q, r) a < releaseOf (p, q, r) b) = decide (a < b) := by
  unfold deadOf releaseOf laterOf
  rw [low_in h0 h1, low_in h2 h3]
  constructor <;> exact decide_eq_decide.2 (by omega)
set_option maxHeartbeats 8000000 in
theorem lawSlotWindows {w : World} {p q r a b : Int} (_h1 : (Lit.int .i64 p).wf = true) (_h2 : (Lit.int .i64 q).wf = true) (_h3 : (Lit.int .i64 r).wf = true) (_h4 : (Lit.int .i64 a).wf = true) (_h5 : (Lit.int .i64 b).wf = true) : Calls Try.prog 5 #[.int .i64 p, .int .i64 q, .int .i64 r, .int .i64 a, .int .i64 b] w fun e w' => e = .returned (.bool true) ∧ Below w.heap.size w w' := by
  clear _h1 _h2 _h3 _h4 _h5
  have n1 := fun w : World => slotNew_calls (w := w) (p, q, r)
  have Hb := Lib.hid (Below.refl w.heap.size w)
  by_cases hg : ¬ Pl.good (p, q, r)
  · rw [if_neg hg, if_neg hg] at n1
    simp only [Pl.cells, Pl.parts, Pl.window, Pl.delay] at n1
    have N1 := Lib.hid n1; clear n1
    go_enter Try.func5, Try.ntmps5
    go_wp2_with fail
    refine (alive_calls).mono ?_
    rintro e w1 ⟨rfl, bk⟩
    have hb := Hb.out.trans (bk.mono Hb.out.size)
    clear Hb bk
    have Hb := Lib.hid hb; clear hb
    go_wp2_with fail
    refine (N1.out _).mono ?_
    rintro e w2 ⟨rfl, bk⟩
    have hb := Hb.out.trans (bk.mono Hb.out.size)
    clear Hb bk
    have Hb := Lib.hid hb; clear hb
    have bk := (Below.refl w2.heap.size w2).alloc (Nat.le_refl _) (.cells #[.int .i64 0, .int .i64 0, .int .i64 0] 24)
    have zP := heap_alloc_new w2 (.cells #[.int .i64 0, .int .i64 0, .int .i64 0] 24)
    have hb := Hb.out.trans (bk.mono Hb.out.size)
    clear Hb bk
    have Hb := Lib.hid hb; clear hb
    have XP := Lib.hid zP; clear zP
    go_wp2
    go_ret
    exact ⟨rfl, Hb.out⟩
  replace hg := Decidable.not_not.1 hg
  rw [if_pos hg, if_pos hg] at n1
  by_cases c1 : a < 0
  · have e0 : decide (a < 0) = true := decide_eq_true c1
    clear c1
    simp only [Pl.cells, Pl.parts, Pl.window, Pl.delay] at n1
    clear hg
    have N1 := Lib.hid n1; clear n1
    go_enter Try.func5, Try.ntmps5
    go_wp2_with fail
    refine (alive_calls).mono ?_
    rintro e w1 ⟨rfl, bk⟩
    have hb := Hb.out.trans (bk.mono Hb.out.size)
    clear Hb bk
    have Hb := Lib.hid hb; clear hb
    go_wp2_with fail
    refine (N1.out _).mono ?_
    rintro e w2 ⟨rfl, bk⟩
    have hb := Hb.out.trans (bk.mono Hb.out.size)
    clear Hb bk
    have Hb := Lib.hid hb; clear hb
    have bk := (Below.refl w2.heap.size w2).alloc (Nat.le_refl _) (.cells #[.int .i64 p, .int .i64 q, .int .i64 r] 24)
    have zP := heap_alloc_new w2 (.cells #[.int .i64 p, .int .i64 q, .int .i64 r] 24)
    have hb := Hb.out.trans (bk.mono Hb.out.size)
    clear Hb bk
    have Hb := Lib.hid hb; clear hb
    have XP := Lib.hid zP; clear zP
    go_wp2
    go_ret
    exact ⟨rfl, Hb.out⟩
  by_cases c2 : 1099511627776 < a
  · have e0 : decide (a < 0) = false := decide_eq_false c1
    have e1 : decide (1099511627776 < a) = true := decide_eq_true c2
    clear c1 c2
    simp only [Pl.cells, Pl.parts, Pl.window, Pl.delay] at n1
    clear hg
    have N1 := Lib.hid n1; clear n1
    go_enter Try.func5, Try.ntmps5
    go_wp2_with fail
    refine (alive_calls).mono ?_
    rintro e w1 ⟨rfl, bk⟩
    have hb := Hb.out.trans (bk.mono Hb.out.size)
    clear Hb bk
    have Hb := Lib.hid hb; clear hb
    go_wp2_with fail
    refine (N1.out _).mono ?_
    rintro e w2 ⟨rfl, bk⟩
    have hb := Hb.out.trans (bk.mono Hb.out.size)
    clear Hb bk
    have Hb := Lib.hid hb; clear hb
    have bk := (Below.refl w2.heap.size w2).alloc (Nat.le_refl _) (.cells #[.int .i64 p, .int .i64 q, .int .i64 r] 24)
    have zP := heap_alloc_new w2 (.cells #[.int .i64 p, .int .i64 q, .int .i64 r] 24)
    have hb := Hb.out.trans (bk.mono Hb.out.size)
    clear Hb bk
    have Hb := Lib.hid hb; clear hb
    have XP := Lib.hid zP; clear zP
    go_wp2
    go_ret
    exact ⟨rfl, Hb.out⟩
  by_cases c3 : b < 0
  · have e0 : decide (a < 0) = false := decide_eq_false c1
    have e1 : decide (1099511627776 < a) = false := decide_eq_false c2
    have e2 : decide (b < 0) = true := decide_eq_true c3
    clear c1 c2 c3
    simp only [Pl.cells, Pl.parts, Pl.window, Pl.delay] at n1
    clear hg
    have N1 := Lib.hid n1; clear n1
    go_enter Try.func5, Try.ntmps5
    go_wp2_with fail
    refine (alive_calls).mono ?_
    rintro e w1 ⟨rfl, bk⟩
    have hb := Hb.out.trans (bk.mono Hb.out.size)
    clear Hb bk
    have Hb := Lib.hid hb; clear hb
    go_wp2_with fail
    refine (N1.out _).mono ?_
    rintro e w2 ⟨rfl, bk⟩
    have hb := Hb.out.trans (bk.mono Hb.out.size)
    clear Hb bk
    have Hb := Lib.hid hb; clear hb
    have bk := (Below.refl w2.heap.size w2).alloc (Nat.le_refl _) (.cells #[.int .i64 p, .int .i64 q, .int .i64 r] 24)
    have zP := heap_alloc_new w2 (.cells #[.int .i64 p, .int .i64 q, .int .i64 r] 24)
    have hb := Hb.out.trans (bk.mono Hb.out.size)
    clear Hb bk
    have Hb := Lib.hid hb; clear hb
    have XP := Lib.hid zP; clear zP
    go_wp2
    go_ret
    exact ⟨rfl, Hb.out⟩
  by_cases c4 : 1099511627776 < b
  · have e0 : decide (a < 0) = false := decide_eq_false c1
    have e1 : decide (1099511627776 < a) = false := decide_eq_false c2
    have e2 : decide (b < 0) = false := decide_eq_false c3
    have e3 : decide (1099511627776 < b) = true := decide_eq_true c4
    clear c1 c2 c3 c4
    simp only [Pl.cells, Pl.parts, Pl.window, Pl.delay] at n1
    clear hg
    have N1 := Lib.hid n1; clear n1
    go_enter Try.func5, Try.ntmps5
    go_wp2_with fail
    refine (alive_calls).mono ?_
    rintro e w1 ⟨rfl, bk⟩
    have hb := Hb.out.trans (bk.mono Hb.out.size)
    clear Hb bk
    have Hb := Lib.hid hb; clear hb
    go_wp2_with fail
    refine (N1.out _).mono ?_
    rintro e w2 ⟨rfl, bk⟩
    have hb := Hb.out.trans (bk.mono Hb.out.size)
    clear Hb bk
    have Hb := Lib.hid hb; clear hb
    have bk := (Below.refl w2.heap.size w2).alloc (Nat.le_refl _) (.cells #[.int .i64 p, .int .i64 q, .int .i64 r] 24)
    have zP := heap_alloc_new w2 (.cells #[.int .i64 p, .int .i64 q, .int .i64 r] 24)
    have hb := Hb.out.trans (bk.mono Hb.out.size)
    clear Hb bk
    have Hb := Lib.hid hb; clear hb
    have XP := Lib.hid zP; clear zP
    go_wp2
    go_ret
    exact ⟨rfl, Hb.out⟩
  have e0 : decide (a < 0) = false := decide_eq_false c1
  have e1 : decide (1099511627776 < a) = false := decide_eq_false c2
  have e2 : decide (b < 0) = false := decide_eq_false c3
  have e3 : decide (1099511627776 < b) = false := decide_eq_false c4
  have a0 : 0 ≤ a := by omega
  have am : a ≤ 1099511627776 := by omega
  have b0 : 0 ≤ b := by omega
  have bm : b ≤ 1099511627776 := by omega
  clear c1 c2 c3 c4
  obtain ⟨k1, k2, k3, k4, k5, k6, k7⟩ := win_plain hg a0 am
  obtain ⟨v1, v2⟩ := win_order (p := p) (q := q) (r := r) a0 am b0 bm
  obtain ⟨-, -, -, kb, -, -, -⟩ := win_plain hg b0 bm
  have p1 : 1 ≤ p := hg.1
  have p6 : p ≤ 6 := hg.2.1
  have da := fun w : World => Deadline_calls (w := w) (p, q, r) hg.fine a
  have db := fun w : World => Deadline_calls (w := w) (p, q, r) hg.fine b
  have ra := fun w : World => Release_calls (w := w) (p, q, r) hg.fine a
  have rb := fun w : World => Release_calls (w := w) (p, q, r) hg.fine b
  have oa := fun w : World => Owner_calls (w := w) (p, q, r) hg.fine a
  have od := fun w : World => Owner_calls (w := w) (p, q, r) hg.fine (deadOf (p, q, r) a)
  have or := fun w : World => Owner_calls (w := w) (p, q, r) hg.fine (releaseOf (p, q, r) a)
  have xx := fun (w : World) who => Next_calls (w := w) (p, q, r) hg.fine (deadOf (p, q, r) a) who (by omega)
  rw [k5] at od
  rw [k6] at or
  generalize deadOf (p, q, r) b = DB at *
  generalize releaseOf (p, q, r) b = RB at *
  generalize releaseOf (p, q, r) a = R at *
  obtain ⟨O, hO⟩ : ∃ O, ownOf (p, q, r) a = O := ⟨_, rfl⟩
  rw [hO] at oa od or
  have xI : ∀ (w : World) who, 0 ≤ who → who ≤ p → ∃ N, N < R ∧ Calls Try.prog 16 #[.agg #[.int .i64 p, .int .i64 q, .int .i64 r], .int .i64 (deadOf (p, q, r) a), .int .i64 who] w fun e w' => e = .returned (.int .i64 N) ∧ Below w.heap.size w w' := fun w who h1 h2 => ⟨_, k7 who h1 h2, xx w who⟩
  clear k7 xx hO k5 k6
  generalize deadOf (p, q, r) a = D at *
  obtain ⟨AB, hAB⟩ : ∃ AB, decide (a < b) = AB := ⟨_, rfl⟩
  rw [hAB] at v1 v2
  simp only [Pl.cells, Pl.parts, Pl.window, Pl.delay] at n1 da db ra rb oa od or
  clear hg
  have N1 := Lib.hid n1; clear n1
  have Da := Lib.hid da; clear da
  have Db := Lib.hid db; clear db
  have Ra := Lib.hid ra; clear ra
  have Rb := Lib.hid rb; clear rb
  have Oa := Lib.hid oa; clear oa
  have Od := Lib.hid od; clear od
  have Or := Lib.hid or; clear or
  have XI := Lib.hid xI; clear xI
  go_enter Try.func5, Try.ntmps5
  go_wp2_with fail
  refine (alive_calls).mono ?_
  rintro e w1 ⟨rfl, bk⟩
  have hb := Hb.out.trans (bk.mono Hb.out.size)
  clear Hb bk
  have Hb := Lib.hid hb; clear hb
  go_wp2_with fail
  refine (N1.out _).mono ?_
  rintro e w2 ⟨rfl, bk⟩
  have hb := Hb.out.trans (bk.mono Hb.out.size)
  clear Hb bk
  have Hb := Lib.hid hb; clear hb
  have bk := (Below.refl w2.heap.size w2).alloc (Nat.le_refl _) (.cells #[.int .i64 p, .int .i64 q, .int .i64 r] 24)
  have zP := heap_alloc_new w2 (.cells #[.int .i64 p, .int .i64 q, .int .i64 r] 24)
  have hb := Hb.out.trans (bk.mono Hb.out.size)
  clear Hb bk
  have Hb := Lib.hid hb; clear hb
  have XP := Lib.hid zP; clear zP
  have yP0 := cells_at XP.out 0
  have yP1 := cells_at XP.out 1
  have yP2 := cells_at XP.out 2
  go_wp2_with fail
  clear yP0 yP1 yP2
  generalize w2.heap.size = g2 at *
  generalize w2.alloc (.cells #[.int .i64 p, .int .i64 q, .int .i64 r] 24) = w3 at *
  refine (Da.out _).mono ?_
  rintro e w4 ⟨rfl, bk⟩
  have xP := keepAt XP.out bk
  have hb := Hb.out.trans (bk.mono Hb.out.size)
  clear Hb bk
  clear XP
  have XP := Lib.hid xP; clear xP
  have Hb := Lib.hid hb; clear hb
  have yP0 := cells_at XP.out 0
  have yP1 := cells_at XP.out 1
  have yP2 := cells_at XP.out 2
  go_wp2_with fail
  refine (Ra.out _).mono ?_
  rintro e w5 ⟨rfl, bk⟩
  clear yP0 yP1 yP2
  have xP := keepAt XP.out bk
  have hb := Hb.out.trans (bk.mono Hb.out.size)
  clear Hb bk
  clear XP
  have XP := Lib.hid xP; clear xP
  have Hb := Lib.hid hb; clear hb
  clear e0 e1 e2 e3
  have f1 : decide (D ≤ a) = false := decide_eq_false (by omega)
  have f2 : decide (R ≤ D) = false := decide_eq_false (by omega)
  have f3 : decide (R - D < p + 1) = false := decide_eq_false (by omega)
  have f4 : (O != O) = false := by simp
  have f5 : IntKind.i64.wrap (R - D) = R - D := by rw [IntKind.wrap_i64]; omega
  go_wp2_with fail
  have zP0 := cell_regrown (cells_at XP.out 0)
  have zP1 := cell_regrown (cells_at XP.out 1)
  have zP2 := cell_regrown (cells_at XP.out 2)
  refine wp_region_quiet_below (by kernel_rfl) (by kernel_rfl) ?_
  repeat (any_goals (first | go_big_quiet_step ((first
        | (go_at_call 12; exact Calls.regrown_of (Od.out _))
        | (go_at_call 12; exact Calls.regrown_of (Oa.out _))
        | (go_at_call 12; exact Calls.regrown_of (Or.out _)))) | quiet_step ((first
        | (go_at_call 12; exact Calls.regrown_of (Od.out _))
        | (go_at_call 12; exact Calls.regrown_of (Oa.out _))
        | (go_at_call 12; exact Calls.regrown_of (Or.out _))))))
  refine wpQuiet_nil ?_
  intro wq hwq
  have bk : Below w5.heap.size w5 wq := by obtain ⟨q, rfl⟩ := hwq; exact below_regrown _ _ _
  clear hwq zP0 zP1 zP2
  have xP := keepAt XP.out bk
  have hb := Hb.out.trans (bk.mono Hb.out.size)
  clear Hb bk
  clear XP
  have XP := Lib.hid xP; clear xP
  have Hb := Lib.hid hb; clear hb
  clear f1 f2 f3 f4 f5
  go_wp2_with fail
  go_loopw [15] (fun u wr => ∃ i : Int, u = .int .i64 i ∧ 0 ≤ i ∧ i ≤ p + 1 ∧ Below w.heap.size w wr ∧ wr.heap[g2]? = some (.cells #[.int .i64 p, .int .i64 q, .int .i64 r] 24 (0, 0))) (fun u _ => (p + 1 - intOf u).toNat)
  case atStart => exact ⟨0, rfl, Int.le_refl _, by omega, Hb.out, XP.out⟩
  case round =>
    clear Hb XP
    obtain ⟨i, rfl, i1, i2, hb, xP⟩ := hrel
    obtain ⟨w6, rfl⟩ : ∃ w6, w6 = wr := ⟨_, rfl⟩
    have Hb := Lib.hid hb; clear hb
    have XP := Lib.hid xP; clear xP
    by_cases hi : i ≤ p
    · have j1 : decide (i ≤ p) = true := decide_eq_true hi
      obtain ⟨N, hN, xi⟩ := XI.out w6 i i1 hi
      have j2 : decide (R ≤ N) = false := decide_eq_false (by omega)
      have Xi := Lib.hid xi; clear xi
      have yP0 := cells_at XP.out 0
      have yP1 := cells_at XP.out 1
      have yP2 := cells_at XP.out 2
      go_wp2_with fail
      refine (Xi.out).mono ?_
      rintro e w7 ⟨rfl, bk⟩
      clear yP0 yP1 yP2
      have xP := keepAt XP.out bk
      have hb := Hb.out.trans (bk.mono Hb.out.size)
      clear Hb bk
      clear XP
      have XP := Lib.hid xP; clear xP
      have Hb := Lib.hid hb; clear hb
      go_wp2_with fail
      go_roundw
      case rel => exact ⟨i + 1, by go_num, by omega, by omega, Hb.out, XP.out⟩
      case measure => simp [intOf]; omega
    · obtain rfl : i = p + 1 := by omega
      have j1 : decide (p + 1 ≤ p) = false := decide_eq_false hi
      have q1 : (AB == AB) = true := by simp
      have yP0 := cells_at XP.out 0
      have yP1 := cells_at XP.out 1
      have yP2 := cells_at XP.out 2
      go_wp2_with fail
      refine (Db.out _).mono ?_
      rintro e w7 ⟨rfl, bk⟩
      clear yP0 yP1 yP2
      have xP := keepAt XP.out bk
      have hb := Hb.out.trans (bk.mono Hb.out.size)
      clear Hb bk
      clear XP
      have XP := Lib.hid xP; clear xP
      have Hb := Lib.hid hb; clear hb
      have yP0 := cells_at XP.out 0
      have yP1 := cells_at XP.out 1
      have yP2 := cells_at XP.out 2
      go_wp2_with fail
      refine (Rb.out _).mono ?_
      rintro e w8 ⟨rfl, bk⟩
      clear yP0 yP1 yP2
      have xP := keepAt XP.out bk
      have hb := Hb.out.trans (bk.mono Hb.out.size)
      clear Hb bk
      clear XP
      have XP := Lib.hid xP; clear xP
      have Hb := Lib.hid hb; clear hb
      go_wp2
      go_ret
      exact ⟨rfl, Hb.out⟩
end Go.Proofs.Ytfldohfopileeaa
