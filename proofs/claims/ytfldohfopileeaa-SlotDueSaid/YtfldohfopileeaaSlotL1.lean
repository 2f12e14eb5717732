/- The law SlotPlans. -/
import Derived.Test.YtfldohfopileeaaSlotA
namespace Go.Proofs.Ytfldohfopileeaa
open Go.RowKit

theorem keepAt {w w' : World} {g : Nat} {o : Obj} (h : w.heap[g]? = some o) (b : Below w.heap.size w w') : w'.heap[g]? = some o := (b.block _ (Array.getElem?_eq_some_iff.1 h).1).trans h
theorem fine_or (p : Pl) : (if p.good then p else (0, 0, 0)).fine := by
  by_cases h : p.good
  · rw [if_pos h]; exact h.fine
  · rw [if_neg h]; exact ⟨by decide, by decide, by decide, by decide, by decide, by decide⟩
set_option maxHeartbeats 8000000 in
set_option maxRecDepth 100000 in
theorem lawSlotPlans {w : World} {p1 p2 p3 t who : Int} (_h1 : (Lit.int .i64 p1).wf = true) (_h2 : (Lit.int .i64 p2).wf = true) (_h3 : (Lit.int .i64 p3).wf = true) (_h4 : (Lit.int .i64 t).wf = true) (_h5 : (Lit.int .i64 who).wf = true) : Calls Try.prog 3 #[.int .i64 p1, .int .i64 p2, .int .i64 p3, .int .i64 t, .int .i64 who] w fun e w' => e = .returned (.bool true) ∧ Below w.heap.size w w' := by
  clear _h1 _h2 _h3 _h4 _h5
  have n1 := fun w : World => slotNew_calls (w := w) (p1, p2, p3)
  have n2 := fun w : World => RslotNew_calls (w := w) (p1, p2, p3)
  have hf := fine_or (p1, p2, p3)
  generalize (if Pl.good (p1, p2, p3) then (0 : Int) else 11) = E at *
  generalize (if Pl.good (p1, p2, p3) then (p1, p2, p3) else (0, 0, 0)) = q at *
  have o1 := fun w : World => Owner_calls (w := w) q hf t
  have o2 := fun w : World => ROwner_calls (w := w) q hf t
  have d1 := fun w : World => Deadline_calls (w := w) q hf t
  have d2 := fun w : World => RDeadline_calls (w := w) q hf t
  have e1 := fun w : World => Release_calls (w := w) q hf t
  have e2 := fun w : World => RRelease_calls (w := w) q hf t
  have r1 := fun (w : World) hm => Round_calls (w := w) q hf t hm
  have r2 := fun (w : World) hm => RRound_calls (w := w) q hf t hm
  have x1 := fun (w : World) hm => Next_calls (w := w) q hf t who hm
  have x2 := fun (w : World) hm => RNext_calls (w := w) q hf t who hm
  generalize ownOf q t = O at *
  generalize rndOf q t = R at *
  generalize nextOf q t who = N at *
  generalize deadOf q t = D at *
  generalize releaseOf q t = S at *
  clear hf
  obtain ⟨q1, q2, q3⟩ := q
  simp only [Pl.cells, Pl.parts, Pl.window, Pl.delay] at n1 n2 o1 o2 d1 d2 e1 e2 r1 r2 x1 x2 ⊢
  have N1 := Lib.hid n1; clear n1
  have N2 := Lib.hid n2; clear n2
  have O1 := Lib.hid o1; clear o1
  have O2 := Lib.hid o2; clear o2
  have D1 := Lib.hid d1; clear d1
  have D2 := Lib.hid d2; clear d2
  have E1 := Lib.hid e1; clear e1
  have E2 := Lib.hid e2; clear e2
  have R1 := Lib.hid r1; clear r1
  have R2 := Lib.hid r2; clear r2
  have X1 := Lib.hid x1; clear x1
  have X2 := Lib.hid x2; clear x2
  have Hb := Lib.hid (Below.refl w.heap.size w)
  go_enter Try.func3, Try.ntmps3
  go_wp2_with fail
  refine (alive_calls).mono ?_
  rintro e w1 ⟨rfl, bk⟩
  have hb := Hb.out.trans (bk.mono Hb.out.size)
  clear Hb bk
  have Hb := Lib.hid hb; clear hb
  go_wp2_with fail
  refine (N1.out _).mono ?_
  rintro e w2 ⟨rfl, bk⟩
  have hb := Hb.out.trans (bk.mono Hb.out.size)
  clear Hb bk
  have Hb := Lib.hid hb; clear hb
  have bk := (Below.refl w2.heap.size w2).alloc (Nat.le_refl _) (.cells #[.int .i64 q1, .int .i64 q2, .int .i64 q3] 24)
  have zP := heap_alloc_new w2 (.cells #[.int .i64 q1, .int .i64 q2, .int .i64 q3] 24)
  have hb := Hb.out.trans (bk.mono Hb.out.size)
  clear Hb bk
  have Hb := Lib.hid hb; clear hb
  have XP := Lib.hid zP; clear zP
  go_wp2_with fail
  generalize w2.heap.size = g2 at *
  generalize w2.alloc (.cells #[.int .i64 q1, .int .i64 q2, .int .i64 q3] 24) = w3 at *
  refine (N2.out _).mono ?_
  rintro e w4 ⟨rfl, bk⟩
  have xP := keepAt XP.out bk
  have hb := Hb.out.trans (bk.mono Hb.out.size)
  clear Hb bk
  clear XP
  have XP := Lib.hid xP; clear xP
  have Hb := Lib.hid hb; clear hb
  have bk := (Below.refl w4.heap.size w4).alloc (Nat.le_refl _) (.cells #[.int .i64 q1, .int .i64 q2, .int .i64 q3] 28)
  have zQ := heap_alloc_new w4 (.cells #[.int .i64 q1, .int .i64 q2, .int .i64 q3] 28)
  have xP := keepAt XP.out bk
  have hb := Hb.out.trans (bk.mono Hb.out.size)
  clear Hb bk
  clear XP
  have XP := Lib.hid xP; clear xP
  have Hb := Lib.hid hb; clear hb
  have XQ := Lib.hid zQ; clear zQ
  by_cases ht : 1152921504606846976 < t
  · have dt : decide (1152921504606846976 < t) = true := decide_eq_true ht
    clear ht
    have yP0 := cells_at XP.out 0
    have yP1 := cells_at XP.out 1
    have yP2 := cells_at XP.out 2
    have yQ0 := cells_at XQ.out 0
    have yQ1 := cells_at XQ.out 1
    have yQ2 := cells_at XQ.out 2
    go_wp2
    go_ret
    exact ⟨rfl, Hb.out⟩
  · have hm : t ≤ 1152921504606846976 := Int.not_lt.1 ht
    have dt : decide (1152921504606846976 < t) = false := decide_eq_false ht
    clear ht
    have yP0 := cells_at XP.out 0
    have yP1 := cells_at XP.out 1
    have yP2 := cells_at XP.out 2
    have yQ0 := cells_at XQ.out 0
    have yQ1 := cells_at XQ.out 1
    have yQ2 := cells_at XQ.out 2
    go_wp2_with fail
    clear yP0 yP1 yP2 yQ0 yQ1 yQ2
    clear dt
    generalize w4.heap.size = g4 at *
    generalize w4.alloc (.cells #[.int .i64 q1, .int .i64 q2, .int .i64 q3] 28) = w5 at *
    have hm1 : t ≤ 9223372036854775807 := by omega
    have hm2 : t ≤ 4611686018427387904 := by omega
    clear hm
    have r1 := fun w : World => R1.out w hm1
    clear R1
    have R1 := Lib.hid r1; clear r1
    have r2 := fun w : World => R2.out w hm1
    clear R2
    have R2 := Lib.hid r2; clear r2
    have x1 := fun w : World => X1.out w hm2
    clear X1
    have X1 := Lib.hid x1; clear x1
    have x2 := fun w : World => X2.out w hm2
    clear X2
    have X2 := Lib.hid x2; clear x2
    clear hm1 hm2 N1 N2
    have zP0 := cell_regrown (cells_at XP.out 0)
    have zP1 := cell_regrown (cells_at XP.out 1)
    have zP2 := cell_regrown (cells_at XP.out 2)
    have zQ0 := cell_regrown (cells_at XQ.out 0)
    have zQ1 := cell_regrown (cells_at XQ.out 1)
    have zQ2 := cell_regrown (cells_at XQ.out 2)
    refine wp_region_quiet_below (by kernel_rfl) (by kernel_rfl) ?_
    repeat (any_goals (first | go_big_quiet_step ((first
          | (go_at_call 12; exact Calls.regrown_of (O1.out _))
          | (go_at_call 13; exact Calls.regrown_of (O2.out _))
          | (go_at_call 14; exact Calls.regrown_of (R1.out _))
          | (go_at_call 15; exact Calls.regrown_of (R2.out _))
          | (go_at_call 16; exact Calls.regrown_of (X1.out _))
          | (go_at_call 17; exact Calls.regrown_of (X2.out _))
          | (go_at_call 18; exact Calls.regrown_of (D1.out _))
          | (go_at_call 19; exact Calls.regrown_of (D2.out _))
          | (go_at_call 20; exact Calls.regrown_of (E1.out _))
          | (go_at_call 21; exact Calls.regrown_of (E2.out _)))) | quiet_step ((first
          | (go_at_call 12; exact Calls.regrown_of (O1.out _))
          | (go_at_call 13; exact Calls.regrown_of (O2.out _))
          | (go_at_call 14; exact Calls.regrown_of (R1.out _))
          | (go_at_call 15; exact Calls.regrown_of (R2.out _))
          | (go_at_call 16; exact Calls.regrown_of (X1.out _))
          | (go_at_call 17; exact Calls.regrown_of (X2.out _))
          | (go_at_call 18; exact Calls.regrown_of (D1.out _))
          | (go_at_call 19; exact Calls.regrown_of (D2.out _))
          | (go_at_call 20; exact Calls.regrown_of (E1.out _))
          | (go_at_call 21; exact Calls.regrown_of (E2.out _))))))
    refine wpQuiet_nil ?_
    intro wq hwq
    have bk : Below w5.heap.size w5 wq := by obtain ⟨q, rfl⟩ := hwq; exact below_regrown _ _ _
    clear hwq zP0 zP1 zP2 zQ0 zQ1 zQ2
    have xP := keepAt XP.out bk
    have xQ := keepAt XQ.out bk
    have hb := Hb.out.trans (bk.mono Hb.out.size)
    clear Hb bk
    clear XP
    have XP := Lib.hid xP; clear xP
    clear XQ
    have XQ := Lib.hid xQ; clear xQ
    have Hb := Lib.hid hb; clear hb
    go_wp2
    go_ret
    exact ⟨rfl, Hb.out⟩
end Go.Proofs.Ytfldohfopileeaa
