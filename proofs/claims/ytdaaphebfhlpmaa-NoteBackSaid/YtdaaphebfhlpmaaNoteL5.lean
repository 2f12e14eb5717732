/- The law NoteOrder. -/
import Derived.Test.YtdaaphebfhlpmaaNoteA
namespace Go.Proofs.Ytdaaphebfhlpmaa
open Go.RowKit

theorem noteC_yes {a b : Msg} (ha : rightOf a = true) (hb : rightOf b = true) : noteC a b = if wordN a < wordN b then -1 else if wordN b < wordN a then 1 else 0 := if_pos ⟨ha, hb⟩
theorem order_ways {a b : Msg} (ha : rightOf a = true) (hb : rightOf b = true) : (noteC a b = -1 ∧ noteC b a = 1 ∧ decide (a = b) = false) ∨ (noteC a b = 0 ∧ noteC b a = 0 ∧ decide (a = b) = true) ∨ (noteC a b = 1 ∧ noteC b a = -1 ∧ decide (a = b) = false) := by
  have hi := word_inj ha hb
  rw [noteC_yes ha hb, noteC_yes hb ha]
  by_cases h1 : wordN a < wordN b
  · exact .inl ⟨if_pos h1, by rw [if_neg (Nat.lt_asymm h1), if_pos h1], decide_eq_false fun e => Nat.ne_of_lt h1 (hi.2 e)⟩
  · by_cases h2 : wordN b < wordN a
    · exact .inr (.inr ⟨by rw [if_neg h1, if_pos h2], if_pos h2, decide_eq_false fun e => Nat.ne_of_gt h2 (hi.2 e)⟩)
    · exact .inr (.inl ⟨by rw [if_neg h1, if_neg h2], by rw [if_neg h2, if_neg h1], decide_eq_true (hi.1 (by omega))⟩)
theorem order_trans {a b c : Msg} (ha : rightOf a = true) (hb : rightOf b = true) (hc : rightOf c = true) (h1 : noteC a b ≤ 0) (h2 : noteC b c ≤ 0) : noteC a c ≤ 0 := by
  rw [noteC_yes ha hb] at h1
  rw [noteC_yes hb hc] at h2
  rw [noteC_yes ha hc]
  generalize wordN a = A at *
  generalize wordN b = B at *
  generalize wordN c = C at *
  clear ha hb hc
  have k1 : ¬ B < A := fun h => by rw [if_neg (Nat.lt_asymm h), if_pos h] at h1; exact absurd h1 (by decide)
  have k2 : ¬ C < B := fun h => by rw [if_neg (Nat.lt_asymm h), if_pos h] at h2; exact absurd h2 (by decide)
  clear h1 h2
  have k3 : ¬ C < A := by omega
  by_cases h : A < C
  · rw [if_pos h]; decide
  · rw [if_neg h, if_neg k3]; decide
theorem order_no {a b : Msg} (h : ¬ (rightOf a = true ∧ rightOf b = true)) : noteC a b = 0 := by unfold noteC; rw [if_neg h]
set_option maxHeartbeats 4000000 in
theorem lawNoteOrder {w : World} {a b c : Msg} (_ha : a.ok) (_hb : b.ok) (_hc : c.ok) : Calls Try.prog 7 #[.agg a.cells.toArray, .agg b.cells.toArray, .agg c.cells.toArray] w fun e w' => e = .returned (.bool true) ∧ Below w.heap.size w w' := by
  clear _ha _hb _hc
  have ra := fun w : World => Right_calls (w := w) a
  have rb := fun w : World => Right_calls (w := w) b
  have rc := fun w : World => Right_calls (w := w) c
  have oab := fun w : World => Order_calls (w := w) a b
  have oba := fun w : World => Order_calls (w := w) b a
  have obc := fun w : World => Order_calls (w := w) b c
  have oac := fun w : World => Order_calls (w := w) a c
  have hq := fun w => msg_eql w a b
  have hg := fun x y w => msg_guard .eql x y a b w
  have ds : (rightOf a = false ∧ noteC a b = 0) ∨ (rightOf a = true ∧ rightOf b = false ∧ noteC a b = 0) ∨ (rightOf a = true ∧ rightOf b = true ∧ rightOf c = false ∧ ((noteC a b = -1 ∧ noteC b a = 1 ∧ decide (a = b) = false) ∨ (noteC a b = 0 ∧ noteC b a = 0 ∧ decide (a = b) = true) ∨ (noteC a b = 1 ∧ noteC b a = -1 ∧ decide (a = b) = false))) ∨
      (rightOf a = true ∧ rightOf b = true ∧ rightOf c = true ∧ ((noteC a b = -1 ∧ noteC b a = 1 ∧ decide (a = b) = false ∧ (decide (noteC b c ≤ 0) = false ∨ decide (noteC b c ≤ 0) = true ∧ decide (noteC a c ≤ 0) = true)) ∨
        (noteC a b = 0 ∧ noteC b a = 0 ∧ decide (a = b) = true ∧ (decide (noteC b c ≤ 0) = false ∨ decide (noteC b c ≤ 0) = true ∧ decide (noteC a c ≤ 0) = true)) ∨ (noteC a b = 1 ∧ noteC b a = -1 ∧ decide (a = b) = false))) := by
    cases ha : rightOf a
    · exact .inl ⟨rfl, order_no fun h => by rw [ha] at h; exact absurd h.1 (by decide)⟩
    cases hb : rightOf b
    · exact .inr (.inl ⟨rfl, rfl, order_no fun h => by rw [hb] at h; exact absurd h.2 (by decide)⟩)
    have hw := order_ways ha hb
    cases hc : rightOf c
    · exact .inr (.inr (.inl ⟨rfl, rfl, rfl, hw⟩))
    refine .inr (.inr (.inr ⟨rfl, rfl, rfl, ?_⟩))
    have hz : noteC a b ≤ 0 → decide (noteC b c ≤ 0) = false ∨ decide (noteC b c ≤ 0) = true ∧ decide (noteC a c ≤ 0) = true := fun h1 => by
      by_cases h2 : noteC b c ≤ 0
      · exact .inr ⟨decide_eq_true h2, decide_eq_true (order_trans ha hb hc h1 h2)⟩
      · exact .inl (decide_eq_false h2)
    rcases hw with ⟨h1, h2, h3⟩ | ⟨h1, h2, h3⟩ | h
    · exact .inl ⟨h1, h2, h3, hz (by omega)⟩
    · exact .inr (.inl ⟨h1, h2, h3, hz (by omega)⟩)
    · exact .inr (.inr h)
  generalize rightOf a = RA at *
  generalize rightOf b = RB at *
  generalize rightOf c = RC at *
  generalize noteC a b = AB at *
  generalize noteC b a = BA at *
  generalize noteC b c = BC at *
  generalize noteC a c = AC at *
  generalize decide (a = b) = D at *
  obtain ⟨a1, a2, a3, a4⟩ := a
  obtain ⟨b1, b2, b3, b4⟩ := b
  obtain ⟨c1, c2, c3, c4⟩ := c
  simp only [Msg.cells, Msg.kind, Msg.part, Msg.tx, Msg.what] at ra rb rc oab oba obc oac hq hg ⊢
  have Ra := Lib.hid ra; clear ra
  have Rb := Lib.hid rb; clear rb
  have Rc := Lib.hid rc; clear rc
  have Oab := Lib.hid oab; clear oab
  have Oba := Lib.hid oba; clear oba
  have Obc := Lib.hid obc; clear obc
  have Oac := Lib.hid oac; clear oac
  have Hq := Lib.hid hq; clear hq
  have Hg := Lib.hid hg; clear hg
  have Hb := Lib.hid (Below.refl w.heap.size w)
  obtain ⟨o0, hb0⟩ : ∃ x, x = w.alloc (.cells #[.int .i64 a1, .int .i64 a2, .int .i64 a3, .int .i64 a4] 23) := ⟨_, rfl⟩
  have bk : Below w.heap.size w o0 := by rw [hb0]; exact (Below.refl _ _).alloc (Nat.le_refl _) _
  have s0 : o0.heap.size = w.heap.size + 1 := by rw [hb0, World.size_alloc]
  have zA : o0.heap[w.heap.size]? = some (.cells #[.int .i64 a1, .int .i64 a2, .int .i64 a3, .int .i64 a4] 23 (0, 0)) := by
    have := heap_alloc_new w (.cells #[.int .i64 a1, .int .i64 a2, .int .i64 a3, .int .i64 a4] 23)
    rw [← hb0] at this
    exact this
  have hb := Hb.out.trans (bk.mono Hb.out.size)
  clear Hb bk
  have Hb := Lib.hid hb; clear hb
  have XA := Lib.hid zA; clear zA
  obtain ⟨o1, hb1⟩ : ∃ x, x = o0.alloc (.cells #[.int .i64 b1, .int .i64 b2, .int .i64 b3, .int .i64 b4] 23) := ⟨_, rfl⟩
  have bk : Below o0.heap.size o0 o1 := by rw [hb1]; exact (Below.refl _ _).alloc (Nat.le_refl _) _
  have s1 : o1.heap.size = w.heap.size + 2 := by rw [hb1, World.size_alloc]; omega
  have zB : o1.heap[w.heap.size + 1]? = some (.cells #[.int .i64 b1, .int .i64 b2, .int .i64 b3, .int .i64 b4] 23 (0, 0)) := by
    have := heap_alloc_new o0 (.cells #[.int .i64 b1, .int .i64 b2, .int .i64 b3, .int .i64 b4] 23)
    rw [← hb1, s0] at this
    exact this
  have xA := keepAt XA.out bk
  have hb := Hb.out.trans (bk.mono Hb.out.size)
  clear Hb bk
  clear XA
  have XA := Lib.hid xA; clear xA
  have Hb := Lib.hid hb; clear hb
  have XB := Lib.hid zB; clear zB
  obtain ⟨o2, hb2⟩ : ∃ x, x = o1.alloc (.cells #[.int .i64 c1, .int .i64 c2, .int .i64 c3, .int .i64 c4] 23) := ⟨_, rfl⟩
  have bk : Below o1.heap.size o1 o2 := by rw [hb2]; exact (Below.refl _ _).alloc (Nat.le_refl _) _
  have s2 : o2.heap.size = w.heap.size + 3 := by rw [hb2, World.size_alloc]; omega
  have zC : o2.heap[w.heap.size + 2]? = some (.cells #[.int .i64 c1, .int .i64 c2, .int .i64 c3, .int .i64 c4] 23 (0, 0)) := by
    have := heap_alloc_new o1 (.cells #[.int .i64 c1, .int .i64 c2, .int .i64 c3, .int .i64 c4] 23)
    rw [← hb2, s1] at this
    exact this
  have xA := keepAt XA.out bk
  have xB := keepAt XB.out bk
  have hb := Hb.out.trans (bk.mono Hb.out.size)
  clear Hb bk
  clear XA
  have XA := Lib.hid xA; clear xA
  clear XB
  have XB := Lib.hid xB; clear xB
  have Hb := Lib.hid hb; clear hb
  have XC := Lib.hid zC; clear zC
  clear s0 s1 s2
  rcases ds with ⟨rfl, rfl⟩ | ⟨rfl, rfl, rfl⟩ | ⟨rfl, rfl, rfl, ⟨rfl, rfl, rfl⟩ | ⟨rfl, rfl, rfl⟩ | ⟨rfl, rfl, rfl⟩⟩ | ⟨rfl, rfl, rfl, ⟨rfl, rfl, rfl, d1 | ⟨d1, d2⟩⟩ | ⟨rfl, rfl, rfl, d1 | ⟨d1, d2⟩⟩ | ⟨rfl, rfl, rfl⟩⟩
  · go_enter Try.func7, Try.ntmps7
    go_wp2_with fail
    rw [← hb0, ← hb1, ← hb2]
    clear hb0 hb1 hb2
    refine (alive_calls).mono ?_
    rintro e w1 ⟨rfl, bk⟩
    have xA := keepAt XA.out bk
    have xB := keepAt XB.out bk
    have xC := keepAt XC.out bk
    have hb := Hb.out.trans (bk.mono Hb.out.size)
    clear Hb bk
    clear XA
    have XA := Lib.hid xA; clear xA
    clear XB
    have XB := Lib.hid xB; clear xB
    clear XC
    have XC := Lib.hid xC; clear xC
    have Hb := Lib.hid hb; clear hb
    have yA0 := cells_at XA.out 0
    have yA1 := cells_at XA.out 1
    have yA2 := cells_at XA.out 2
    have yA3 := cells_at XA.out 3
    go_wp2_with fail
    refine (Ra.out _).mono ?_
    rintro e w2 ⟨rfl, bk⟩
    clear yA0 yA1 yA2 yA3
    have xA := keepAt XA.out bk
    have xB := keepAt XB.out bk
    have xC := keepAt XC.out bk
    have hb := Hb.out.trans (bk.mono Hb.out.size)
    clear Hb bk
    clear XA
    have XA := Lib.hid xA; clear xA
    clear XB
    have XB := Lib.hid xB; clear xB
    clear XC
    have XC := Lib.hid xC; clear xC
    have Hb := Lib.hid hb; clear hb
    have yA0 := cells_at XA.out 0
    have yA1 := cells_at XA.out 1
    have yA2 := cells_at XA.out 2
    have yA3 := cells_at XA.out 3
    have yB0 := cells_at XB.out 0
    have yB1 := cells_at XB.out 1
    have yB2 := cells_at XB.out 2
    have yB3 := cells_at XB.out 3
    go_wp2_with fail
    refine (Oab.out _).mono ?_
    rintro e w3 ⟨rfl, bk⟩
    clear yA0 yA1 yA2 yA3 yB0 yB1 yB2 yB3
    have xA := keepAt XA.out bk
    have xB := keepAt XB.out bk
    have xC := keepAt XC.out bk
    have hb := Hb.out.trans (bk.mono Hb.out.size)
    clear Hb bk
    clear XA
    have XA := Lib.hid xA; clear xA
    clear XB
    have XB := Lib.hid xB; clear xB
    clear XC
    have XC := Lib.hid xC; clear xC
    have Hb := Lib.hid hb; clear hb
    go_wp2
    go_ret
    exact ⟨rfl, Hb.out⟩
  · go_enter Try.func7, Try.ntmps7
    go_wp2_with fail
    rw [← hb0, ← hb1, ← hb2]
    clear hb0 hb1 hb2
    refine (alive_calls).mono ?_
    rintro e w1 ⟨rfl, bk⟩
    have xA := keepAt XA.out bk
    have xB := keepAt XB.out bk
    have xC := keepAt XC.out bk
    have hb := Hb.out.trans (bk.mono Hb.out.size)
    clear Hb bk
    clear XA
    have XA := Lib.hid xA; clear xA
    clear XB
    have XB := Lib.hid xB; clear xB
    clear XC
    have XC := Lib.hid xC; clear xC
    have Hb := Lib.hid hb; clear hb
    have yA0 := cells_at XA.out 0
    have yA1 := cells_at XA.out 1
    have yA2 := cells_at XA.out 2
    have yA3 := cells_at XA.out 3
    go_wp2_with fail
    refine (Ra.out _).mono ?_
    rintro e w2 ⟨rfl, bk⟩
    clear yA0 yA1 yA2 yA3
    have xA := keepAt XA.out bk
    have xB := keepAt XB.out bk
    have xC := keepAt XC.out bk
    have hb := Hb.out.trans (bk.mono Hb.out.size)
    clear Hb bk
    clear XA
    have XA := Lib.hid xA; clear xA
    clear XB
    have XB := Lib.hid xB; clear xB
    clear XC
    have XC := Lib.hid xC; clear xC
    have Hb := Lib.hid hb; clear hb
    have yB0 := cells_at XB.out 0
    have yB1 := cells_at XB.out 1
    have yB2 := cells_at XB.out 2
    have yB3 := cells_at XB.out 3
    go_wp2_with fail
    refine (Rb.out _).mono ?_
    rintro e w3 ⟨rfl, bk⟩
    clear yB0 yB1 yB2 yB3
    have xA := keepAt XA.out bk
    have xB := keepAt XB.out bk
    have xC := keepAt XC.out bk
    have hb := Hb.out.trans (bk.mono Hb.out.size)
    clear Hb bk
    clear XA
    have XA := Lib.hid xA; clear xA
    clear XB
    have XB := Lib.hid xB; clear xB
    clear XC
    have XC := Lib.hid xC; clear xC
    have Hb := Lib.hid hb; clear hb
    have yA0 := cells_at XA.out 0
    have yA1 := cells_at XA.out 1
    have yA2 := cells_at XA.out 2
    have yA3 := cells_at XA.out 3
    have yB0 := cells_at XB.out 0
    have yB1 := cells_at XB.out 1
    have yB2 := cells_at XB.out 2
    have yB3 := cells_at XB.out 3
    go_wp2_with fail
    refine (Oab.out _).mono ?_
    rintro e w4 ⟨rfl, bk⟩
    clear yA0 yA1 yA2 yA3 yB0 yB1 yB2 yB3
    have xA := keepAt XA.out bk
    have xB := keepAt XB.out bk
    have xC := keepAt XC.out bk
    have hb := Hb.out.trans (bk.mono Hb.out.size)
    clear Hb bk
    clear XA
    have XA := Lib.hid xA; clear xA
    clear XB
    have XB := Lib.hid xB; clear xB
    clear XC
    have XC := Lib.hid xC; clear xC
    have Hb := Lib.hid hb; clear hb
    go_wp2
    go_ret
    exact ⟨rfl, Hb.out⟩
  · go_enter Try.func7, Try.ntmps7
    go_wp2_with fail
    rw [← hb0, ← hb1, ← hb2]
    clear hb0 hb1 hb2
    refine (alive_calls).mono ?_
    rintro e w1 ⟨rfl, bk⟩
    have xA := keepAt XA.out bk
    have xB := keepAt XB.out bk
    have xC := keepAt XC.out bk
    have hb := Hb.out.trans (bk.mono Hb.out.size)
    clear Hb bk
    clear XA
    have XA := Lib.hid xA; clear xA
    clear XB
    have XB := Lib.hid xB; clear xB
    clear XC
    have XC := Lib.hid xC; clear xC
    have Hb := Lib.hid hb; clear hb
    have yA0 := cells_at XA.out 0
    have yA1 := cells_at XA.out 1
    have yA2 := cells_at XA.out 2
    have yA3 := cells_at XA.out 3
    go_wp2_with fail
    refine (Ra.out _).mono ?_
    rintro e w2 ⟨rfl, bk⟩
    clear yA0 yA1 yA2 yA3
    have xA := keepAt XA.out bk
    have xB := keepAt XB.out bk
    have xC := keepAt XC.out bk
    have hb := Hb.out.trans (bk.mono Hb.out.size)
    clear Hb bk
    clear XA
    have XA := Lib.hid xA; clear xA
    clear XB
    have XB := Lib.hid xB; clear xB
    clear XC
    have XC := Lib.hid xC; clear xC
    have Hb := Lib.hid hb; clear hb
    have yB0 := cells_at XB.out 0
    have yB1 := cells_at XB.out 1
    have yB2 := cells_at XB.out 2
    have yB3 := cells_at XB.out 3
    go_wp2_with fail
    refine (Rb.out _).mono ?_
    rintro e w3 ⟨rfl, bk⟩
    clear yB0 yB1 yB2 yB3
    have xA := keepAt XA.out bk
    have xB := keepAt XB.out bk
    have xC := keepAt XC.out bk
    have hb := Hb.out.trans (bk.mono Hb.out.size)
    clear Hb bk
    clear XA
    have XA := Lib.hid xA; clear xA
    clear XB
    have XB := Lib.hid xB; clear xB
    clear XC
    have XC := Lib.hid xC; clear xC
    have Hb := Lib.hid hb; clear hb
    have yA0 := cells_at XA.out 0
    have yA1 := cells_at XA.out 1
    have yA2 := cells_at XA.out 2
    have yA3 := cells_at XA.out 3
    have yB0 := cells_at XB.out 0
    have yB1 := cells_at XB.out 1
    have yB2 := cells_at XB.out 2
    have yB3 := cells_at XB.out 3
    go_wp2_with fail
    refine (Oab.out _).mono ?_
    rintro e w4 ⟨rfl, bk⟩
    clear yA0 yA1 yA2 yA3 yB0 yB1 yB2 yB3
    have xA := keepAt XA.out bk
    have xB := keepAt XB.out bk
    have xC := keepAt XC.out bk
    have hb := Hb.out.trans (bk.mono Hb.out.size)
    clear Hb bk
    clear XA
    have XA := Lib.hid xA; clear xA
    clear XB
    have XB := Lib.hid xB; clear xB
    clear XC
    have XC := Lib.hid xC; clear xC
    have Hb := Lib.hid hb; clear hb
    have yB0 := cells_at XB.out 0
    have yB1 := cells_at XB.out 1
    have yB2 := cells_at XB.out 2
    have yB3 := cells_at XB.out 3
    have yA0 := cells_at XA.out 0
    have yA1 := cells_at XA.out 1
    have yA2 := cells_at XA.out 2
    have yA3 := cells_at XA.out 3
    go_wp2_with fail
    refine (Oba.out _).mono ?_
    rintro e w5 ⟨rfl, bk⟩
    clear yB0 yB1 yB2 yB3 yA0 yA1 yA2 yA3
    have xA := keepAt XA.out bk
    have xB := keepAt XB.out bk
    have xC := keepAt XC.out bk
    have hb := Hb.out.trans (bk.mono Hb.out.size)
    clear Hb bk
    clear XA
    have XA := Lib.hid xA; clear xA
    clear XB
    have XB := Lib.hid xB; clear xB
    clear XC
    have XC := Lib.hid xC; clear xC
    have Hb := Lib.hid hb; clear hb
    have hq := Hq.out
    have hg := Hg.out
    have yA0 := cells_at XA.out 0
    have yA1 := cells_at XA.out 1
    have yA2 := cells_at XA.out 2
    have yA3 := cells_at XA.out 3
    have yB0 := cells_at XB.out 0
    have yB1 := cells_at XB.out 1
    have yB2 := cells_at XB.out 2
    have yB3 := cells_at XB.out 3
    have yC0 := cells_at XC.out 0
    have yC1 := cells_at XC.out 1
    have yC2 := cells_at XC.out 2
    have yC3 := cells_at XC.out 3
    go_wp2_with fail
    clear hq hg
    clear yA0 yA1 yA2 yA3 yB0 yB1 yB2 yB3 yC0 yC1 yC2 yC3
    refine (Rc.out _).mono ?_
    rintro e w6 ⟨rfl, bk⟩
    have xA := keepAt XA.out bk
    have xB := keepAt XB.out bk
    have xC := keepAt XC.out bk
    have hb := Hb.out.trans (bk.mono Hb.out.size)
    clear Hb bk
    clear XA
    have XA := Lib.hid xA; clear xA
    clear XB
    have XB := Lib.hid xB; clear xB
    clear XC
    have XC := Lib.hid xC; clear xC
    have Hb := Lib.hid hb; clear hb
    go_wp2
    go_ret
    exact ⟨rfl, Hb.out⟩
  · go_enter Try.func7, Try.ntmps7
    go_wp2_with fail
    rw [← hb0, ← hb1, ← hb2]
    clear hb0 hb1 hb2
    refine (alive_calls).mono ?_
    rintro e w1 ⟨rfl, bk⟩
    have xA := keepAt XA.out bk
    have xB := keepAt XB.out bk
    have xC := keepAt XC.out bk
    have hb := Hb.out.trans (bk.mono Hb.out.size)
    clear Hb bk
    clear XA
    have XA := Lib.hid xA; clear xA
    clear XB
    have XB := Lib.hid xB; clear xB
    clear XC
    have XC := Lib.hid xC; clear xC
    have Hb := Lib.hid hb; clear hb
    have yA0 := cells_at XA.out 0
    have yA1 := cells_at XA.out 1
    have yA2 := cells_at XA.out 2
    have yA3 := cells_at XA.out 3
    go_wp2_with fail
    refine (Ra.out _).mono ?_
    rintro e w2 ⟨rfl, bk⟩
    clear yA0 yA1 yA2 yA3
    have xA := keepAt XA.out bk
    have xB := keepAt XB.out bk
    have xC := keepAt XC.out bk
    have hb := Hb.out.trans (bk.mono Hb.out.size)
    clear Hb bk
    clear XA
    have XA := Lib.hid xA; clear xA
    clear XB
    have XB := Lib.hid xB; clear xB
    clear XC
    have XC := Lib.hid xC; clear xC
    have Hb := Lib.hid hb; clear hb
    have yB0 := cells_at XB.out 0
    have yB1 := cells_at XB.out 1
    have yB2 := cells_at XB.out 2
    have yB3 := cells_at XB.out 3
    go_wp2_with fail
    refine (Rb.out _).mono ?_
    rintro e w3 ⟨rfl, bk⟩
    clear yB0 yB1 yB2 yB3
    have xA := keepAt XA.out bk
    have xB := keepAt XB.out bk
    have xC := keepAt XC.out bk
    have hb := Hb.out.trans (bk.mono Hb.out.size)
    clear Hb bk
    clear XA
    have XA := Lib.hid xA; clear xA
    clear XB
    have XB := Lib.hid xB; clear xB
    clear XC
    have XC := Lib.hid xC; clear xC
    have Hb := Lib.hid hb; clear hb
    have yA0 := cells_at XA.out 0
    have yA1 := cells_at XA.out 1
    have yA2 := cells_at XA.out 2
    have yA3 := cells_at XA.out 3
    have yB0 := cells_at XB.out 0
    have yB1 := cells_at XB.out 1
    have yB2 := cells_at XB.out 2
    have yB3 := cells_at XB.out 3
    go_wp2_with fail
    refine (Oab.out _).mono ?_
    rintro e w4 ⟨rfl, bk⟩
    clear yA0 yA1 yA2 yA3 yB0 yB1 yB2 yB3
    have xA := keepAt XA.out bk
    have xB := keepAt XB.out bk
    have xC := keepAt XC.out bk
    have hb := Hb.out.trans (bk.mono Hb.out.size)
    clear Hb bk
    clear XA
    have XA := Lib.hid xA; clear xA
    clear XB
    have XB := Lib.hid xB; clear xB
    clear XC
    have XC := Lib.hid xC; clear xC
    have Hb := Lib.hid hb; clear hb
    have yB0 := cells_at XB.out 0
    have yB1 := cells_at XB.out 1
    have yB2 := cells_at XB.out 2
    have yB3 := cells_at XB.out 3
    have yA0 := cells_at XA.out 0
    have yA1 := cells_at XA.out 1
    have yA2 := cells_at XA.out 2
    have yA3 := cells_at XA.out 3
    go_wp2_with fail
    refine (Oba.out _).mono ?_
    rintro e w5 ⟨rfl, bk⟩
    clear yB0 yB1 yB2 yB3 yA0 yA1 yA2 yA3
    have xA := keepAt XA.out bk
    have xB := keepAt XB.out bk
    have xC := keepAt XC.out bk
    have hb := Hb.out.trans (bk.mono Hb.out.size)
    clear Hb bk
    clear XA
    have XA := Lib.hid xA; clear xA
    clear XB
    have XB := Lib.hid xB; clear xB
    clear XC
    have XC := Lib.hid xC; clear xC
    have Hb := Lib.hid hb; clear hb
    have hq := Hq.out
    have hg := Hg.out
    have yA0 := cells_at XA.out 0
    have yA1 := cells_at XA.out 1
    have yA2 := cells_at XA.out 2
    have yA3 := cells_at XA.out 3
    have yB0 := cells_at XB.out 0
    have yB1 := cells_at XB.out 1
    have yB2 := cells_at XB.out 2
    have yB3 := cells_at XB.out 3
    have yC0 := cells_at XC.out 0
    have yC1 := cells_at XC.out 1
    have yC2 := cells_at XC.out 2
    have yC3 := cells_at XC.out 3
    go_wp2_with fail
    clear hq hg
    clear yA0 yA1 yA2 yA3 yB0 yB1 yB2 yB3 yC0 yC1 yC2 yC3
    refine (Rc.out _).mono ?_
    rintro e w6 ⟨rfl, bk⟩
    have xA := keepAt XA.out bk
    have xB := keepAt XB.out bk
    have xC := keepAt XC.out bk
    have hb := Hb.out.trans (bk.mono Hb.out.size)
    clear Hb bk
    clear XA
    have XA := Lib.hid xA; clear xA
    clear XB
    have XB := Lib.hid xB; clear xB
    clear XC
    have XC := Lib.hid xC; clear xC
    have Hb := Lib.hid hb; clear hb
    go_wp2
    go_ret
    exact ⟨rfl, Hb.out⟩
  · go_enter Try.func7, Try.ntmps7
    go_wp2_with fail
    rw [← hb0, ← hb1, ← hb2]
    clear hb0 hb1 hb2
    refine (alive_calls).mono ?_
    rintro e w1 ⟨rfl, bk⟩
    have xA := keepAt XA.out bk
    have xB := keepAt XB.out bk
    have xC := keepAt XC.out bk
    have hb := Hb.out.trans (bk.mono Hb.out.size)
    clear Hb bk
    clear XA
    have XA := Lib.hid xA; clear xA
    clear XB
    have XB := Lib.hid xB; clear xB
    clear XC
    have XC := Lib.hid xC; clear xC
    have Hb := Lib.hid hb; clear hb
    have yA0 := cells_at XA.out 0
    have yA1 := cells_at XA.out 1
    have yA2 := cells_at XA.out 2
    have yA3 := cells_at XA.out 3
    go_wp2_with fail
    refine (Ra.out _).mono ?_
    rintro e w2 ⟨rfl, bk⟩
    clear yA0 yA1 yA2 yA3
    have xA := keepAt XA.out bk
    have xB := keepAt XB.out bk
    have xC := keepAt XC.out bk
    have hb := Hb.out.trans (bk.mono Hb.out.size)
    clear Hb bk
    clear XA
    have XA := Lib.hid xA; clear xA
    clear XB
    have XB := Lib.hid xB; clear xB
    clear XC
    have XC := Lib.hid xC; clear xC
    have Hb := Lib.hid hb; clear hb
    have yB0 := cells_at XB.out 0
    have yB1 := cells_at XB.out 1
    have yB2 := cells_at XB.out 2
    have yB3 := cells_at XB.out 3
    go_wp2_with fail
    refine (Rb.out _).mono ?_
    rintro e w3 ⟨rfl, bk⟩
    clear yB0 yB1 yB2 yB3
    have xA := keepAt XA.out bk
    have xB := keepAt XB.out bk
    have xC := keepAt XC.out bk
    have hb := Hb.out.trans (bk.mono Hb.out.size)
    clear Hb bk
    clear XA
    have XA := Lib.hid xA; clear xA
    clear XB
    have XB := Lib.hid xB; clear xB
    clear XC
    have XC := Lib.hid xC; clear xC
    have Hb := Lib.hid hb; clear hb
    have yA0 := cells_at XA.out 0
    have yA1 := cells_at XA.out 1
    have yA2 := cells_at XA.out 2
    have yA3 := cells_at XA.out 3
    have yB0 := cells_at XB.out 0
    have yB1 := cells_at XB.out 1
    have yB2 := cells_at XB.out 2
    have yB3 := cells_at XB.out 3
    go_wp2_with fail
    refine (Oab.out _).mono ?_
    rintro e w4 ⟨rfl, bk⟩
    clear yA0 yA1 yA2 yA3 yB0 yB1 yB2 yB3
    have xA := keepAt XA.out bk
    have xB := keepAt XB.out bk
    have xC := keepAt XC.out bk
    have hb := Hb.out.trans (bk.mono Hb.out.size)
    clear Hb bk
    clear XA
    have XA := Lib.hid xA; clear xA
    clear XB
    have XB := Lib.hid xB; clear xB
    clear XC
    have XC := Lib.hid xC; clear xC
    have Hb := Lib.hid hb; clear hb
    have yB0 := cells_at XB.out 0
    have yB1 := cells_at XB.out 1
    have yB2 := cells_at XB.out 2
    have yB3 := cells_at XB.out 3
    have yA0 := cells_at XA.out 0
    have yA1 := cells_at XA.out 1
    have yA2 := cells_at XA.out 2
    have yA3 := cells_at XA.out 3
    go_wp2_with fail
    refine (Oba.out _).mono ?_
    rintro e w5 ⟨rfl, bk⟩
    clear yB0 yB1 yB2 yB3 yA0 yA1 yA2 yA3
    have xA := keepAt XA.out bk
    have xB := keepAt XB.out bk
    have xC := keepAt XC.out bk
    have hb := Hb.out.trans (bk.mono Hb.out.size)
    clear Hb bk
    clear XA
    have XA := Lib.hid xA; clear xA
    clear XB
    have XB := Lib.hid xB; clear xB
    clear XC
    have XC := Lib.hid xC; clear xC
    have Hb := Lib.hid hb; clear hb
    have hq := Hq.out
    have hg := Hg.out
    have yA0 := cells_at XA.out 0
    have yA1 := cells_at XA.out 1
    have yA2 := cells_at XA.out 2
    have yA3 := cells_at XA.out 3
    have yB0 := cells_at XB.out 0
    have yB1 := cells_at XB.out 1
    have yB2 := cells_at XB.out 2
    have yB3 := cells_at XB.out 3
    have yC0 := cells_at XC.out 0
    have yC1 := cells_at XC.out 1
    have yC2 := cells_at XC.out 2
    have yC3 := cells_at XC.out 3
    go_wp2_with fail
    clear hq hg
    clear yA0 yA1 yA2 yA3 yB0 yB1 yB2 yB3 yC0 yC1 yC2 yC3
    refine (Rc.out _).mono ?_
    rintro e w6 ⟨rfl, bk⟩
    have xA := keepAt XA.out bk
    have xB := keepAt XB.out bk
    have xC := keepAt XC.out bk
    have hb := Hb.out.trans (bk.mono Hb.out.size)
    clear Hb bk
    clear XA
    have XA := Lib.hid xA; clear xA
    clear XB
    have XB := Lib.hid xB; clear xB
    clear XC
    have XC := Lib.hid xC; clear xC
    have Hb := Lib.hid hb; clear hb
    go_wp2
    go_ret
    exact ⟨rfl, Hb.out⟩
  · go_enter Try.func7, Try.ntmps7
    go_wp2_with fail
    rw [← hb0, ← hb1, ← hb2]
    clear hb0 hb1 hb2
    refine (alive_calls).mono ?_
    rintro e w1 ⟨rfl, bk⟩
    have xA := keepAt XA.out bk
    have xB := keepAt XB.out bk
    have xC := keepAt XC.out bk
    have hb := Hb.out.trans (bk.mono Hb.out.size)
    clear Hb bk
    clear XA
    have XA := Lib.hid xA; clear xA
    clear XB
    have XB := Lib.hid xB; clear xB
    clear XC
    have XC := Lib.hid xC; clear xC
    have Hb := Lib.hid hb; clear hb
    have yA0 := cells_at XA.out 0
    have yA1 := cells_at XA.out 1
    have yA2 := cells_at XA.out 2
    have yA3 := cells_at XA.out 3
    go_wp2_with fail
    refine (Ra.out _).mono ?_
    rintro e w2 ⟨rfl, bk⟩
    clear yA0 yA1 yA2 yA3
    have xA := keepAt XA.out bk
    have xB := keepAt XB.out bk
    have xC := keepAt XC.out bk
    have hb := Hb.out.trans (bk.mono Hb.out.size)
    clear Hb bk
    clear XA
    have XA := Lib.hid xA; clear xA
    clear XB
    have XB := Lib.hid xB; clear xB
    clear XC
    have XC := Lib.hid xC; clear xC
    have Hb := Lib.hid hb; clear hb
    have yB0 := cells_at XB.out 0
    have yB1 := cells_at XB.out 1
    have yB2 := cells_at XB.out 2
    have yB3 := cells_at XB.out 3
    go_wp2_with fail
    refine (Rb.out _).mono ?_
    rintro e w3 ⟨rfl, bk⟩
    clear yB0 yB1 yB2 yB3
    have xA := keepAt XA.out bk
    have xB := keepAt XB.out bk
    have xC := keepAt XC.out bk
    have hb := Hb.out.trans (bk.mono Hb.out.size)
    clear Hb bk
    clear XA
    have XA := Lib.hid xA; clear xA
    clear XB
    have XB := Lib.hid xB; clear xB
    clear XC
    have XC := Lib.hid xC; clear xC
    have Hb := Lib.hid hb; clear hb
    have yA0 := cells_at XA.out 0
    have yA1 := cells_at XA.out 1
    have yA2 := cells_at XA.out 2
    have yA3 := cells_at XA.out 3
    have yB0 := cells_at XB.out 0
    have yB1 := cells_at XB.out 1
    have yB2 := cells_at XB.out 2
    have yB3 := cells_at XB.out 3
    go_wp2_with fail
    refine (Oab.out _).mono ?_
    rintro e w4 ⟨rfl, bk⟩
    clear yA0 yA1 yA2 yA3 yB0 yB1 yB2 yB3
    have xA := keepAt XA.out bk
    have xB := keepAt XB.out bk
    have xC := keepAt XC.out bk
    have hb := Hb.out.trans (bk.mono Hb.out.size)
    clear Hb bk
    clear XA
    have XA := Lib.hid xA; clear xA
    clear XB
    have XB := Lib.hid xB; clear xB
    clear XC
    have XC := Lib.hid xC; clear xC
    have Hb := Lib.hid hb; clear hb
    have yB0 := cells_at XB.out 0
    have yB1 := cells_at XB.out 1
    have yB2 := cells_at XB.out 2
    have yB3 := cells_at XB.out 3
    have yA0 := cells_at XA.out 0
    have yA1 := cells_at XA.out 1
    have yA2 := cells_at XA.out 2
    have yA3 := cells_at XA.out 3
    go_wp2_with fail
    refine (Oba.out _).mono ?_
    rintro e w5 ⟨rfl, bk⟩
    clear yB0 yB1 yB2 yB3 yA0 yA1 yA2 yA3
    have xA := keepAt XA.out bk
    have xB := keepAt XB.out bk
    have xC := keepAt XC.out bk
    have hb := Hb.out.trans (bk.mono Hb.out.size)
    clear Hb bk
    clear XA
    have XA := Lib.hid xA; clear xA
    clear XB
    have XB := Lib.hid xB; clear xB
    clear XC
    have XC := Lib.hid xC; clear xC
    have Hb := Lib.hid hb; clear hb
    have hq := Hq.out
    have hg := Hg.out
    have yA0 := cells_at XA.out 0
    have yA1 := cells_at XA.out 1
    have yA2 := cells_at XA.out 2
    have yA3 := cells_at XA.out 3
    have yB0 := cells_at XB.out 0
    have yB1 := cells_at XB.out 1
    have yB2 := cells_at XB.out 2
    have yB3 := cells_at XB.out 3
    have yC0 := cells_at XC.out 0
    have yC1 := cells_at XC.out 1
    have yC2 := cells_at XC.out 2
    have yC3 := cells_at XC.out 3
    go_wp2_with fail
    clear hq hg
    clear yA0 yA1 yA2 yA3 yB0 yB1 yB2 yB3 yC0 yC1 yC2 yC3
    refine (Rc.out _).mono ?_
    rintro e w6 ⟨rfl, bk⟩
    have xA := keepAt XA.out bk
    have xB := keepAt XB.out bk
    have xC := keepAt XC.out bk
    have hb := Hb.out.trans (bk.mono Hb.out.size)
    clear Hb bk
    clear XA
    have XA := Lib.hid xA; clear xA
    clear XB
    have XB := Lib.hid xB; clear xB
    clear XC
    have XC := Lib.hid xC; clear xC
    have Hb := Lib.hid hb; clear hb
    have yB0 := cells_at XB.out 0
    have yB1 := cells_at XB.out 1
    have yB2 := cells_at XB.out 2
    have yB3 := cells_at XB.out 3
    have yC0 := cells_at XC.out 0
    have yC1 := cells_at XC.out 1
    have yC2 := cells_at XC.out 2
    have yC3 := cells_at XC.out 3
    go_wp2_with fail
    refine (Obc.out _).mono ?_
    rintro e w7 ⟨rfl, bk⟩
    clear yB0 yB1 yB2 yB3 yC0 yC1 yC2 yC3
    have xA := keepAt XA.out bk
    have xB := keepAt XB.out bk
    have xC := keepAt XC.out bk
    have hb := Hb.out.trans (bk.mono Hb.out.size)
    clear Hb bk
    clear XA
    have XA := Lib.hid xA; clear xA
    clear XB
    have XB := Lib.hid xB; clear xB
    clear XC
    have XC := Lib.hid xC; clear xC
    have Hb := Lib.hid hb; clear hb
    go_wp2
    go_ret
    exact ⟨rfl, Hb.out⟩
  · go_enter Try.func7, Try.ntmps7
    go_wp2_with fail
    rw [← hb0, ← hb1, ← hb2]
    clear hb0 hb1 hb2
    refine (alive_calls).mono ?_
    rintro e w1 ⟨rfl, bk⟩
    have xA := keepAt XA.out bk
    have xB := keepAt XB.out bk
    have xC := keepAt XC.out bk
    have hb := Hb.out.trans (bk.mono Hb.out.size)
    clear Hb bk
    clear XA
    have XA := Lib.hid xA; clear xA
    clear XB
    have XB := Lib.hid xB; clear xB
    clear XC
    have XC := Lib.hid xC; clear xC
    have Hb := Lib.hid hb; clear hb
    have yA0 := cells_at XA.out 0
    have yA1 := cells_at XA.out 1
    have yA2 := cells_at XA.out 2
    have yA3 := cells_at XA.out 3
    go_wp2_with fail
    refine (Ra.out _).mono ?_
    rintro e w2 ⟨rfl, bk⟩
    clear yA0 yA1 yA2 yA3
    have xA := keepAt XA.out bk
    have xB := keepAt XB.out bk
    have xC := keepAt XC.out bk
    have hb := Hb.out.trans (bk.mono Hb.out.size)
    clear Hb bk
    clear XA
    have XA := Lib.hid xA; clear xA
    clear XB
    have XB := Lib.hid xB; clear xB
    clear XC
    have XC := Lib.hid xC; clear xC
    have Hb := Lib.hid hb; clear hb
    have yB0 := cells_at XB.out 0
    have yB1 := cells_at XB.out 1
    have yB2 := cells_at XB.out 2
    have yB3 := cells_at XB.out 3
    go_wp2_with fail
    refine (Rb.out _).mono ?_
    rintro e w3 ⟨rfl, bk⟩
    clear yB0 yB1 yB2 yB3
    have xA := keepAt XA.out bk
    have xB := keepAt XB.out bk
    have xC := keepAt XC.out bk
    have hb := Hb.out.trans (bk.mono Hb.out.size)
    clear Hb bk
    clear XA
    have XA := Lib.hid xA; clear xA
    clear XB
    have XB := Lib.hid xB; clear xB
    clear XC
    have XC := Lib.hid xC; clear xC
    have Hb := Lib.hid hb; clear hb
    have yA0 := cells_at XA.out 0
    have yA1 := cells_at XA.out 1
    have yA2 := cells_at XA.out 2
    have yA3 := cells_at XA.out 3
    have yB0 := cells_at XB.out 0
    have yB1 := cells_at XB.out 1
    have yB2 := cells_at XB.out 2
    have yB3 := cells_at XB.out 3
    go_wp2_with fail
    refine (Oab.out _).mono ?_
    rintro e w4 ⟨rfl, bk⟩
    clear yA0 yA1 yA2 yA3 yB0 yB1 yB2 yB3
    have xA := keepAt XA.out bk
    have xB := keepAt XB.out bk
    have xC := keepAt XC.out bk
    have hb := Hb.out.trans (bk.mono Hb.out.size)
    clear Hb bk
    clear XA
    have XA := Lib.hid xA; clear xA
    clear XB
    have XB := Lib.hid xB; clear xB
    clear XC
    have XC := Lib.hid xC; clear xC
    have Hb := Lib.hid hb; clear hb
    have yB0 := cells_at XB.out 0
    have yB1 := cells_at XB.out 1
    have yB2 := cells_at XB.out 2
    have yB3 := cells_at XB.out 3
    have yA0 := cells_at XA.out 0
    have yA1 := cells_at XA.out 1
    have yA2 := cells_at XA.out 2
    have yA3 := cells_at XA.out 3
    go_wp2_with fail
    refine (Oba.out _).mono ?_
    rintro e w5 ⟨rfl, bk⟩
    clear yB0 yB1 yB2 yB3 yA0 yA1 yA2 yA3
    have xA := keepAt XA.out bk
    have xB := keepAt XB.out bk
    have xC := keepAt XC.out bk
    have hb := Hb.out.trans (bk.mono Hb.out.size)
    clear Hb bk
    clear XA
    have XA := Lib.hid xA; clear xA
    clear XB
    have XB := Lib.hid xB; clear xB
    clear XC
    have XC := Lib.hid xC; clear xC
    have Hb := Lib.hid hb; clear hb
    have hq := Hq.out
    have hg := Hg.out
    have yA0 := cells_at XA.out 0
    have yA1 := cells_at XA.out 1
    have yA2 := cells_at XA.out 2
    have yA3 := cells_at XA.out 3
    have yB0 := cells_at XB.out 0
    have yB1 := cells_at XB.out 1
    have yB2 := cells_at XB.out 2
    have yB3 := cells_at XB.out 3
    have yC0 := cells_at XC.out 0
    have yC1 := cells_at XC.out 1
    have yC2 := cells_at XC.out 2
    have yC3 := cells_at XC.out 3
    go_wp2_with fail
    clear hq hg
    clear yA0 yA1 yA2 yA3 yB0 yB1 yB2 yB3 yC0 yC1 yC2 yC3
    refine (Rc.out _).mono ?_
    rintro e w6 ⟨rfl, bk⟩
    have xA := keepAt XA.out bk
    have xB := keepAt XB.out bk
    have xC := keepAt XC.out bk
    have hb := Hb.out.trans (bk.mono Hb.out.size)
    clear Hb bk
    clear XA
    have XA := Lib.hid xA; clear xA
    clear XB
    have XB := Lib.hid xB; clear xB
    clear XC
    have XC := Lib.hid xC; clear xC
    have Hb := Lib.hid hb; clear hb
    have yB0 := cells_at XB.out 0
    have yB1 := cells_at XB.out 1
    have yB2 := cells_at XB.out 2
    have yB3 := cells_at XB.out 3
    have yC0 := cells_at XC.out 0
    have yC1 := cells_at XC.out 1
    have yC2 := cells_at XC.out 2
    have yC3 := cells_at XC.out 3
    go_wp2_with fail
    refine (Obc.out _).mono ?_
    rintro e w7 ⟨rfl, bk⟩
    clear yB0 yB1 yB2 yB3 yC0 yC1 yC2 yC3
    have xA := keepAt XA.out bk
    have xB := keepAt XB.out bk
    have xC := keepAt XC.out bk
    have hb := Hb.out.trans (bk.mono Hb.out.size)
    clear Hb bk
    clear XA
    have XA := Lib.hid xA; clear xA
    clear XB
    have XB := Lib.hid xB; clear xB
    clear XC
    have XC := Lib.hid xC; clear xC
    have Hb := Lib.hid hb; clear hb
    have yA0 := cells_at XA.out 0
    have yA1 := cells_at XA.out 1
    have yA2 := cells_at XA.out 2
    have yA3 := cells_at XA.out 3
    have yC0 := cells_at XC.out 0
    have yC1 := cells_at XC.out 1
    have yC2 := cells_at XC.out 2
    have yC3 := cells_at XC.out 3
    go_wp2_with fail
    refine (Oac.out _).mono ?_
    rintro e w8 ⟨rfl, bk⟩
    clear yA0 yA1 yA2 yA3 yC0 yC1 yC2 yC3
    have xA := keepAt XA.out bk
    have xB := keepAt XB.out bk
    have xC := keepAt XC.out bk
    have hb := Hb.out.trans (bk.mono Hb.out.size)
    clear Hb bk
    clear XA
    have XA := Lib.hid xA; clear xA
    clear XB
    have XB := Lib.hid xB; clear xB
    clear XC
    have XC := Lib.hid xC; clear xC
    have Hb := Lib.hid hb; clear hb
    go_wp2
    go_ret
    exact ⟨rfl, Hb.out⟩
  · go_enter Try.func7, Try.ntmps7
    go_wp2_with fail
    rw [← hb0, ← hb1, ← hb2]
    clear hb0 hb1 hb2
    refine (alive_calls).mono ?_
    rintro e w1 ⟨rfl, bk⟩
    have xA := keepAt XA.out bk
    have xB := keepAt XB.out bk
    have xC := keepAt XC.out bk
    have hb := Hb.out.trans (bk.mono Hb.out.size)
    clear Hb bk
    clear XA
    have XA := Lib.hid xA; clear xA
    clear XB
    have XB := Lib.hid xB; clear xB
    clear XC
    have XC := Lib.hid xC; clear xC
    have Hb := Lib.hid hb; clear hb
    have yA0 := cells_at XA.out 0
    have yA1 := cells_at XA.out 1
    have yA2 := cells_at XA.out 2
    have yA3 := cells_at XA.out 3
    go_wp2_with fail
    refine (Ra.out _).mono ?_
    rintro e w2 ⟨rfl, bk⟩
    clear yA0 yA1 yA2 yA3
    have xA := keepAt XA.out bk
    have xB := keepAt XB.out bk
    have xC := keepAt XC.out bk
    have hb := Hb.out.trans (bk.mono Hb.out.size)
    clear Hb bk
    clear XA
    have XA := Lib.hid xA; clear xA
    clear XB
    have XB := Lib.hid xB; clear xB
    clear XC
    have XC := Lib.hid xC; clear xC
    have Hb := Lib.hid hb; clear hb
    have yB0 := cells_at XB.out 0
    have yB1 := cells_at XB.out 1
    have yB2 := cells_at XB.out 2
    have yB3 := cells_at XB.out 3
    go_wp2_with fail
    refine (Rb.out _).mono ?_
    rintro e w3 ⟨rfl, bk⟩
    clear yB0 yB1 yB2 yB3
    have xA := keepAt XA.out bk
    have xB := keepAt XB.out bk
    have xC := keepAt XC.out bk
    have hb := Hb.out.trans (bk.mono Hb.out.size)
    clear Hb bk
    clear XA
    have XA := Lib.hid xA; clear xA
    clear XB
    have XB := Lib.hid xB; clear xB
    clear XC
    have XC := Lib.hid xC; clear xC
    have Hb := Lib.hid hb; clear hb
    have yA0 := cells_at XA.out 0
    have yA1 := cells_at XA.out 1
    have yA2 := cells_at XA.out 2
    have yA3 := cells_at XA.out 3
    have yB0 := cells_at XB.out 0
    have yB1 := cells_at XB.out 1
    have yB2 := cells_at XB.out 2
    have yB3 := cells_at XB.out 3
    go_wp2_with fail
    refine (Oab.out _).mono ?_
    rintro e w4 ⟨rfl, bk⟩
    clear yA0 yA1 yA2 yA3 yB0 yB1 yB2 yB3
    have xA := keepAt XA.out bk
    have xB := keepAt XB.out bk
    have xC := keepAt XC.out bk
    have hb := Hb.out.trans (bk.mono Hb.out.size)
    clear Hb bk
    clear XA
    have XA := Lib.hid xA; clear xA
    clear XB
    have XB := Lib.hid xB; clear xB
    clear XC
    have XC := Lib.hid xC; clear xC
    have Hb := Lib.hid hb; clear hb
    have yB0 := cells_at XB.out 0
    have yB1 := cells_at XB.out 1
    have yB2 := cells_at XB.out 2
    have yB3 := cells_at XB.out 3
    have yA0 := cells_at XA.out 0
    have yA1 := cells_at XA.out 1
    have yA2 := cells_at XA.out 2
    have yA3 := cells_at XA.out 3
    go_wp2_with fail
    refine (Oba.out _).mono ?_
    rintro e w5 ⟨rfl, bk⟩
    clear yB0 yB1 yB2 yB3 yA0 yA1 yA2 yA3
    have xA := keepAt XA.out bk
    have xB := keepAt XB.out bk
    have xC := keepAt XC.out bk
    have hb := Hb.out.trans (bk.mono Hb.out.size)
    clear Hb bk
    clear XA
    have XA := Lib.hid xA; clear xA
    clear XB
    have XB := Lib.hid xB; clear xB
    clear XC
    have XC := Lib.hid xC; clear xC
    have Hb := Lib.hid hb; clear hb
    have hq := Hq.out
    have hg := Hg.out
    have yA0 := cells_at XA.out 0
    have yA1 := cells_at XA.out 1
    have yA2 := cells_at XA.out 2
    have yA3 := cells_at XA.out 3
    have yB0 := cells_at XB.out 0
    have yB1 := cells_at XB.out 1
    have yB2 := cells_at XB.out 2
    have yB3 := cells_at XB.out 3
    have yC0 := cells_at XC.out 0
    have yC1 := cells_at XC.out 1
    have yC2 := cells_at XC.out 2
    have yC3 := cells_at XC.out 3
    go_wp2_with fail
    clear hq hg
    clear yA0 yA1 yA2 yA3 yB0 yB1 yB2 yB3 yC0 yC1 yC2 yC3
    refine (Rc.out _).mono ?_
    rintro e w6 ⟨rfl, bk⟩
    have xA := keepAt XA.out bk
    have xB := keepAt XB.out bk
    have xC := keepAt XC.out bk
    have hb := Hb.out.trans (bk.mono Hb.out.size)
    clear Hb bk
    clear XA
    have XA := Lib.hid xA; clear xA
    clear XB
    have XB := Lib.hid xB; clear xB
    clear XC
    have XC := Lib.hid xC; clear xC
    have Hb := Lib.hid hb; clear hb
    have yB0 := cells_at XB.out 0
    have yB1 := cells_at XB.out 1
    have yB2 := cells_at XB.out 2
    have yB3 := cells_at XB.out 3
    have yC0 := cells_at XC.out 0
    have yC1 := cells_at XC.out 1
    have yC2 := cells_at XC.out 2
    have yC3 := cells_at XC.out 3
    go_wp2_with fail
    refine (Obc.out _).mono ?_
    rintro e w7 ⟨rfl, bk⟩
    clear yB0 yB1 yB2 yB3 yC0 yC1 yC2 yC3
    have xA := keepAt XA.out bk
    have xB := keepAt XB.out bk
    have xC := keepAt XC.out bk
    have hb := Hb.out.trans (bk.mono Hb.out.size)
    clear Hb bk
    clear XA
    have XA := Lib.hid xA; clear xA
    clear XB
    have XB := Lib.hid xB; clear xB
    clear XC
    have XC := Lib.hid xC; clear xC
    have Hb := Lib.hid hb; clear hb
    go_wp2
    go_ret
    exact ⟨rfl, Hb.out⟩
  · go_enter Try.func7, Try.ntmps7
    go_wp2_with fail
    rw [← hb0, ← hb1, ← hb2]
    clear hb0 hb1 hb2
    refine (alive_calls).mono ?_
    rintro e w1 ⟨rfl, bk⟩
    have xA := keepAt XA.out bk
    have xB := keepAt XB.out bk
    have xC := keepAt XC.out bk
    have hb := Hb.out.trans (bk.mono Hb.out.size)
    clear Hb bk
    clear XA
    have XA := Lib.hid xA; clear xA
    clear XB
    have XB := Lib.hid xB; clear xB
    clear XC
    have XC := Lib.hid xC; clear xC
    have Hb := Lib.hid hb; clear hb
    have yA0 := cells_at XA.out 0
    have yA1 := cells_at XA.out 1
    have yA2 := cells_at XA.out 2
    have yA3 := cells_at XA.out 3
    go_wp2_with fail
    refine (Ra.out _).mono ?_
    rintro e w2 ⟨rfl, bk⟩
    clear yA0 yA1 yA2 yA3
    have xA := keepAt XA.out bk
    have xB := keepAt XB.out bk
    have xC := keepAt XC.out bk
    have hb := Hb.out.trans (bk.mono Hb.out.size)
    clear Hb bk
    clear XA
    have XA := Lib.hid xA; clear xA
    clear XB
    have XB := Lib.hid xB; clear xB
    clear XC
    have XC := Lib.hid xC; clear xC
    have Hb := Lib.hid hb; clear hb
    have yB0 := cells_at XB.out 0
    have yB1 := cells_at XB.out 1
    have yB2 := cells_at XB.out 2
    have yB3 := cells_at XB.out 3
    go_wp2_with fail
    refine (Rb.out _).mono ?_
    rintro e w3 ⟨rfl, bk⟩
    clear yB0 yB1 yB2 yB3
    have xA := keepAt XA.out bk
    have xB := keepAt XB.out bk
    have xC := keepAt XC.out bk
    have hb := Hb.out.trans (bk.mono Hb.out.size)
    clear Hb bk
    clear XA
    have XA := Lib.hid xA; clear xA
    clear XB
    have XB := Lib.hid xB; clear xB
    clear XC
    have XC := Lib.hid xC; clear xC
    have Hb := Lib.hid hb; clear hb
    have yA0 := cells_at XA.out 0
    have yA1 := cells_at XA.out 1
    have yA2 := cells_at XA.out 2
    have yA3 := cells_at XA.out 3
    have yB0 := cells_at XB.out 0
    have yB1 := cells_at XB.out 1
    have yB2 := cells_at XB.out 2
    have yB3 := cells_at XB.out 3
    go_wp2_with fail
    refine (Oab.out _).mono ?_
    rintro e w4 ⟨rfl, bk⟩
    clear yA0 yA1 yA2 yA3 yB0 yB1 yB2 yB3
    have xA := keepAt XA.out bk
    have xB := keepAt XB.out bk
    have xC := keepAt XC.out bk
    have hb := Hb.out.trans (bk.mono Hb.out.size)
    clear Hb bk
    clear XA
    have XA := Lib.hid xA; clear xA
    clear XB
    have XB := Lib.hid xB; clear xB
    clear XC
    have XC := Lib.hid xC; clear xC
    have Hb := Lib.hid hb; clear hb
    have yB0 := cells_at XB.out 0
    have yB1 := cells_at XB.out 1
    have yB2 := cells_at XB.out 2
    have yB3 := cells_at XB.out 3
    have yA0 := cells_at XA.out 0
    have yA1 := cells_at XA.out 1
    have yA2 := cells_at XA.out 2
    have yA3 := cells_at XA.out 3
    go_wp2_with fail
    refine (Oba.out _).mono ?_
    rintro e w5 ⟨rfl, bk⟩
    clear yB0 yB1 yB2 yB3 yA0 yA1 yA2 yA3
    have xA := keepAt XA.out bk
    have xB := keepAt XB.out bk
    have xC := keepAt XC.out bk
    have hb := Hb.out.trans (bk.mono Hb.out.size)
    clear Hb bk
    clear XA
    have XA := Lib.hid xA; clear xA
    clear XB
    have XB := Lib.hid xB; clear xB
    clear XC
    have XC := Lib.hid xC; clear xC
    have Hb := Lib.hid hb; clear hb
    have hq := Hq.out
    have hg := Hg.out
    have yA0 := cells_at XA.out 0
    have yA1 := cells_at XA.out 1
    have yA2 := cells_at XA.out 2
    have yA3 := cells_at XA.out 3
    have yB0 := cells_at XB.out 0
    have yB1 := cells_at XB.out 1
    have yB2 := cells_at XB.out 2
    have yB3 := cells_at XB.out 3
    have yC0 := cells_at XC.out 0
    have yC1 := cells_at XC.out 1
    have yC2 := cells_at XC.out 2
    have yC3 := cells_at XC.out 3
    go_wp2_with fail
    clear hq hg
    clear yA0 yA1 yA2 yA3 yB0 yB1 yB2 yB3 yC0 yC1 yC2 yC3
    refine (Rc.out _).mono ?_
    rintro e w6 ⟨rfl, bk⟩
    have xA := keepAt XA.out bk
    have xB := keepAt XB.out bk
    have xC := keepAt XC.out bk
    have hb := Hb.out.trans (bk.mono Hb.out.size)
    clear Hb bk
    clear XA
    have XA := Lib.hid xA; clear xA
    clear XB
    have XB := Lib.hid xB; clear xB
    clear XC
    have XC := Lib.hid xC; clear xC
    have Hb := Lib.hid hb; clear hb
    have yB0 := cells_at XB.out 0
    have yB1 := cells_at XB.out 1
    have yB2 := cells_at XB.out 2
    have yB3 := cells_at XB.out 3
    have yC0 := cells_at XC.out 0
    have yC1 := cells_at XC.out 1
    have yC2 := cells_at XC.out 2
    have yC3 := cells_at XC.out 3
    go_wp2_with fail
    refine (Obc.out _).mono ?_
    rintro e w7 ⟨rfl, bk⟩
    clear yB0 yB1 yB2 yB3 yC0 yC1 yC2 yC3
    have xA := keepAt XA.out bk
    have xB := keepAt XB.out bk
    have xC := keepAt XC.out bk
    have hb := Hb.out.trans (bk.mono Hb.out.size)
    clear Hb bk
    clear XA
    have XA := Lib.hid xA; clear xA
    clear XB
    have XB := Lib.hid xB; clear xB
    clear XC
    have XC := Lib.hid xC; clear xC
    have Hb := Lib.hid hb; clear hb
    have yA0 := cells_at XA.out 0
    have yA1 := cells_at XA.out 1
    have yA2 := cells_at XA.out 2
    have yA3 := cells_at XA.out 3
    have yC0 := cells_at XC.out 0
    have yC1 := cells_at XC.out 1
    have yC2 := cells_at XC.out 2
    have yC3 := cells_at XC.out 3
    go_wp2_with fail
    refine (Oac.out _).mono ?_
    rintro e w8 ⟨rfl, bk⟩
    clear yA0 yA1 yA2 yA3 yC0 yC1 yC2 yC3
    have xA := keepAt XA.out bk
    have xB := keepAt XB.out bk
    have xC := keepAt XC.out bk
    have hb := Hb.out.trans (bk.mono Hb.out.size)
    clear Hb bk
    clear XA
    have XA := Lib.hid xA; clear xA
    clear XB
    have XB := Lib.hid xB; clear xB
    clear XC
    have XC := Lib.hid xC; clear xC
    have Hb := Lib.hid hb; clear hb
    go_wp2
    go_ret
    exact ⟨rfl, Hb.out⟩
  · go_enter Try.func7, Try.ntmps7
    go_wp2_with fail
    rw [← hb0, ← hb1, ← hb2]
    clear hb0 hb1 hb2
    refine (alive_calls).mono ?_
    rintro e w1 ⟨rfl, bk⟩
    have xA := keepAt XA.out bk
    have xB := keepAt XB.out bk
    have xC := keepAt XC.out bk
    have hb := Hb.out.trans (bk.mono Hb.out.size)
    clear Hb bk
    clear XA
    have XA := Lib.hid xA; clear xA
    clear XB
    have XB := Lib.hid xB; clear xB
    clear XC
    have XC := Lib.hid xC; clear xC
    have Hb := Lib.hid hb; clear hb
    have yA0 := cells_at XA.out 0
    have yA1 := cells_at XA.out 1
    have yA2 := cells_at XA.out 2
    have yA3 := cells_at XA.out 3
    go_wp2_with fail
    refine (Ra.out _).mono ?_
    rintro e w2 ⟨rfl, bk⟩
    clear yA0 yA1 yA2 yA3
    have xA := keepAt XA.out bk
    have xB := keepAt XB.out bk
    have xC := keepAt XC.out bk
    have hb := Hb.out.trans (bk.mono Hb.out.size)
    clear Hb bk
    clear XA
    have XA := Lib.hid xA; clear xA
    clear XB
    have XB := Lib.hid xB; clear xB
    clear XC
    have XC := Lib.hid xC; clear xC
    have Hb := Lib.hid hb; clear hb
    have yB0 := cells_at XB.out 0
    have yB1 := cells_at XB.out 1
    have yB2 := cells_at XB.out 2
    have yB3 := cells_at XB.out 3
    go_wp2_with fail
    refine (Rb.out _).mono ?_
    rintro e w3 ⟨rfl, bk⟩
    clear yB0 yB1 yB2 yB3
    have xA := keepAt XA.out bk
    have xB := keepAt XB.out bk
    have xC := keepAt XC.out bk
    have hb := Hb.out.trans (bk.mono Hb.out.size)
    clear Hb bk
    clear XA
    have XA := Lib.hid xA; clear xA
    clear XB
    have XB := Lib.hid xB; clear xB
    clear XC
    have XC := Lib.hid xC; clear xC
    have Hb := Lib.hid hb; clear hb
    have yA0 := cells_at XA.out 0
    have yA1 := cells_at XA.out 1
    have yA2 := cells_at XA.out 2
    have yA3 := cells_at XA.out 3
    have yB0 := cells_at XB.out 0
    have yB1 := cells_at XB.out 1
    have yB2 := cells_at XB.out 2
    have yB3 := cells_at XB.out 3
    go_wp2_with fail
    refine (Oab.out _).mono ?_
    rintro e w4 ⟨rfl, bk⟩
    clear yA0 yA1 yA2 yA3 yB0 yB1 yB2 yB3
    have xA := keepAt XA.out bk
    have xB := keepAt XB.out bk
    have xC := keepAt XC.out bk
    have hb := Hb.out.trans (bk.mono Hb.out.size)
    clear Hb bk
    clear XA
    have XA := Lib.hid xA; clear xA
    clear XB
    have XB := Lib.hid xB; clear xB
    clear XC
    have XC := Lib.hid xC; clear xC
    have Hb := Lib.hid hb; clear hb
    have yB0 := cells_at XB.out 0
    have yB1 := cells_at XB.out 1
    have yB2 := cells_at XB.out 2
    have yB3 := cells_at XB.out 3
    have yA0 := cells_at XA.out 0
    have yA1 := cells_at XA.out 1
    have yA2 := cells_at XA.out 2
    have yA3 := cells_at XA.out 3
    go_wp2_with fail
    refine (Oba.out _).mono ?_
    rintro e w5 ⟨rfl, bk⟩
    clear yB0 yB1 yB2 yB3 yA0 yA1 yA2 yA3
    have xA := keepAt XA.out bk
    have xB := keepAt XB.out bk
    have xC := keepAt XC.out bk
    have hb := Hb.out.trans (bk.mono Hb.out.size)
    clear Hb bk
    clear XA
    have XA := Lib.hid xA; clear xA
    clear XB
    have XB := Lib.hid xB; clear xB
    clear XC
    have XC := Lib.hid xC; clear xC
    have Hb := Lib.hid hb; clear hb
    have hq := Hq.out
    have hg := Hg.out
    have yA0 := cells_at XA.out 0
    have yA1 := cells_at XA.out 1
    have yA2 := cells_at XA.out 2
    have yA3 := cells_at XA.out 3
    have yB0 := cells_at XB.out 0
    have yB1 := cells_at XB.out 1
    have yB2 := cells_at XB.out 2
    have yB3 := cells_at XB.out 3
    have yC0 := cells_at XC.out 0
    have yC1 := cells_at XC.out 1
    have yC2 := cells_at XC.out 2
    have yC3 := cells_at XC.out 3
    go_wp2_with fail
    clear hq hg
    clear yA0 yA1 yA2 yA3 yB0 yB1 yB2 yB3 yC0 yC1 yC2 yC3
    refine (Rc.out _).mono ?_
    rintro e w6 ⟨rfl, bk⟩
    have xA := keepAt XA.out bk
    have xB := keepAt XB.out bk
    have xC := keepAt XC.out bk
    have hb := Hb.out.trans (bk.mono Hb.out.size)
    clear Hb bk
    clear XA
    have XA := Lib.hid xA; clear xA
    clear XB
    have XB := Lib.hid xB; clear xB
    clear XC
    have XC := Lib.hid xC; clear xC
    have Hb := Lib.hid hb; clear hb
    go_wp2
    go_ret
    exact ⟨rfl, Hb.out⟩
end Go.Proofs.Ytdaaphebfhlpmaa
