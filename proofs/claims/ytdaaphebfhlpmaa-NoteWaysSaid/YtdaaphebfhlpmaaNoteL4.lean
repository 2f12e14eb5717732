/- The law NoteWays. -/
import Derived.Test.YtdaaphebfhlpmaaNoteA
namespace Go.Proofs.Ytdaaphebfhlpmaa
open Go.RowKit

theorem ways_of {k p t x : Int} (h : rightOf (k, p, t, x) = true) : upOf (k, p, t, x) = decide (1 ≤ k ∧ k ≤ 3) ∧ rightOf (k, p, t, 3) = false ∧ rightOf (k, p, t, 0) = true ∧
    ((k = 1 ∧ x = 0) ∨ (k = 1 ∧ x = 1) ∨ (k = 1 ∧ x = 2) ∨ (k = 4 ∧ x = 0) ∨ (k = 4 ∧ x = 1) ∨ (k = 2 ∧ x = 0) ∨ (k = 3 ∧ x = 0) ∨ (k = 5 ∧ x = 0)) := by
  have hd := of_decide_eq_true h
  simp only [Msg.kind, Msg.part, Msg.tx, Msg.what] at hd
  obtain ⟨q1, q2, q3, q4, q5, q6⟩ := hd
  have hm : (k = 1 ∧ mostOf k = 2) ∨ (k = 4 ∧ mostOf k = 1) ∨ (k = 2 ∧ mostOf k = 0) ∨ (k = 3 ∧ mostOf k = 0) ∨ (k = 5 ∧ mostOf k = 0) := by
    unfold mostOf at q6 ⊢
    split at q6
    · next e => subst e; exact .inl ⟨rfl, rfl⟩
    split at q6
    · next e => subst e; exact .inr (.inl ⟨rfl, rfl⟩)
    split at q6
    · next e => rcases e with e | e | e <;> subst e <;> simp
    · omega
  refine ⟨rfl, ?_, ?_, by omega⟩
  · refine decide_eq_false fun h => ?_
    have h6 := h.2.2.2.2.2
    simp only [Msg.kind, Msg.what] at h6
    omega
  · refine decide_eq_true ⟨q1, q2, q3, q4, Int.le_refl _, ?_⟩
    show (0 : Int) ≤ mostOf k
    omega
set_option maxHeartbeats 4000000 in
theorem lawNoteWays {w : World} {m : Msg} (_hm : m.ok) : Calls Try.prog 6 #[.agg m.cells.toArray] w fun e w' => e = .returned (.bool true) ∧ Below w.heap.size w w' := by
  clear _hm
  obtain ⟨k, p, t, x⟩ := m
  have r1 := fun w : World => Right_calls (w := w) (k, p, t, x)
  have r2 := fun w : World => Right_calls (w := w) (k, p, t, 3)
  have r3 := fun w : World => Right_calls (w := w) (k, p, t, 0)
  have u1 := fun w : World => Up_calls (w := w) (k, p, t, x)
  have ds : rightOf (k, p, t, x) = false ∨ (rightOf (k, p, t, x) = true ∧ rightOf (k, p, t, 3) = false ∧ rightOf (k, p, t, 0) = true ∧ ∃ u, upOf (k, p, t, x) = u ∧ 
      ((k = 1 ∧ x = 0 ∧ u = true) ∨ (k = 1 ∧ x = 1 ∧ u = true) ∨ (k = 1 ∧ x = 2 ∧ u = true) ∨ (k = 4 ∧ x = 0 ∧ u = false) ∨ (k = 4 ∧ x = 1 ∧ u = false) ∨ (k = 2 ∧ x = 0 ∧ u = true) ∨ (k = 3 ∧ x = 0 ∧ u = true) ∨ (k = 5 ∧ x = 0 ∧ u = false))) := by
    cases h : rightOf (k, p, t, x)
    · exact .inl rfl
    obtain ⟨h1, h2, h3, h4⟩ := ways_of h
    refine .inr ⟨rfl, h2, h3, _, h1, ?_⟩
    rcases h4 with ⟨rfl, rfl⟩ | ⟨rfl, rfl⟩ | ⟨rfl, rfl⟩ | ⟨rfl, rfl⟩ | ⟨rfl, rfl⟩ | ⟨rfl, rfl⟩ | ⟨rfl, rfl⟩ | ⟨rfl, rfl⟩ <;> decide
  generalize rightOf (k, p, t, x) = B1 at *
  generalize rightOf (k, p, t, 3) = B2 at *
  generalize rightOf (k, p, t, 0) = B3 at *
  generalize upOf (k, p, t, x) = BU at *
  simp only [Msg.cells, Msg.kind, Msg.part, Msg.tx, Msg.what] at r1 r2 r3 u1 ⊢
  have R1 := Lib.hid r1; clear r1
  have R2 := Lib.hid r2; clear r2
  have R3 := Lib.hid r3; clear r3
  have U1 := Lib.hid u1; clear u1
  have Hb := Lib.hid (Below.refl w.heap.size w)
  obtain ⟨o0, hb0⟩ : ∃ wz : World, wz = w.alloc (.cells #[.int .i64 k, .int .i64 p, .int .i64 t, .int .i64 x] 23) := ⟨_, rfl⟩
  have bk : Below w.heap.size w o0 := by rw [hb0]; exact (Below.refl _ _).alloc (Nat.le_refl _) _
  have s0 : o0.heap.size = w.heap.size + 1 := by rw [hb0, World.size_alloc]
  have zM : o0.heap[w.heap.size]? = some (.cells #[.int .i64 k, .int .i64 p, .int .i64 t, .int .i64 x] 23 (0, 0)) := by
    have := heap_alloc_new w (.cells #[.int .i64 k, .int .i64 p, .int .i64 t, .int .i64 x] 23)
    rw [← hb0] at this
    exact this
  have hb := Hb.out.trans (bk.mono Hb.out.size)
  clear Hb bk
  have Hb := Lib.hid hb; clear hb
  have XM := Lib.hid zM; clear zM
  clear s0
  rcases ds with rfl | ⟨rfl, rfl, rfl, u, rfl, ds⟩
  · go_enter Try.func6, Try.ntmps6
    go_wp2_with fail
    rw [← hb0]
    clear hb0
    refine (alive_calls).mono ?_
    rintro e w1 ⟨rfl, bk⟩
    have xM := keepAt XM.out bk
    have hb := Hb.out.trans (bk.mono Hb.out.size)
    clear Hb bk
    clear XM
    have XM := Lib.hid xM; clear xM
    have Hb := Lib.hid hb; clear hb
    have yM0 := cells_at XM.out 0
    have yM1 := cells_at XM.out 1
    have yM2 := cells_at XM.out 2
    have yM3 := cells_at XM.out 3
    go_wp2_with fail
    refine (R1.out _).mono ?_
    rintro e w2 ⟨rfl, bk⟩
    clear yM0 yM1 yM2 yM3
    have xM := keepAt XM.out bk
    have hb := Hb.out.trans (bk.mono Hb.out.size)
    clear Hb bk
    clear XM
    have XM := Lib.hid xM; clear xM
    have Hb := Lib.hid hb; clear hb
    go_wp2
    go_ret
    exact ⟨rfl, Hb.out⟩
  rcases ds with ⟨rfl, rfl, rfl⟩ | ⟨rfl, rfl, rfl⟩ | ⟨rfl, rfl, rfl⟩ | ⟨rfl, rfl, rfl⟩ | ⟨rfl, rfl, rfl⟩ | ⟨rfl, rfl, rfl⟩ | ⟨rfl, rfl, rfl⟩ | ⟨rfl, rfl, rfl⟩
  · go_enter Try.func6, Try.ntmps6
    go_wp2_with fail
    rw [← hb0]
    clear hb0
    refine (alive_calls).mono ?_
    rintro e w1 ⟨rfl, bk⟩
    have xM := keepAt XM.out bk
    have hb := Hb.out.trans (bk.mono Hb.out.size)
    clear Hb bk
    clear XM
    have XM := Lib.hid xM; clear xM
    have Hb := Lib.hid hb; clear hb
    have yM0 := cells_at XM.out 0
    have yM1 := cells_at XM.out 1
    have yM2 := cells_at XM.out 2
    have yM3 := cells_at XM.out 3
    go_wp2_with fail
    refine (R1.out _).mono ?_
    rintro e w2 ⟨rfl, bk⟩
    clear yM0 yM1 yM2 yM3
    have xM := keepAt XM.out bk
    have hb := Hb.out.trans (bk.mono Hb.out.size)
    clear Hb bk
    clear XM
    have XM := Lib.hid xM; clear xM
    have Hb := Lib.hid hb; clear hb
    have z1 := heap_alloc_new w2 (.cells #[.int .i64 1, .int .i64 p, .int .i64 t, .int .i64 0] 23)
    have f1 := frozen_of_row _ w2.heap.size 3 _ _ z1
    have c1 := cells_at z1 3
    clear z1
    have hs : (w2.alloc (.cells #[.int .i64 1, .int .i64 p, .int .i64 t, .int .i64 3] 23)).heap.size = w2.heap.size + 1 := World.size_alloc _ _
    have z2 := heap_alloc_new (w2.alloc (.cells #[.int .i64 1, .int .i64 p, .int .i64 t, .int .i64 3] 23)) (.cells #[.int .i64 1, .int .i64 p, .int .i64 t, .int .i64 0] 23)
    have z5 := heap_alloc_new (w2.alloc (.cells #[.int .i64 1, .int .i64 p, .int .i64 t, .int .i64 3] 23)) (.cells #[.int .i64 1, .int .i64 p, .int .i64 t, .int .i64 0] 23)
    rw [hs] at z2 z5
    have f2 := frozen_of_row _ (w2.heap.size + 1) 3 _ _ z2
    have c2 := cells_at z2 3
    clear z2 hs
    have yM0 := cells_at XM.out 0
    have yM1 := cells_at XM.out 1
    have yM2 := cells_at XM.out 2
    have yM3 := cells_at XM.out 3
    have bk : Below w2.heap.size w2 (w2.alloc (.cells #[.int .i64 1, .int .i64 p, .int .i64 t, .int .i64 3] 23)) := (Below.refl _ _).alloc (Nat.le_refl _) _
    have b2 : Below (w2.alloc (.cells #[.int .i64 1, .int .i64 p, .int .i64 t, .int .i64 3] 23)).heap.size (w2.alloc (.cells #[.int .i64 1, .int .i64 p, .int .i64 t, .int .i64 3] 23)) ((w2.alloc (.cells #[.int .i64 1, .int .i64 p, .int .i64 t, .int .i64 3] 23)).alloc (.cells #[.int .i64 1, .int .i64 p, .int .i64 t, .int .i64 0] 23)) := (Below.refl _ _).alloc (Nat.le_refl _) _
    have z4 := heap_alloc_new w2 (.cells #[.int .i64 1, .int .i64 p, .int .i64 t, .int .i64 3] 23)
    have z3 := keepAt XM.out bk
    have xM := keepAt z3 b2
    have xX := keepAt z4 b2
    have hb := Hb.out.trans ((bk.trans (b2.mono bk.size)).mono Hb.out.size)
    clear Hb bk b2 z4 XM
    have u0 := cells_at z3 0
    have u1 := cells_at z3 1
    have u2 := cells_at z3 2
    have u3 := cells_at z3 3
    clear z3
    have XM := Lib.hid xM
    have XX := Lib.hid xX
    have XY := Lib.hid z5
    have Hb := Lib.hid hb
    clear xX z5 hb
    have v0 := cells_at xM 0
    have v1 := cells_at xM 1
    have v2 := cells_at xM 2
    have v3 := cells_at xM 3
    clear xM
    go_wp2_with fail
    clear f1 c1 f2 c2 yM0 yM1 yM2 yM3 u0 u1 u2 u3 v0 v1 v2 v3
    generalize (w2.alloc (.cells #[.int .i64 1, .int .i64 p, .int .i64 t, .int .i64 3] 23)).alloc (.cells #[.int .i64 1, .int .i64 p, .int .i64 t, .int .i64 0] 23) = w3 at *
    generalize w2.heap.size = g2 at *
    refine (U1.out _).mono ?_
    rintro e w4 ⟨rfl, bk⟩
    have xM := keepAt XM.out bk
    have xX := keepAt XX.out bk
    have xY := keepAt XY.out bk
    have hb := Hb.out.trans (bk.mono Hb.out.size)
    clear Hb bk
    clear XM
    have XM := Lib.hid xM; clear xM
    clear XX
    have XX := Lib.hid xX; clear xX
    clear XY
    have XY := Lib.hid xY; clear xY
    have Hb := Lib.hid hb; clear hb
    have yX0 := cells_at XX.out 0
    have yX1 := cells_at XX.out 1
    have yX2 := cells_at XX.out 2
    have yX3 := cells_at XX.out 3
    go_wp2_with fail
    refine (R2.out _).mono ?_
    rintro e w5 ⟨rfl, bk⟩
    clear yX0 yX1 yX2 yX3
    have xM := keepAt XM.out bk
    have xX := keepAt XX.out bk
    have xY := keepAt XY.out bk
    have hb := Hb.out.trans (bk.mono Hb.out.size)
    clear Hb bk
    clear XM
    have XM := Lib.hid xM; clear xM
    clear XX
    have XX := Lib.hid xX; clear xX
    clear XY
    have XY := Lib.hid xY; clear xY
    have Hb := Lib.hid hb; clear hb
    have yY0 := cells_at XY.out 0
    have yY1 := cells_at XY.out 1
    have yY2 := cells_at XY.out 2
    have yY3 := cells_at XY.out 3
    go_wp2_with fail
    refine (R1.out _).mono ?_
    rintro e w6 ⟨rfl, bk⟩
    clear yY0 yY1 yY2 yY3
    have xM := keepAt XM.out bk
    have xX := keepAt XX.out bk
    have xY := keepAt XY.out bk
    have hb := Hb.out.trans (bk.mono Hb.out.size)
    clear Hb bk
    clear XM
    have XM := Lib.hid xM; clear xM
    clear XX
    have XX := Lib.hid xX; clear xX
    clear XY
    have XY := Lib.hid xY; clear xY
    have Hb := Lib.hid hb; clear hb
    have yM0 := cells_at XM.out 0
    have yM1 := cells_at XM.out 1
    have yM2 := cells_at XM.out 2
    have yM3 := cells_at XM.out 3
    go_wp2
    go_ret
    exact ⟨rfl, Hb.out⟩
  · go_enter Try.func6, Try.ntmps6
    go_wp2_with fail
    rw [← hb0]
    clear hb0
    refine (alive_calls).mono ?_
    rintro e w1 ⟨rfl, bk⟩
    have xM := keepAt XM.out bk
    have hb := Hb.out.trans (bk.mono Hb.out.size)
    clear Hb bk
    clear XM
    have XM := Lib.hid xM; clear xM
    have Hb := Lib.hid hb; clear hb
    have yM0 := cells_at XM.out 0
    have yM1 := cells_at XM.out 1
    have yM2 := cells_at XM.out 2
    have yM3 := cells_at XM.out 3
    go_wp2_with fail
    refine (R1.out _).mono ?_
    rintro e w2 ⟨rfl, bk⟩
    clear yM0 yM1 yM2 yM3
    have xM := keepAt XM.out bk
    have hb := Hb.out.trans (bk.mono Hb.out.size)
    clear Hb bk
    clear XM
    have XM := Lib.hid xM; clear xM
    have Hb := Lib.hid hb; clear hb
    have z1 := heap_alloc_new w2 (.cells #[.int .i64 1, .int .i64 p, .int .i64 t, .int .i64 1] 23)
    have f1 := frozen_of_row _ w2.heap.size 3 _ _ z1
    have c1 := cells_at z1 3
    clear z1
    have hs : (w2.alloc (.cells #[.int .i64 1, .int .i64 p, .int .i64 t, .int .i64 3] 23)).heap.size = w2.heap.size + 1 := World.size_alloc _ _
    have z2 := heap_alloc_new (w2.alloc (.cells #[.int .i64 1, .int .i64 p, .int .i64 t, .int .i64 3] 23)) (.cells #[.int .i64 1, .int .i64 p, .int .i64 t, .int .i64 1] 23)
    have z5 := heap_alloc_new (w2.alloc (.cells #[.int .i64 1, .int .i64 p, .int .i64 t, .int .i64 3] 23)) (.cells #[.int .i64 1, .int .i64 p, .int .i64 t, .int .i64 0] 23)
    rw [hs] at z2 z5
    have f2 := frozen_of_row _ (w2.heap.size + 1) 3 _ _ z2
    have c2 := cells_at z2 3
    clear z2 hs
    have yM0 := cells_at XM.out 0
    have yM1 := cells_at XM.out 1
    have yM2 := cells_at XM.out 2
    have yM3 := cells_at XM.out 3
    have bk : Below w2.heap.size w2 (w2.alloc (.cells #[.int .i64 1, .int .i64 p, .int .i64 t, .int .i64 3] 23)) := (Below.refl _ _).alloc (Nat.le_refl _) _
    have b2 : Below (w2.alloc (.cells #[.int .i64 1, .int .i64 p, .int .i64 t, .int .i64 3] 23)).heap.size (w2.alloc (.cells #[.int .i64 1, .int .i64 p, .int .i64 t, .int .i64 3] 23)) ((w2.alloc (.cells #[.int .i64 1, .int .i64 p, .int .i64 t, .int .i64 3] 23)).alloc (.cells #[.int .i64 1, .int .i64 p, .int .i64 t, .int .i64 0] 23)) := (Below.refl _ _).alloc (Nat.le_refl _) _
    have z4 := heap_alloc_new w2 (.cells #[.int .i64 1, .int .i64 p, .int .i64 t, .int .i64 3] 23)
    have z3 := keepAt XM.out bk
    have xM := keepAt z3 b2
    have xX := keepAt z4 b2
    have hb := Hb.out.trans ((bk.trans (b2.mono bk.size)).mono Hb.out.size)
    clear Hb bk b2 z4 XM
    have u0 := cells_at z3 0
    have u1 := cells_at z3 1
    have u2 := cells_at z3 2
    have u3 := cells_at z3 3
    clear z3
    have XM := Lib.hid xM
    have XX := Lib.hid xX
    have XY := Lib.hid z5
    have Hb := Lib.hid hb
    clear xX z5 hb
    have v0 := cells_at xM 0
    have v1 := cells_at xM 1
    have v2 := cells_at xM 2
    have v3 := cells_at xM 3
    clear xM
    go_wp2_with fail
    clear f1 c1 f2 c2 yM0 yM1 yM2 yM3 u0 u1 u2 u3 v0 v1 v2 v3
    generalize (w2.alloc (.cells #[.int .i64 1, .int .i64 p, .int .i64 t, .int .i64 3] 23)).alloc (.cells #[.int .i64 1, .int .i64 p, .int .i64 t, .int .i64 0] 23) = w3 at *
    generalize w2.heap.size = g2 at *
    refine (U1.out _).mono ?_
    rintro e w4 ⟨rfl, bk⟩
    have xM := keepAt XM.out bk
    have xX := keepAt XX.out bk
    have xY := keepAt XY.out bk
    have hb := Hb.out.trans (bk.mono Hb.out.size)
    clear Hb bk
    clear XM
    have XM := Lib.hid xM; clear xM
    clear XX
    have XX := Lib.hid xX; clear xX
    clear XY
    have XY := Lib.hid xY; clear xY
    have Hb := Lib.hid hb; clear hb
    have yX0 := cells_at XX.out 0
    have yX1 := cells_at XX.out 1
    have yX2 := cells_at XX.out 2
    have yX3 := cells_at XX.out 3
    go_wp2_with fail
    refine (R2.out _).mono ?_
    rintro e w5 ⟨rfl, bk⟩
    clear yX0 yX1 yX2 yX3
    have xM := keepAt XM.out bk
    have xX := keepAt XX.out bk
    have xY := keepAt XY.out bk
    have hb := Hb.out.trans (bk.mono Hb.out.size)
    clear Hb bk
    clear XM
    have XM := Lib.hid xM; clear xM
    clear XX
    have XX := Lib.hid xX; clear xX
    clear XY
    have XY := Lib.hid xY; clear xY
    have Hb := Lib.hid hb; clear hb
    have yY0 := cells_at XY.out 0
    have yY1 := cells_at XY.out 1
    have yY2 := cells_at XY.out 2
    have yY3 := cells_at XY.out 3
    go_wp2_with fail
    refine (R3.out _).mono ?_
    rintro e w6 ⟨rfl, bk⟩
    clear yY0 yY1 yY2 yY3
    have xM := keepAt XM.out bk
    have xX := keepAt XX.out bk
    have xY := keepAt XY.out bk
    have hb := Hb.out.trans (bk.mono Hb.out.size)
    clear Hb bk
    clear XM
    have XM := Lib.hid xM; clear xM
    clear XX
    have XX := Lib.hid xX; clear xX
    clear XY
    have XY := Lib.hid xY; clear xY
    have Hb := Lib.hid hb; clear hb
    have yM0 := cells_at XM.out 0
    have yM1 := cells_at XM.out 1
    have yM2 := cells_at XM.out 2
    have yM3 := cells_at XM.out 3
    go_wp2
    go_ret
    exact ⟨rfl, Hb.out⟩
  · go_enter Try.func6, Try.ntmps6
    go_wp2_with fail
    rw [← hb0]
    clear hb0
    refine (alive_calls).mono ?_
    rintro e w1 ⟨rfl, bk⟩
    have xM := keepAt XM.out bk
    have hb := Hb.out.trans (bk.mono Hb.out.size)
    clear Hb bk
    clear XM
    have XM := Lib.hid xM; clear xM
    have Hb := Lib.hid hb; clear hb
    have yM0 := cells_at XM.out 0
    have yM1 := cells_at XM.out 1
    have yM2 := cells_at XM.out 2
    have yM3 := cells_at XM.out 3
    go_wp2_with fail
    refine (R1.out _).mono ?_
    rintro e w2 ⟨rfl, bk⟩
    clear yM0 yM1 yM2 yM3
    have xM := keepAt XM.out bk
    have hb := Hb.out.trans (bk.mono Hb.out.size)
    clear Hb bk
    clear XM
    have XM := Lib.hid xM; clear xM
    have Hb := Lib.hid hb; clear hb
    have z1 := heap_alloc_new w2 (.cells #[.int .i64 1, .int .i64 p, .int .i64 t, .int .i64 2] 23)
    have f1 := frozen_of_row _ w2.heap.size 3 _ _ z1
    have c1 := cells_at z1 3
    clear z1
    have hs : (w2.alloc (.cells #[.int .i64 1, .int .i64 p, .int .i64 t, .int .i64 3] 23)).heap.size = w2.heap.size + 1 := World.size_alloc _ _
    have z2 := heap_alloc_new (w2.alloc (.cells #[.int .i64 1, .int .i64 p, .int .i64 t, .int .i64 3] 23)) (.cells #[.int .i64 1, .int .i64 p, .int .i64 t, .int .i64 2] 23)
    have z5 := heap_alloc_new (w2.alloc (.cells #[.int .i64 1, .int .i64 p, .int .i64 t, .int .i64 3] 23)) (.cells #[.int .i64 1, .int .i64 p, .int .i64 t, .int .i64 0] 23)
    rw [hs] at z2 z5
    have f2 := frozen_of_row _ (w2.heap.size + 1) 3 _ _ z2
    have c2 := cells_at z2 3
    clear z2 hs
    have yM0 := cells_at XM.out 0
    have yM1 := cells_at XM.out 1
    have yM2 := cells_at XM.out 2
    have yM3 := cells_at XM.out 3
    have bk : Below w2.heap.size w2 (w2.alloc (.cells #[.int .i64 1, .int .i64 p, .int .i64 t, .int .i64 3] 23)) := (Below.refl _ _).alloc (Nat.le_refl _) _
    have b2 : Below (w2.alloc (.cells #[.int .i64 1, .int .i64 p, .int .i64 t, .int .i64 3] 23)).heap.size (w2.alloc (.cells #[.int .i64 1, .int .i64 p, .int .i64 t, .int .i64 3] 23)) ((w2.alloc (.cells #[.int .i64 1, .int .i64 p, .int .i64 t, .int .i64 3] 23)).alloc (.cells #[.int .i64 1, .int .i64 p, .int .i64 t, .int .i64 0] 23)) := (Below.refl _ _).alloc (Nat.le_refl _) _
    have z4 := heap_alloc_new w2 (.cells #[.int .i64 1, .int .i64 p, .int .i64 t, .int .i64 3] 23)
    have z3 := keepAt XM.out bk
    have xM := keepAt z3 b2
    have xX := keepAt z4 b2
    have hb := Hb.out.trans ((bk.trans (b2.mono bk.size)).mono Hb.out.size)
    clear Hb bk b2 z4 XM
    have u0 := cells_at z3 0
    have u1 := cells_at z3 1
    have u2 := cells_at z3 2
    have u3 := cells_at z3 3
    clear z3
    have XM := Lib.hid xM
    have XX := Lib.hid xX
    have XY := Lib.hid z5
    have Hb := Lib.hid hb
    clear xX z5 hb
    have v0 := cells_at xM 0
    have v1 := cells_at xM 1
    have v2 := cells_at xM 2
    have v3 := cells_at xM 3
    clear xM
    go_wp2_with fail
    clear f1 c1 f2 c2 yM0 yM1 yM2 yM3 u0 u1 u2 u3 v0 v1 v2 v3
    generalize (w2.alloc (.cells #[.int .i64 1, .int .i64 p, .int .i64 t, .int .i64 3] 23)).alloc (.cells #[.int .i64 1, .int .i64 p, .int .i64 t, .int .i64 0] 23) = w3 at *
    generalize w2.heap.size = g2 at *
    refine (U1.out _).mono ?_
    rintro e w4 ⟨rfl, bk⟩
    have xM := keepAt XM.out bk
    have xX := keepAt XX.out bk
    have xY := keepAt XY.out bk
    have hb := Hb.out.trans (bk.mono Hb.out.size)
    clear Hb bk
    clear XM
    have XM := Lib.hid xM; clear xM
    clear XX
    have XX := Lib.hid xX; clear xX
    clear XY
    have XY := Lib.hid xY; clear xY
    have Hb := Lib.hid hb; clear hb
    have yX0 := cells_at XX.out 0
    have yX1 := cells_at XX.out 1
    have yX2 := cells_at XX.out 2
    have yX3 := cells_at XX.out 3
    go_wp2_with fail
    refine (R2.out _).mono ?_
    rintro e w5 ⟨rfl, bk⟩
    clear yX0 yX1 yX2 yX3
    have xM := keepAt XM.out bk
    have xX := keepAt XX.out bk
    have xY := keepAt XY.out bk
    have hb := Hb.out.trans (bk.mono Hb.out.size)
    clear Hb bk
    clear XM
    have XM := Lib.hid xM; clear xM
    clear XX
    have XX := Lib.hid xX; clear xX
    clear XY
    have XY := Lib.hid xY; clear xY
    have Hb := Lib.hid hb; clear hb
    have yY0 := cells_at XY.out 0
    have yY1 := cells_at XY.out 1
    have yY2 := cells_at XY.out 2
    have yY3 := cells_at XY.out 3
    go_wp2_with fail
    refine (R3.out _).mono ?_
    rintro e w6 ⟨rfl, bk⟩
    clear yY0 yY1 yY2 yY3
    have xM := keepAt XM.out bk
    have xX := keepAt XX.out bk
    have xY := keepAt XY.out bk
    have hb := Hb.out.trans (bk.mono Hb.out.size)
    clear Hb bk
    clear XM
    have XM := Lib.hid xM; clear xM
    clear XX
    have XX := Lib.hid xX; clear xX
    clear XY
    have XY := Lib.hid xY; clear xY
    have Hb := Lib.hid hb; clear hb
    have yM0 := cells_at XM.out 0
    have yM1 := cells_at XM.out 1
    have yM2 := cells_at XM.out 2
    have yM3 := cells_at XM.out 3
    go_wp2
    go_ret
    exact ⟨rfl, Hb.out⟩
  · go_enter Try.func6, Try.ntmps6
    go_wp2_with fail
    rw [← hb0]
    clear hb0
    refine (alive_calls).mono ?_
    rintro e w1 ⟨rfl, bk⟩
    have xM := keepAt XM.out bk
    have hb := Hb.out.trans (bk.mono Hb.out.size)
    clear Hb bk
    clear XM
    have XM := Lib.hid xM; clear xM
    have Hb := Lib.hid hb; clear hb
    have yM0 := cells_at XM.out 0
    have yM1 := cells_at XM.out 1
    have yM2 := cells_at XM.out 2
    have yM3 := cells_at XM.out 3
    go_wp2_with fail
    refine (R1.out _).mono ?_
    rintro e w2 ⟨rfl, bk⟩
    clear yM0 yM1 yM2 yM3
    have xM := keepAt XM.out bk
    have hb := Hb.out.trans (bk.mono Hb.out.size)
    clear Hb bk
    clear XM
    have XM := Lib.hid xM; clear xM
    have Hb := Lib.hid hb; clear hb
    have z1 := heap_alloc_new w2 (.cells #[.int .i64 4, .int .i64 p, .int .i64 t, .int .i64 0] 23)
    have f1 := frozen_of_row _ w2.heap.size 3 _ _ z1
    have c1 := cells_at z1 3
    clear z1
    have hs : (w2.alloc (.cells #[.int .i64 4, .int .i64 p, .int .i64 t, .int .i64 3] 23)).heap.size = w2.heap.size + 1 := World.size_alloc _ _
    have z2 := heap_alloc_new (w2.alloc (.cells #[.int .i64 4, .int .i64 p, .int .i64 t, .int .i64 3] 23)) (.cells #[.int .i64 4, .int .i64 p, .int .i64 t, .int .i64 0] 23)
    have z5 := heap_alloc_new (w2.alloc (.cells #[.int .i64 4, .int .i64 p, .int .i64 t, .int .i64 3] 23)) (.cells #[.int .i64 4, .int .i64 p, .int .i64 t, .int .i64 0] 23)
    rw [hs] at z2 z5
    have f2 := frozen_of_row _ (w2.heap.size + 1) 3 _ _ z2
    have c2 := cells_at z2 3
    clear z2 hs
    have yM0 := cells_at XM.out 0
    have yM1 := cells_at XM.out 1
    have yM2 := cells_at XM.out 2
    have yM3 := cells_at XM.out 3
    have bk : Below w2.heap.size w2 (w2.alloc (.cells #[.int .i64 4, .int .i64 p, .int .i64 t, .int .i64 3] 23)) := (Below.refl _ _).alloc (Nat.le_refl _) _
    have b2 : Below (w2.alloc (.cells #[.int .i64 4, .int .i64 p, .int .i64 t, .int .i64 3] 23)).heap.size (w2.alloc (.cells #[.int .i64 4, .int .i64 p, .int .i64 t, .int .i64 3] 23)) ((w2.alloc (.cells #[.int .i64 4, .int .i64 p, .int .i64 t, .int .i64 3] 23)).alloc (.cells #[.int .i64 4, .int .i64 p, .int .i64 t, .int .i64 0] 23)) := (Below.refl _ _).alloc (Nat.le_refl _) _
    have z4 := heap_alloc_new w2 (.cells #[.int .i64 4, .int .i64 p, .int .i64 t, .int .i64 3] 23)
    have z3 := keepAt XM.out bk
    have xM := keepAt z3 b2
    have xX := keepAt z4 b2
    have hb := Hb.out.trans ((bk.trans (b2.mono bk.size)).mono Hb.out.size)
    clear Hb bk b2 z4 XM
    have u0 := cells_at z3 0
    have u1 := cells_at z3 1
    have u2 := cells_at z3 2
    have u3 := cells_at z3 3
    clear z3
    have XM := Lib.hid xM
    have XX := Lib.hid xX
    have XY := Lib.hid z5
    have Hb := Lib.hid hb
    clear xX z5 hb
    have v0 := cells_at xM 0
    have v1 := cells_at xM 1
    have v2 := cells_at xM 2
    have v3 := cells_at xM 3
    clear xM
    go_wp2_with fail
    clear f1 c1 f2 c2 yM0 yM1 yM2 yM3 u0 u1 u2 u3 v0 v1 v2 v3
    generalize (w2.alloc (.cells #[.int .i64 4, .int .i64 p, .int .i64 t, .int .i64 3] 23)).alloc (.cells #[.int .i64 4, .int .i64 p, .int .i64 t, .int .i64 0] 23) = w3 at *
    generalize w2.heap.size = g2 at *
    refine (U1.out _).mono ?_
    rintro e w4 ⟨rfl, bk⟩
    have xM := keepAt XM.out bk
    have xX := keepAt XX.out bk
    have xY := keepAt XY.out bk
    have hb := Hb.out.trans (bk.mono Hb.out.size)
    clear Hb bk
    clear XM
    have XM := Lib.hid xM; clear xM
    clear XX
    have XX := Lib.hid xX; clear xX
    clear XY
    have XY := Lib.hid xY; clear xY
    have Hb := Lib.hid hb; clear hb
    have yX0 := cells_at XX.out 0
    have yX1 := cells_at XX.out 1
    have yX2 := cells_at XX.out 2
    have yX3 := cells_at XX.out 3
    go_wp2_with fail
    refine (R2.out _).mono ?_
    rintro e w5 ⟨rfl, bk⟩
    clear yX0 yX1 yX2 yX3
    have xM := keepAt XM.out bk
    have xX := keepAt XX.out bk
    have xY := keepAt XY.out bk
    have hb := Hb.out.trans (bk.mono Hb.out.size)
    clear Hb bk
    clear XM
    have XM := Lib.hid xM; clear xM
    clear XX
    have XX := Lib.hid xX; clear xX
    clear XY
    have XY := Lib.hid xY; clear xY
    have Hb := Lib.hid hb; clear hb
    have yY0 := cells_at XY.out 0
    have yY1 := cells_at XY.out 1
    have yY2 := cells_at XY.out 2
    have yY3 := cells_at XY.out 3
    go_wp2_with fail
    refine (R1.out _).mono ?_
    rintro e w6 ⟨rfl, bk⟩
    clear yY0 yY1 yY2 yY3
    have xM := keepAt XM.out bk
    have xX := keepAt XX.out bk
    have xY := keepAt XY.out bk
    have hb := Hb.out.trans (bk.mono Hb.out.size)
    clear Hb bk
    clear XM
    have XM := Lib.hid xM; clear xM
    clear XX
    have XX := Lib.hid xX; clear xX
    clear XY
    have XY := Lib.hid xY; clear xY
    have Hb := Lib.hid hb; clear hb
    have yM0 := cells_at XM.out 0
    have yM1 := cells_at XM.out 1
    have yM2 := cells_at XM.out 2
    have yM3 := cells_at XM.out 3
    go_wp2
    go_ret
    exact ⟨rfl, Hb.out⟩
  · go_enter Try.func6, Try.ntmps6
    go_wp2_with fail
    rw [← hb0]
    clear hb0
    refine (alive_calls).mono ?_
    rintro e w1 ⟨rfl, bk⟩
    have xM := keepAt XM.out bk
    have hb := Hb.out.trans (bk.mono Hb.out.size)
    clear Hb bk
    clear XM
    have XM := Lib.hid xM; clear xM
    have Hb := Lib.hid hb; clear hb
    have yM0 := cells_at XM.out 0
    have yM1 := cells_at XM.out 1
    have yM2 := cells_at XM.out 2
    have yM3 := cells_at XM.out 3
    go_wp2_with fail
    refine (R1.out _).mono ?_
    rintro e w2 ⟨rfl, bk⟩
    clear yM0 yM1 yM2 yM3
    have xM := keepAt XM.out bk
    have hb := Hb.out.trans (bk.mono Hb.out.size)
    clear Hb bk
    clear XM
    have XM := Lib.hid xM; clear xM
    have Hb := Lib.hid hb; clear hb
    have z1 := heap_alloc_new w2 (.cells #[.int .i64 4, .int .i64 p, .int .i64 t, .int .i64 1] 23)
    have f1 := frozen_of_row _ w2.heap.size 3 _ _ z1
    have c1 := cells_at z1 3
    clear z1
    have hs : (w2.alloc (.cells #[.int .i64 4, .int .i64 p, .int .i64 t, .int .i64 3] 23)).heap.size = w2.heap.size + 1 := World.size_alloc _ _
    have z2 := heap_alloc_new (w2.alloc (.cells #[.int .i64 4, .int .i64 p, .int .i64 t, .int .i64 3] 23)) (.cells #[.int .i64 4, .int .i64 p, .int .i64 t, .int .i64 1] 23)
    have z5 := heap_alloc_new (w2.alloc (.cells #[.int .i64 4, .int .i64 p, .int .i64 t, .int .i64 3] 23)) (.cells #[.int .i64 4, .int .i64 p, .int .i64 t, .int .i64 0] 23)
    rw [hs] at z2 z5
    have f2 := frozen_of_row _ (w2.heap.size + 1) 3 _ _ z2
    have c2 := cells_at z2 3
    clear z2 hs
    have yM0 := cells_at XM.out 0
    have yM1 := cells_at XM.out 1
    have yM2 := cells_at XM.out 2
    have yM3 := cells_at XM.out 3
    have bk : Below w2.heap.size w2 (w2.alloc (.cells #[.int .i64 4, .int .i64 p, .int .i64 t, .int .i64 3] 23)) := (Below.refl _ _).alloc (Nat.le_refl _) _
    have b2 : Below (w2.alloc (.cells #[.int .i64 4, .int .i64 p, .int .i64 t, .int .i64 3] 23)).heap.size (w2.alloc (.cells #[.int .i64 4, .int .i64 p, .int .i64 t, .int .i64 3] 23)) ((w2.alloc (.cells #[.int .i64 4, .int .i64 p, .int .i64 t, .int .i64 3] 23)).alloc (.cells #[.int .i64 4, .int .i64 p, .int .i64 t, .int .i64 0] 23)) := (Below.refl _ _).alloc (Nat.le_refl _) _
    have z4 := heap_alloc_new w2 (.cells #[.int .i64 4, .int .i64 p, .int .i64 t, .int .i64 3] 23)
    have z3 := keepAt XM.out bk
    have xM := keepAt z3 b2
    have xX := keepAt z4 b2
    have hb := Hb.out.trans ((bk.trans (b2.mono bk.size)).mono Hb.out.size)
    clear Hb bk b2 z4 XM
    have u0 := cells_at z3 0
    have u1 := cells_at z3 1
    have u2 := cells_at z3 2
    have u3 := cells_at z3 3
    clear z3
    have XM := Lib.hid xM
    have XX := Lib.hid xX
    have XY := Lib.hid z5
    have Hb := Lib.hid hb
    clear xX z5 hb
    have v0 := cells_at xM 0
    have v1 := cells_at xM 1
    have v2 := cells_at xM 2
    have v3 := cells_at xM 3
    clear xM
    go_wp2_with fail
    clear f1 c1 f2 c2 yM0 yM1 yM2 yM3 u0 u1 u2 u3 v0 v1 v2 v3
    generalize (w2.alloc (.cells #[.int .i64 4, .int .i64 p, .int .i64 t, .int .i64 3] 23)).alloc (.cells #[.int .i64 4, .int .i64 p, .int .i64 t, .int .i64 0] 23) = w3 at *
    generalize w2.heap.size = g2 at *
    refine (U1.out _).mono ?_
    rintro e w4 ⟨rfl, bk⟩
    have xM := keepAt XM.out bk
    have xX := keepAt XX.out bk
    have xY := keepAt XY.out bk
    have hb := Hb.out.trans (bk.mono Hb.out.size)
    clear Hb bk
    clear XM
    have XM := Lib.hid xM; clear xM
    clear XX
    have XX := Lib.hid xX; clear xX
    clear XY
    have XY := Lib.hid xY; clear xY
    have Hb := Lib.hid hb; clear hb
    have yX0 := cells_at XX.out 0
    have yX1 := cells_at XX.out 1
    have yX2 := cells_at XX.out 2
    have yX3 := cells_at XX.out 3
    go_wp2_with fail
    refine (R2.out _).mono ?_
    rintro e w5 ⟨rfl, bk⟩
    clear yX0 yX1 yX2 yX3
    have xM := keepAt XM.out bk
    have xX := keepAt XX.out bk
    have xY := keepAt XY.out bk
    have hb := Hb.out.trans (bk.mono Hb.out.size)
    clear Hb bk
    clear XM
    have XM := Lib.hid xM; clear xM
    clear XX
    have XX := Lib.hid xX; clear xX
    clear XY
    have XY := Lib.hid xY; clear xY
    have Hb := Lib.hid hb; clear hb
    have yY0 := cells_at XY.out 0
    have yY1 := cells_at XY.out 1
    have yY2 := cells_at XY.out 2
    have yY3 := cells_at XY.out 3
    go_wp2_with fail
    refine (R3.out _).mono ?_
    rintro e w6 ⟨rfl, bk⟩
    clear yY0 yY1 yY2 yY3
    have xM := keepAt XM.out bk
    have xX := keepAt XX.out bk
    have xY := keepAt XY.out bk
    have hb := Hb.out.trans (bk.mono Hb.out.size)
    clear Hb bk
    clear XM
    have XM := Lib.hid xM; clear xM
    clear XX
    have XX := Lib.hid xX; clear xX
    clear XY
    have XY := Lib.hid xY; clear xY
    have Hb := Lib.hid hb; clear hb
    have yM0 := cells_at XM.out 0
    have yM1 := cells_at XM.out 1
    have yM2 := cells_at XM.out 2
    have yM3 := cells_at XM.out 3
    go_wp2
    go_ret
    exact ⟨rfl, Hb.out⟩
  · go_enter Try.func6, Try.ntmps6
    go_wp2_with fail
    rw [← hb0]
    clear hb0
    refine (alive_calls).mono ?_
    rintro e w1 ⟨rfl, bk⟩
    have xM := keepAt XM.out bk
    have hb := Hb.out.trans (bk.mono Hb.out.size)
    clear Hb bk
    clear XM
    have XM := Lib.hid xM; clear xM
    have Hb := Lib.hid hb; clear hb
    have yM0 := cells_at XM.out 0
    have yM1 := cells_at XM.out 1
    have yM2 := cells_at XM.out 2
    have yM3 := cells_at XM.out 3
    go_wp2_with fail
    refine (R1.out _).mono ?_
    rintro e w2 ⟨rfl, bk⟩
    clear yM0 yM1 yM2 yM3
    have xM := keepAt XM.out bk
    have hb := Hb.out.trans (bk.mono Hb.out.size)
    clear Hb bk
    clear XM
    have XM := Lib.hid xM; clear xM
    have Hb := Lib.hid hb; clear hb
    have z1 := heap_alloc_new w2 (.cells #[.int .i64 2, .int .i64 p, .int .i64 t, .int .i64 0] 23)
    have f1 := frozen_of_row _ w2.heap.size 3 _ _ z1
    have c1 := cells_at z1 3
    clear z1
    have hs : (w2.alloc (.cells #[.int .i64 2, .int .i64 p, .int .i64 t, .int .i64 3] 23)).heap.size = w2.heap.size + 1 := World.size_alloc _ _
    have z2 := heap_alloc_new (w2.alloc (.cells #[.int .i64 2, .int .i64 p, .int .i64 t, .int .i64 3] 23)) (.cells #[.int .i64 2, .int .i64 p, .int .i64 t, .int .i64 0] 23)
    have z5 := heap_alloc_new (w2.alloc (.cells #[.int .i64 2, .int .i64 p, .int .i64 t, .int .i64 3] 23)) (.cells #[.int .i64 2, .int .i64 p, .int .i64 t, .int .i64 0] 23)
    rw [hs] at z2 z5
    have f2 := frozen_of_row _ (w2.heap.size + 1) 3 _ _ z2
    have c2 := cells_at z2 3
    clear z2 hs
    have yM0 := cells_at XM.out 0
    have yM1 := cells_at XM.out 1
    have yM2 := cells_at XM.out 2
    have yM3 := cells_at XM.out 3
    have bk : Below w2.heap.size w2 (w2.alloc (.cells #[.int .i64 2, .int .i64 p, .int .i64 t, .int .i64 3] 23)) := (Below.refl _ _).alloc (Nat.le_refl _) _
    have b2 : Below (w2.alloc (.cells #[.int .i64 2, .int .i64 p, .int .i64 t, .int .i64 3] 23)).heap.size (w2.alloc (.cells #[.int .i64 2, .int .i64 p, .int .i64 t, .int .i64 3] 23)) ((w2.alloc (.cells #[.int .i64 2, .int .i64 p, .int .i64 t, .int .i64 3] 23)).alloc (.cells #[.int .i64 2, .int .i64 p, .int .i64 t, .int .i64 0] 23)) := (Below.refl _ _).alloc (Nat.le_refl _) _
    have z4 := heap_alloc_new w2 (.cells #[.int .i64 2, .int .i64 p, .int .i64 t, .int .i64 3] 23)
    have z3 := keepAt XM.out bk
    have xM := keepAt z3 b2
    have xX := keepAt z4 b2
    have hb := Hb.out.trans ((bk.trans (b2.mono bk.size)).mono Hb.out.size)
    clear Hb bk b2 z4 XM
    have u0 := cells_at z3 0
    have u1 := cells_at z3 1
    have u2 := cells_at z3 2
    have u3 := cells_at z3 3
    clear z3
    have XM := Lib.hid xM
    have XX := Lib.hid xX
    have XY := Lib.hid z5
    have Hb := Lib.hid hb
    clear xX z5 hb
    have v0 := cells_at xM 0
    have v1 := cells_at xM 1
    have v2 := cells_at xM 2
    have v3 := cells_at xM 3
    clear xM
    go_wp2_with fail
    clear f1 c1 f2 c2 yM0 yM1 yM2 yM3 u0 u1 u2 u3 v0 v1 v2 v3
    generalize (w2.alloc (.cells #[.int .i64 2, .int .i64 p, .int .i64 t, .int .i64 3] 23)).alloc (.cells #[.int .i64 2, .int .i64 p, .int .i64 t, .int .i64 0] 23) = w3 at *
    generalize w2.heap.size = g2 at *
    refine (U1.out _).mono ?_
    rintro e w4 ⟨rfl, bk⟩
    have xM := keepAt XM.out bk
    have xX := keepAt XX.out bk
    have xY := keepAt XY.out bk
    have hb := Hb.out.trans (bk.mono Hb.out.size)
    clear Hb bk
    clear XM
    have XM := Lib.hid xM; clear xM
    clear XX
    have XX := Lib.hid xX; clear xX
    clear XY
    have XY := Lib.hid xY; clear xY
    have Hb := Lib.hid hb; clear hb
    have yX0 := cells_at XX.out 0
    have yX1 := cells_at XX.out 1
    have yX2 := cells_at XX.out 2
    have yX3 := cells_at XX.out 3
    go_wp2_with fail
    refine (R2.out _).mono ?_
    rintro e w5 ⟨rfl, bk⟩
    clear yX0 yX1 yX2 yX3
    have xM := keepAt XM.out bk
    have xX := keepAt XX.out bk
    have xY := keepAt XY.out bk
    have hb := Hb.out.trans (bk.mono Hb.out.size)
    clear Hb bk
    clear XM
    have XM := Lib.hid xM; clear xM
    clear XX
    have XX := Lib.hid xX; clear xX
    clear XY
    have XY := Lib.hid xY; clear xY
    have Hb := Lib.hid hb; clear hb
    have yY0 := cells_at XY.out 0
    have yY1 := cells_at XY.out 1
    have yY2 := cells_at XY.out 2
    have yY3 := cells_at XY.out 3
    go_wp2_with fail
    refine (R1.out _).mono ?_
    rintro e w6 ⟨rfl, bk⟩
    clear yY0 yY1 yY2 yY3
    have xM := keepAt XM.out bk
    have xX := keepAt XX.out bk
    have xY := keepAt XY.out bk
    have hb := Hb.out.trans (bk.mono Hb.out.size)
    clear Hb bk
    clear XM
    have XM := Lib.hid xM; clear xM
    clear XX
    have XX := Lib.hid xX; clear xX
    clear XY
    have XY := Lib.hid xY; clear xY
    have Hb := Lib.hid hb; clear hb
    have yM0 := cells_at XM.out 0
    have yM1 := cells_at XM.out 1
    have yM2 := cells_at XM.out 2
    have yM3 := cells_at XM.out 3
    go_wp2
    go_ret
    exact ⟨rfl, Hb.out⟩
  · go_enter Try.func6, Try.ntmps6
    go_wp2_with fail
    rw [← hb0]
    clear hb0
    refine (alive_calls).mono ?_
    rintro e w1 ⟨rfl, bk⟩
    have xM := keepAt XM.out bk
    have hb := Hb.out.trans (bk.mono Hb.out.size)
    clear Hb bk
    clear XM
    have XM := Lib.hid xM; clear xM
    have Hb := Lib.hid hb; clear hb
    have yM0 := cells_at XM.out 0
    have yM1 := cells_at XM.out 1
    have yM2 := cells_at XM.out 2
    have yM3 := cells_at XM.out 3
    go_wp2_with fail
    refine (R1.out _).mono ?_
    rintro e w2 ⟨rfl, bk⟩
    clear yM0 yM1 yM2 yM3
    have xM := keepAt XM.out bk
    have hb := Hb.out.trans (bk.mono Hb.out.size)
    clear Hb bk
    clear XM
    have XM := Lib.hid xM; clear xM
    have Hb := Lib.hid hb; clear hb
    have z1 := heap_alloc_new w2 (.cells #[.int .i64 3, .int .i64 p, .int .i64 t, .int .i64 0] 23)
    have f1 := frozen_of_row _ w2.heap.size 3 _ _ z1
    have c1 := cells_at z1 3
    clear z1
    have hs : (w2.alloc (.cells #[.int .i64 3, .int .i64 p, .int .i64 t, .int .i64 3] 23)).heap.size = w2.heap.size + 1 := World.size_alloc _ _
    have z2 := heap_alloc_new (w2.alloc (.cells #[.int .i64 3, .int .i64 p, .int .i64 t, .int .i64 3] 23)) (.cells #[.int .i64 3, .int .i64 p, .int .i64 t, .int .i64 0] 23)
    have z5 := heap_alloc_new (w2.alloc (.cells #[.int .i64 3, .int .i64 p, .int .i64 t, .int .i64 3] 23)) (.cells #[.int .i64 3, .int .i64 p, .int .i64 t, .int .i64 0] 23)
    rw [hs] at z2 z5
    have f2 := frozen_of_row _ (w2.heap.size + 1) 3 _ _ z2
    have c2 := cells_at z2 3
    clear z2 hs
    have yM0 := cells_at XM.out 0
    have yM1 := cells_at XM.out 1
    have yM2 := cells_at XM.out 2
    have yM3 := cells_at XM.out 3
    have bk : Below w2.heap.size w2 (w2.alloc (.cells #[.int .i64 3, .int .i64 p, .int .i64 t, .int .i64 3] 23)) := (Below.refl _ _).alloc (Nat.le_refl _) _
    have b2 : Below (w2.alloc (.cells #[.int .i64 3, .int .i64 p, .int .i64 t, .int .i64 3] 23)).heap.size (w2.alloc (.cells #[.int .i64 3, .int .i64 p, .int .i64 t, .int .i64 3] 23)) ((w2.alloc (.cells #[.int .i64 3, .int .i64 p, .int .i64 t, .int .i64 3] 23)).alloc (.cells #[.int .i64 3, .int .i64 p, .int .i64 t, .int .i64 0] 23)) := (Below.refl _ _).alloc (Nat.le_refl _) _
    have z4 := heap_alloc_new w2 (.cells #[.int .i64 3, .int .i64 p, .int .i64 t, .int .i64 3] 23)
    have z3 := keepAt XM.out bk
    have xM := keepAt z3 b2
    have xX := keepAt z4 b2
    have hb := Hb.out.trans ((bk.trans (b2.mono bk.size)).mono Hb.out.size)
    clear Hb bk b2 z4 XM
    have u0 := cells_at z3 0
    have u1 := cells_at z3 1
    have u2 := cells_at z3 2
    have u3 := cells_at z3 3
    clear z3
    have XM := Lib.hid xM
    have XX := Lib.hid xX
    have XY := Lib.hid z5
    have Hb := Lib.hid hb
    clear xX z5 hb
    have v0 := cells_at xM 0
    have v1 := cells_at xM 1
    have v2 := cells_at xM 2
    have v3 := cells_at xM 3
    clear xM
    go_wp2_with fail
    clear f1 c1 f2 c2 yM0 yM1 yM2 yM3 u0 u1 u2 u3 v0 v1 v2 v3
    generalize (w2.alloc (.cells #[.int .i64 3, .int .i64 p, .int .i64 t, .int .i64 3] 23)).alloc (.cells #[.int .i64 3, .int .i64 p, .int .i64 t, .int .i64 0] 23) = w3 at *
    generalize w2.heap.size = g2 at *
    refine (U1.out _).mono ?_
    rintro e w4 ⟨rfl, bk⟩
    have xM := keepAt XM.out bk
    have xX := keepAt XX.out bk
    have xY := keepAt XY.out bk
    have hb := Hb.out.trans (bk.mono Hb.out.size)
    clear Hb bk
    clear XM
    have XM := Lib.hid xM; clear xM
    clear XX
    have XX := Lib.hid xX; clear xX
    clear XY
    have XY := Lib.hid xY; clear xY
    have Hb := Lib.hid hb; clear hb
    have yX0 := cells_at XX.out 0
    have yX1 := cells_at XX.out 1
    have yX2 := cells_at XX.out 2
    have yX3 := cells_at XX.out 3
    go_wp2_with fail
    refine (R2.out _).mono ?_
    rintro e w5 ⟨rfl, bk⟩
    clear yX0 yX1 yX2 yX3
    have xM := keepAt XM.out bk
    have xX := keepAt XX.out bk
    have xY := keepAt XY.out bk
    have hb := Hb.out.trans (bk.mono Hb.out.size)
    clear Hb bk
    clear XM
    have XM := Lib.hid xM; clear xM
    clear XX
    have XX := Lib.hid xX; clear xX
    clear XY
    have XY := Lib.hid xY; clear xY
    have Hb := Lib.hid hb; clear hb
    have yY0 := cells_at XY.out 0
    have yY1 := cells_at XY.out 1
    have yY2 := cells_at XY.out 2
    have yY3 := cells_at XY.out 3
    go_wp2_with fail
    refine (R1.out _).mono ?_
    rintro e w6 ⟨rfl, bk⟩
    clear yY0 yY1 yY2 yY3
    have xM := keepAt XM.out bk
    have xX := keepAt XX.out bk
    have xY := keepAt XY.out bk
    have hb := Hb.out.trans (bk.mono Hb.out.size)
    clear Hb bk
    clear XM
    have XM := Lib.hid xM; clear xM
    clear XX
    have XX := Lib.hid xX; clear xX
    clear XY
    have XY := Lib.hid xY; clear xY
    have Hb := Lib.hid hb; clear hb
    have yM0 := cells_at XM.out 0
    have yM1 := cells_at XM.out 1
    have yM2 := cells_at XM.out 2
    have yM3 := cells_at XM.out 3
    go_wp2
    go_ret
    exact ⟨rfl, Hb.out⟩
  · go_enter Try.func6, Try.ntmps6
    go_wp2_with fail
    rw [← hb0]
    clear hb0
    refine (alive_calls).mono ?_
    rintro e w1 ⟨rfl, bk⟩
    have xM := keepAt XM.out bk
    have hb := Hb.out.trans (bk.mono Hb.out.size)
    clear Hb bk
    clear XM
    have XM := Lib.hid xM; clear xM
    have Hb := Lib.hid hb; clear hb
    have yM0 := cells_at XM.out 0
    have yM1 := cells_at XM.out 1
    have yM2 := cells_at XM.out 2
    have yM3 := cells_at XM.out 3
    go_wp2_with fail
    refine (R1.out _).mono ?_
    rintro e w2 ⟨rfl, bk⟩
    clear yM0 yM1 yM2 yM3
    have xM := keepAt XM.out bk
    have hb := Hb.out.trans (bk.mono Hb.out.size)
    clear Hb bk
    clear XM
    have XM := Lib.hid xM; clear xM
    have Hb := Lib.hid hb; clear hb
    have z1 := heap_alloc_new w2 (.cells #[.int .i64 5, .int .i64 p, .int .i64 t, .int .i64 0] 23)
    have f1 := frozen_of_row _ w2.heap.size 3 _ _ z1
    have c1 := cells_at z1 3
    clear z1
    have hs : (w2.alloc (.cells #[.int .i64 5, .int .i64 p, .int .i64 t, .int .i64 3] 23)).heap.size = w2.heap.size + 1 := World.size_alloc _ _
    have z2 := heap_alloc_new (w2.alloc (.cells #[.int .i64 5, .int .i64 p, .int .i64 t, .int .i64 3] 23)) (.cells #[.int .i64 5, .int .i64 p, .int .i64 t, .int .i64 0] 23)
    have z5 := heap_alloc_new (w2.alloc (.cells #[.int .i64 5, .int .i64 p, .int .i64 t, .int .i64 3] 23)) (.cells #[.int .i64 5, .int .i64 p, .int .i64 t, .int .i64 0] 23)
    rw [hs] at z2 z5
    have f2 := frozen_of_row _ (w2.heap.size + 1) 3 _ _ z2
    have c2 := cells_at z2 3
    clear z2 hs
    have yM0 := cells_at XM.out 0
    have yM1 := cells_at XM.out 1
    have yM2 := cells_at XM.out 2
    have yM3 := cells_at XM.out 3
    have bk : Below w2.heap.size w2 (w2.alloc (.cells #[.int .i64 5, .int .i64 p, .int .i64 t, .int .i64 3] 23)) := (Below.refl _ _).alloc (Nat.le_refl _) _
    have b2 : Below (w2.alloc (.cells #[.int .i64 5, .int .i64 p, .int .i64 t, .int .i64 3] 23)).heap.size (w2.alloc (.cells #[.int .i64 5, .int .i64 p, .int .i64 t, .int .i64 3] 23)) ((w2.alloc (.cells #[.int .i64 5, .int .i64 p, .int .i64 t, .int .i64 3] 23)).alloc (.cells #[.int .i64 5, .int .i64 p, .int .i64 t, .int .i64 0] 23)) := (Below.refl _ _).alloc (Nat.le_refl _) _
    have z4 := heap_alloc_new w2 (.cells #[.int .i64 5, .int .i64 p, .int .i64 t, .int .i64 3] 23)
    have z3 := keepAt XM.out bk
    have xM := keepAt z3 b2
    have xX := keepAt z4 b2
    have hb := Hb.out.trans ((bk.trans (b2.mono bk.size)).mono Hb.out.size)
    clear Hb bk b2 z4 XM
    have u0 := cells_at z3 0
    have u1 := cells_at z3 1
    have u2 := cells_at z3 2
    have u3 := cells_at z3 3
    clear z3
    have XM := Lib.hid xM
    have XX := Lib.hid xX
    have XY := Lib.hid z5
    have Hb := Lib.hid hb
    clear xX z5 hb
    have v0 := cells_at xM 0
    have v1 := cells_at xM 1
    have v2 := cells_at xM 2
    have v3 := cells_at xM 3
    clear xM
    go_wp2_with fail
    clear f1 c1 f2 c2 yM0 yM1 yM2 yM3 u0 u1 u2 u3 v0 v1 v2 v3
    generalize (w2.alloc (.cells #[.int .i64 5, .int .i64 p, .int .i64 t, .int .i64 3] 23)).alloc (.cells #[.int .i64 5, .int .i64 p, .int .i64 t, .int .i64 0] 23) = w3 at *
    generalize w2.heap.size = g2 at *
    refine (U1.out _).mono ?_
    rintro e w4 ⟨rfl, bk⟩
    have xM := keepAt XM.out bk
    have xX := keepAt XX.out bk
    have xY := keepAt XY.out bk
    have hb := Hb.out.trans (bk.mono Hb.out.size)
    clear Hb bk
    clear XM
    have XM := Lib.hid xM; clear xM
    clear XX
    have XX := Lib.hid xX; clear xX
    clear XY
    have XY := Lib.hid xY; clear xY
    have Hb := Lib.hid hb; clear hb
    have yX0 := cells_at XX.out 0
    have yX1 := cells_at XX.out 1
    have yX2 := cells_at XX.out 2
    have yX3 := cells_at XX.out 3
    go_wp2_with fail
    refine (R2.out _).mono ?_
    rintro e w5 ⟨rfl, bk⟩
    clear yX0 yX1 yX2 yX3
    have xM := keepAt XM.out bk
    have xX := keepAt XX.out bk
    have xY := keepAt XY.out bk
    have hb := Hb.out.trans (bk.mono Hb.out.size)
    clear Hb bk
    clear XM
    have XM := Lib.hid xM; clear xM
    clear XX
    have XX := Lib.hid xX; clear xX
    clear XY
    have XY := Lib.hid xY; clear xY
    have Hb := Lib.hid hb; clear hb
    have yY0 := cells_at XY.out 0
    have yY1 := cells_at XY.out 1
    have yY2 := cells_at XY.out 2
    have yY3 := cells_at XY.out 3
    go_wp2_with fail
    refine (R1.out _).mono ?_
    rintro e w6 ⟨rfl, bk⟩
    clear yY0 yY1 yY2 yY3
    have xM := keepAt XM.out bk
    have xX := keepAt XX.out bk
    have xY := keepAt XY.out bk
    have hb := Hb.out.trans (bk.mono Hb.out.size)
    clear Hb bk
    clear XM
    have XM := Lib.hid xM; clear xM
    clear XX
    have XX := Lib.hid xX; clear xX
    clear XY
    have XY := Lib.hid xY; clear xY
    have Hb := Lib.hid hb; clear hb
    have yM0 := cells_at XM.out 0
    have yM1 := cells_at XM.out 1
    have yM2 := cells_at XM.out 2
    have yM3 := cells_at XM.out 3
    go_wp2
    go_ret
    exact ⟨rfl, Hb.out⟩
end Go.Proofs.Ytdaaphebfhlpmaa
