/- The law NoteBack. -/
import Derived.Test.YtdaaphebfhlpmaaNoteL5
namespace Go.Proofs.Ytdaaphebfhlpmaa
open Go.RowKit

theorem noteW_yes {a : Msg} (h : rightOf a = true) : noteW a = wordN a := if_pos h
theorem noteW_no {a : Msg} (h : rightOf a = false) : noteW a = 0 := if_neg (by rw [h]; decide)
theorem noteE_no {a : Msg} (h : rightOf a = false) : noteE a = [] := if_neg (by rw [h]; decide)
theorem back_ways {a b : Msg} (ha : rightOf a = true) (hb : rightOf b = true) : ∃ D L : Bool, decide (a = b) = D ∧ ((noteW a : Int) == (noteW b : Int)) = D ∧ (noteW a == noteW b) = D ∧ decide ((noteW a : Int) < (noteW b : Int)) = L ∧ decide (noteW a < noteW b) = L ∧ (noteC a b == 0) = D ∧ decide (noteC a b < 0) = L := by
  rw [noteW_yes ha, noteW_yes hb]
  have hi := word_inj ha hb
  have hc := noteC_yes ha hb
  refine ⟨decide (a = b), decide (wordN a < wordN b), rfl, ?_, ?_, ?_, rfl, ?_, ?_⟩
  · rw [Bool.eq_iff_iff, beq_iff_eq, decide_eq_true_iff, ← hi]; omega
  · rw [Bool.eq_iff_iff, beq_iff_eq, decide_eq_true_iff, ← hi]
  · rw [Bool.eq_iff_iff, decide_eq_true_iff, decide_eq_true_iff]; omega
  · rw [Bool.eq_iff_iff, beq_iff_eq, decide_eq_true_iff, ← hi, hc]
    by_cases h1 : wordN a < wordN b
    · rw [if_pos h1]; exact ⟨fun h => absurd h (by decide), fun h => absurd h (Nat.ne_of_lt h1)⟩
    rw [if_neg h1]
    by_cases h2 : wordN b < wordN a
    · rw [if_pos h2]; exact ⟨fun h => absurd h (by decide), fun h => absurd h (Nat.ne_of_gt h2)⟩
    · rw [if_neg h2]; exact ⟨fun _ => by omega, fun _ => rfl⟩
  · rw [Bool.eq_iff_iff, decide_eq_true_iff, decide_eq_true_iff, hc]
    by_cases h1 : wordN a < wordN b
    · rw [if_pos h1]; exact ⟨fun _ => h1, fun _ => by decide⟩
    rw [if_neg h1]
    by_cases h2 : wordN b < wordN a
    · rw [if_pos h2]; exact ⟨fun h => absurd h (by decide), fun h => absurd h h1⟩
    · rw [if_neg h2]; exact ⟨fun h => absurd h (by decide), fun h => absurd h h1⟩
set_option maxHeartbeats 8000000 in
set_option maxRecDepth 100000 in
theorem lawNoteBack {w : World} {a b : Msg} (_ha : a.ok) (_hb : b.ok) : Calls Try.prog 4 #[.agg a.cells.toArray, .agg b.cells.toArray] w fun e w' => e = .returned (.bool true) ∧ Below w.heap.size w w' := by
  clear _ha _hb
  have h1 := fun w : World => Word_calls (w := w) a
  have h2 := fun w : World => Right_calls (w := w) a
  have h3 := fun w : World => Of_calls (w := w) (noteW_lt a)
  have h4 := fun w : World => Encode_calls (w := w) a
  have h5 := fun (w : World) s c (hi : Ints w .u8 s 7 c (noteE a)) => Decode_calls hi (by decide)
  have h6 := fun w : World => Word_calls (w := w) b
  have o1 := fun w : World => Order_calls (w := w) a b
  have q1 := fun w => msg_eql w a a
  have g1 := fun x y w => msg_guard .eql x y a a w
  have q2 := fun w => msg_eql w a b
  have g2 := fun x y w => msg_guard .eql x y a b w
  have ds : (rightOf a = false ∧ noteW a = 0 ∧ noteE a = []) ∨ (rightOf a = true ∧ (noteE a).length = 7 ∧ a = noteO (noteW a) ∧ noteB (noteW a) = true ∧ noteD (noteE a) = (a, true) ∧ (rightOf b = false ∨ (rightOf b = true ∧ 
      ∃ D L : Bool, decide (a = b) = D ∧ ((noteW a : Int) == (noteW b : Int)) = D ∧ (noteW a == noteW b) = D ∧ decide ((noteW a : Int) < (noteW b : Int)) = L ∧ decide (noteW a < noteW b) = L ∧ (noteC a b == 0) = D ∧ decide (noteC a b < 0) = L))) := by
    cases ha : rightOf a
    · exact .inl ⟨rfl, noteW_no ha, noteE_no ha⟩
    refine .inr ⟨rfl, (noteE_yes ha).2, by rw [noteW_yes ha]; exact (noteO_word ha).2.symm, by rw [noteW_yes ha]; exact (noteO_word ha).1, noteD_E ha, ?_⟩
    cases hb : rightOf b
    · exact .inl rfl
    · exact .inr ⟨rfl, back_ways ha hb⟩
  generalize noteD (noteE a) = D0 at *
  generalize noteO (noteW a) = O at *
  generalize noteB (noteW a) = OB at *
  generalize noteW a = W at *
  generalize noteW b = V at *
  generalize rightOf a = R at *
  generalize rightOf b = RB at *
  generalize noteE a = E at *
  generalize noteC a b = C at *
  generalize decide (a = b) = AB at *
  rcases ds with ⟨rfl, rfl, rfl⟩ | ⟨rfl, hl, rfl, rfl, rfl, rfl | ⟨rfl, D, L, rfl, e1, e2, l1, l2, c1, c2⟩⟩
  · obtain ⟨a1, a2, a3, a4⟩ := a
    obtain ⟨b1, b2, b3, b4⟩ := b
    simp only [Msg.cells, Msg.kind, Msg.part, Msg.tx, Msg.what, decide_true] at h1 h2 h3 h4 h5 h6 o1 q1 g1 q2 g2 ⊢
    have H1 := Lib.hid h1; clear h1
    have H2 := Lib.hid h2; clear h2
    have H3 := Lib.hid h3; clear h3
    have H4 := Lib.hid h4; clear h4
    have H5 := Lib.hid h5; clear h5
    have H6 := Lib.hid h6; clear h6
    have O1 := Lib.hid o1; clear o1
    have Q1 := Lib.hid q1; clear q1
    have G1 := Lib.hid g1; clear g1
    have Q2 := Lib.hid q2; clear q2
    have G2 := Lib.hid g2; clear g2
    have Hb := Lib.hid (Below.refl w.heap.size w)
    obtain ⟨o0, hb0⟩ : ∃ wz : World, wz = w.alloc (.cells #[.int .i64 a1, .int .i64 a2, .int .i64 a3, .int .i64 a4] 23) := ⟨_, rfl⟩
    have bk : Below w.heap.size w o0 := by rw [hb0]; exact (Below.refl _ _).alloc (Nat.le_refl _) _
    have s0 : o0.heap.size = w.heap.size + 1 := by rw [hb0, World.size_alloc]
    have zA : o0.heap[w.heap.size]? = some (.cells #[.int .i64 a1, .int .i64 a2, .int .i64 a3, .int .i64 a4] 23 (0, 0)) := by
      have := heap_alloc_new w (.cells #[.int .i64 a1, .int .i64 a2, .int .i64 a3, .int .i64 a4] 23)
      rw [← hb0] at this
      exact this
    have hb := Hb.out.trans (bk.mono Hb.out.size)
    clear Hb bk
    have Hb := Lib.hid hb; clear hb
    have XA := Lib.hid zA; clear zA
    obtain ⟨o1, hb1⟩ : ∃ wz : World, wz = o0.alloc (.cells #[.int .i64 b1, .int .i64 b2, .int .i64 b3, .int .i64 b4] 23) := ⟨_, rfl⟩
    have bk : Below o0.heap.size o0 o1 := by rw [hb1]; exact (Below.refl _ _).alloc (Nat.le_refl _) _
    have s1 : o1.heap.size = w.heap.size + 2 := by rw [hb1, World.size_alloc]; omega
    have zB : o1.heap[w.heap.size + 1]? = some (.cells #[.int .i64 b1, .int .i64 b2, .int .i64 b3, .int .i64 b4] 23 (0, 0)) := by
      have := heap_alloc_new o0 (.cells #[.int .i64 b1, .int .i64 b2, .int .i64 b3, .int .i64 b4] 23)
      rw [← hb1, s0] at this
      exact this
    have xA := keepAt XA.out bk
    have hb := Hb.out.trans (bk.mono Hb.out.size)
    clear Hb bk
    clear XA
    have XA := Lib.hid xA; clear xA
    have Hb := Lib.hid hb; clear hb
    have XB := Lib.hid zB; clear zB
    clear s0 s1
    go_enter Try.func4, Try.ntmps4
    go_wp2_with fail
    rw [← hb0, ← hb1]
    clear hb0 hb1
    refine (alive_calls).mono ?_
    rintro e w1 ⟨rfl, bk⟩
    have xA := keepAt XA.out bk
    have xB := keepAt XB.out bk
    have hb := Hb.out.trans (bk.mono Hb.out.size)
    clear Hb bk
    clear XA
    have XA := Lib.hid xA; clear xA
    clear XB
    have XB := Lib.hid xB; clear xB
    have Hb := Lib.hid hb; clear hb
    have yA0 := cells_at XA.out 0
    have yA1 := cells_at XA.out 1
    have yA2 := cells_at XA.out 2
    have yA3 := cells_at XA.out 3
    go_wp2_with fail
    refine (H1.out _).mono ?_
    rintro e w2 ⟨rfl, bk⟩
    clear yA0 yA1 yA2 yA3
    have xA := keepAt XA.out bk
    have xB := keepAt XB.out bk
    have hb := Hb.out.trans (bk.mono Hb.out.size)
    clear Hb bk
    clear XA
    have XA := Lib.hid xA; clear xA
    clear XB
    have XB := Lib.hid xB; clear xB
    have Hb := Lib.hid hb; clear hb
    have yA0 := cells_at XA.out 0
    have yA1 := cells_at XA.out 1
    have yA2 := cells_at XA.out 2
    have yA3 := cells_at XA.out 3
    go_wp2_with fail
    refine (H2.out _).mono ?_
    rintro e w3 ⟨rfl, bk⟩
    clear yA0 yA1 yA2 yA3
    have xA := keepAt XA.out bk
    have xB := keepAt XB.out bk
    have hb := Hb.out.trans (bk.mono Hb.out.size)
    clear Hb bk
    clear XA
    have XA := Lib.hid xA; clear xA
    clear XB
    have XB := Lib.hid xB; clear xB
    have Hb := Lib.hid hb; clear hb
    have yA0 := cells_at XA.out 0
    have yA1 := cells_at XA.out 1
    have yA2 := cells_at XA.out 2
    have yA3 := cells_at XA.out 3
    go_wp2_with fail
    refine (H4.out _).mono ?_
    rintro e w4 ⟨v, rfl, ov, bk⟩
    clear yA0 yA1 yA2 yA3
    have xA := keepAt XA.out bk
    have xB := keepAt XB.out bk
    have hb := Hb.out.trans (bk.mono Hb.out.size)
    clear Hb bk
    clear XA
    have XA := Lib.hid xA; clear xA
    clear XB
    have XB := Lib.hid xB; clear xB
    have Hb := Lib.hid hb; clear hb
    obtain ⟨pa, pc, rfl, -, -⟩ := ov.ints
    clear ov
    simp only [List.length_nil]
    go_wp2
    go_ret
    exact ⟨rfl, Hb.out⟩
  · obtain ⟨a1, a2, a3, a4⟩ := a
    obtain ⟨b1, b2, b3, b4⟩ := b
    simp only [Msg.cells, Msg.kind, Msg.part, Msg.tx, Msg.what, decide_true] at h1 h2 h3 h4 h5 h6 o1 q1 g1 q2 g2 ⊢
    have H1 := Lib.hid h1; clear h1
    have H2 := Lib.hid h2; clear h2
    have H3 := Lib.hid h3; clear h3
    have H4 := Lib.hid h4; clear h4
    have H5 := Lib.hid h5; clear h5
    have H6 := Lib.hid h6; clear h6
    have O1 := Lib.hid o1; clear o1
    have Q1 := Lib.hid q1; clear q1
    have G1 := Lib.hid g1; clear g1
    have Q2 := Lib.hid q2; clear q2
    have G2 := Lib.hid g2; clear g2
    have Hb := Lib.hid (Below.refl w.heap.size w)
    obtain ⟨o0, hb0⟩ : ∃ wz : World, wz = w.alloc (.cells #[.int .i64 a1, .int .i64 a2, .int .i64 a3, .int .i64 a4] 23) := ⟨_, rfl⟩
    have bk : Below w.heap.size w o0 := by rw [hb0]; exact (Below.refl _ _).alloc (Nat.le_refl _) _
    have s0 : o0.heap.size = w.heap.size + 1 := by rw [hb0, World.size_alloc]
    have zA : o0.heap[w.heap.size]? = some (.cells #[.int .i64 a1, .int .i64 a2, .int .i64 a3, .int .i64 a4] 23 (0, 0)) := by
      have := heap_alloc_new w (.cells #[.int .i64 a1, .int .i64 a2, .int .i64 a3, .int .i64 a4] 23)
      rw [← hb0] at this
      exact this
    have hb := Hb.out.trans (bk.mono Hb.out.size)
    clear Hb bk
    have Hb := Lib.hid hb; clear hb
    have XA := Lib.hid zA; clear zA
    obtain ⟨o1, hb1⟩ : ∃ wz : World, wz = o0.alloc (.cells #[.int .i64 b1, .int .i64 b2, .int .i64 b3, .int .i64 b4] 23) := ⟨_, rfl⟩
    have bk : Below o0.heap.size o0 o1 := by rw [hb1]; exact (Below.refl _ _).alloc (Nat.le_refl _) _
    have s1 : o1.heap.size = w.heap.size + 2 := by rw [hb1, World.size_alloc]; omega
    have zB : o1.heap[w.heap.size + 1]? = some (.cells #[.int .i64 b1, .int .i64 b2, .int .i64 b3, .int .i64 b4] 23 (0, 0)) := by
      have := heap_alloc_new o0 (.cells #[.int .i64 b1, .int .i64 b2, .int .i64 b3, .int .i64 b4] 23)
      rw [← hb1, s0] at this
      exact this
    have xA := keepAt XA.out bk
    have hb := Hb.out.trans (bk.mono Hb.out.size)
    clear Hb bk
    clear XA
    have XA := Lib.hid xA; clear xA
    have Hb := Lib.hid hb; clear hb
    have XB := Lib.hid zB; clear zB
    clear s0 s1
    go_enter Try.func4, Try.ntmps4
    go_wp2_with fail
    rw [← hb0, ← hb1]
    clear hb0 hb1
    refine (alive_calls).mono ?_
    rintro e w1 ⟨rfl, bk⟩
    have xA := keepAt XA.out bk
    have xB := keepAt XB.out bk
    have hb := Hb.out.trans (bk.mono Hb.out.size)
    clear Hb bk
    clear XA
    have XA := Lib.hid xA; clear xA
    clear XB
    have XB := Lib.hid xB; clear xB
    have Hb := Lib.hid hb; clear hb
    have yA0 := cells_at XA.out 0
    have yA1 := cells_at XA.out 1
    have yA2 := cells_at XA.out 2
    have yA3 := cells_at XA.out 3
    go_wp2_with fail
    refine (H1.out _).mono ?_
    rintro e w2 ⟨rfl, bk⟩
    clear yA0 yA1 yA2 yA3
    have xA := keepAt XA.out bk
    have xB := keepAt XB.out bk
    have hb := Hb.out.trans (bk.mono Hb.out.size)
    clear Hb bk
    clear XA
    have XA := Lib.hid xA; clear xA
    clear XB
    have XB := Lib.hid xB; clear xB
    have Hb := Lib.hid hb; clear hb
    have yA0 := cells_at XA.out 0
    have yA1 := cells_at XA.out 1
    have yA2 := cells_at XA.out 2
    have yA3 := cells_at XA.out 3
    go_wp2_with fail
    refine (H2.out _).mono ?_
    rintro e w3 ⟨rfl, bk⟩
    clear yA0 yA1 yA2 yA3
    have xA := keepAt XA.out bk
    have xB := keepAt XB.out bk
    have hb := Hb.out.trans (bk.mono Hb.out.size)
    clear Hb bk
    clear XA
    have XA := Lib.hid xA; clear xA
    clear XB
    have XB := Lib.hid xB; clear xB
    have Hb := Lib.hid hb; clear hb
    go_wp2_with fail
    refine (H3.out _).mono ?_
    rintro e w4 ⟨rfl, bk⟩
    have xA := keepAt XA.out bk
    have xB := keepAt XB.out bk
    have hb := Hb.out.trans (bk.mono Hb.out.size)
    clear Hb bk
    clear XA
    have XA := Lib.hid xA; clear xA
    clear XB
    have XB := Lib.hid xB; clear xB
    have Hb := Lib.hid hb; clear hb
    have bk := (Below.refl w4.heap.size w4).alloc (Nat.le_refl _) (.cells #[.int .i64 a1, .int .i64 a2, .int .i64 a3, .int .i64 a4] 23)
    have zO := heap_alloc_new w4 (.cells #[.int .i64 a1, .int .i64 a2, .int .i64 a3, .int .i64 a4] 23)
    have xA := keepAt XA.out bk
    have xB := keepAt XB.out bk
    have hb := Hb.out.trans (bk.mono Hb.out.size)
    clear Hb bk
    clear XA
    have XA := Lib.hid xA; clear xA
    clear XB
    have XB := Lib.hid xB; clear xB
    have Hb := Lib.hid hb; clear hb
    have XO := Lib.hid zO; clear zO
    have yA0 := cells_at XA.out 0
    have yA1 := cells_at XA.out 1
    have yA2 := cells_at XA.out 2
    have yA3 := cells_at XA.out 3
    go_wp2_with fail
    clear yA0 yA1 yA2 yA3
    generalize w4.heap.size = g4 at *
    generalize w4.alloc (.cells #[.int .i64 a1, .int .i64 a2, .int .i64 a3, .int .i64 a4] 23) = w5 at *
    refine (H4.out _).mono ?_
    rintro e w6 ⟨v, rfl, ov, bk⟩
    have xA := keepAt XA.out bk
    have xB := keepAt XB.out bk
    have xO := keepAt XO.out bk
    have hb := Hb.out.trans (bk.mono Hb.out.size)
    clear Hb bk
    clear XA
    have XA := Lib.hid xA; clear xA
    clear XB
    have XB := Lib.hid xB; clear xB
    clear XO
    have XO := Lib.hid xO; clear xO
    have Hb := Lib.hid hb; clear hb
    obtain ⟨pa, pc, rfl, iP, -⟩ := ov.ints
    clear ov
    rw [hl] at iP ⊢
    have IP := Lib.hid iP; clear iP
    have h5 := H5.out _ _ _ IP.out
    clear H5
    have H5 := Lib.hid h5; clear h5
    go_wp2_with fail
    refine (H5.out).mono ?_
    rintro e w7 ⟨rfl, bk⟩
    have xA := keepAt XA.out bk
    have xB := keepAt XB.out bk
    have xO := keepAt XO.out bk
    have iP := IP.out.keep bk
    have hb := Hb.out.trans (bk.mono Hb.out.size)
    clear Hb bk
    clear XA
    have XA := Lib.hid xA; clear xA
    clear XB
    have XB := Lib.hid xB; clear xB
    clear XO
    have XO := Lib.hid xO; clear xO
    clear IP
    have IP := Lib.hid iP; clear iP
    have Hb := Lib.hid hb; clear hb
    have bk := (Below.refl w7.heap.size w7).alloc (Nat.le_refl _) (.cells #[.int .i64 a1, .int .i64 a2, .int .i64 a3, .int .i64 a4] 23)
    have zD := heap_alloc_new w7 (.cells #[.int .i64 a1, .int .i64 a2, .int .i64 a3, .int .i64 a4] 23)
    have xA := keepAt XA.out bk
    have xB := keepAt XB.out bk
    have xO := keepAt XO.out bk
    have iP := IP.out.keep bk
    have hb := Hb.out.trans (bk.mono Hb.out.size)
    clear Hb bk
    clear XA
    have XA := Lib.hid xA; clear xA
    clear XB
    have XB := Lib.hid xB; clear xB
    clear XO
    have XO := Lib.hid xO; clear xO
    clear IP
    have IP := Lib.hid iP; clear iP
    have Hb := Lib.hid hb; clear hb
    have XD := Lib.hid zD; clear zD
    have yB0 := cells_at XB.out 0
    have yB1 := cells_at XB.out 1
    have yB2 := cells_at XB.out 2
    have yB3 := cells_at XB.out 3
    go_wp2_with fail
    clear yB0 yB1 yB2 yB3
    generalize w7.heap.size = g7 at *
    generalize w7.alloc (.cells #[.int .i64 a1, .int .i64 a2, .int .i64 a3, .int .i64 a4] 23) = w8 at *
    refine (H6.out _).mono ?_
    rintro e w9 ⟨rfl, bk⟩
    have xA := keepAt XA.out bk
    have xB := keepAt XB.out bk
    have xO := keepAt XO.out bk
    have xD := keepAt XD.out bk
    have iP := IP.out.keep bk
    have hb := Hb.out.trans (bk.mono Hb.out.size)
    clear Hb bk
    clear XA
    have XA := Lib.hid xA; clear xA
    clear XB
    have XB := Lib.hid xB; clear xB
    clear XO
    have XO := Lib.hid xO; clear xO
    clear XD
    have XD := Lib.hid xD; clear xD
    clear IP
    have IP := Lib.hid iP; clear iP
    have Hb := Lib.hid hb; clear hb
    go_wp2_with fail
    have q1 := Q1.out
    have g1 := G1.out
    have q2 := Q2.out
    have g2 := G2.out
    clear Q1 G1 Q2 G2 H1 H2 H3 H4 H5 H6
    have zA0 := cell_regrown (cells_at XA.out 0)
    have zA1 := cell_regrown (cells_at XA.out 1)
    have zA2 := cell_regrown (cells_at XA.out 2)
    have zA3 := cell_regrown (cells_at XA.out 3)
    have zB0 := cell_regrown (cells_at XB.out 0)
    have zB1 := cell_regrown (cells_at XB.out 1)
    have zB2 := cell_regrown (cells_at XB.out 2)
    have zB3 := cell_regrown (cells_at XB.out 3)
    have zO0 := cell_regrown (cells_at XO.out 0)
    have zO1 := cell_regrown (cells_at XO.out 1)
    have zO2 := cell_regrown (cells_at XO.out 2)
    have zO3 := cell_regrown (cells_at XO.out 3)
    have zD0 := cell_regrown (cells_at XD.out 0)
    have zD1 := cell_regrown (cells_at XD.out 1)
    have zD2 := cell_regrown (cells_at XD.out 2)
    have zD3 := cell_regrown (cells_at XD.out 3)
    refine wp_region_quiet_below (by kernel_rfl) (by kernel_rfl) ?_
    repeat (any_goals (first | go_big_quiet_step ((first
          | (go_at_call 18; exact Calls.regrown_of (O1.out _)))) | quiet_step ((first
          | (go_at_call 18; exact Calls.regrown_of (O1.out _))))))
    refine wpQuiet_nil ?_
    intro wq hwq
    have bk : Below w9.heap.size w9 wq := by obtain ⟨q, rfl⟩ := hwq; exact below_regrown _ _ _
    clear hwq zA0 zA1 zA2 zA3 zB0 zB1 zB2 zB3 zO0 zO1 zO2 zO3 zD0 zD1 zD2 zD3 
    clear q1 g1 q2 g2
    have xA := keepAt XA.out bk
    have xB := keepAt XB.out bk
    have xO := keepAt XO.out bk
    have xD := keepAt XD.out bk
    have iP := IP.out.keep bk
    have hb := Hb.out.trans (bk.mono Hb.out.size)
    clear Hb bk
    clear XA
    have XA := Lib.hid xA; clear xA
    clear XB
    have XB := Lib.hid xB; clear xB
    clear XO
    have XO := Lib.hid xO; clear xO
    clear XD
    have XD := Lib.hid xD; clear xD
    clear IP
    have IP := Lib.hid iP; clear iP
    have Hb := Lib.hid hb; clear hb
    go_wp2
    go_ret
    exact ⟨rfl, Hb.out⟩
  · obtain ⟨a1, a2, a3, a4⟩ := a
    obtain ⟨b1, b2, b3, b4⟩ := b
    simp only [Msg.cells, Msg.kind, Msg.part, Msg.tx, Msg.what, decide_true] at h1 h2 h3 h4 h5 h6 o1 q1 g1 q2 g2 ⊢
    have H1 := Lib.hid h1; clear h1
    have H2 := Lib.hid h2; clear h2
    have H3 := Lib.hid h3; clear h3
    have H4 := Lib.hid h4; clear h4
    have H5 := Lib.hid h5; clear h5
    have H6 := Lib.hid h6; clear h6
    have O1 := Lib.hid o1; clear o1
    have Q1 := Lib.hid q1; clear q1
    have G1 := Lib.hid g1; clear g1
    have Q2 := Lib.hid q2; clear q2
    have G2 := Lib.hid g2; clear g2
    have Hb := Lib.hid (Below.refl w.heap.size w)
    obtain ⟨o0, hb0⟩ : ∃ wz : World, wz = w.alloc (.cells #[.int .i64 a1, .int .i64 a2, .int .i64 a3, .int .i64 a4] 23) := ⟨_, rfl⟩
    have bk : Below w.heap.size w o0 := by rw [hb0]; exact (Below.refl _ _).alloc (Nat.le_refl _) _
    have s0 : o0.heap.size = w.heap.size + 1 := by rw [hb0, World.size_alloc]
    have zA : o0.heap[w.heap.size]? = some (.cells #[.int .i64 a1, .int .i64 a2, .int .i64 a3, .int .i64 a4] 23 (0, 0)) := by
      have := heap_alloc_new w (.cells #[.int .i64 a1, .int .i64 a2, .int .i64 a3, .int .i64 a4] 23)
      rw [← hb0] at this
      exact this
    have hb := Hb.out.trans (bk.mono Hb.out.size)
    clear Hb bk
    have Hb := Lib.hid hb; clear hb
    have XA := Lib.hid zA; clear zA
    obtain ⟨o1, hb1⟩ : ∃ wz : World, wz = o0.alloc (.cells #[.int .i64 b1, .int .i64 b2, .int .i64 b3, .int .i64 b4] 23) := ⟨_, rfl⟩
    have bk : Below o0.heap.size o0 o1 := by rw [hb1]; exact (Below.refl _ _).alloc (Nat.le_refl _) _
    have s1 : o1.heap.size = w.heap.size + 2 := by rw [hb1, World.size_alloc]; omega
    have zB : o1.heap[w.heap.size + 1]? = some (.cells #[.int .i64 b1, .int .i64 b2, .int .i64 b3, .int .i64 b4] 23 (0, 0)) := by
      have := heap_alloc_new o0 (.cells #[.int .i64 b1, .int .i64 b2, .int .i64 b3, .int .i64 b4] 23)
      rw [← hb1, s0] at this
      exact this
    have xA := keepAt XA.out bk
    have hb := Hb.out.trans (bk.mono Hb.out.size)
    clear Hb bk
    clear XA
    have XA := Lib.hid xA; clear xA
    have Hb := Lib.hid hb; clear hb
    have XB := Lib.hid zB; clear zB
    clear s0 s1
    go_enter Try.func4, Try.ntmps4
    go_wp2_with fail
    rw [← hb0, ← hb1]
    clear hb0 hb1
    refine (alive_calls).mono ?_
    rintro e w1 ⟨rfl, bk⟩
    have xA := keepAt XA.out bk
    have xB := keepAt XB.out bk
    have hb := Hb.out.trans (bk.mono Hb.out.size)
    clear Hb bk
    clear XA
    have XA := Lib.hid xA; clear xA
    clear XB
    have XB := Lib.hid xB; clear xB
    have Hb := Lib.hid hb; clear hb
    have yA0 := cells_at XA.out 0
    have yA1 := cells_at XA.out 1
    have yA2 := cells_at XA.out 2
    have yA3 := cells_at XA.out 3
    go_wp2_with fail
    refine (H1.out _).mono ?_
    rintro e w2 ⟨rfl, bk⟩
    clear yA0 yA1 yA2 yA3
    have xA := keepAt XA.out bk
    have xB := keepAt XB.out bk
    have hb := Hb.out.trans (bk.mono Hb.out.size)
    clear Hb bk
    clear XA
    have XA := Lib.hid xA; clear xA
    clear XB
    have XB := Lib.hid xB; clear xB
    have Hb := Lib.hid hb; clear hb
    have yA0 := cells_at XA.out 0
    have yA1 := cells_at XA.out 1
    have yA2 := cells_at XA.out 2
    have yA3 := cells_at XA.out 3
    go_wp2_with fail
    refine (H2.out _).mono ?_
    rintro e w3 ⟨rfl, bk⟩
    clear yA0 yA1 yA2 yA3
    have xA := keepAt XA.out bk
    have xB := keepAt XB.out bk
    have hb := Hb.out.trans (bk.mono Hb.out.size)
    clear Hb bk
    clear XA
    have XA := Lib.hid xA; clear xA
    clear XB
    have XB := Lib.hid xB; clear xB
    have Hb := Lib.hid hb; clear hb
    go_wp2_with fail
    refine (H3.out _).mono ?_
    rintro e w4 ⟨rfl, bk⟩
    have xA := keepAt XA.out bk
    have xB := keepAt XB.out bk
    have hb := Hb.out.trans (bk.mono Hb.out.size)
    clear Hb bk
    clear XA
    have XA := Lib.hid xA; clear xA
    clear XB
    have XB := Lib.hid xB; clear xB
    have Hb := Lib.hid hb; clear hb
    have bk := (Below.refl w4.heap.size w4).alloc (Nat.le_refl _) (.cells #[.int .i64 a1, .int .i64 a2, .int .i64 a3, .int .i64 a4] 23)
    have zO := heap_alloc_new w4 (.cells #[.int .i64 a1, .int .i64 a2, .int .i64 a3, .int .i64 a4] 23)
    have xA := keepAt XA.out bk
    have xB := keepAt XB.out bk
    have hb := Hb.out.trans (bk.mono Hb.out.size)
    clear Hb bk
    clear XA
    have XA := Lib.hid xA; clear xA
    clear XB
    have XB := Lib.hid xB; clear xB
    have Hb := Lib.hid hb; clear hb
    have XO := Lib.hid zO; clear zO
    have yA0 := cells_at XA.out 0
    have yA1 := cells_at XA.out 1
    have yA2 := cells_at XA.out 2
    have yA3 := cells_at XA.out 3
    go_wp2_with fail
    clear yA0 yA1 yA2 yA3
    generalize w4.heap.size = g4 at *
    generalize w4.alloc (.cells #[.int .i64 a1, .int .i64 a2, .int .i64 a3, .int .i64 a4] 23) = w5 at *
    refine (H4.out _).mono ?_
    rintro e w6 ⟨v, rfl, ov, bk⟩
    have xA := keepAt XA.out bk
    have xB := keepAt XB.out bk
    have xO := keepAt XO.out bk
    have hb := Hb.out.trans (bk.mono Hb.out.size)
    clear Hb bk
    clear XA
    have XA := Lib.hid xA; clear xA
    clear XB
    have XB := Lib.hid xB; clear xB
    clear XO
    have XO := Lib.hid xO; clear xO
    have Hb := Lib.hid hb; clear hb
    obtain ⟨pa, pc, rfl, iP, -⟩ := ov.ints
    clear ov
    rw [hl] at iP ⊢
    have IP := Lib.hid iP; clear iP
    have h5 := H5.out _ _ _ IP.out
    clear H5
    have H5 := Lib.hid h5; clear h5
    go_wp2_with fail
    refine (H5.out).mono ?_
    rintro e w7 ⟨rfl, bk⟩
    have xA := keepAt XA.out bk
    have xB := keepAt XB.out bk
    have xO := keepAt XO.out bk
    have iP := IP.out.keep bk
    have hb := Hb.out.trans (bk.mono Hb.out.size)
    clear Hb bk
    clear XA
    have XA := Lib.hid xA; clear xA
    clear XB
    have XB := Lib.hid xB; clear xB
    clear XO
    have XO := Lib.hid xO; clear xO
    clear IP
    have IP := Lib.hid iP; clear iP
    have Hb := Lib.hid hb; clear hb
    have bk := (Below.refl w7.heap.size w7).alloc (Nat.le_refl _) (.cells #[.int .i64 a1, .int .i64 a2, .int .i64 a3, .int .i64 a4] 23)
    have zD := heap_alloc_new w7 (.cells #[.int .i64 a1, .int .i64 a2, .int .i64 a3, .int .i64 a4] 23)
    have xA := keepAt XA.out bk
    have xB := keepAt XB.out bk
    have xO := keepAt XO.out bk
    have iP := IP.out.keep bk
    have hb := Hb.out.trans (bk.mono Hb.out.size)
    clear Hb bk
    clear XA
    have XA := Lib.hid xA; clear xA
    clear XB
    have XB := Lib.hid xB; clear xB
    clear XO
    have XO := Lib.hid xO; clear xO
    clear IP
    have IP := Lib.hid iP; clear iP
    have Hb := Lib.hid hb; clear hb
    have XD := Lib.hid zD; clear zD
    have yB0 := cells_at XB.out 0
    have yB1 := cells_at XB.out 1
    have yB2 := cells_at XB.out 2
    have yB3 := cells_at XB.out 3
    go_wp2_with fail
    clear yB0 yB1 yB2 yB3
    generalize w7.heap.size = g7 at *
    generalize w7.alloc (.cells #[.int .i64 a1, .int .i64 a2, .int .i64 a3, .int .i64 a4] 23) = w8 at *
    refine (H6.out _).mono ?_
    rintro e w9 ⟨rfl, bk⟩
    have xA := keepAt XA.out bk
    have xB := keepAt XB.out bk
    have xO := keepAt XO.out bk
    have xD := keepAt XD.out bk
    have iP := IP.out.keep bk
    have hb := Hb.out.trans (bk.mono Hb.out.size)
    clear Hb bk
    clear XA
    have XA := Lib.hid xA; clear xA
    clear XB
    have XB := Lib.hid xB; clear xB
    clear XO
    have XO := Lib.hid xO; clear xO
    clear XD
    have XD := Lib.hid xD; clear xD
    clear IP
    have IP := Lib.hid iP; clear iP
    have Hb := Lib.hid hb; clear hb
    go_wp2_with fail
    have q1 := Q1.out
    have g1 := G1.out
    have q2 := Q2.out
    have g2 := G2.out
    clear Q1 G1 Q2 G2 H1 H2 H3 H4 H5 H6
    have zA0 := cell_regrown (cells_at XA.out 0)
    have zA1 := cell_regrown (cells_at XA.out 1)
    have zA2 := cell_regrown (cells_at XA.out 2)
    have zA3 := cell_regrown (cells_at XA.out 3)
    have zB0 := cell_regrown (cells_at XB.out 0)
    have zB1 := cell_regrown (cells_at XB.out 1)
    have zB2 := cell_regrown (cells_at XB.out 2)
    have zB3 := cell_regrown (cells_at XB.out 3)
    have zO0 := cell_regrown (cells_at XO.out 0)
    have zO1 := cell_regrown (cells_at XO.out 1)
    have zO2 := cell_regrown (cells_at XO.out 2)
    have zO3 := cell_regrown (cells_at XO.out 3)
    have zD0 := cell_regrown (cells_at XD.out 0)
    have zD1 := cell_regrown (cells_at XD.out 1)
    have zD2 := cell_regrown (cells_at XD.out 2)
    have zD3 := cell_regrown (cells_at XD.out 3)
    refine wp_region_quiet_below (by kernel_rfl) (by kernel_rfl) ?_
    repeat (any_goals (first | go_big_quiet_step ((first
          | (go_at_call 18; exact Calls.regrown_of (O1.out _)))) | quiet_step ((first
          | (go_at_call 18; exact Calls.regrown_of (O1.out _))))))
    refine wpQuiet_nil ?_
    intro wq hwq
    have bk : Below w9.heap.size w9 wq := by obtain ⟨q, rfl⟩ := hwq; exact below_regrown _ _ _
    clear hwq zA0 zA1 zA2 zA3 zB0 zB1 zB2 zB3 zO0 zO1 zO2 zO3 zD0 zD1 zD2 zD3 
    clear q1 g1 q2 g2
    have xA := keepAt XA.out bk
    have xB := keepAt XB.out bk
    have xO := keepAt XO.out bk
    have xD := keepAt XD.out bk
    have iP := IP.out.keep bk
    have hb := Hb.out.trans (bk.mono Hb.out.size)
    clear Hb bk
    clear XA
    have XA := Lib.hid xA; clear xA
    clear XB
    have XB := Lib.hid xB; clear xB
    clear XO
    have XO := Lib.hid xO; clear xO
    clear XD
    have XD := Lib.hid xD; clear xD
    clear IP
    have IP := Lib.hid iP; clear iP
    have Hb := Lib.hid hb; clear hb
    go_wp2
    go_ret
    exact ⟨rfl, Hb.out⟩
end Go.Proofs.Ytdaaphebfhlpmaa
