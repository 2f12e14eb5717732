/- The law NoteAnswers. -/
import Derived.Test.YtdaaphebfhlpmaaNoteA
namespace Go.Proofs.Ytdaaphebfhlpmaa
open Go.RowKit

theorem u64_natN {a : Int} (h : (Lit.int .u64 a).wf = true) : ∃ u : Nat, a = (u : Int) ∧ u < 18446744073709551616 := by
  have := wf_of h
  simp [IntKind.min, IntKind.max, IntKind.signed, IntKind.bits] at this
  exact ⟨a.toNat, by omega, by omega⟩
theorem Same_self {a1 a2 : Option Addr} {n1 n2 c1 c2 : Nat} {xs : List Int} {w : World} (hx : Ints w .u8 a1 n1 c1 xs) (hy : Ints w .u8 a2 n2 c2 xs) :
    Calls Try.prog 23 #[.slice a1 n1 c1, .slice a2 n2 c2] w fun e w' => e = .returned (.bool true) ∧ Below w.heap.size w w' :=
  (SameBytes_calls hx hy).mono fun e w' ⟨h, n, hn⟩ => ⟨by rw [h, decide_eq_true rfl], by rw [hn]; exact below_drawn w n⟩
theorem Copy_read {a : Option Addr} {n c : Nat} {xs : List Int} {w : World} (hx : Ints w .u8 a n c xs) (hn : n ≤ 140737488355328) :
    Calls Try.prog 15 #[.slice a n c] w fun e w' => ∃ a' c', e = .returned (.slice a' n c') ∧ Ints w' .u8 a' n c' xs ∧ Below w.heap.size w w' :=
  (CopyBytes_calls hx hn).mono fun e w' ⟨v, h, hv, _, hb⟩ => by
    obtain ⟨a', c', rfl, hi, _⟩ := hv.ints
    rw [hx.len] at hi h
    exact ⟨a', c', h, hi, hb⟩
set_option maxHeartbeats 8000000 in
set_option maxRecDepth 100000 in
theorem lawNoteAnswers {w : World} {a b : Msg} {u0 : Int} {sa : Option Addr} {n c : Nat} {xs : List Int} (_ha : a.ok) (_hb : b.ok) (hu0 : (Lit.int .u64 u0).wf = true) (hx : Ints w .u8 sa n c xs) : Calls Try.prog 3 #[.agg a.cells.toArray, .agg b.cells.toArray, .int .u64 u0, .slice sa n c] w fun e w' => e = .returned (.bool true) ∧ Below w.heap.size w w' := by
  clear _ha _hb
  obtain ⟨u, rfl, hu⟩ := u64_natN hu0
  clear hu0
  have h1 := fun w : World => Word_calls (w := w) a
  have h2 := fun w : World => RWord_calls (w := w) a
  have h3 := fun w : World => Of_calls (w := w) hu
  have h4 := fun w : World => ROf_calls (w := w) hu
  have h5 := fun w : World => Encode_calls (w := w) a
  have h6 := fun w : World => REncode_calls (w := w) a
  have h7 := fun (w : World) a c (hi : Ints w .u8 a n c xs) (hn : n ≤ 200) => Copy_read hi (Nat.le_trans hn (by decide))
  have h8 := fun (w : World) a c (hi : Ints w .u8 a n c xs) (hn : n ≤ 200) => Decode_calls hi (Nat.le_trans hn (by decide))
  have h9 := fun (w : World) a c (hi : Ints w .u8 a n c xs) (hn : n ≤ 200) => RDecode_calls hi (Nat.le_trans hn (by decide))
  have o1 := fun w : World => Order_calls (w := w) a b
  have o2 := fun w : World => ROrder_calls (w := w) a b
  have r1 := fun w : World => Right_calls (w := w) a
  have r2 := fun w : World => RRight_calls (w := w) a
  have u1 := fun w : World => Up_calls (w := w) a
  have u2 := fun w : World => RUp_calls (w := w) a
  generalize noteO u = O at *
  generalize noteB u = OB at *
  generalize noteD xs = D at *
  obtain ⟨D, DB⟩ := D
  have q1 := fun w => msg_eql w O O
  have g1 := fun x y w => msg_guard .eql x y O O w
  have q2 := fun w => msg_eql w D D
  have g2 := fun x y w => msg_guard .eql x y D D w
  generalize noteW a = W at *
  generalize rightOf a = R at *
  generalize noteE a = E at *
  generalize noteC a b = C at *
  generalize upOf a = UP at *
  obtain ⟨a1, a2, a3, a4⟩ := a
  obtain ⟨b1, b2, b3, b4⟩ := b
  obtain ⟨o1', o2', o3', o4'⟩ := O
  obtain ⟨d1', d2', d3', d4'⟩ := D
  simp only [Msg.cells, Msg.kind, Msg.part, Msg.tx, Msg.what, decide_true] at h1 h2 h3 h4 h5 h6 h8 h9 o1 o2 r1 r2 u1 u2 q1 g1 q2 g2 ⊢
  have H1 := Lib.hid h1; clear h1
  have H2 := Lib.hid h2; clear h2
  have H3 := Lib.hid h3; clear h3
  have H4 := Lib.hid h4; clear h4
  have H5 := Lib.hid h5; clear h5
  have H6 := Lib.hid h6; clear h6
  have H7 := Lib.hid h7; clear h7
  have H8 := Lib.hid h8; clear h8
  have H9 := Lib.hid h9; clear h9
  have O1 := Lib.hid o1; clear o1
  have O2 := Lib.hid o2; clear o2
  have R1 := Lib.hid r1; clear r1
  have R2 := Lib.hid r2; clear r2
  have U1 := Lib.hid u1; clear u1
  have U2 := Lib.hid u2; clear u2
  have Q1 := Lib.hid q1; clear q1
  have G1 := Lib.hid g1; clear g1
  have Q2 := Lib.hid q2; clear q2
  have G2 := Lib.hid g2; clear g2
  have IX := Lib.hid hx; clear hx
  have Hb := Lib.hid (Below.refl w.heap.size w)
  obtain ⟨o0, hb0⟩ : ∃ wz : World, wz = w.alloc (.cells #[.int .i64 a1, .int .i64 a2, .int .i64 a3, .int .i64 a4] 23) := ⟨_, rfl⟩
  have bk : Below w.heap.size w o0 := by rw [hb0]; exact (Below.refl _ _).alloc (Nat.le_refl _) _
  have s0 : o0.heap.size = w.heap.size + 1 := by rw [hb0, World.size_alloc]
  have zA : o0.heap[w.heap.size]? = some (.cells #[.int .i64 a1, .int .i64 a2, .int .i64 a3, .int .i64 a4] 23 (0, 0)) := by
    have := heap_alloc_new w (.cells #[.int .i64 a1, .int .i64 a2, .int .i64 a3, .int .i64 a4] 23)
    rw [← hb0] at this
    exact this
  have iX := IX.out.keep bk
  have hb := Hb.out.trans (bk.mono Hb.out.size)
  clear Hb bk
  clear IX
  have IX := Lib.hid iX; clear iX
  have Hb := Lib.hid hb; clear hb
  have XA := Lib.hid zA; clear zA
  obtain ⟨o1, hb1⟩ : ∃ wz : World, wz = o0.alloc (.cells #[.int .i64 b1, .int .i64 b2, .int .i64 b3, .int .i64 b4] 23) := ⟨_, rfl⟩
  have bk : Below o0.heap.size o0 o1 := by rw [hb1]; exact (Below.refl _ _).alloc (Nat.le_refl _) _
  have s1 : o1.heap.size = w.heap.size + 2 := by rw [hb1, World.size_alloc]; omega
  have zB : o1.heap[w.heap.size + 1]? = some (.cells #[.int .i64 b1, .int .i64 b2, .int .i64 b3, .int .i64 b4] 23 (0, 0)) := by
    have := heap_alloc_new o0 (.cells #[.int .i64 b1, .int .i64 b2, .int .i64 b3, .int .i64 b4] 23)
    rw [← hb1, s0] at this
    exact this
  have xA := keepAt XA.out bk
  have iX := IX.out.keep bk
  have hb := Hb.out.trans (bk.mono Hb.out.size)
  clear Hb bk
  clear XA
  have XA := Lib.hid xA; clear xA
  clear IX
  have IX := Lib.hid iX; clear iX
  have Hb := Lib.hid hb; clear hb
  have XB := Lib.hid zB; clear zB
  clear s0 s1
  by_cases hn : 200 < n
  · go_enter Try.func3, Try.ntmps3
    go_wp2_with fail
    rw [← hb0, ← hb1]
    clear hb0 hb1
    refine (alive_calls).mono ?_
    rintro e w1 ⟨rfl, bk⟩
    have xA := keepAt XA.out bk
    have xB := keepAt XB.out bk
    have iX := IX.out.keep bk
    have hb := Hb.out.trans (bk.mono Hb.out.size)
    clear Hb bk
    clear XA
    have XA := Lib.hid xA; clear xA
    clear XB
    have XB := Lib.hid xB; clear xB
    clear IX
    have IX := Lib.hid iX; clear iX
    have Hb := Lib.hid hb; clear hb
    go_wp2
    go_ret
    exact ⟨rfl, Hb.out⟩
  · replace hn : n ≤ 200 := Nat.le_of_not_lt hn
    have kn : decide (200 < n) = false := decide_eq_false (by omega)
    have kz : decide (200 < (n : Int)) = false := decide_eq_false (by omega)
    go_enter Try.func3, Try.ntmps3
    go_wp2_with fail
    rw [← hb0, ← hb1]
    clear hb0 hb1
    refine (alive_calls).mono ?_
    rintro e w1 ⟨rfl, bk⟩
    have xA := keepAt XA.out bk
    have xB := keepAt XB.out bk
    have iX := IX.out.keep bk
    have hb := Hb.out.trans (bk.mono Hb.out.size)
    clear Hb bk
    clear XA
    have XA := Lib.hid xA; clear xA
    clear XB
    have XB := Lib.hid xB; clear xB
    clear IX
    have IX := Lib.hid iX; clear iX
    have Hb := Lib.hid hb; clear hb
    have yA0 := cells_at XA.out 0
    have yA1 := cells_at XA.out 1
    have yA2 := cells_at XA.out 2
    have yA3 := cells_at XA.out 3
    go_wp2_with fail
    refine (H1.out _).mono ?_
    rintro e w2 ⟨rfl, bk⟩
    clear yA0 yA1 yA2 yA3
    have xA := keepAt XA.out bk
    have xB := keepAt XB.out bk
    have iX := IX.out.keep bk
    have hb := Hb.out.trans (bk.mono Hb.out.size)
    clear Hb bk
    clear XA
    have XA := Lib.hid xA; clear xA
    clear XB
    have XB := Lib.hid xB; clear xB
    clear IX
    have IX := Lib.hid iX; clear iX
    have Hb := Lib.hid hb; clear hb
    have yA0 := cells_at XA.out 0
    have yA1 := cells_at XA.out 1
    have yA2 := cells_at XA.out 2
    have yA3 := cells_at XA.out 3
    go_wp2_with fail
    refine (H2.out _).mono ?_
    rintro e w3 ⟨rfl, bk⟩
    clear yA0 yA1 yA2 yA3
    have xA := keepAt XA.out bk
    have xB := keepAt XB.out bk
    have iX := IX.out.keep bk
    have hb := Hb.out.trans (bk.mono Hb.out.size)
    clear Hb bk
    clear XA
    have XA := Lib.hid xA; clear xA
    clear XB
    have XB := Lib.hid xB; clear xB
    clear IX
    have IX := Lib.hid iX; clear iX
    have Hb := Lib.hid hb; clear hb
    go_wp2_with fail
    refine (H3.out _).mono ?_
    rintro e w4 ⟨rfl, bk⟩
    have xA := keepAt XA.out bk
    have xB := keepAt XB.out bk
    have iX := IX.out.keep bk
    have hb := Hb.out.trans (bk.mono Hb.out.size)
    clear Hb bk
    clear XA
    have XA := Lib.hid xA; clear xA
    clear XB
    have XB := Lib.hid xB; clear xB
    clear IX
    have IX := Lib.hid iX; clear iX
    have Hb := Lib.hid hb; clear hb
    have bk := (Below.refl w4.heap.size w4).alloc (Nat.le_refl _) (.cells #[.int .i64 o1', .int .i64 o2', .int .i64 o3', .int .i64 o4'] 23)
    have zO1 := heap_alloc_new w4 (.cells #[.int .i64 o1', .int .i64 o2', .int .i64 o3', .int .i64 o4'] 23)
    have xA := keepAt XA.out bk
    have xB := keepAt XB.out bk
    have iX := IX.out.keep bk
    have hb := Hb.out.trans (bk.mono Hb.out.size)
    clear Hb bk
    clear XA
    have XA := Lib.hid xA; clear xA
    clear XB
    have XB := Lib.hid xB; clear xB
    clear IX
    have IX := Lib.hid iX; clear iX
    have Hb := Lib.hid hb; clear hb
    have XO1 := Lib.hid zO1; clear zO1
    go_wp2_with fail
    generalize w4.heap.size = g4 at *
    generalize w4.alloc (.cells #[.int .i64 o1', .int .i64 o2', .int .i64 o3', .int .i64 o4'] 23) = w5 at *
    refine (H4.out _).mono ?_
    rintro e w6 ⟨rfl, bk⟩
    have xA := keepAt XA.out bk
    have xB := keepAt XB.out bk
    have xO1 := keepAt XO1.out bk
    have iX := IX.out.keep bk
    have hb := Hb.out.trans (bk.mono Hb.out.size)
    clear Hb bk
    clear XA
    have XA := Lib.hid xA; clear xA
    clear XB
    have XB := Lib.hid xB; clear xB
    clear XO1
    have XO1 := Lib.hid xO1; clear xO1
    clear IX
    have IX := Lib.hid iX; clear iX
    have Hb := Lib.hid hb; clear hb
    have bk := (Below.refl w6.heap.size w6).alloc (Nat.le_refl _) (.cells #[.int .i64 o1', .int .i64 o2', .int .i64 o3', .int .i64 o4'] 23)
    have zO2 := heap_alloc_new w6 (.cells #[.int .i64 o1', .int .i64 o2', .int .i64 o3', .int .i64 o4'] 23)
    have xA := keepAt XA.out bk
    have xB := keepAt XB.out bk
    have xO1 := keepAt XO1.out bk
    have iX := IX.out.keep bk
    have hb := Hb.out.trans (bk.mono Hb.out.size)
    clear Hb bk
    clear XA
    have XA := Lib.hid xA; clear xA
    clear XB
    have XB := Lib.hid xB; clear xB
    clear XO1
    have XO1 := Lib.hid xO1; clear xO1
    clear IX
    have IX := Lib.hid iX; clear iX
    have Hb := Lib.hid hb; clear hb
    have XO2 := Lib.hid zO2; clear zO2
    have yA0 := cells_at XA.out 0
    have yA1 := cells_at XA.out 1
    have yA2 := cells_at XA.out 2
    have yA3 := cells_at XA.out 3
    go_wp2_with fail
    clear yA0 yA1 yA2 yA3
    generalize w6.heap.size = g6 at *
    generalize w6.alloc (.cells #[.int .i64 o1', .int .i64 o2', .int .i64 o3', .int .i64 o4'] 23) = w7 at *
    refine (H5.out _).mono ?_
    rintro e w8 ⟨v, rfl, ov, bk⟩
    have xA := keepAt XA.out bk
    have xB := keepAt XB.out bk
    have xO1 := keepAt XO1.out bk
    have xO2 := keepAt XO2.out bk
    have iX := IX.out.keep bk
    have hb := Hb.out.trans (bk.mono Hb.out.size)
    clear Hb bk
    clear XA
    have XA := Lib.hid xA; clear xA
    clear XB
    have XB := Lib.hid xB; clear xB
    clear XO1
    have XO1 := Lib.hid xO1; clear xO1
    clear XO2
    have XO2 := Lib.hid xO2; clear xO2
    clear IX
    have IX := Lib.hid iX; clear iX
    have Hb := Lib.hid hb; clear hb
    obtain ⟨pa, pn, pc, rfl, iP, -⟩ := ov.read
    clear ov
    have IP := Lib.hid iP; clear iP
    have yA0 := cells_at XA.out 0
    have yA1 := cells_at XA.out 1
    have yA2 := cells_at XA.out 2
    have yA3 := cells_at XA.out 3
    go_wp2_with fail
    refine (H6.out _).mono ?_
    rintro e w9 ⟨v, rfl, ov, bk⟩
    clear yA0 yA1 yA2 yA3
    have xA := keepAt XA.out bk
    have xB := keepAt XB.out bk
    have xO1 := keepAt XO1.out bk
    have xO2 := keepAt XO2.out bk
    have iX := IX.out.keep bk
    have iP := IP.out.keep bk
    have hb := Hb.out.trans (bk.mono Hb.out.size)
    clear Hb bk
    clear XA
    have XA := Lib.hid xA; clear xA
    clear XB
    have XB := Lib.hid xB; clear xB
    clear XO1
    have XO1 := Lib.hid xO1; clear xO1
    clear XO2
    have XO2 := Lib.hid xO2; clear xO2
    clear IX
    have IX := Lib.hid iX; clear iX
    clear IP
    have IP := Lib.hid iP; clear iP
    have Hb := Lib.hid hb; clear hb
    obtain ⟨qa, qn, qc, rfl, iQ, -⟩ := ov.read
    clear ov
    have IQ := Lib.hid iQ; clear iQ
    have h7 := H7.out _ _ _ IX.out hn
    clear H7
    have H7 := Lib.hid h7; clear h7
    go_wp2_with fail
    refine (H7.out).mono ?_
    rintro e w10 ⟨ya, yc, rfl, iY, bk⟩
    have xA := keepAt XA.out bk
    have xB := keepAt XB.out bk
    have xO1 := keepAt XO1.out bk
    have xO2 := keepAt XO2.out bk
    have iX := IX.out.keep bk
    have iP := IP.out.keep bk
    have iQ := IQ.out.keep bk
    have hb := Hb.out.trans (bk.mono Hb.out.size)
    clear Hb bk
    clear XA
    have XA := Lib.hid xA; clear xA
    clear XB
    have XB := Lib.hid xB; clear xB
    clear XO1
    have XO1 := Lib.hid xO1; clear xO1
    clear XO2
    have XO2 := Lib.hid xO2; clear xO2
    clear IX
    have IX := Lib.hid iX; clear iX
    clear IP
    have IP := Lib.hid iP; clear iP
    clear IQ
    have IQ := Lib.hid iQ; clear iQ
    have Hb := Lib.hid hb; clear hb
    have IY := Lib.hid iY; clear iY
    have h8 := H8.out _ _ _ IY.out hn
    clear H8
    have H8 := Lib.hid h8; clear h8
    go_wp2_with fail
    refine (H8.out).mono ?_
    rintro e w11 ⟨rfl, bk⟩
    have xA := keepAt XA.out bk
    have xB := keepAt XB.out bk
    have xO1 := keepAt XO1.out bk
    have xO2 := keepAt XO2.out bk
    have iX := IX.out.keep bk
    have iP := IP.out.keep bk
    have iQ := IQ.out.keep bk
    have iY := IY.out.keep bk
    have hb := Hb.out.trans (bk.mono Hb.out.size)
    clear Hb bk
    clear XA
    have XA := Lib.hid xA; clear xA
    clear XB
    have XB := Lib.hid xB; clear xB
    clear XO1
    have XO1 := Lib.hid xO1; clear xO1
    clear XO2
    have XO2 := Lib.hid xO2; clear xO2
    clear IX
    have IX := Lib.hid iX; clear iX
    clear IP
    have IP := Lib.hid iP; clear iP
    clear IQ
    have IQ := Lib.hid iQ; clear iQ
    clear IY
    have IY := Lib.hid iY; clear iY
    have Hb := Lib.hid hb; clear hb
    have bk := (Below.refl w11.heap.size w11).alloc (Nat.le_refl _) (.cells #[.int .i64 d1', .int .i64 d2', .int .i64 d3', .int .i64 d4'] 23)
    have zD1 := heap_alloc_new w11 (.cells #[.int .i64 d1', .int .i64 d2', .int .i64 d3', .int .i64 d4'] 23)
    have xA := keepAt XA.out bk
    have xB := keepAt XB.out bk
    have xO1 := keepAt XO1.out bk
    have xO2 := keepAt XO2.out bk
    have iX := IX.out.keep bk
    have iP := IP.out.keep bk
    have iQ := IQ.out.keep bk
    have iY := IY.out.keep bk
    have hb := Hb.out.trans (bk.mono Hb.out.size)
    clear Hb bk
    clear XA
    have XA := Lib.hid xA; clear xA
    clear XB
    have XB := Lib.hid xB; clear xB
    clear XO1
    have XO1 := Lib.hid xO1; clear xO1
    clear XO2
    have XO2 := Lib.hid xO2; clear xO2
    clear IX
    have IX := Lib.hid iX; clear iX
    clear IP
    have IP := Lib.hid iP; clear iP
    clear IQ
    have IQ := Lib.hid iQ; clear iQ
    clear IY
    have IY := Lib.hid iY; clear iY
    have Hb := Lib.hid hb; clear hb
    have XD1 := Lib.hid zD1; clear zD1
    go_wp2_with fail
    generalize w11.heap.size = g11 at *
    generalize w11.alloc (.cells #[.int .i64 d1', .int .i64 d2', .int .i64 d3', .int .i64 d4'] 23) = w12 at *
    have h9 := H9.out _ _ _ IX.out hn
    clear H9
    have H9 := Lib.hid h9; clear h9
    refine (H9.out).mono ?_
    rintro e w13 ⟨rfl, bk⟩
    have xA := keepAt XA.out bk
    have xB := keepAt XB.out bk
    have xO1 := keepAt XO1.out bk
    have xO2 := keepAt XO2.out bk
    have xD1 := keepAt XD1.out bk
    have iX := IX.out.keep bk
    have iP := IP.out.keep bk
    have iQ := IQ.out.keep bk
    have iY := IY.out.keep bk
    have hb := Hb.out.trans (bk.mono Hb.out.size)
    clear Hb bk
    clear XA
    have XA := Lib.hid xA; clear xA
    clear XB
    have XB := Lib.hid xB; clear xB
    clear XO1
    have XO1 := Lib.hid xO1; clear xO1
    clear XO2
    have XO2 := Lib.hid xO2; clear xO2
    clear XD1
    have XD1 := Lib.hid xD1; clear xD1
    clear IX
    have IX := Lib.hid iX; clear iX
    clear IP
    have IP := Lib.hid iP; clear iP
    clear IQ
    have IQ := Lib.hid iQ; clear iQ
    clear IY
    have IY := Lib.hid iY; clear iY
    have Hb := Lib.hid hb; clear hb
    have bk := (Below.refl w13.heap.size w13).alloc (Nat.le_refl _) (.cells #[.int .i64 d1', .int .i64 d2', .int .i64 d3', .int .i64 d4'] 23)
    have zD2 := heap_alloc_new w13 (.cells #[.int .i64 d1', .int .i64 d2', .int .i64 d3', .int .i64 d4'] 23)
    have xA := keepAt XA.out bk
    have xB := keepAt XB.out bk
    have xO1 := keepAt XO1.out bk
    have xO2 := keepAt XO2.out bk
    have xD1 := keepAt XD1.out bk
    have iX := IX.out.keep bk
    have iP := IP.out.keep bk
    have iQ := IQ.out.keep bk
    have iY := IY.out.keep bk
    have hb := Hb.out.trans (bk.mono Hb.out.size)
    clear Hb bk
    clear XA
    have XA := Lib.hid xA; clear xA
    clear XB
    have XB := Lib.hid xB; clear xB
    clear XO1
    have XO1 := Lib.hid xO1; clear xO1
    clear XO2
    have XO2 := Lib.hid xO2; clear xO2
    clear XD1
    have XD1 := Lib.hid xD1; clear xD1
    clear IX
    have IX := Lib.hid iX; clear iX
    clear IP
    have IP := Lib.hid iP; clear iP
    clear IQ
    have IQ := Lib.hid iQ; clear iQ
    clear IY
    have IY := Lib.hid iY; clear iY
    have Hb := Lib.hid hb; clear hb
    have XD2 := Lib.hid zD2; clear zD2
    have yA0 := cells_at XA.out 0
    have yA1 := cells_at XA.out 1
    have yA2 := cells_at XA.out 2
    have yA3 := cells_at XA.out 3
    have yB0 := cells_at XB.out 0
    have yB1 := cells_at XB.out 1
    have yB2 := cells_at XB.out 2
    have yB3 := cells_at XB.out 3
    go_wp2_with fail
    clear yA0 yA1 yA2 yA3 yB0 yB1 yB2 yB3
    generalize w13.heap.size = g13 at *
    generalize w13.alloc (.cells #[.int .i64 d1', .int .i64 d2', .int .i64 d3', .int .i64 d4'] 23) = w14 at *
    refine (O1.out _).mono ?_
    rintro e w15 ⟨rfl, bk⟩
    have xA := keepAt XA.out bk
    have xB := keepAt XB.out bk
    have xO1 := keepAt XO1.out bk
    have xO2 := keepAt XO2.out bk
    have xD1 := keepAt XD1.out bk
    have xD2 := keepAt XD2.out bk
    have iX := IX.out.keep bk
    have iP := IP.out.keep bk
    have iQ := IQ.out.keep bk
    have iY := IY.out.keep bk
    have hb := Hb.out.trans (bk.mono Hb.out.size)
    clear Hb bk
    clear XA
    have XA := Lib.hid xA; clear xA
    clear XB
    have XB := Lib.hid xB; clear xB
    clear XO1
    have XO1 := Lib.hid xO1; clear xO1
    clear XO2
    have XO2 := Lib.hid xO2; clear xO2
    clear XD1
    have XD1 := Lib.hid xD1; clear xD1
    clear XD2
    have XD2 := Lib.hid xD2; clear xD2
    clear IX
    have IX := Lib.hid iX; clear iX
    clear IP
    have IP := Lib.hid iP; clear iP
    clear IQ
    have IQ := Lib.hid iQ; clear iQ
    clear IY
    have IY := Lib.hid iY; clear iY
    have Hb := Lib.hid hb; clear hb
    have yA0 := cells_at XA.out 0
    have yA1 := cells_at XA.out 1
    have yA2 := cells_at XA.out 2
    have yA3 := cells_at XA.out 3
    have yB0 := cells_at XB.out 0
    have yB1 := cells_at XB.out 1
    have yB2 := cells_at XB.out 2
    have yB3 := cells_at XB.out 3
    go_wp2_with fail
    clear yA0 yA1 yA2 yA3 yB0 yB1 yB2 yB3
    have q1 := Q1.out
    have g1 := G1.out
    have q2 := Q2.out
    have g2 := G2.out
    clear Q1 G1 Q2 G2 H1 H2 H3 H4 H5 H6 H7 H8 H9
    have zA0 := cell_regrown (cells_at XA.out 0)
    have zA1 := cell_regrown (cells_at XA.out 1)
    have zA2 := cell_regrown (cells_at XA.out 2)
    have zA3 := cell_regrown (cells_at XA.out 3)
    have zB0 := cell_regrown (cells_at XB.out 0)
    have zB1 := cell_regrown (cells_at XB.out 1)
    have zB2 := cell_regrown (cells_at XB.out 2)
    have zB3 := cell_regrown (cells_at XB.out 3)
    have zO10 := cell_regrown (cells_at XO1.out 0)
    have zO11 := cell_regrown (cells_at XO1.out 1)
    have zO12 := cell_regrown (cells_at XO1.out 2)
    have zO13 := cell_regrown (cells_at XO1.out 3)
    have zO20 := cell_regrown (cells_at XO2.out 0)
    have zO21 := cell_regrown (cells_at XO2.out 1)
    have zO22 := cell_regrown (cells_at XO2.out 2)
    have zO23 := cell_regrown (cells_at XO2.out 3)
    have zD10 := cell_regrown (cells_at XD1.out 0)
    have zD11 := cell_regrown (cells_at XD1.out 1)
    have zD12 := cell_regrown (cells_at XD1.out 2)
    have zD13 := cell_regrown (cells_at XD1.out 3)
    have zD20 := cell_regrown (cells_at XD2.out 0)
    have zD21 := cell_regrown (cells_at XD2.out 1)
    have zD22 := cell_regrown (cells_at XD2.out 2)
    have zD23 := cell_regrown (cells_at XD2.out 3)
    have kP := fun d os => IP.out.keep (below_regrown w15 d os)
    have KP := Lib.hid kP; clear kP
    have kQ := fun d os => IQ.out.keep (below_regrown w15 d os)
    have KQ := Lib.hid kQ; clear kQ
    have kX := fun d os => IX.out.keep (below_regrown w15 d os)
    have KX := Lib.hid kX; clear kX
    have kY := fun d os => IY.out.keep (below_regrown w15 d os)
    have KY := Lib.hid kY; clear kY
    refine wp_region_quiet_below (by kernel_rfl) (by kernel_rfl) ?_
    repeat (any_goals (first | go_big_quiet_step ((first
          | (go_at_call 19; exact Calls.regrown_of (R1.out _))
          | (go_at_call 20; exact Calls.regrown_of (R2.out _))
          | (go_at_call 21; exact Calls.regrown_of (U1.out _))
          | (go_at_call 22; exact Calls.regrown_of (U2.out _))
          | (go_at_call 24; exact Calls.regrown_of (O2.out _))
          | (go_at_call 23; exact Calls.regrown_of (Same_self (KP.out _ _) (KQ.out _ _)))
          | (go_at_call 23; exact Calls.regrown_of (Same_self (KY.out _ _) (KX.out _ _))))) | quiet_step ((first
          | (go_at_call 19; exact Calls.regrown_of (R1.out _))
          | (go_at_call 20; exact Calls.regrown_of (R2.out _))
          | (go_at_call 21; exact Calls.regrown_of (U1.out _))
          | (go_at_call 22; exact Calls.regrown_of (U2.out _))
          | (go_at_call 24; exact Calls.regrown_of (O2.out _))
          | (go_at_call 23; exact Calls.regrown_of (Same_self (KP.out _ _) (KQ.out _ _)))
          | (go_at_call 23; exact Calls.regrown_of (Same_self (KY.out _ _) (KX.out _ _)))))))
    refine wpQuiet_nil ?_
    intro wq hwq
    have bk : Below w15.heap.size w15 wq := by obtain ⟨q, rfl⟩ := hwq; exact below_regrown _ _ _
    clear hwq zA0 zA1 zA2 zA3 zB0 zB1 zB2 zB3 zO10 zO11 zO12 zO13 zO20 zO21 zO22 zO23 zD10 zD11 zD12 zD13 zD20 zD21 zD22 zD23 KP KQ KX KY
    clear q1 g1 q2 g2
    have xA := keepAt XA.out bk
    have xB := keepAt XB.out bk
    have xO1 := keepAt XO1.out bk
    have xO2 := keepAt XO2.out bk
    have xD1 := keepAt XD1.out bk
    have xD2 := keepAt XD2.out bk
    have iX := IX.out.keep bk
    have iP := IP.out.keep bk
    have iQ := IQ.out.keep bk
    have iY := IY.out.keep bk
    have hb := Hb.out.trans (bk.mono Hb.out.size)
    clear Hb bk
    clear XA
    have XA := Lib.hid xA; clear xA
    clear XB
    have XB := Lib.hid xB; clear xB
    clear XO1
    have XO1 := Lib.hid xO1; clear xO1
    clear XO2
    have XO2 := Lib.hid xO2; clear xO2
    clear XD1
    have XD1 := Lib.hid xD1; clear xD1
    clear XD2
    have XD2 := Lib.hid xD2; clear xD2
    clear IX
    have IX := Lib.hid iX; clear iX
    clear IP
    have IP := Lib.hid iP; clear iP
    clear IQ
    have IQ := Lib.hid iQ; clear iQ
    clear IY
    have IY := Lib.hid iY; clear iY
    have Hb := Lib.hid hb; clear hb
    go_wp2
    go_ret
    exact ⟨rfl, Hb.out⟩
end Go.Proofs.Ytdaaphebfhlpmaa
