/- alive. -/
import Derived.Test.YtiaocfeafkgbaaaRecJ
namespace Go.Proofs.Ytiaocfeafkgbaaa
open Go.RowKit

def rA : Rc := ⟨4, 5, 0, 0, 0, 0, 0, false, 0, false, 0⟩
def rW : Rc := ⟨1, 1, 0, 1, 2, 3, 4, false, 0, true, -1⟩
theorem rA_ok : rA.ok := by unfold Rc.ok rA; simp only; omega
theorem rW_ok : rW.ok := by unfold Rc.ok rW; simp only; omega
theorem rA_facts : rightRc rA = true ∧ enc rA = [43, 0, 0] ∧ dec [43, 0, 0, 9] = (rA, 3) := by decide +kernel
theorem rW_facts : rightRc rW = true ∧ enc rW = [8, 0, 0, 1, 2, 3, 4, 2, 1] ∧ allR ([43, 0, 0] ++ [8, 0, 0, 1, 2, 3, 4, 2, 1]) = ([rA, rW], 12) ∧ rightRc noRc = false := by decide +kernel
set_option maxHeartbeats 8000000 in
theorem alive_calls {w : World} : Calls Try.prog 8 #[] w fun e w' => e = .returned (.bool true) ∧ Below w.heap.size w w' := by
  obtain ⟨fa1, fa2, fa3⟩ := rA_facts
  obtain ⟨fw1, fw2, fw3, fw4⟩ := rW_facts
  have e1 := fun w : World => Encode_calls (w := w) rA rA_ok
  have e2 := fun w : World => Encode_calls (w := w) rW rW_ok
  have q1 := fun w : World => Right_calls (w := w) rW
  have q2 := fun w : World => Right_calls (w := w) noRc
  rw [fa1, if_pos rfl, fa2] at e1
  rw [fw1, if_pos rfl, fw2] at e2
  rw [fw1] at q1
  rw [fw4] at q2
  have hq := fun w => rc_eql w rW rW
  have hg := fun x y w => rc_guard .eql x y rW rW w
  simp only [Rc.cells, rA, rW, noRc] at e1 e2 q1 q2
  simp only [Rc.cells, rW, decide_true] at hq hg
  have E1 := Lib.hid e1; clear e1
  have E2 := Lib.hid e2; clear e2
  have Q1 := Lib.hid q1; clear q1
  have Q2 := Lib.hid q2; clear q2
  have Hq := Lib.hid hq; clear hq
  have Hg := Lib.hid hg; clear hg
  have F3 := Lib.hid fa3; clear fa3 fa1 fa2 fw1 fw2 fw4
  have F4 := Lib.hid fw3; clear fw3
  have hb := Below.refl w.heap.size w
  have Hb := Lib.hid hb; clear hb
  go_enter Try.func8, Try.ntmps8
  go_wp2_with fail
  refine (E1.out _).mono ?_
  rintro e w1 ⟨v1, rfl, o1, bk⟩
  have o1 := o1.mono Hb.out.size
  have hHb := Hb.out.trans (bk.mono Hb.out.size)
  clear Hb
  have Hb := Lib.hid hHb; clear hHb
  clear bk
  have O1 := Lib.hid o1; clear o1
  obtain ⟨w2, hw2⟩ : ∃ w2, w2 = w1.alloc (.cells #[.int .u8 43, .int .u8 0, .int .u8 0, .int .u8 9] 5) := ⟨_, rfl⟩
  have bk : Below w1.heap.size w1 w2 := by rw [hw2]; exact (Below.refl _ _).alloc (Nat.le_refl _) _
  have i2 : Ints w2 .u8 (some ⟨w1.heap.size, 0, none⟩) 4 4 [43, 0, 0, 9] := by rw [hw2]; exact ints_alloc [43, 0, 0, 9] rfl rfl (by decide) (by decide)
  have hd := Decode_calls i2
  rw [F3.out] at hd
  simp only [Rc.cells, rA] at hd
  have Hd := Lib.hid hd; clear hd i2
  have hHb := Hb.out.trans (bk.mono Hb.out.size)
  have hO1 := O1.out.below bk
  clear Hb
  have Hb := Lib.hid hHb; clear hHb
  clear O1
  have O1 := Lib.hid hO1; clear hO1
  clear bk
  go_wp2_with fail
  rw [← hw2]
  clear hw2
  refine Hd.out.mono ?_
  rintro e w3 ⟨rfl, bk⟩
  clear Hd
  have hHb := Hb.out.trans (bk.mono Hb.out.size)
  have hO1 := O1.out.below bk
  clear Hb
  have Hb := Lib.hid hHb; clear hHb
  clear O1
  have O1 := Lib.hid hO1; clear hO1
  clear bk
  obtain ⟨w4, hw4⟩ : ∃ w4, w4 = w3.alloc (.cells #[.int .i64 4, .int .i64 5, .int .u16 0, .int .u8 0, .int .u8 0, .int .u8 0, .int .u8 0, .bool false, .int .i64 0, .bool false, .int .i64 0] 34) := ⟨_, rfl⟩
  have bk : Below w3.heap.size w3 w4 := by rw [hw4]; exact (Below.refl _ _).alloc (Nat.le_refl _) _
  have x3 : w4.heap[w3.heap.size]? = some (.cells #[.int .i64 4, .int .i64 5, .int .u16 0, .int .u8 0, .int .u8 0, .int .u8 0, .int .u8 0, .bool false, .int .i64 0, .bool false, .int .i64 0] 34 (0, 0)) := by rw [hw4]; exact heap_alloc_new w3 _
  have s4 : w4.heap.size = w3.heap.size + 1 := by rw [hw4, World.size_alloc]
  have hHb := Hb.out.trans (bk.mono Hb.out.size)
  have hO1 := O1.out.below bk
  clear Hb
  have Hb := Lib.hid hHb; clear hHb
  clear O1
  have O1 := Lib.hid hO1; clear hO1
  clear bk
  have X3 := Lib.hid x3; clear x3
  obtain ⟨w5, hw5⟩ : ∃ w5, w5 = w4.alloc (.cells #[.int .i64 1, .int .i64 1, .int .u16 0, .int .u8 1, .int .u8 2, .int .u8 3, .int .u8 4, .bool false, .int .i64 0, .bool true, .int .i64 (-1)] 34) := ⟨_, rfl⟩
  have bk : Below w4.heap.size w4 w5 := by rw [hw5]; exact (Below.refl _ _).alloc (Nat.le_refl _) _
  have x5 : w5.heap[w3.heap.size + 1]? = some (.cells #[.int .i64 1, .int .i64 1, .int .u16 0, .int .u8 1, .int .u8 2, .int .u8 3, .int .u8 4, .bool false, .int .i64 0, .bool true, .int .i64 (-1)] 34 (0, 0)) := by rw [← s4, hw5]; exact heap_alloc_new w4 _
  have hHb := Hb.out.trans (bk.mono Hb.out.size)
  have hO1 := O1.out.below bk
  have hX3 := (bk.block _ (Array.getElem?_eq_some_iff.1 X3.out).1).trans X3.out
  clear Hb
  have Hb := Lib.hid hHb; clear hHb
  clear O1
  have O1 := Lib.hid hO1; clear hO1
  clear X3
  have X3 := Lib.hid hX3; clear hX3
  clear bk
  have X5 := Lib.hid x5; clear x5
  clear s4
  go_wp2_with fail
  rw [← hw4, ← hw5]
  clear hw4 hw5
  generalize w3.heap.size + 1 = g5 at *
  generalize w3.heap.size = g3 at *
  refine (E2.out _).mono ?_
  rintro e w6 ⟨v6, rfl, o6, bk⟩
  have o6 := o6.mono Hb.out.size
  have hHb := Hb.out.trans (bk.mono Hb.out.size)
  have hO1 := O1.out.below bk
  have hX3 := (bk.block _ (Array.getElem?_eq_some_iff.1 X3.out).1).trans X3.out
  have hX5 := (bk.block _ (Array.getElem?_eq_some_iff.1 X5.out).1).trans X5.out
  clear Hb
  have Hb := Lib.hid hHb; clear hHb
  clear O1
  have O1 := Lib.hid hO1; clear hO1
  clear X3
  have X3 := Lib.hid hX3; clear hX3
  clear X5
  have X5 := Lib.hid hX5; clear hX5
  clear bk
  have O6 := Lib.hid o6; clear o6
  obtain ⟨a1, c1, rfl, i1, -⟩ := O1.out.ints
  have hcb := CopyBytes_calls i1 (by decide)
  have l1 := fun k hk => (O1.out.block k hk).2
  have l6 := fun k hk => (O6.out.block k hk).2
  have l3 := (Array.getElem?_eq_some_iff.1 X3.out).1
  have l5 := (Array.getElem?_eq_some_iff.1 X5.out).1
  have hb6 := Hb.out
  have Hcb := Lib.hid hcb; clear hcb i1
  go_wp2_with fail
  refine Hcb.out.mono ?_
  rintro e w7 ⟨v7, rfl, o7, -, bk⟩
  clear Hcb
  have L1 := Lib.hid l1; clear l1
  have L6 := Lib.hid l6; clear l6
  have b67 := bk.size
  have hHb := Hb.out.trans (bk.mono Hb.out.size)
  have hO1 := O1.out.below bk
  have hX3 := (bk.block _ (Array.getElem?_eq_some_iff.1 X3.out).1).trans X3.out
  have hX5 := (bk.block _ (Array.getElem?_eq_some_iff.1 X5.out).1).trans X5.out
  have hO6 := O6.out.below bk
  clear Hb
  have Hb := Lib.hid hHb; clear hHb
  clear O1
  have O1 := Lib.hid hO1; clear hO1
  clear X3
  have X3 := Lib.hid hX3; clear hX3
  clear X5
  have X5 := Lib.hid hX5; clear hX5
  clear O6
  have O6 := Lib.hid hO6; clear hO6
  clear bk
  have O7 := Lib.hid o7; clear o7
  obtain ⟨a6, c6, rfl, i6, -⟩ := O6.out.ints
  go_wp2_with (with_reducible refine stop_builtin .append ?_)
  refine unpark ?_
  refine wpList_append_ints _ rfl _ _ 25 rfl .u8 w6.heap.size 5 (.int .u8 0) 1 Try.underlying25 Try.infoU8 rfl _ _ rfl O7.out _ 9 c6 _ rfl i6 (by decide) (by decide) b67 ?_
  intro v8 w8 o8 g8 _
  have n7 : ∀ k, k < w6.heap.size → some k ≠ v7.ownBlock := fun k hk e => by have := (O7.out.block k e.symm).1; omega
  have p1 := O1.out.keep fun k hk hl => g8.block k hl (n7 k (L1.out k hk))
  have p6 := O6.out.keep fun k hk hl => g8.block k hl (n7 k (L6.out k hk))
  have p3 := (g8.block _ (by omega) (n7 _ l3)).trans X3.out
  have p5 := (g8.block _ (by omega) (n7 _ l5)).trans X5.out
  have pb := Hb.out.grown g8 Hb.out.size (fun k hk => Nat.le_trans hb6.size (O7.out.block k hk).1)
  clear O1 O6 X3 X5 Hb O7 g8 L1 L6 n7 i6
  have O1 := Lib.hid p1; clear p1
  have O6 := Lib.hid p6; clear p6
  have X3 := Lib.hid p3; clear p3
  have X5 := Lib.hid p5; clear p5
  have Hb := Lib.hid pb; clear pb
  obtain ⟨a8, c8, rfl, i8, -⟩ := o8.ints
  have hal := All_calls i8 (by decide)
  rw [F4.out] at hal
  have Hal := Lib.hid hal; clear hal i8 o8
  go_wp2_with fail
  refine Hal.out.mono ?_
  rintro e w9 ⟨v9, rfl, o9, bk⟩
  have o9 := o9.mono Hb.out.size
  clear Hal
  have hHb := Hb.out.trans (bk.mono Hb.out.size)
  have hO1 := O1.out.below bk
  have hX3 := (bk.block _ (Array.getElem?_eq_some_iff.1 X3.out).1).trans X3.out
  have hX5 := (bk.block _ (Array.getElem?_eq_some_iff.1 X5.out).1).trans X5.out
  have hO6 := O6.out.below bk
  clear Hb
  have Hb := Lib.hid hHb; clear hHb
  clear O1
  have O1 := Lib.hid hO1; clear hO1
  clear X3
  have X3 := Lib.hid hX3; clear hX3
  clear X5
  have X5 := Lib.hid hX5; clear hX5
  clear O6
  have O6 := Lib.hid hO6; clear hO6
  clear bk
  have O9 := Lib.hid o9; clear o9
  obtain ⟨a9, c9, rfl⟩ := O9.out.shape
  obtain ⟨a1', c1', e1', i1, -⟩ := O1.out.ints
  cases e1'
  have I1 := Lib.hid i1; clear i1
  go_wp2_with fail
  have s0 := below_drew w9
  have r9 := O9.out.recs
  obtain ⟨a9', c9', e9', r9, -⟩ := r9
  cases e9'
  obtain ⟨g9, p9, rfl⟩ := r9.addr (by decide)
  have R9 := Lib.hid r9; clear r9
  refine wp_region_phases (fun w' : World => Below w9.heap.size w9 w') 87 [([], [[0, 1, 2, 3, 4], [5, 6], [7], [8, 9, 10, 11], [12], [13, 14, 15, 16], [17], [18, 19, 20], [21], [22, 23, 24, 25], [26], [27, 28]]), ([29, 30, 31, 32], [[33], [34, 35, 36, 37, 38], [39], [40], [41, 42], [43], [44], [45, 46, 47], [48], [49], [50, 51]])] (by kernel_rfl) (by kernel_rfl) rfl (by kernel_rfl) (fun _ _ _ h => by obtain ⟨_, h, _⟩ := h; cases h) s0 ?_
  generalize w9.drew = wd at s0 ⊢
  have Hs0 := Lib.hid s0; clear s0

  refine ph_plain rfl ?_
  simp only [List.map_cons, List.map_nil, List.getD_cons_zero, List.getD_cons_succ]
  refine segsK_more ?_
  go_wp2_with fail
  refine seg_end Hs0.out (segsK_more ?_)
  obtain ⟨we, hwe⟩ : ∃ we, we = wd.alloc (.cells #[.int .u8 43, .int .u8 0, .int .u8 0] 5) := ⟨_, rfl⟩
  have be : Below wd.heap.size wd we := by rw [hwe]; exact (Below.refl _ _).alloc (Nat.le_refl _) _
  have ie : Ints we .u8 (some ⟨wd.heap.size, 0, none⟩) 3 3 [43, 0, 0] := by rw [hwe]; exact ints_alloc [43, 0, 0] rfl rfl (by decide) (by decide)
  have se := Hs0.out.trans (be.mono Hs0.out.size)
  clear Hs0 be
  have Hs0 := Lib.hid se; clear se
  have Ie := Lib.hid ie; clear ie
  go_wp2_with fail
  rw [← hwe]
  clear hwe
  generalize wd.heap.size = gd at *
  refine seg_end Hs0.out (segsK_more ?_)
  go_wp2_with fail
  refine (SameBytes_yes (I1.out.keep Hs0.out) Ie.out rfl).mono ?_
  rintro e wf ⟨rfl, nn, hnn⟩
  have bf : Below we.heap.size we wf := by rw [hnn]; exact Below.drewN (Below.refl _ _) nn
  have sf := Hs0.out.trans (bf.mono Hs0.out.size)
  clear Hs0 bf hnn Ie
  have Hs0 := Lib.hid sf; clear sf
  have xa := (Hs0.out.block _ (Array.getElem?_eq_some_iff.1 X3.out).1).trans X3.out
  have y0 := cells_at xa 0
  have y1 := cells_at xa 1
  clear xa
  go_wp2_with fail
  refine seg_end Hs0.out (segsK_more ?_)
  go_wp2_with fail
  refine seg_end Hs0.out (segsK_more ?_)
  go_wp2_with fail
  refine seg_end Hs0.out (segsK_more ?_)
  go_wp2_with fail
  refine seg_end Hs0.out (segsK_more ?_)
  go_wp2_with fail
  refine seg_end Hs0.out (segsK_more ?_)
  go_wp2_with fail
  refine seg_end Hs0.out (segsK_more ?_)
  go_wp2_with fail
  refine seg_end Hs0.out (segsK_more ?_)
  go_wp2_with fail
  refine seg_end Hs0.out (segsK_more ?_)
  go_wp2_with fail
  refine seg_end Hs0.out (segsK_more ?_)
  go_wp2_with fail
  refine seg_end Hs0.out (segsK_end (ph_more rfl ?_))
  clear y0 y1
  apply Exists.intro
  apply And.intro
  · intro w' s
    have xg := (s.block _ (Array.getElem?_eq_some_iff.1 X5.out).1).trans X5.out
    have y0 := cells_at xg 0
    have y1 := cells_at xg 1
    have y2 := cells_at xg 2
    have y3 := cells_at xg 3
    have y4 := cells_at xg 4
    have y5 := cells_at xg 5
    have y6 := cells_at xg 6
    have y7 := cells_at xg 7
    have y8 := cells_at xg 8
    have y9 := cells_at xg 9
    have y10 := cells_at xg 10
    have hcx := (R9.out.keep s).at (j := 1) (by decide)
    have x0 := hcx 0 _ rfl
    have x1 := hcx 1 _ rfl
    have x2 := hcx 2 _ rfl
    have x3 := hcx 3 _ rfl
    have x4 := hcx 4 _ rfl
    have x5 := hcx 5 _ rfl
    have x6 := hcx 6 _ rfl
    have x7 := hcx 7 _ rfl
    have x8 := hcx 8 _ rfl
    have x9 := hcx 9 _ rfl
    have x10 := hcx 10 _ rfl
    simp only [rcF, rA, rW, Nat.add_zero, Nat.one_mul, List.getElem_cons_succ, List.getElem_cons_zero] at x0 x1 x2 x3 x4 x5 x6 x7 x8 x9 x10
    clear s xg hcx
    simp only [List.map_cons, List.map_nil, List.getD_cons_zero, List.getD_cons_succ]
    go_wp2_with fail
    exact pre_end
  simp only [List.map_cons, List.map_nil, List.getD_cons_zero, List.getD_cons_succ]
  refine segsK_more ?_
  have hq := Hq.out
  have hg := Hg.out
  go_wp2_with fail
  clear hq hg
  refine seg_end Hs0.out (segsK_more ?_)
  go_wp2_with fail
  refine seg_end Hs0.out (segsK_more ?_)
  go_wp2_with fail
  refine seg_end Hs0.out (segsK_more ?_)
  go_wp2_with fail
  refine seg_end Hs0.out (segsK_more ?_)
  go_wp2_with fail
  refine seg_end Hs0.out (segsK_more ?_)
  have xg := (Hs0.out.block _ (Array.getElem?_eq_some_iff.1 X5.out).1).trans X5.out
  have y0 := cells_at xg 0
  have y1 := cells_at xg 1
  have y2 := cells_at xg 2
  have y3 := cells_at xg 3
  have y4 := cells_at xg 4
  have y5 := cells_at xg 5
  have y6 := cells_at xg 6
  have y7 := cells_at xg 7
  have y8 := cells_at xg 8
  have y9 := cells_at xg 9
  have y10 := cells_at xg 10
  clear xg
  go_wp2_with fail
  clear y0 y1 y2 y3 y4 y5 y6 y7 y8 y9 y10
  refine seg_end Hs0.out (segsK_more ?_)
  go_wp2_with fail
  refine (Q1.out _).mono ?_
  rintro e wg ⟨rfl, bk⟩
  have sf := Hs0.out.trans (bk.mono Hs0.out.size)
  clear Hs0 bk
  have Hs0 := Lib.hid sf; clear sf
  go_wp2_with fail
  refine seg_end Hs0.out (segsK_more ?_)
  go_wp2_with fail
  refine seg_end Hs0.out (segsK_more ?_)
  go_wp2_with fail
  refine (Q2.out _).mono ?_
  rintro e wh ⟨rfl, bk⟩
  have sf := Hs0.out.trans (bk.mono Hs0.out.size)
  clear Hs0 bk
  have Hs0 := Lib.hid sf; clear sf
  go_wp2_with fail
  refine seg_end Hs0.out (segsK_more ?_)
  go_wp2_with fail
  refine seg_end Hs0.out (segsK_more ?_)
  go_wp2_with fail
  refine seg_end Hs0.out (segsK_end (ph_end ?_))
  have hb := Hb.out.trans (Hs0.out.mono Hb.out.size)
  have HB := Lib.hid hb; clear hb
  go_wp2
  go_ret
  exact ⟨rfl, HB.out⟩
end Go.Proofs.Ytiaocfeafkgbaaa
