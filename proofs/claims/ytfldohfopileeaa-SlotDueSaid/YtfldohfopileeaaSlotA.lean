/- Timers and plans: alive (printed by genSlotA.py). -/
import Derived.Test.YtfldohfopileeaaSlotT
namespace Go.Proofs.Ytfldohfopileeaa
open Go.RowKit

theorem ints_alloc {w : World} {k : IntKind} {E : TypeId} {C : Array Value} (zs : List Int) (hC : C = (zs.map (Value.int k)).toArray) {n : Nat} (hn : zs.length = n) (hm : n ≤ 1000) (hf : ∀ z ∈ zs, (Lit.int k z).wf = true) :
    Ints (w.alloc (.cells C E)) k (some ⟨w.heap.size, 0, none⟩) n n zs := by
  subst hC hn
  have hc := heap_alloc_new w (.cells (zs.map (Value.int k)).toArray E)
  refine Ints.of rfl (Nat.le_refl _) (by omega) hf fun j hj => ?_
  rw [Nat.zero_add, cells_at hc j]
  simp only [List.getElem?_toArray, List.getElem?_map, List.getD_eq_getElem?_getD]
  rw [List.getElem?_eq_getElem hj]
  rfl
abbrev pp : Pl := (2, 2, 3)
theorem pp_facts : pp.good ∧ ownOf pp 3 = 0 ∧ ownOf pp 2 = 2 ∧ rndOf pp 7 = 2 ∧ nextOf pp 3 2 = 5 ∧ deadOf pp 1 = 7 ∧ releaseOf pp 1 = 10 := by decide
theorem tm_facts : setT [] 5 1 = [(5, 1)] ∧ setT [(5, 1)] 3 2 = [(3, 2), (5, 1)] ∧ setT [(3, 2), (5, 1)] 5 0 = [(3, 2), (5, 0), (5, 1)] ∧ idsT (dueT [(3, 2), (5, 0), (5, 1)] 5) = [2, 0, 1] ∧ restT [(3, 2), (5, 0), (5, 1)] 5 = [] := by decide
set_option maxHeartbeats 4000000 in
theorem alive_calls {w : World} : Calls Try.prog 9 #[] w fun e w' => e = .returned (.bool true) ∧ Below w.heap.size w w' := by
  obtain ⟨f1, f2, f3, f4, f5, f6, f7⟩ := pp_facts
  obtain ⟨g1, g2, g3, g4, g5⟩ := tm_facts
  have hnew := fun w : World => slotNew_calls (w := w) pp
  have c1 := fun w : World => Owner_calls (w := w) pp f1.fine 3
  have c2 := fun w : World => Owner_calls (w := w) pp f1.fine 2
  have c3 := fun w : World => Round_calls (w := w) pp f1.fine 7 (by decide)
  have c4 := fun w : World => Next_calls (w := w) pp f1.fine 3 2 (by decide)
  have c5 := fun w : World => Deadline_calls (w := w) pp f1.fine 1
  have c6 := fun w : World => Release_calls (w := w) pp f1.fine 1
  rw [if_pos f1, if_pos f1] at hnew
  rw [f2] at c1
  rw [f3] at c2
  rw [f4] at c3
  rw [f5] at c4
  rw [f6] at c5
  rw [f7] at c6
  simp only [Pl.cells, Pl.parts, Pl.window, Pl.delay] at hnew c1 c2 c3 c4 c5 c6
  clear f1 f2 f3 f4 f5 f6 f7
  have Hnew := Lib.hid hnew; clear hnew
  have C1 := Lib.hid c1; clear c1
  have C2 := Lib.hid c2; clear c2
  have C3 := Lib.hid c3; clear c3
  have C4 := Lib.hid c4; clear c4
  have C5 := Lib.hid c5; clear c5
  have C6 := Lib.hid c6; clear c6
  have G1 := Lib.hid g1; clear g1
  have G2 := Lib.hid g2; clear g2
  have G3 := Lib.hid g3; clear g3
  have G4 := Lib.hid g4; clear g4
  have G5 := Lib.hid g5; clear g5
  go_enter Try.func9, Try.ntmps9
  go_wp2_with fail
  refine (Hnew.out _).mono ?_
  rintro e w1 ⟨rfl, b1⟩
  have hx := heap_alloc_new w1 (.cells #[.int .i64 2, .int .i64 2, .int .i64 3] 24)
  have b2 := b1.trans (((Below.refl w1.heap.size w1).alloc (Nat.le_refl _) (.cells #[.int .i64 2, .int .i64 2, .int .i64 3] 24)).mono b1.size)
  obtain ⟨w2, hw2⟩ : ∃ w2, w2 = w1.alloc (.cells #[.int .i64 2, .int .i64 2, .int .i64 3] 24) := ⟨_, rfl⟩
  have t3 := tim_new w2
  obtain ⟨w3, hw3⟩ : ∃ w3, w3 = w2.alloc (.cells #[.slice none 0 0] 39) := ⟨_, rfl⟩
  have hs2 : w2.heap.size = w1.heap.size + 1 := by rw [hw2, World.size_alloc]
  rw [← hw2] at hx b2
  rw [← hw3] at t3
  have hxl : w1.heap.size < w2.heap.size := by omega
  have HX := Lib.hid hx; clear hx
  have B2 := Lib.hid b2; clear b2 b1
  have T3 := Lib.hid t3; clear t3
  have Hs2 := Lib.hid hs2; clear hs2
  have Hxl := Lib.hid hxl; clear hxl
  go_wp2_with fail
  rw [← Hs2.out, ← hw2, ← hw3]
  clear hw2 hw3
  refine (tim_set T3.out (by decide) 5 (id := 1) (by decide)).mono ?_
  rintro e w4 ⟨rfl, t4, -⟩
  rw [G1.out] at t4
  have T4 := Lib.hid t4; clear t4 T3
  go_wp2_with fail
  refine (tim_set T4.out (by decide) 3 (id := 2) (by decide)).mono ?_
  rintro e w5 ⟨rfl, t5, -⟩
  rw [G2.out] at t5
  have T5 := Lib.hid t5; clear t5 T4
  go_wp2_with fail
  refine (tim_set T5.out (by decide) 5 (id := 0) (by decide)).mono ?_
  rintro e w6 ⟨rfl, t6, -⟩
  rw [G3.out] at t6
  have T6 := Lib.hid t6; clear t6 T5
  go_wp2_with fail
  refine (tim_first T6.out).mono ?_
  rintro e w7 ⟨rfl, rfl⟩
  go_wp2_with fail
  refine (tim_len T6.out).mono ?_
  rintro e w8 ⟨rfl, rfl⟩
  go_wp2_with fail
  refine (tim_due T6.out (by decide) 5).mono ?_
  rintro e w9 ⟨out, rfl, o9, t9, -, -⟩
  rw [G4.out] at o9
  rw [G5.out] at t9
  obtain ⟨oa, oc, rfl, i9, -⟩ := o9.ints
  have x9 := (t9.bel.block _ Hxl.out).trans HX.out
  have T9 := Lib.hid t9; clear t9 T6 o9
  have I9 := Lib.hid i9; clear i9
  have y0 := cells_at x9 0
  have y1 := cells_at x9 1
  have y2 := cells_at x9 2
  have X9 := Lib.hid x9; clear x9
  go_wp2_with fail
  refine (C1.out _).mono ?_
  rintro e w10 ⟨rfl, bk⟩
  have t := T9.out.step bk
  have i := I9.out.keep bk
  have x := (bk.block _ (Array.getElem?_eq_some_iff.1 X9.out).1).trans X9.out
  clear y0 y1 y2 T9 I9 X9 bk
  have T10 := Lib.hid t; clear t
  have I10 := Lib.hid i; clear i
  have y0 := cells_at x 0
  have y1 := cells_at x 1
  have y2 := cells_at x 2
  have X10 := Lib.hid x; clear x
  go_wp2_with fail
  refine (C2.out _).mono ?_
  rintro e w11 ⟨rfl, bk⟩
  have t := T10.out.step bk
  have i := I10.out.keep bk
  have x := (bk.block _ (Array.getElem?_eq_some_iff.1 X10.out).1).trans X10.out
  clear y0 y1 y2 T10 I10 X10 bk
  have T11 := Lib.hid t; clear t
  have I11 := Lib.hid i; clear i
  have y0 := cells_at x 0
  have y1 := cells_at x 1
  have y2 := cells_at x 2
  have X11 := Lib.hid x; clear x
  go_wp2_with fail
  refine (C3.out _).mono ?_
  rintro e w12 ⟨rfl, bk⟩
  have t := T11.out.step bk
  have i := I11.out.keep bk
  have x := (bk.block _ (Array.getElem?_eq_some_iff.1 X11.out).1).trans X11.out
  clear y0 y1 y2 T11 I11 X11 bk
  have T12 := Lib.hid t; clear t
  have I12 := Lib.hid i; clear i
  have y0 := cells_at x 0
  have y1 := cells_at x 1
  have y2 := cells_at x 2
  have X12 := Lib.hid x; clear x
  go_wp2_with fail
  refine (C4.out _).mono ?_
  rintro e w13 ⟨rfl, bk⟩
  have t := T12.out.step bk
  have i := I12.out.keep bk
  have x := (bk.block _ (Array.getElem?_eq_some_iff.1 X12.out).1).trans X12.out
  clear y0 y1 y2 T12 I12 X12 bk
  have T13 := Lib.hid t; clear t
  have I13 := Lib.hid i; clear i
  have y0 := cells_at x 0
  have y1 := cells_at x 1
  have y2 := cells_at x 2
  have X13 := Lib.hid x; clear x
  go_wp2_with fail
  refine (C5.out _).mono ?_
  rintro e w14 ⟨rfl, bk⟩
  have t := T13.out.step bk
  have i := I13.out.keep bk
  have x := (bk.block _ (Array.getElem?_eq_some_iff.1 X13.out).1).trans X13.out
  clear y0 y1 y2 T13 I13 X13 bk
  have T14 := Lib.hid t; clear t
  have I14 := Lib.hid i; clear i
  have y0 := cells_at x 0
  have y1 := cells_at x 1
  have y2 := cells_at x 2
  have X14 := Lib.hid x; clear x
  go_wp2_with fail
  refine (C6.out _).mono ?_
  rintro e w15 ⟨rfl, bk⟩
  have t := T14.out.step bk
  have i := I14.out.keep bk
  have x := (bk.block _ (Array.getElem?_eq_some_iff.1 X14.out).1).trans X14.out
  clear y0 y1 y2 T14 I14 X14 bk
  have T15 := Lib.hid t; clear t
  have I15 := Lib.hid i; clear i
  have y0 := cells_at x 0
  have y1 := cells_at x 1
  have y2 := cells_at x 2
  have X15 := Lib.hid x; clear x
  have bk := (Below.refl w15.heap.size w15).alloc (Nat.le_refl _) (.cells #[.int .i64 2, .int .i64 0, .int .i64 1] 3)
  have z := heap_alloc_new w15 (.cells #[.int .i64 2, .int .i64 0, .int .i64 1] 3)
  have t := T15.out.step bk
  have i := I15.out.keep bk
  have iz : Ints (w15.alloc (.cells #[.int .i64 2, .int .i64 0, .int .i64 1] 3)) .i64 (some ⟨w15.heap.size, 0, none⟩) 3 3 [2, 0, 1] := ints_alloc [2, 0, 1] rfl rfl (by decide) (by decide)
  clear T15 I15 z bk
  have T16 := Lib.hid t; clear t
  have I16 := Lib.hid i; clear i
  have IZ := Lib.hid iz; clear iz
  go_wp2_with fail
  clear y0 y1 y2
  generalize w15.heap.size = gz at *
  generalize w15.alloc (.cells #[.int .i64 2, .int .i64 0, .int .i64 1] 3) = w16 at *
  refine (SameInts_calls I16.out IZ.out rfl).mono ?_
  rintro e w17 ⟨rfl, bk⟩
  have t := T16.out.step bk
  clear T16 bk I16 IZ
  have T17 := Lib.hid t; clear t
  go_wp2_with fail
  refine (tim_drop T17.out (by decide) 1).mono ?_
  rintro e w18 ⟨rfl, t, -⟩
  have hb := B2.out.trans (t.bel.mono B2.out.size)
  clear t T17
  have Hb := Lib.hid hb; clear hb
  go_wp2
  go_ret
  exact ⟨rfl, Hb.out⟩
end Go.Proofs.Ytfldohfopileeaa
