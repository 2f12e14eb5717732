/- The document's Right. -/
import Derived.Test.YtgpedejeifmfdaaRecDP
namespace Go.Proofs.Ytgpedejeifmfdaa
open Go.RowKit

set_option maxHeartbeats 16000000 in
theorem RRight_calls {w : World} (r : Rc) (hm0 : 0 ≤ r.mask) : Calls Try.prog 18 #[.agg r.cells.toArray] w fun e w' => e = .returned (.bool (rightRc r)) ∧ Below w.heap.size w w' := by
  obtain ⟨k, t, m, k0, k1, k2, k3, ot, o, nt, n⟩ := r
  simp only at hm0
  have hri := right_iffs k t m k0 k1 k2 k3 ot o nt n
  have Hri := Lib.hid hri; clear hri
  have v1 := fun w : World => Rvalue_calls (w := w) ot o
  have v2 := fun w : World => Rvalue_calls (w := w) nt n
  have V1 := Lib.hid v1; clear v1
  have V2 := Lib.hid v2; clear v2
  simp only [Rc.cells]
  by_cases c1 : k = 1
  case pos =>
    subst c1
    by_cases g1 : 1 ≤ t
    case neg =>
      have hv : rightRc ⟨1, t, m, k0, k1, k2, k3, ot, o, nt, n⟩ = false := by rw [rr1, decide_eq_false g1, Bool.false_and, Bool.false_and, Bool.false_and, Bool.false_and]
      have HV := Lib.hid hv; clear hv Hri
      have f1 : decide (1 ≤ t) = false := decide_eq_false g1
      clear g1
      obtain ⟨w1, hw1⟩ : ∃ w1, w1 = w.alloc (.cells #[.int .i64 1, .int .i64 t, .int .u16 m, .int .u8 k0, .int .u8 k1, .int .u8 k2, .int .u8 k3, .bool ot, .int .i64 o, .bool nt, .int .i64 n] 48) := ⟨_, rfl⟩
      have b1 : Below w.heap.size w w1 := by rw [hw1]; exact (Below.refl _ _).alloc (Nat.le_refl _) _
      have x1 : w1.heap[w.heap.size]? = some (.cells #[.int .i64 1, .int .i64 t, .int .u16 m, .int .u8 k0, .int .u8 k1, .int .u8 k2, .int .u8 k3, .bool ot, .int .i64 o, .bool nt, .int .i64 n] 48 (0, 0)) := by rw [hw1]; exact heap_alloc_new w _
      obtain ⟨w2, hw2⟩ : ∃ w2, w2 = w1.alloc (.cells #[.int .i64 1, .int .i64 0, .int .u16 0, .int .u8 0, .int .u8 0, .int .u8 0, .int .u8 0, .bool false, .int .i64 0, .bool false, .int .i64 0] 48) := ⟨_, rfl⟩
      have bk : Below w1.heap.size w1 w2 := by rw [hw2]; exact (Below.refl _ _).alloc (Nat.le_refl _) _
      have XA := Lib.hid ((bk.block _ (Array.getElem?_eq_some_iff.1 x1).1).trans x1)
      have Hb := Lib.hid (b1.trans (bk.mono b1.size))
      have y0 := cells_at x1 0
      have y1 := cells_at x1 1
      have y2 := cells_at x1 2
      have y3 := cells_at x1 3
      have y4 := cells_at x1 4
      have y5 := cells_at x1 5
      have y6 := cells_at x1 6
      have y7 := cells_at x1 7
      have y8 := cells_at x1 8
      have y9 := cells_at x1 9
      have y10 := cells_at x1 10
      clear x1 b1 bk
      go_enter Try.func18, Try.ntmps18
      go_wp2_with fail
      rw [← hw1, ← hw2]
      clear hw1 hw2
      go_ret
      exact ⟨(congrArg (fun b => Ending.returned (Value.bool b)) HV.out).symm, Hb.out⟩
    by_cases g2 : t ≤ 1048576
    case neg =>
      have hv : rightRc ⟨1, t, m, k0, k1, k2, k3, ot, o, nt, n⟩ = false := by rw [rr1, decide_eq_true g1, decide_eq_false g2, Bool.true_and, Bool.false_and, Bool.false_and, Bool.false_and]
      have HV := Lib.hid hv; clear hv Hri
      have f1 : decide (1 ≤ t) = true := decide_eq_true g1
      have f2 : decide (t ≤ 1048576) = false := decide_eq_false g2
      clear g1 g2
      obtain ⟨w1, hw1⟩ : ∃ w1, w1 = w.alloc (.cells #[.int .i64 1, .int .i64 t, .int .u16 m, .int .u8 k0, .int .u8 k1, .int .u8 k2, .int .u8 k3, .bool ot, .int .i64 o, .bool nt, .int .i64 n] 48) := ⟨_, rfl⟩
      have b1 : Below w.heap.size w w1 := by rw [hw1]; exact (Below.refl _ _).alloc (Nat.le_refl _) _
      have x1 : w1.heap[w.heap.size]? = some (.cells #[.int .i64 1, .int .i64 t, .int .u16 m, .int .u8 k0, .int .u8 k1, .int .u8 k2, .int .u8 k3, .bool ot, .int .i64 o, .bool nt, .int .i64 n] 48 (0, 0)) := by rw [hw1]; exact heap_alloc_new w _
      obtain ⟨w2, hw2⟩ : ∃ w2, w2 = w1.alloc (.cells #[.int .i64 1, .int .i64 0, .int .u16 0, .int .u8 0, .int .u8 0, .int .u8 0, .int .u8 0, .bool false, .int .i64 0, .bool false, .int .i64 0] 48) := ⟨_, rfl⟩
      have bk : Below w1.heap.size w1 w2 := by rw [hw2]; exact (Below.refl _ _).alloc (Nat.le_refl _) _
      have XA := Lib.hid ((bk.block _ (Array.getElem?_eq_some_iff.1 x1).1).trans x1)
      have Hb := Lib.hid (b1.trans (bk.mono b1.size))
      have y0 := cells_at x1 0
      have y1 := cells_at x1 1
      have y2 := cells_at x1 2
      have y3 := cells_at x1 3
      have y4 := cells_at x1 4
      have y5 := cells_at x1 5
      have y6 := cells_at x1 6
      have y7 := cells_at x1 7
      have y8 := cells_at x1 8
      have y9 := cells_at x1 9
      have y10 := cells_at x1 10
      clear x1 b1 bk
      go_enter Try.func18, Try.ntmps18
      go_wp2_with fail
      rw [← hw1, ← hw2]
      clear hw1 hw2
      go_ret
      exact ⟨(congrArg (fun b => Ending.returned (Value.bool b)) HV.out).symm, Hb.out⟩
    by_cases g3 : m = 0
    case neg =>
      have hv : rightRc ⟨1, t, m, k0, k1, k2, k3, ot, o, nt, n⟩ = false := by rw [rr1, decide_eq_true g1, decide_eq_true g2, Bool.true_and, decide_eq_false g3, Bool.true_and, Bool.false_and, Bool.false_and]
      have HV := Lib.hid hv; clear hv Hri
      have f1 : decide (1 ≤ t) = true := decide_eq_true g1
      have f2 : decide (t ≤ 1048576) = true := decide_eq_true g2
      have f3 : (m == 0) = false := by simpa using g3
      clear g1 g2 g3
      obtain ⟨w1, hw1⟩ : ∃ w1, w1 = w.alloc (.cells #[.int .i64 1, .int .i64 t, .int .u16 m, .int .u8 k0, .int .u8 k1, .int .u8 k2, .int .u8 k3, .bool ot, .int .i64 o, .bool nt, .int .i64 n] 48) := ⟨_, rfl⟩
      have b1 : Below w.heap.size w w1 := by rw [hw1]; exact (Below.refl _ _).alloc (Nat.le_refl _) _
      have x1 : w1.heap[w.heap.size]? = some (.cells #[.int .i64 1, .int .i64 t, .int .u16 m, .int .u8 k0, .int .u8 k1, .int .u8 k2, .int .u8 k3, .bool ot, .int .i64 o, .bool nt, .int .i64 n] 48 (0, 0)) := by rw [hw1]; exact heap_alloc_new w _
      obtain ⟨w2, hw2⟩ : ∃ w2, w2 = w1.alloc (.cells #[.int .i64 1, .int .i64 0, .int .u16 0, .int .u8 0, .int .u8 0, .int .u8 0, .int .u8 0, .bool false, .int .i64 0, .bool false, .int .i64 0] 48) := ⟨_, rfl⟩
      have bk : Below w1.heap.size w1 w2 := by rw [hw2]; exact (Below.refl _ _).alloc (Nat.le_refl _) _
      have XA := Lib.hid ((bk.block _ (Array.getElem?_eq_some_iff.1 x1).1).trans x1)
      have Hb := Lib.hid (b1.trans (bk.mono b1.size))
      have y0 := cells_at x1 0
      have y1 := cells_at x1 1
      have y2 := cells_at x1 2
      have y3 := cells_at x1 3
      have y4 := cells_at x1 4
      have y5 := cells_at x1 5
      have y6 := cells_at x1 6
      have y7 := cells_at x1 7
      have y8 := cells_at x1 8
      have y9 := cells_at x1 9
      have y10 := cells_at x1 10
      clear x1 b1 bk
      go_enter Try.func18, Try.ntmps18
      go_wp2_with fail
      rw [← hw1, ← hw2]
      clear hw1 hw2
      go_ret
      exact ⟨(congrArg (fun b => Ending.returned (Value.bool b)) HV.out).symm, Hb.out⟩
    by_cases g4 : valOk ot o
    case neg =>
      have hv : rightRc ⟨1, t, m, k0, k1, k2, k3, ot, o, nt, n⟩ = false := by rw [rr1, decide_eq_true g1, decide_eq_true g2, Bool.true_and, decide_eq_true g3, Bool.true_and, decide_eq_false g4, Bool.true_and, Bool.false_and]
      have HV := Lib.hid hv; clear hv Hri
      have f1 : decide (1 ≤ t) = true := decide_eq_true g1
      have f2 : decide (t ≤ 1048576) = true := decide_eq_true g2
      have f3 : (m == 0) = true := by simpa using g3
      rw [decide_eq_false g4] at V1
      clear g1 g2 g3 g4
      obtain ⟨w1, hw1⟩ : ∃ w1, w1 = w.alloc (.cells #[.int .i64 1, .int .i64 t, .int .u16 m, .int .u8 k0, .int .u8 k1, .int .u8 k2, .int .u8 k3, .bool ot, .int .i64 o, .bool nt, .int .i64 n] 48) := ⟨_, rfl⟩
      have b1 : Below w.heap.size w w1 := by rw [hw1]; exact (Below.refl _ _).alloc (Nat.le_refl _) _
      have x1 : w1.heap[w.heap.size]? = some (.cells #[.int .i64 1, .int .i64 t, .int .u16 m, .int .u8 k0, .int .u8 k1, .int .u8 k2, .int .u8 k3, .bool ot, .int .i64 o, .bool nt, .int .i64 n] 48 (0, 0)) := by rw [hw1]; exact heap_alloc_new w _
      obtain ⟨w2, hw2⟩ : ∃ w2, w2 = w1.alloc (.cells #[.int .i64 1, .int .i64 0, .int .u16 0, .int .u8 0, .int .u8 0, .int .u8 0, .int .u8 0, .bool false, .int .i64 0, .bool false, .int .i64 0] 48) := ⟨_, rfl⟩
      have bk : Below w1.heap.size w1 w2 := by rw [hw2]; exact (Below.refl _ _).alloc (Nat.le_refl _) _
      have XA := Lib.hid ((bk.block _ (Array.getElem?_eq_some_iff.1 x1).1).trans x1)
      have Hb := Lib.hid (b1.trans (bk.mono b1.size))
      have y0 := cells_at x1 0
      have y1 := cells_at x1 1
      have y2 := cells_at x1 2
      have y3 := cells_at x1 3
      have y4 := cells_at x1 4
      have y5 := cells_at x1 5
      have y6 := cells_at x1 6
      have y7 := cells_at x1 7
      have y8 := cells_at x1 8
      have y9 := cells_at x1 9
      have y10 := cells_at x1 10
      clear x1 b1 bk
      go_enter Try.func18, Try.ntmps18
      go_wp2_with fail
      rw [← hw1, ← hw2]
      clear hw1 hw2 y0 y1 y2 y3 y4 y5 y6 y7 y8 y9 y10
      refine (V1.out _).mono ?_
      rintro e v1w ⟨rfl, bk⟩
      have xa := (bk.block _ (Array.getElem?_eq_some_iff.1 XA.out).1).trans XA.out
      have hb := Hb.out.trans (bk.mono Hb.out.size)
      clear XA Hb bk
      have XA := Lib.hid xa; clear xa
      have Hb := Lib.hid hb; clear hb
      have y0 := cells_at XA.out 0
      have y1 := cells_at XA.out 1
      have y2 := cells_at XA.out 2
      have y3 := cells_at XA.out 3
      have y4 := cells_at XA.out 4
      have y5 := cells_at XA.out 5
      have y6 := cells_at XA.out 6
      have y7 := cells_at XA.out 7
      have y8 := cells_at XA.out 8
      have y9 := cells_at XA.out 9
      have y10 := cells_at XA.out 10
      go_wp2
      go_ret
      exact ⟨(congrArg (fun b => Ending.returned (Value.bool b)) HV.out).symm, Hb.out⟩
    by_cases g5 : valOk nt n
    case neg =>
      have hv : rightRc ⟨1, t, m, k0, k1, k2, k3, ot, o, nt, n⟩ = false := by rw [rr1, decide_eq_true g1, decide_eq_true g2, Bool.true_and, decide_eq_true g3, Bool.true_and, decide_eq_true g4, Bool.true_and, decide_eq_false g5, Bool.true_and]
      have HV := Lib.hid hv; clear hv Hri
      have f1 : decide (1 ≤ t) = true := decide_eq_true g1
      have f2 : decide (t ≤ 1048576) = true := decide_eq_true g2
      have f3 : (m == 0) = true := by simpa using g3
      rw [decide_eq_true g4] at V1
      rw [decide_eq_false g5] at V2
      clear g1 g2 g3 g4 g5
      obtain ⟨w1, hw1⟩ : ∃ w1, w1 = w.alloc (.cells #[.int .i64 1, .int .i64 t, .int .u16 m, .int .u8 k0, .int .u8 k1, .int .u8 k2, .int .u8 k3, .bool ot, .int .i64 o, .bool nt, .int .i64 n] 48) := ⟨_, rfl⟩
      have b1 : Below w.heap.size w w1 := by rw [hw1]; exact (Below.refl _ _).alloc (Nat.le_refl _) _
      have x1 : w1.heap[w.heap.size]? = some (.cells #[.int .i64 1, .int .i64 t, .int .u16 m, .int .u8 k0, .int .u8 k1, .int .u8 k2, .int .u8 k3, .bool ot, .int .i64 o, .bool nt, .int .i64 n] 48 (0, 0)) := by rw [hw1]; exact heap_alloc_new w _
      obtain ⟨w2, hw2⟩ : ∃ w2, w2 = w1.alloc (.cells #[.int .i64 1, .int .i64 0, .int .u16 0, .int .u8 0, .int .u8 0, .int .u8 0, .int .u8 0, .bool false, .int .i64 0, .bool false, .int .i64 0] 48) := ⟨_, rfl⟩
      have bk : Below w1.heap.size w1 w2 := by rw [hw2]; exact (Below.refl _ _).alloc (Nat.le_refl _) _
      have XA := Lib.hid ((bk.block _ (Array.getElem?_eq_some_iff.1 x1).1).trans x1)
      have Hb := Lib.hid (b1.trans (bk.mono b1.size))
      have y0 := cells_at x1 0
      have y1 := cells_at x1 1
      have y2 := cells_at x1 2
      have y3 := cells_at x1 3
      have y4 := cells_at x1 4
      have y5 := cells_at x1 5
      have y6 := cells_at x1 6
      have y7 := cells_at x1 7
      have y8 := cells_at x1 8
      have y9 := cells_at x1 9
      have y10 := cells_at x1 10
      clear x1 b1 bk
      go_enter Try.func18, Try.ntmps18
      go_wp2_with fail
      rw [← hw1, ← hw2]
      clear hw1 hw2 y0 y1 y2 y3 y4 y5 y6 y7 y8 y9 y10
      refine (V1.out _).mono ?_
      rintro e v1w ⟨rfl, bk⟩
      have xa := (bk.block _ (Array.getElem?_eq_some_iff.1 XA.out).1).trans XA.out
      have hb := Hb.out.trans (bk.mono Hb.out.size)
      clear XA Hb bk
      have XA := Lib.hid xa; clear xa
      have Hb := Lib.hid hb; clear hb
      have y0 := cells_at XA.out 0
      have y1 := cells_at XA.out 1
      have y2 := cells_at XA.out 2
      have y3 := cells_at XA.out 3
      have y4 := cells_at XA.out 4
      have y5 := cells_at XA.out 5
      have y6 := cells_at XA.out 6
      have y7 := cells_at XA.out 7
      have y8 := cells_at XA.out 8
      have y9 := cells_at XA.out 9
      have y10 := cells_at XA.out 10
      go_wp2_with fail
      clear y0 y1 y2 y3 y4 y5 y6 y7 y8 y9 y10
      refine (V2.out _).mono ?_
      rintro e v2w ⟨rfl, bk⟩
      have xa := (bk.block _ (Array.getElem?_eq_some_iff.1 XA.out).1).trans XA.out
      have hb := Hb.out.trans (bk.mono Hb.out.size)
      clear XA Hb bk
      have XA := Lib.hid xa; clear xa
      have Hb := Lib.hid hb; clear hb
      have y0 := cells_at XA.out 0
      have y1 := cells_at XA.out 1
      have y2 := cells_at XA.out 2
      have y3 := cells_at XA.out 3
      have y4 := cells_at XA.out 4
      have y5 := cells_at XA.out 5
      have y6 := cells_at XA.out 6
      have y7 := cells_at XA.out 7
      have y8 := cells_at XA.out 8
      have y9 := cells_at XA.out 9
      have y10 := cells_at XA.out 10
      go_wp2
      go_ret
      exact ⟨(congrArg (fun b => Ending.returned (Value.bool b)) HV.out).symm, Hb.out⟩
    have hv : rightRc ⟨1, t, m, k0, k1, k2, k3, ot, o, nt, n⟩ = true := by rw [rr1, decide_eq_true g1, decide_eq_true g2, Bool.true_and, decide_eq_true g3, Bool.true_and, decide_eq_true g4, Bool.true_and, decide_eq_true g5, Bool.true_and]
    have HV := Lib.hid hv; clear hv Hri
    have f1 : decide (1 ≤ t) = true := decide_eq_true g1
    have f2 : decide (t ≤ 1048576) = true := decide_eq_true g2
    have f3 : (m == 0) = true := by simpa using g3
    rw [decide_eq_true g4] at V1
    rw [decide_eq_true g5] at V2
    clear g1 g2 g3 g4 g5
    obtain ⟨w1, hw1⟩ : ∃ w1, w1 = w.alloc (.cells #[.int .i64 1, .int .i64 t, .int .u16 m, .int .u8 k0, .int .u8 k1, .int .u8 k2, .int .u8 k3, .bool ot, .int .i64 o, .bool nt, .int .i64 n] 48) := ⟨_, rfl⟩
    have b1 : Below w.heap.size w w1 := by rw [hw1]; exact (Below.refl _ _).alloc (Nat.le_refl _) _
    have x1 : w1.heap[w.heap.size]? = some (.cells #[.int .i64 1, .int .i64 t, .int .u16 m, .int .u8 k0, .int .u8 k1, .int .u8 k2, .int .u8 k3, .bool ot, .int .i64 o, .bool nt, .int .i64 n] 48 (0, 0)) := by rw [hw1]; exact heap_alloc_new w _
    obtain ⟨w2, hw2⟩ : ∃ w2, w2 = w1.alloc (.cells #[.int .i64 1, .int .i64 0, .int .u16 0, .int .u8 0, .int .u8 0, .int .u8 0, .int .u8 0, .bool false, .int .i64 0, .bool false, .int .i64 0] 48) := ⟨_, rfl⟩
    have bk : Below w1.heap.size w1 w2 := by rw [hw2]; exact (Below.refl _ _).alloc (Nat.le_refl _) _
    have XA := Lib.hid ((bk.block _ (Array.getElem?_eq_some_iff.1 x1).1).trans x1)
    have Hb := Lib.hid (b1.trans (bk.mono b1.size))
    have y0 := cells_at x1 0
    have y1 := cells_at x1 1
    have y2 := cells_at x1 2
    have y3 := cells_at x1 3
    have y4 := cells_at x1 4
    have y5 := cells_at x1 5
    have y6 := cells_at x1 6
    have y7 := cells_at x1 7
    have y8 := cells_at x1 8
    have y9 := cells_at x1 9
    have y10 := cells_at x1 10
    clear x1 b1 bk
    go_enter Try.func18, Try.ntmps18
    go_wp2_with fail
    rw [← hw1, ← hw2]
    clear hw1 hw2 y0 y1 y2 y3 y4 y5 y6 y7 y8 y9 y10
    refine (V1.out _).mono ?_
    rintro e v1w ⟨rfl, bk⟩
    have xa := (bk.block _ (Array.getElem?_eq_some_iff.1 XA.out).1).trans XA.out
    have hb := Hb.out.trans (bk.mono Hb.out.size)
    clear XA Hb bk
    have XA := Lib.hid xa; clear xa
    have Hb := Lib.hid hb; clear hb
    have y0 := cells_at XA.out 0
    have y1 := cells_at XA.out 1
    have y2 := cells_at XA.out 2
    have y3 := cells_at XA.out 3
    have y4 := cells_at XA.out 4
    have y5 := cells_at XA.out 5
    have y6 := cells_at XA.out 6
    have y7 := cells_at XA.out 7
    have y8 := cells_at XA.out 8
    have y9 := cells_at XA.out 9
    have y10 := cells_at XA.out 10
    go_wp2_with fail
    clear y0 y1 y2 y3 y4 y5 y6 y7 y8 y9 y10
    refine (V2.out _).mono ?_
    rintro e v2w ⟨rfl, bk⟩
    have xa := (bk.block _ (Array.getElem?_eq_some_iff.1 XA.out).1).trans XA.out
    have hb := Hb.out.trans (bk.mono Hb.out.size)
    clear XA Hb bk
    have XA := Lib.hid xa; clear xa
    have Hb := Lib.hid hb; clear hb
    have y0 := cells_at XA.out 0
    have y1 := cells_at XA.out 1
    have y2 := cells_at XA.out 2
    have y3 := cells_at XA.out 3
    have y4 := cells_at XA.out 4
    have y5 := cells_at XA.out 5
    have y6 := cells_at XA.out 6
    have y7 := cells_at XA.out 7
    have y8 := cells_at XA.out 8
    have y9 := cells_at XA.out 9
    have y10 := cells_at XA.out 10
    go_wp2
    go_ret
    exact ⟨(congrArg (fun b => Ending.returned (Value.bool b)) HV.out).symm, Hb.out⟩
  by_cases c2 : k = 2
  case pos =>
    subst c2
    by_cases ge : (⟨2, t, m, k0, k1, k2, k3, ot, o, nt, n⟩ : Rc) = ⟨2, t, m, 0, 0, 0, 0, false, 0, false, 0⟩
    case neg =>
      have hv : rightRc ⟨2, t, m, k0, k1, k2, k3, ot, o, nt, n⟩ = false := by rw [rr2, decide_eq_false ge, Bool.false_and, Bool.false_and, Bool.false_and]
      have HV := Lib.hid hv; clear hv Hri
      have hq := fun w => rc_eql w ⟨2, t, m, k0, k1, k2, k3, ot, o, nt, n⟩ ⟨2, t, m, 0, 0, 0, 0, false, 0, false, 0⟩
      have hg := fun x y w => rc_guard .eql x y ⟨2, t, m, k0, k1, k2, k3, ot, o, nt, n⟩ ⟨2, t, m, 0, 0, 0, 0, false, 0, false, 0⟩ w
      rw [decide_eq_false ge] at hq
      simp only [Rc.cells] at hq hg
      clear ge
      obtain ⟨w1, hw1⟩ : ∃ w1, w1 = w.alloc (.cells #[.int .i64 2, .int .i64 t, .int .u16 m, .int .u8 k0, .int .u8 k1, .int .u8 k2, .int .u8 k3, .bool ot, .int .i64 o, .bool nt, .int .i64 n] 48) := ⟨_, rfl⟩
      have b1 : Below w.heap.size w w1 := by rw [hw1]; exact (Below.refl _ _).alloc (Nat.le_refl _) _
      have x1 : w1.heap[w.heap.size]? = some (.cells #[.int .i64 2, .int .i64 t, .int .u16 m, .int .u8 k0, .int .u8 k1, .int .u8 k2, .int .u8 k3, .bool ot, .int .i64 o, .bool nt, .int .i64 n] 48 (0, 0)) := by rw [hw1]; exact heap_alloc_new w _
      obtain ⟨w2, hw2⟩ : ∃ w2, w2 = w1.alloc (.cells #[.int .i64 2, .int .i64 t, .int .u16 m, .int .u8 0, .int .u8 0, .int .u8 0, .int .u8 0, .bool false, .int .i64 0, .bool false, .int .i64 0] 48) := ⟨_, rfl⟩
      have bk : Below w1.heap.size w1 w2 := by rw [hw2]; exact (Below.refl _ _).alloc (Nat.le_refl _) _
      have XA := Lib.hid ((bk.block _ (Array.getElem?_eq_some_iff.1 x1).1).trans x1)
      have Hb := Lib.hid (b1.trans (bk.mono b1.size))
      have y0 := cells_at x1 0
      have y1 := cells_at x1 1
      have y2 := cells_at x1 2
      have y3 := cells_at x1 3
      have y4 := cells_at x1 4
      have y5 := cells_at x1 5
      have y6 := cells_at x1 6
      have y7 := cells_at x1 7
      have y8 := cells_at x1 8
      have y9 := cells_at x1 9
      have y10 := cells_at x1 10
      clear x1 b1 bk
      go_enter Try.func18, Try.ntmps18
      go_wp2_with fail
      rw [← hw1, ← hw2]
      clear hw1 hw2
      go_ret
      exact ⟨(congrArg (fun b => Ending.returned (Value.bool b)) HV.out).symm, Hb.out⟩
    by_cases g1 : 1 ≤ t
    case neg =>
      have hv : rightRc ⟨2, t, m, k0, k1, k2, k3, ot, o, nt, n⟩ = false := by rw [rr2, decide_eq_true ge, decide_eq_false g1, Bool.true_and, Bool.false_and, Bool.false_and]
      have HV := Lib.hid hv; clear hv Hri
      have hq := fun w => rc_eql w ⟨2, t, m, k0, k1, k2, k3, ot, o, nt, n⟩ ⟨2, t, m, 0, 0, 0, 0, false, 0, false, 0⟩
      have hg := fun x y w => rc_guard .eql x y ⟨2, t, m, k0, k1, k2, k3, ot, o, nt, n⟩ ⟨2, t, m, 0, 0, 0, 0, false, 0, false, 0⟩ w
      rw [decide_eq_true ge] at hq
      simp only [Rc.cells] at hq hg
      have f1 : decide (1 ≤ t) = false := decide_eq_false g1
      clear ge g1
      obtain ⟨w1, hw1⟩ : ∃ w1, w1 = w.alloc (.cells #[.int .i64 2, .int .i64 t, .int .u16 m, .int .u8 k0, .int .u8 k1, .int .u8 k2, .int .u8 k3, .bool ot, .int .i64 o, .bool nt, .int .i64 n] 48) := ⟨_, rfl⟩
      have b1 : Below w.heap.size w w1 := by rw [hw1]; exact (Below.refl _ _).alloc (Nat.le_refl _) _
      have x1 : w1.heap[w.heap.size]? = some (.cells #[.int .i64 2, .int .i64 t, .int .u16 m, .int .u8 k0, .int .u8 k1, .int .u8 k2, .int .u8 k3, .bool ot, .int .i64 o, .bool nt, .int .i64 n] 48 (0, 0)) := by rw [hw1]; exact heap_alloc_new w _
      obtain ⟨w2, hw2⟩ : ∃ w2, w2 = w1.alloc (.cells #[.int .i64 2, .int .i64 t, .int .u16 m, .int .u8 0, .int .u8 0, .int .u8 0, .int .u8 0, .bool false, .int .i64 0, .bool false, .int .i64 0] 48) := ⟨_, rfl⟩
      have bk : Below w1.heap.size w1 w2 := by rw [hw2]; exact (Below.refl _ _).alloc (Nat.le_refl _) _
      have XA := Lib.hid ((bk.block _ (Array.getElem?_eq_some_iff.1 x1).1).trans x1)
      have Hb := Lib.hid (b1.trans (bk.mono b1.size))
      have y0 := cells_at x1 0
      have y1 := cells_at x1 1
      have y2 := cells_at x1 2
      have y3 := cells_at x1 3
      have y4 := cells_at x1 4
      have y5 := cells_at x1 5
      have y6 := cells_at x1 6
      have y7 := cells_at x1 7
      have y8 := cells_at x1 8
      have y9 := cells_at x1 9
      have y10 := cells_at x1 10
      clear x1 b1 bk
      go_enter Try.func18, Try.ntmps18
      go_wp2_with fail
      rw [← hw1, ← hw2]
      clear hw1 hw2
      go_ret
      exact ⟨(congrArg (fun b => Ending.returned (Value.bool b)) HV.out).symm, Hb.out⟩
    by_cases g2 : t ≤ 1048576
    case neg =>
      have hv : rightRc ⟨2, t, m, k0, k1, k2, k3, ot, o, nt, n⟩ = false := by rw [rr2, decide_eq_true ge, decide_eq_true g1, Bool.true_and, decide_eq_false g2, Bool.true_and, Bool.false_and]
      have HV := Lib.hid hv; clear hv Hri
      have hq := fun w => rc_eql w ⟨2, t, m, k0, k1, k2, k3, ot, o, nt, n⟩ ⟨2, t, m, 0, 0, 0, 0, false, 0, false, 0⟩
      have hg := fun x y w => rc_guard .eql x y ⟨2, t, m, k0, k1, k2, k3, ot, o, nt, n⟩ ⟨2, t, m, 0, 0, 0, 0, false, 0, false, 0⟩ w
      rw [decide_eq_true ge] at hq
      simp only [Rc.cells] at hq hg
      have f1 : decide (1 ≤ t) = true := decide_eq_true g1
      have f2 : decide (t ≤ 1048576) = false := decide_eq_false g2
      clear ge g1 g2
      obtain ⟨w1, hw1⟩ : ∃ w1, w1 = w.alloc (.cells #[.int .i64 2, .int .i64 t, .int .u16 m, .int .u8 k0, .int .u8 k1, .int .u8 k2, .int .u8 k3, .bool ot, .int .i64 o, .bool nt, .int .i64 n] 48) := ⟨_, rfl⟩
      have b1 : Below w.heap.size w w1 := by rw [hw1]; exact (Below.refl _ _).alloc (Nat.le_refl _) _
      have x1 : w1.heap[w.heap.size]? = some (.cells #[.int .i64 2, .int .i64 t, .int .u16 m, .int .u8 k0, .int .u8 k1, .int .u8 k2, .int .u8 k3, .bool ot, .int .i64 o, .bool nt, .int .i64 n] 48 (0, 0)) := by rw [hw1]; exact heap_alloc_new w _
      obtain ⟨w2, hw2⟩ : ∃ w2, w2 = w1.alloc (.cells #[.int .i64 2, .int .i64 t, .int .u16 m, .int .u8 0, .int .u8 0, .int .u8 0, .int .u8 0, .bool false, .int .i64 0, .bool false, .int .i64 0] 48) := ⟨_, rfl⟩
      have bk : Below w1.heap.size w1 w2 := by rw [hw2]; exact (Below.refl _ _).alloc (Nat.le_refl _) _
      have XA := Lib.hid ((bk.block _ (Array.getElem?_eq_some_iff.1 x1).1).trans x1)
      have Hb := Lib.hid (b1.trans (bk.mono b1.size))
      have y0 := cells_at x1 0
      have y1 := cells_at x1 1
      have y2 := cells_at x1 2
      have y3 := cells_at x1 3
      have y4 := cells_at x1 4
      have y5 := cells_at x1 5
      have y6 := cells_at x1 6
      have y7 := cells_at x1 7
      have y8 := cells_at x1 8
      have y9 := cells_at x1 9
      have y10 := cells_at x1 10
      clear x1 b1 bk
      go_enter Try.func18, Try.ntmps18
      go_wp2_with fail
      rw [← hw1, ← hw2]
      clear hw1 hw2
      go_ret
      exact ⟨(congrArg (fun b => Ending.returned (Value.bool b)) HV.out).symm, Hb.out⟩
    by_cases g3 : m ≠ 0
    case neg =>
      have hv : rightRc ⟨2, t, m, k0, k1, k2, k3, ot, o, nt, n⟩ = false := by rw [rr2, decide_eq_true ge, decide_eq_true g1, Bool.true_and, decide_eq_true g2, Bool.true_and, decide_eq_false g3, Bool.true_and]
      have HV := Lib.hid hv; clear hv Hri
      have hq := fun w => rc_eql w ⟨2, t, m, k0, k1, k2, k3, ot, o, nt, n⟩ ⟨2, t, m, 0, 0, 0, 0, false, 0, false, 0⟩
      have hg := fun x y w => rc_guard .eql x y ⟨2, t, m, k0, k1, k2, k3, ot, o, nt, n⟩ ⟨2, t, m, 0, 0, 0, 0, false, 0, false, 0⟩ w
      rw [decide_eq_true ge] at hq
      simp only [Rc.cells] at hq hg
      have f1 : decide (1 ≤ t) = true := decide_eq_true g1
      have f2 : decide (t ≤ 1048576) = true := decide_eq_true g2
      have f3 : (m != 0) = false := by simpa using g3
      clear ge g1 g2 g3
      obtain ⟨w1, hw1⟩ : ∃ w1, w1 = w.alloc (.cells #[.int .i64 2, .int .i64 t, .int .u16 m, .int .u8 k0, .int .u8 k1, .int .u8 k2, .int .u8 k3, .bool ot, .int .i64 o, .bool nt, .int .i64 n] 48) := ⟨_, rfl⟩
      have b1 : Below w.heap.size w w1 := by rw [hw1]; exact (Below.refl _ _).alloc (Nat.le_refl _) _
      have x1 : w1.heap[w.heap.size]? = some (.cells #[.int .i64 2, .int .i64 t, .int .u16 m, .int .u8 k0, .int .u8 k1, .int .u8 k2, .int .u8 k3, .bool ot, .int .i64 o, .bool nt, .int .i64 n] 48 (0, 0)) := by rw [hw1]; exact heap_alloc_new w _
      obtain ⟨w2, hw2⟩ : ∃ w2, w2 = w1.alloc (.cells #[.int .i64 2, .int .i64 t, .int .u16 m, .int .u8 0, .int .u8 0, .int .u8 0, .int .u8 0, .bool false, .int .i64 0, .bool false, .int .i64 0] 48) := ⟨_, rfl⟩
      have bk : Below w1.heap.size w1 w2 := by rw [hw2]; exact (Below.refl _ _).alloc (Nat.le_refl _) _
      have XA := Lib.hid ((bk.block _ (Array.getElem?_eq_some_iff.1 x1).1).trans x1)
      have Hb := Lib.hid (b1.trans (bk.mono b1.size))
      have y0 := cells_at x1 0
      have y1 := cells_at x1 1
      have y2 := cells_at x1 2
      have y3 := cells_at x1 3
      have y4 := cells_at x1 4
      have y5 := cells_at x1 5
      have y6 := cells_at x1 6
      have y7 := cells_at x1 7
      have y8 := cells_at x1 8
      have y9 := cells_at x1 9
      have y10 := cells_at x1 10
      clear x1 b1 bk
      go_enter Try.func18, Try.ntmps18
      go_wp2_with fail
      rw [← hw1, ← hw2]
      clear hw1 hw2
      go_ret
      exact ⟨(congrArg (fun b => Ending.returned (Value.bool b)) HV.out).symm, Hb.out⟩
    have hv : rightRc ⟨2, t, m, k0, k1, k2, k3, ot, o, nt, n⟩ = true := by rw [rr2, decide_eq_true ge, decide_eq_true g1, Bool.true_and, decide_eq_true g2, Bool.true_and, decide_eq_true g3, Bool.true_and]
    have HV := Lib.hid hv; clear hv Hri
    have hq := fun w => rc_eql w ⟨2, t, m, k0, k1, k2, k3, ot, o, nt, n⟩ ⟨2, t, m, 0, 0, 0, 0, false, 0, false, 0⟩
    have hg := fun x y w => rc_guard .eql x y ⟨2, t, m, k0, k1, k2, k3, ot, o, nt, n⟩ ⟨2, t, m, 0, 0, 0, 0, false, 0, false, 0⟩ w
    rw [decide_eq_true ge] at hq
    simp only [Rc.cells] at hq hg
    have f1 : decide (1 ≤ t) = true := decide_eq_true g1
    have f2 : decide (t ≤ 1048576) = true := decide_eq_true g2
    have f3 : (m != 0) = true := by simpa using g3
    clear ge g1 g2 g3
    obtain ⟨w1, hw1⟩ : ∃ w1, w1 = w.alloc (.cells #[.int .i64 2, .int .i64 t, .int .u16 m, .int .u8 k0, .int .u8 k1, .int .u8 k2, .int .u8 k3, .bool ot, .int .i64 o, .bool nt, .int .i64 n] 48) := ⟨_, rfl⟩
    have b1 : Below w.heap.size w w1 := by rw [hw1]; exact (Below.refl _ _).alloc (Nat.le_refl _) _
    have x1 : w1.heap[w.heap.size]? = some (.cells #[.int .i64 2, .int .i64 t, .int .u16 m, .int .u8 k0, .int .u8 k1, .int .u8 k2, .int .u8 k3, .bool ot, .int .i64 o, .bool nt, .int .i64 n] 48 (0, 0)) := by rw [hw1]; exact heap_alloc_new w _
    obtain ⟨w2, hw2⟩ : ∃ w2, w2 = w1.alloc (.cells #[.int .i64 2, .int .i64 t, .int .u16 m, .int .u8 0, .int .u8 0, .int .u8 0, .int .u8 0, .bool false, .int .i64 0, .bool false, .int .i64 0] 48) := ⟨_, rfl⟩
    have bk : Below w1.heap.size w1 w2 := by rw [hw2]; exact (Below.refl _ _).alloc (Nat.le_refl _) _
    have XA := Lib.hid ((bk.block _ (Array.getElem?_eq_some_iff.1 x1).1).trans x1)
    have Hb := Lib.hid (b1.trans (bk.mono b1.size))
    have y0 := cells_at x1 0
    have y1 := cells_at x1 1
    have y2 := cells_at x1 2
    have y3 := cells_at x1 3
    have y4 := cells_at x1 4
    have y5 := cells_at x1 5
    have y6 := cells_at x1 6
    have y7 := cells_at x1 7
    have y8 := cells_at x1 8
    have y9 := cells_at x1 9
    have y10 := cells_at x1 10
    clear x1 b1 bk
    go_enter Try.func18, Try.ntmps18
    go_wp2_with fail
    rw [← hw1, ← hw2]
    clear hw1 hw2
    go_ret
    exact ⟨(congrArg (fun b => Ending.returned (Value.bool b)) HV.out).symm, Hb.out⟩
  by_cases c3 : k = 3
  case pos =>
    subst c3
    by_cases ge : (⟨3, t, m, k0, k1, k2, k3, ot, o, nt, n⟩ : Rc) = ⟨3, t, 0, 0, 0, 0, 0, false, 0, false, 0⟩
    case neg =>
      have hv : rightRc ⟨3, t, m, k0, k1, k2, k3, ot, o, nt, n⟩ = false := by rw [rr3, decide_eq_false ge, Bool.false_and, Bool.false_and]
      have HV := Lib.hid hv; clear hv Hri
      have hq := fun w => rc_eql w ⟨3, t, m, k0, k1, k2, k3, ot, o, nt, n⟩ ⟨3, t, 0, 0, 0, 0, 0, false, 0, false, 0⟩
      have hg := fun x y w => rc_guard .eql x y ⟨3, t, m, k0, k1, k2, k3, ot, o, nt, n⟩ ⟨3, t, 0, 0, 0, 0, 0, false, 0, false, 0⟩ w
      rw [decide_eq_false ge] at hq
      simp only [Rc.cells] at hq hg
      clear ge
      obtain ⟨w1, hw1⟩ : ∃ w1, w1 = w.alloc (.cells #[.int .i64 3, .int .i64 t, .int .u16 m, .int .u8 k0, .int .u8 k1, .int .u8 k2, .int .u8 k3, .bool ot, .int .i64 o, .bool nt, .int .i64 n] 48) := ⟨_, rfl⟩
      have b1 : Below w.heap.size w w1 := by rw [hw1]; exact (Below.refl _ _).alloc (Nat.le_refl _) _
      have x1 : w1.heap[w.heap.size]? = some (.cells #[.int .i64 3, .int .i64 t, .int .u16 m, .int .u8 k0, .int .u8 k1, .int .u8 k2, .int .u8 k3, .bool ot, .int .i64 o, .bool nt, .int .i64 n] 48 (0, 0)) := by rw [hw1]; exact heap_alloc_new w _
      obtain ⟨w2, hw2⟩ : ∃ w2, w2 = w1.alloc (.cells #[.int .i64 3, .int .i64 t, .int .u16 0, .int .u8 0, .int .u8 0, .int .u8 0, .int .u8 0, .bool false, .int .i64 0, .bool false, .int .i64 0] 48) := ⟨_, rfl⟩
      have bk : Below w1.heap.size w1 w2 := by rw [hw2]; exact (Below.refl _ _).alloc (Nat.le_refl _) _
      have XA := Lib.hid ((bk.block _ (Array.getElem?_eq_some_iff.1 x1).1).trans x1)
      have Hb := Lib.hid (b1.trans (bk.mono b1.size))
      have y0 := cells_at x1 0
      have y1 := cells_at x1 1
      have y2 := cells_at x1 2
      have y3 := cells_at x1 3
      have y4 := cells_at x1 4
      have y5 := cells_at x1 5
      have y6 := cells_at x1 6
      have y7 := cells_at x1 7
      have y8 := cells_at x1 8
      have y9 := cells_at x1 9
      have y10 := cells_at x1 10
      clear x1 b1 bk
      go_enter Try.func18, Try.ntmps18
      go_wp2_with fail
      rw [← hw1, ← hw2]
      clear hw1 hw2
      go_ret
      exact ⟨(congrArg (fun b => Ending.returned (Value.bool b)) HV.out).symm, Hb.out⟩
    by_cases g1 : 1 ≤ t
    case neg =>
      have hv : rightRc ⟨3, t, m, k0, k1, k2, k3, ot, o, nt, n⟩ = false := by rw [rr3, decide_eq_true ge, decide_eq_false g1, Bool.true_and, Bool.false_and]
      have HV := Lib.hid hv; clear hv Hri
      have hq := fun w => rc_eql w ⟨3, t, m, k0, k1, k2, k3, ot, o, nt, n⟩ ⟨3, t, 0, 0, 0, 0, 0, false, 0, false, 0⟩
      have hg := fun x y w => rc_guard .eql x y ⟨3, t, m, k0, k1, k2, k3, ot, o, nt, n⟩ ⟨3, t, 0, 0, 0, 0, 0, false, 0, false, 0⟩ w
      rw [decide_eq_true ge] at hq
      simp only [Rc.cells] at hq hg
      have f1 : decide (1 ≤ t) = false := decide_eq_false g1
      clear ge g1
      obtain ⟨w1, hw1⟩ : ∃ w1, w1 = w.alloc (.cells #[.int .i64 3, .int .i64 t, .int .u16 m, .int .u8 k0, .int .u8 k1, .int .u8 k2, .int .u8 k3, .bool ot, .int .i64 o, .bool nt, .int .i64 n] 48) := ⟨_, rfl⟩
      have b1 : Below w.heap.size w w1 := by rw [hw1]; exact (Below.refl _ _).alloc (Nat.le_refl _) _
      have x1 : w1.heap[w.heap.size]? = some (.cells #[.int .i64 3, .int .i64 t, .int .u16 m, .int .u8 k0, .int .u8 k1, .int .u8 k2, .int .u8 k3, .bool ot, .int .i64 o, .bool nt, .int .i64 n] 48 (0, 0)) := by rw [hw1]; exact heap_alloc_new w _
      obtain ⟨w2, hw2⟩ : ∃ w2, w2 = w1.alloc (.cells #[.int .i64 3, .int .i64 t, .int .u16 0, .int .u8 0, .int .u8 0, .int .u8 0, .int .u8 0, .bool false, .int .i64 0, .bool false, .int .i64 0] 48) := ⟨_, rfl⟩
      have bk : Below w1.heap.size w1 w2 := by rw [hw2]; exact (Below.refl _ _).alloc (Nat.le_refl _) _
      have XA := Lib.hid ((bk.block _ (Array.getElem?_eq_some_iff.1 x1).1).trans x1)
      have Hb := Lib.hid (b1.trans (bk.mono b1.size))
      have y0 := cells_at x1 0
      have y1 := cells_at x1 1
      have y2 := cells_at x1 2
      have y3 := cells_at x1 3
      have y4 := cells_at x1 4
      have y5 := cells_at x1 5
      have y6 := cells_at x1 6
      have y7 := cells_at x1 7
      have y8 := cells_at x1 8
      have y9 := cells_at x1 9
      have y10 := cells_at x1 10
      clear x1 b1 bk
      go_enter Try.func18, Try.ntmps18
      go_wp2_with fail
      rw [← hw1, ← hw2]
      clear hw1 hw2
      go_ret
      exact ⟨(congrArg (fun b => Ending.returned (Value.bool b)) HV.out).symm, Hb.out⟩
    by_cases g2 : t ≤ 1048576
    case neg =>
      have hv : rightRc ⟨3, t, m, k0, k1, k2, k3, ot, o, nt, n⟩ = false := by rw [rr3, decide_eq_true ge, decide_eq_true g1, Bool.true_and, decide_eq_false g2, Bool.true_and]
      have HV := Lib.hid hv; clear hv Hri
      have hq := fun w => rc_eql w ⟨3, t, m, k0, k1, k2, k3, ot, o, nt, n⟩ ⟨3, t, 0, 0, 0, 0, 0, false, 0, false, 0⟩
      have hg := fun x y w => rc_guard .eql x y ⟨3, t, m, k0, k1, k2, k3, ot, o, nt, n⟩ ⟨3, t, 0, 0, 0, 0, 0, false, 0, false, 0⟩ w
      rw [decide_eq_true ge] at hq
      simp only [Rc.cells] at hq hg
      have f1 : decide (1 ≤ t) = true := decide_eq_true g1
      have f2 : decide (t ≤ 1048576) = false := decide_eq_false g2
      clear ge g1 g2
      obtain ⟨w1, hw1⟩ : ∃ w1, w1 = w.alloc (.cells #[.int .i64 3, .int .i64 t, .int .u16 m, .int .u8 k0, .int .u8 k1, .int .u8 k2, .int .u8 k3, .bool ot, .int .i64 o, .bool nt, .int .i64 n] 48) := ⟨_, rfl⟩
      have b1 : Below w.heap.size w w1 := by rw [hw1]; exact (Below.refl _ _).alloc (Nat.le_refl _) _
      have x1 : w1.heap[w.heap.size]? = some (.cells #[.int .i64 3, .int .i64 t, .int .u16 m, .int .u8 k0, .int .u8 k1, .int .u8 k2, .int .u8 k3, .bool ot, .int .i64 o, .bool nt, .int .i64 n] 48 (0, 0)) := by rw [hw1]; exact heap_alloc_new w _
      obtain ⟨w2, hw2⟩ : ∃ w2, w2 = w1.alloc (.cells #[.int .i64 3, .int .i64 t, .int .u16 0, .int .u8 0, .int .u8 0, .int .u8 0, .int .u8 0, .bool false, .int .i64 0, .bool false, .int .i64 0] 48) := ⟨_, rfl⟩
      have bk : Below w1.heap.size w1 w2 := by rw [hw2]; exact (Below.refl _ _).alloc (Nat.le_refl _) _
      have XA := Lib.hid ((bk.block _ (Array.getElem?_eq_some_iff.1 x1).1).trans x1)
      have Hb := Lib.hid (b1.trans (bk.mono b1.size))
      have y0 := cells_at x1 0
      have y1 := cells_at x1 1
      have y2 := cells_at x1 2
      have y3 := cells_at x1 3
      have y4 := cells_at x1 4
      have y5 := cells_at x1 5
      have y6 := cells_at x1 6
      have y7 := cells_at x1 7
      have y8 := cells_at x1 8
      have y9 := cells_at x1 9
      have y10 := cells_at x1 10
      clear x1 b1 bk
      go_enter Try.func18, Try.ntmps18
      go_wp2_with fail
      rw [← hw1, ← hw2]
      clear hw1 hw2
      go_ret
      exact ⟨(congrArg (fun b => Ending.returned (Value.bool b)) HV.out).symm, Hb.out⟩
    have hv : rightRc ⟨3, t, m, k0, k1, k2, k3, ot, o, nt, n⟩ = true := by rw [rr3, decide_eq_true ge, decide_eq_true g1, Bool.true_and, decide_eq_true g2, Bool.true_and]
    have HV := Lib.hid hv; clear hv Hri
    have hq := fun w => rc_eql w ⟨3, t, m, k0, k1, k2, k3, ot, o, nt, n⟩ ⟨3, t, 0, 0, 0, 0, 0, false, 0, false, 0⟩
    have hg := fun x y w => rc_guard .eql x y ⟨3, t, m, k0, k1, k2, k3, ot, o, nt, n⟩ ⟨3, t, 0, 0, 0, 0, 0, false, 0, false, 0⟩ w
    rw [decide_eq_true ge] at hq
    simp only [Rc.cells] at hq hg
    have f1 : decide (1 ≤ t) = true := decide_eq_true g1
    have f2 : decide (t ≤ 1048576) = true := decide_eq_true g2
    clear ge g1 g2
    obtain ⟨w1, hw1⟩ : ∃ w1, w1 = w.alloc (.cells #[.int .i64 3, .int .i64 t, .int .u16 m, .int .u8 k0, .int .u8 k1, .int .u8 k2, .int .u8 k3, .bool ot, .int .i64 o, .bool nt, .int .i64 n] 48) := ⟨_, rfl⟩
    have b1 : Below w.heap.size w w1 := by rw [hw1]; exact (Below.refl _ _).alloc (Nat.le_refl _) _
    have x1 : w1.heap[w.heap.size]? = some (.cells #[.int .i64 3, .int .i64 t, .int .u16 m, .int .u8 k0, .int .u8 k1, .int .u8 k2, .int .u8 k3, .bool ot, .int .i64 o, .bool nt, .int .i64 n] 48 (0, 0)) := by rw [hw1]; exact heap_alloc_new w _
    obtain ⟨w2, hw2⟩ : ∃ w2, w2 = w1.alloc (.cells #[.int .i64 3, .int .i64 t, .int .u16 0, .int .u8 0, .int .u8 0, .int .u8 0, .int .u8 0, .bool false, .int .i64 0, .bool false, .int .i64 0] 48) := ⟨_, rfl⟩
    have bk : Below w1.heap.size w1 w2 := by rw [hw2]; exact (Below.refl _ _).alloc (Nat.le_refl _) _
    have XA := Lib.hid ((bk.block _ (Array.getElem?_eq_some_iff.1 x1).1).trans x1)
    have Hb := Lib.hid (b1.trans (bk.mono b1.size))
    have y0 := cells_at x1 0
    have y1 := cells_at x1 1
    have y2 := cells_at x1 2
    have y3 := cells_at x1 3
    have y4 := cells_at x1 4
    have y5 := cells_at x1 5
    have y6 := cells_at x1 6
    have y7 := cells_at x1 7
    have y8 := cells_at x1 8
    have y9 := cells_at x1 9
    have y10 := cells_at x1 10
    clear x1 b1 bk
    go_enter Try.func18, Try.ntmps18
    go_wp2_with fail
    rw [← hw1, ← hw2]
    clear hw1 hw2
    go_ret
    exact ⟨(congrArg (fun b => Ending.returned (Value.bool b)) HV.out).symm, Hb.out⟩
  by_cases c4 : k = 4
  case pos =>
    subst c4
    by_cases ge : (⟨4, t, m, k0, k1, k2, k3, ot, o, nt, n⟩ : Rc) = ⟨4, t, 0, 0, 0, 0, 0, false, 0, false, 0⟩
    case neg =>
      have hv : rightRc ⟨4, t, m, k0, k1, k2, k3, ot, o, nt, n⟩ = false := by rw [rr4, decide_eq_false ge, Bool.false_and, Bool.false_and]
      have HV := Lib.hid hv; clear hv Hri
      have hq := fun w => rc_eql w ⟨4, t, m, k0, k1, k2, k3, ot, o, nt, n⟩ ⟨4, t, 0, 0, 0, 0, 0, false, 0, false, 0⟩
      have hg := fun x y w => rc_guard .eql x y ⟨4, t, m, k0, k1, k2, k3, ot, o, nt, n⟩ ⟨4, t, 0, 0, 0, 0, 0, false, 0, false, 0⟩ w
      rw [decide_eq_false ge] at hq
      simp only [Rc.cells] at hq hg
      clear ge
      obtain ⟨w1, hw1⟩ : ∃ w1, w1 = w.alloc (.cells #[.int .i64 4, .int .i64 t, .int .u16 m, .int .u8 k0, .int .u8 k1, .int .u8 k2, .int .u8 k3, .bool ot, .int .i64 o, .bool nt, .int .i64 n] 48) := ⟨_, rfl⟩
      have b1 : Below w.heap.size w w1 := by rw [hw1]; exact (Below.refl _ _).alloc (Nat.le_refl _) _
      have x1 : w1.heap[w.heap.size]? = some (.cells #[.int .i64 4, .int .i64 t, .int .u16 m, .int .u8 k0, .int .u8 k1, .int .u8 k2, .int .u8 k3, .bool ot, .int .i64 o, .bool nt, .int .i64 n] 48 (0, 0)) := by rw [hw1]; exact heap_alloc_new w _
      obtain ⟨w2, hw2⟩ : ∃ w2, w2 = w1.alloc (.cells #[.int .i64 4, .int .i64 t, .int .u16 0, .int .u8 0, .int .u8 0, .int .u8 0, .int .u8 0, .bool false, .int .i64 0, .bool false, .int .i64 0] 48) := ⟨_, rfl⟩
      have bk : Below w1.heap.size w1 w2 := by rw [hw2]; exact (Below.refl _ _).alloc (Nat.le_refl _) _
      have XA := Lib.hid ((bk.block _ (Array.getElem?_eq_some_iff.1 x1).1).trans x1)
      have Hb := Lib.hid (b1.trans (bk.mono b1.size))
      have y0 := cells_at x1 0
      have y1 := cells_at x1 1
      have y2 := cells_at x1 2
      have y3 := cells_at x1 3
      have y4 := cells_at x1 4
      have y5 := cells_at x1 5
      have y6 := cells_at x1 6
      have y7 := cells_at x1 7
      have y8 := cells_at x1 8
      have y9 := cells_at x1 9
      have y10 := cells_at x1 10
      clear x1 b1 bk
      go_enter Try.func18, Try.ntmps18
      go_wp2_with fail
      rw [← hw1, ← hw2]
      clear hw1 hw2
      go_ret
      exact ⟨(congrArg (fun b => Ending.returned (Value.bool b)) HV.out).symm, Hb.out⟩
    by_cases g1 : 1 ≤ t
    case neg =>
      have hv : rightRc ⟨4, t, m, k0, k1, k2, k3, ot, o, nt, n⟩ = false := by rw [rr4, decide_eq_true ge, decide_eq_false g1, Bool.true_and, Bool.false_and]
      have HV := Lib.hid hv; clear hv Hri
      have hq := fun w => rc_eql w ⟨4, t, m, k0, k1, k2, k3, ot, o, nt, n⟩ ⟨4, t, 0, 0, 0, 0, 0, false, 0, false, 0⟩
      have hg := fun x y w => rc_guard .eql x y ⟨4, t, m, k0, k1, k2, k3, ot, o, nt, n⟩ ⟨4, t, 0, 0, 0, 0, 0, false, 0, false, 0⟩ w
      rw [decide_eq_true ge] at hq
      simp only [Rc.cells] at hq hg
      have f1 : decide (1 ≤ t) = false := decide_eq_false g1
      clear ge g1
      obtain ⟨w1, hw1⟩ : ∃ w1, w1 = w.alloc (.cells #[.int .i64 4, .int .i64 t, .int .u16 m, .int .u8 k0, .int .u8 k1, .int .u8 k2, .int .u8 k3, .bool ot, .int .i64 o, .bool nt, .int .i64 n] 48) := ⟨_, rfl⟩
      have b1 : Below w.heap.size w w1 := by rw [hw1]; exact (Below.refl _ _).alloc (Nat.le_refl _) _
      have x1 : w1.heap[w.heap.size]? = some (.cells #[.int .i64 4, .int .i64 t, .int .u16 m, .int .u8 k0, .int .u8 k1, .int .u8 k2, .int .u8 k3, .bool ot, .int .i64 o, .bool nt, .int .i64 n] 48 (0, 0)) := by rw [hw1]; exact heap_alloc_new w _
      obtain ⟨w2, hw2⟩ : ∃ w2, w2 = w1.alloc (.cells #[.int .i64 4, .int .i64 t, .int .u16 0, .int .u8 0, .int .u8 0, .int .u8 0, .int .u8 0, .bool false, .int .i64 0, .bool false, .int .i64 0] 48) := ⟨_, rfl⟩
      have bk : Below w1.heap.size w1 w2 := by rw [hw2]; exact (Below.refl _ _).alloc (Nat.le_refl _) _
      have XA := Lib.hid ((bk.block _ (Array.getElem?_eq_some_iff.1 x1).1).trans x1)
      have Hb := Lib.hid (b1.trans (bk.mono b1.size))
      have y0 := cells_at x1 0
      have y1 := cells_at x1 1
      have y2 := cells_at x1 2
      have y3 := cells_at x1 3
      have y4 := cells_at x1 4
      have y5 := cells_at x1 5
      have y6 := cells_at x1 6
      have y7 := cells_at x1 7
      have y8 := cells_at x1 8
      have y9 := cells_at x1 9
      have y10 := cells_at x1 10
      clear x1 b1 bk
      go_enter Try.func18, Try.ntmps18
      go_wp2_with fail
      rw [← hw1, ← hw2]
      clear hw1 hw2
      go_ret
      exact ⟨(congrArg (fun b => Ending.returned (Value.bool b)) HV.out).symm, Hb.out⟩
    by_cases g2 : t ≤ 1048576
    case neg =>
      have hv : rightRc ⟨4, t, m, k0, k1, k2, k3, ot, o, nt, n⟩ = false := by rw [rr4, decide_eq_true ge, decide_eq_true g1, Bool.true_and, decide_eq_false g2, Bool.true_and]
      have HV := Lib.hid hv; clear hv Hri
      have hq := fun w => rc_eql w ⟨4, t, m, k0, k1, k2, k3, ot, o, nt, n⟩ ⟨4, t, 0, 0, 0, 0, 0, false, 0, false, 0⟩
      have hg := fun x y w => rc_guard .eql x y ⟨4, t, m, k0, k1, k2, k3, ot, o, nt, n⟩ ⟨4, t, 0, 0, 0, 0, 0, false, 0, false, 0⟩ w
      rw [decide_eq_true ge] at hq
      simp only [Rc.cells] at hq hg
      have f1 : decide (1 ≤ t) = true := decide_eq_true g1
      have f2 : decide (t ≤ 1048576) = false := decide_eq_false g2
      clear ge g1 g2
      obtain ⟨w1, hw1⟩ : ∃ w1, w1 = w.alloc (.cells #[.int .i64 4, .int .i64 t, .int .u16 m, .int .u8 k0, .int .u8 k1, .int .u8 k2, .int .u8 k3, .bool ot, .int .i64 o, .bool nt, .int .i64 n] 48) := ⟨_, rfl⟩
      have b1 : Below w.heap.size w w1 := by rw [hw1]; exact (Below.refl _ _).alloc (Nat.le_refl _) _
      have x1 : w1.heap[w.heap.size]? = some (.cells #[.int .i64 4, .int .i64 t, .int .u16 m, .int .u8 k0, .int .u8 k1, .int .u8 k2, .int .u8 k3, .bool ot, .int .i64 o, .bool nt, .int .i64 n] 48 (0, 0)) := by rw [hw1]; exact heap_alloc_new w _
      obtain ⟨w2, hw2⟩ : ∃ w2, w2 = w1.alloc (.cells #[.int .i64 4, .int .i64 t, .int .u16 0, .int .u8 0, .int .u8 0, .int .u8 0, .int .u8 0, .bool false, .int .i64 0, .bool false, .int .i64 0] 48) := ⟨_, rfl⟩
      have bk : Below w1.heap.size w1 w2 := by rw [hw2]; exact (Below.refl _ _).alloc (Nat.le_refl _) _
      have XA := Lib.hid ((bk.block _ (Array.getElem?_eq_some_iff.1 x1).1).trans x1)
      have Hb := Lib.hid (b1.trans (bk.mono b1.size))
      have y0 := cells_at x1 0
      have y1 := cells_at x1 1
      have y2 := cells_at x1 2
      have y3 := cells_at x1 3
      have y4 := cells_at x1 4
      have y5 := cells_at x1 5
      have y6 := cells_at x1 6
      have y7 := cells_at x1 7
      have y8 := cells_at x1 8
      have y9 := cells_at x1 9
      have y10 := cells_at x1 10
      clear x1 b1 bk
      go_enter Try.func18, Try.ntmps18
      go_wp2_with fail
      rw [← hw1, ← hw2]
      clear hw1 hw2
      go_ret
      exact ⟨(congrArg (fun b => Ending.returned (Value.bool b)) HV.out).symm, Hb.out⟩
    have hv : rightRc ⟨4, t, m, k0, k1, k2, k3, ot, o, nt, n⟩ = true := by rw [rr4, decide_eq_true ge, decide_eq_true g1, Bool.true_and, decide_eq_true g2, Bool.true_and]
    have HV := Lib.hid hv; clear hv Hri
    have hq := fun w => rc_eql w ⟨4, t, m, k0, k1, k2, k3, ot, o, nt, n⟩ ⟨4, t, 0, 0, 0, 0, 0, false, 0, false, 0⟩
    have hg := fun x y w => rc_guard .eql x y ⟨4, t, m, k0, k1, k2, k3, ot, o, nt, n⟩ ⟨4, t, 0, 0, 0, 0, 0, false, 0, false, 0⟩ w
    rw [decide_eq_true ge] at hq
    simp only [Rc.cells] at hq hg
    have f1 : decide (1 ≤ t) = true := decide_eq_true g1
    have f2 : decide (t ≤ 1048576) = true := decide_eq_true g2
    clear ge g1 g2
    obtain ⟨w1, hw1⟩ : ∃ w1, w1 = w.alloc (.cells #[.int .i64 4, .int .i64 t, .int .u16 m, .int .u8 k0, .int .u8 k1, .int .u8 k2, .int .u8 k3, .bool ot, .int .i64 o, .bool nt, .int .i64 n] 48) := ⟨_, rfl⟩
    have b1 : Below w.heap.size w w1 := by rw [hw1]; exact (Below.refl _ _).alloc (Nat.le_refl _) _
    have x1 : w1.heap[w.heap.size]? = some (.cells #[.int .i64 4, .int .i64 t, .int .u16 m, .int .u8 k0, .int .u8 k1, .int .u8 k2, .int .u8 k3, .bool ot, .int .i64 o, .bool nt, .int .i64 n] 48 (0, 0)) := by rw [hw1]; exact heap_alloc_new w _
    obtain ⟨w2, hw2⟩ : ∃ w2, w2 = w1.alloc (.cells #[.int .i64 4, .int .i64 t, .int .u16 0, .int .u8 0, .int .u8 0, .int .u8 0, .int .u8 0, .bool false, .int .i64 0, .bool false, .int .i64 0] 48) := ⟨_, rfl⟩
    have bk : Below w1.heap.size w1 w2 := by rw [hw2]; exact (Below.refl _ _).alloc (Nat.le_refl _) _
    have XA := Lib.hid ((bk.block _ (Array.getElem?_eq_some_iff.1 x1).1).trans x1)
    have Hb := Lib.hid (b1.trans (bk.mono b1.size))
    have y0 := cells_at x1 0
    have y1 := cells_at x1 1
    have y2 := cells_at x1 2
    have y3 := cells_at x1 3
    have y4 := cells_at x1 4
    have y5 := cells_at x1 5
    have y6 := cells_at x1 6
    have y7 := cells_at x1 7
    have y8 := cells_at x1 8
    have y9 := cells_at x1 9
    have y10 := cells_at x1 10
    clear x1 b1 bk
    go_enter Try.func18, Try.ntmps18
    go_wp2_with fail
    rw [← hw1, ← hw2]
    clear hw1 hw2
    go_ret
    exact ⟨(congrArg (fun b => Ending.returned (Value.bool b)) HV.out).symm, Hb.out⟩
  by_cases c5 : k = 5
  case pos =>
    subst c5
    by_cases ge : (⟨5, t, m, k0, k1, k2, k3, ot, o, nt, n⟩ : Rc) = ⟨5, t, 0, 0, 0, 0, 0, false, 0, false, 0⟩
    case neg =>
      have hv : rightRc ⟨5, t, m, k0, k1, k2, k3, ot, o, nt, n⟩ = false := by rw [rr5, decide_eq_false ge, Bool.false_and, Bool.false_and]
      have HV := Lib.hid hv; clear hv Hri
      have hq := fun w => rc_eql w ⟨5, t, m, k0, k1, k2, k3, ot, o, nt, n⟩ ⟨5, t, 0, 0, 0, 0, 0, false, 0, false, 0⟩
      have hg := fun x y w => rc_guard .eql x y ⟨5, t, m, k0, k1, k2, k3, ot, o, nt, n⟩ ⟨5, t, 0, 0, 0, 0, 0, false, 0, false, 0⟩ w
      rw [decide_eq_false ge] at hq
      simp only [Rc.cells] at hq hg
      clear ge
      obtain ⟨w1, hw1⟩ : ∃ w1, w1 = w.alloc (.cells #[.int .i64 5, .int .i64 t, .int .u16 m, .int .u8 k0, .int .u8 k1, .int .u8 k2, .int .u8 k3, .bool ot, .int .i64 o, .bool nt, .int .i64 n] 48) := ⟨_, rfl⟩
      have b1 : Below w.heap.size w w1 := by rw [hw1]; exact (Below.refl _ _).alloc (Nat.le_refl _) _
      have x1 : w1.heap[w.heap.size]? = some (.cells #[.int .i64 5, .int .i64 t, .int .u16 m, .int .u8 k0, .int .u8 k1, .int .u8 k2, .int .u8 k3, .bool ot, .int .i64 o, .bool nt, .int .i64 n] 48 (0, 0)) := by rw [hw1]; exact heap_alloc_new w _
      obtain ⟨w2, hw2⟩ : ∃ w2, w2 = w1.alloc (.cells #[.int .i64 5, .int .i64 t, .int .u16 0, .int .u8 0, .int .u8 0, .int .u8 0, .int .u8 0, .bool false, .int .i64 0, .bool false, .int .i64 0] 48) := ⟨_, rfl⟩
      have bk : Below w1.heap.size w1 w2 := by rw [hw2]; exact (Below.refl _ _).alloc (Nat.le_refl _) _
      have XA := Lib.hid ((bk.block _ (Array.getElem?_eq_some_iff.1 x1).1).trans x1)
      have Hb := Lib.hid (b1.trans (bk.mono b1.size))
      have y0 := cells_at x1 0
      have y1 := cells_at x1 1
      have y2 := cells_at x1 2
      have y3 := cells_at x1 3
      have y4 := cells_at x1 4
      have y5 := cells_at x1 5
      have y6 := cells_at x1 6
      have y7 := cells_at x1 7
      have y8 := cells_at x1 8
      have y9 := cells_at x1 9
      have y10 := cells_at x1 10
      clear x1 b1 bk
      go_enter Try.func18, Try.ntmps18
      go_wp2_with fail
      rw [← hw1, ← hw2]
      clear hw1 hw2
      go_ret
      exact ⟨(congrArg (fun b => Ending.returned (Value.bool b)) HV.out).symm, Hb.out⟩
    by_cases g1 : 1 ≤ t
    case neg =>
      have hv : rightRc ⟨5, t, m, k0, k1, k2, k3, ot, o, nt, n⟩ = false := by rw [rr5, decide_eq_true ge, decide_eq_false g1, Bool.true_and, Bool.false_and]
      have HV := Lib.hid hv; clear hv Hri
      have hq := fun w => rc_eql w ⟨5, t, m, k0, k1, k2, k3, ot, o, nt, n⟩ ⟨5, t, 0, 0, 0, 0, 0, false, 0, false, 0⟩
      have hg := fun x y w => rc_guard .eql x y ⟨5, t, m, k0, k1, k2, k3, ot, o, nt, n⟩ ⟨5, t, 0, 0, 0, 0, 0, false, 0, false, 0⟩ w
      rw [decide_eq_true ge] at hq
      simp only [Rc.cells] at hq hg
      have f1 : decide (1 ≤ t) = false := decide_eq_false g1
      clear ge g1
      obtain ⟨w1, hw1⟩ : ∃ w1, w1 = w.alloc (.cells #[.int .i64 5, .int .i64 t, .int .u16 m, .int .u8 k0, .int .u8 k1, .int .u8 k2, .int .u8 k3, .bool ot, .int .i64 o, .bool nt, .int .i64 n] 48) := ⟨_, rfl⟩
      have b1 : Below w.heap.size w w1 := by rw [hw1]; exact (Below.refl _ _).alloc (Nat.le_refl _) _
      have x1 : w1.heap[w.heap.size]? = some (.cells #[.int .i64 5, .int .i64 t, .int .u16 m, .int .u8 k0, .int .u8 k1, .int .u8 k2, .int .u8 k3, .bool ot, .int .i64 o, .bool nt, .int .i64 n] 48 (0, 0)) := by rw [hw1]; exact heap_alloc_new w _
      obtain ⟨w2, hw2⟩ : ∃ w2, w2 = w1.alloc (.cells #[.int .i64 5, .int .i64 t, .int .u16 0, .int .u8 0, .int .u8 0, .int .u8 0, .int .u8 0, .bool false, .int .i64 0, .bool false, .int .i64 0] 48) := ⟨_, rfl⟩
      have bk : Below w1.heap.size w1 w2 := by rw [hw2]; exact (Below.refl _ _).alloc (Nat.le_refl _) _
      have XA := Lib.hid ((bk.block _ (Array.getElem?_eq_some_iff.1 x1).1).trans x1)
      have Hb := Lib.hid (b1.trans (bk.mono b1.size))
      have y0 := cells_at x1 0
      have y1 := cells_at x1 1
      have y2 := cells_at x1 2
      have y3 := cells_at x1 3
      have y4 := cells_at x1 4
      have y5 := cells_at x1 5
      have y6 := cells_at x1 6
      have y7 := cells_at x1 7
      have y8 := cells_at x1 8
      have y9 := cells_at x1 9
      have y10 := cells_at x1 10
      clear x1 b1 bk
      go_enter Try.func18, Try.ntmps18
      go_wp2_with fail
      rw [← hw1, ← hw2]
      clear hw1 hw2
      go_ret
      exact ⟨(congrArg (fun b => Ending.returned (Value.bool b)) HV.out).symm, Hb.out⟩
    by_cases g2 : t ≤ 1048576
    case neg =>
      have hv : rightRc ⟨5, t, m, k0, k1, k2, k3, ot, o, nt, n⟩ = false := by rw [rr5, decide_eq_true ge, decide_eq_true g1, Bool.true_and, decide_eq_false g2, Bool.true_and]
      have HV := Lib.hid hv; clear hv Hri
      have hq := fun w => rc_eql w ⟨5, t, m, k0, k1, k2, k3, ot, o, nt, n⟩ ⟨5, t, 0, 0, 0, 0, 0, false, 0, false, 0⟩
      have hg := fun x y w => rc_guard .eql x y ⟨5, t, m, k0, k1, k2, k3, ot, o, nt, n⟩ ⟨5, t, 0, 0, 0, 0, 0, false, 0, false, 0⟩ w
      rw [decide_eq_true ge] at hq
      simp only [Rc.cells] at hq hg
      have f1 : decide (1 ≤ t) = true := decide_eq_true g1
      have f2 : decide (t ≤ 1048576) = false := decide_eq_false g2
      clear ge g1 g2
      obtain ⟨w1, hw1⟩ : ∃ w1, w1 = w.alloc (.cells #[.int .i64 5, .int .i64 t, .int .u16 m, .int .u8 k0, .int .u8 k1, .int .u8 k2, .int .u8 k3, .bool ot, .int .i64 o, .bool nt, .int .i64 n] 48) := ⟨_, rfl⟩
      have b1 : Below w.heap.size w w1 := by rw [hw1]; exact (Below.refl _ _).alloc (Nat.le_refl _) _
      have x1 : w1.heap[w.heap.size]? = some (.cells #[.int .i64 5, .int .i64 t, .int .u16 m, .int .u8 k0, .int .u8 k1, .int .u8 k2, .int .u8 k3, .bool ot, .int .i64 o, .bool nt, .int .i64 n] 48 (0, 0)) := by rw [hw1]; exact heap_alloc_new w _
      obtain ⟨w2, hw2⟩ : ∃ w2, w2 = w1.alloc (.cells #[.int .i64 5, .int .i64 t, .int .u16 0, .int .u8 0, .int .u8 0, .int .u8 0, .int .u8 0, .bool false, .int .i64 0, .bool false, .int .i64 0] 48) := ⟨_, rfl⟩
      have bk : Below w1.heap.size w1 w2 := by rw [hw2]; exact (Below.refl _ _).alloc (Nat.le_refl _) _
      have XA := Lib.hid ((bk.block _ (Array.getElem?_eq_some_iff.1 x1).1).trans x1)
      have Hb := Lib.hid (b1.trans (bk.mono b1.size))
      have y0 := cells_at x1 0
      have y1 := cells_at x1 1
      have y2 := cells_at x1 2
      have y3 := cells_at x1 3
      have y4 := cells_at x1 4
      have y5 := cells_at x1 5
      have y6 := cells_at x1 6
      have y7 := cells_at x1 7
      have y8 := cells_at x1 8
      have y9 := cells_at x1 9
      have y10 := cells_at x1 10
      clear x1 b1 bk
      go_enter Try.func18, Try.ntmps18
      go_wp2_with fail
      rw [← hw1, ← hw2]
      clear hw1 hw2
      go_ret
      exact ⟨(congrArg (fun b => Ending.returned (Value.bool b)) HV.out).symm, Hb.out⟩
    have hv : rightRc ⟨5, t, m, k0, k1, k2, k3, ot, o, nt, n⟩ = true := by rw [rr5, decide_eq_true ge, decide_eq_true g1, Bool.true_and, decide_eq_true g2, Bool.true_and]
    have HV := Lib.hid hv; clear hv Hri
    have hq := fun w => rc_eql w ⟨5, t, m, k0, k1, k2, k3, ot, o, nt, n⟩ ⟨5, t, 0, 0, 0, 0, 0, false, 0, false, 0⟩
    have hg := fun x y w => rc_guard .eql x y ⟨5, t, m, k0, k1, k2, k3, ot, o, nt, n⟩ ⟨5, t, 0, 0, 0, 0, 0, false, 0, false, 0⟩ w
    rw [decide_eq_true ge] at hq
    simp only [Rc.cells] at hq hg
    have f1 : decide (1 ≤ t) = true := decide_eq_true g1
    have f2 : decide (t ≤ 1048576) = true := decide_eq_true g2
    clear ge g1 g2
    obtain ⟨w1, hw1⟩ : ∃ w1, w1 = w.alloc (.cells #[.int .i64 5, .int .i64 t, .int .u16 m, .int .u8 k0, .int .u8 k1, .int .u8 k2, .int .u8 k3, .bool ot, .int .i64 o, .bool nt, .int .i64 n] 48) := ⟨_, rfl⟩
    have b1 : Below w.heap.size w w1 := by rw [hw1]; exact (Below.refl _ _).alloc (Nat.le_refl _) _
    have x1 : w1.heap[w.heap.size]? = some (.cells #[.int .i64 5, .int .i64 t, .int .u16 m, .int .u8 k0, .int .u8 k1, .int .u8 k2, .int .u8 k3, .bool ot, .int .i64 o, .bool nt, .int .i64 n] 48 (0, 0)) := by rw [hw1]; exact heap_alloc_new w _
    obtain ⟨w2, hw2⟩ : ∃ w2, w2 = w1.alloc (.cells #[.int .i64 5, .int .i64 t, .int .u16 0, .int .u8 0, .int .u8 0, .int .u8 0, .int .u8 0, .bool false, .int .i64 0, .bool false, .int .i64 0] 48) := ⟨_, rfl⟩
    have bk : Below w1.heap.size w1 w2 := by rw [hw2]; exact (Below.refl _ _).alloc (Nat.le_refl _) _
    have XA := Lib.hid ((bk.block _ (Array.getElem?_eq_some_iff.1 x1).1).trans x1)
    have Hb := Lib.hid (b1.trans (bk.mono b1.size))
    have y0 := cells_at x1 0
    have y1 := cells_at x1 1
    have y2 := cells_at x1 2
    have y3 := cells_at x1 3
    have y4 := cells_at x1 4
    have y5 := cells_at x1 5
    have y6 := cells_at x1 6
    have y7 := cells_at x1 7
    have y8 := cells_at x1 8
    have y9 := cells_at x1 9
    have y10 := cells_at x1 10
    clear x1 b1 bk
    go_enter Try.func18, Try.ntmps18
    go_wp2_with fail
    rw [← hw1, ← hw2]
    clear hw1 hw2
    go_ret
    exact ⟨(congrArg (fun b => Ending.returned (Value.bool b)) HV.out).symm, Hb.out⟩
  by_cases c6 : k = 6
  case pos =>
    subst c6
    by_cases ge : (⟨6, t, m, k0, k1, k2, k3, ot, o, nt, n⟩ : Rc) = ⟨6, t, 0, 0, 0, 0, 0, false, 0, false, 0⟩
    case neg =>
      have hv : rightRc ⟨6, t, m, k0, k1, k2, k3, ot, o, nt, n⟩ = false := by rw [rr6, decide_eq_false ge, Bool.false_and, Bool.false_and]
      have HV := Lib.hid hv; clear hv Hri
      have hq := fun w => rc_eql w ⟨6, t, m, k0, k1, k2, k3, ot, o, nt, n⟩ ⟨6, t, 0, 0, 0, 0, 0, false, 0, false, 0⟩
      have hg := fun x y w => rc_guard .eql x y ⟨6, t, m, k0, k1, k2, k3, ot, o, nt, n⟩ ⟨6, t, 0, 0, 0, 0, 0, false, 0, false, 0⟩ w
      rw [decide_eq_false ge] at hq
      simp only [Rc.cells] at hq hg
      clear ge
      obtain ⟨w1, hw1⟩ : ∃ w1, w1 = w.alloc (.cells #[.int .i64 6, .int .i64 t, .int .u16 m, .int .u8 k0, .int .u8 k1, .int .u8 k2, .int .u8 k3, .bool ot, .int .i64 o, .bool nt, .int .i64 n] 48) := ⟨_, rfl⟩
      have b1 : Below w.heap.size w w1 := by rw [hw1]; exact (Below.refl _ _).alloc (Nat.le_refl _) _
      have x1 : w1.heap[w.heap.size]? = some (.cells #[.int .i64 6, .int .i64 t, .int .u16 m, .int .u8 k0, .int .u8 k1, .int .u8 k2, .int .u8 k3, .bool ot, .int .i64 o, .bool nt, .int .i64 n] 48 (0, 0)) := by rw [hw1]; exact heap_alloc_new w _
      obtain ⟨w2, hw2⟩ : ∃ w2, w2 = w1.alloc (.cells #[.int .i64 6, .int .i64 t, .int .u16 0, .int .u8 0, .int .u8 0, .int .u8 0, .int .u8 0, .bool false, .int .i64 0, .bool false, .int .i64 0] 48) := ⟨_, rfl⟩
      have bk : Below w1.heap.size w1 w2 := by rw [hw2]; exact (Below.refl _ _).alloc (Nat.le_refl _) _
      have XA := Lib.hid ((bk.block _ (Array.getElem?_eq_some_iff.1 x1).1).trans x1)
      have Hb := Lib.hid (b1.trans (bk.mono b1.size))
      have y0 := cells_at x1 0
      have y1 := cells_at x1 1
      have y2 := cells_at x1 2
      have y3 := cells_at x1 3
      have y4 := cells_at x1 4
      have y5 := cells_at x1 5
      have y6 := cells_at x1 6
      have y7 := cells_at x1 7
      have y8 := cells_at x1 8
      have y9 := cells_at x1 9
      have y10 := cells_at x1 10
      clear x1 b1 bk
      go_enter Try.func18, Try.ntmps18
      go_wp2_with fail
      rw [← hw1, ← hw2]
      clear hw1 hw2
      go_ret
      exact ⟨(congrArg (fun b => Ending.returned (Value.bool b)) HV.out).symm, Hb.out⟩
    by_cases g1 : 1 ≤ t
    case neg =>
      have hv : rightRc ⟨6, t, m, k0, k1, k2, k3, ot, o, nt, n⟩ = false := by rw [rr6, decide_eq_true ge, decide_eq_false g1, Bool.true_and, Bool.false_and]
      have HV := Lib.hid hv; clear hv Hri
      have hq := fun w => rc_eql w ⟨6, t, m, k0, k1, k2, k3, ot, o, nt, n⟩ ⟨6, t, 0, 0, 0, 0, 0, false, 0, false, 0⟩
      have hg := fun x y w => rc_guard .eql x y ⟨6, t, m, k0, k1, k2, k3, ot, o, nt, n⟩ ⟨6, t, 0, 0, 0, 0, 0, false, 0, false, 0⟩ w
      rw [decide_eq_true ge] at hq
      simp only [Rc.cells] at hq hg
      have f1 : decide (1 ≤ t) = false := decide_eq_false g1
      clear ge g1
      obtain ⟨w1, hw1⟩ : ∃ w1, w1 = w.alloc (.cells #[.int .i64 6, .int .i64 t, .int .u16 m, .int .u8 k0, .int .u8 k1, .int .u8 k2, .int .u8 k3, .bool ot, .int .i64 o, .bool nt, .int .i64 n] 48) := ⟨_, rfl⟩
      have b1 : Below w.heap.size w w1 := by rw [hw1]; exact (Below.refl _ _).alloc (Nat.le_refl _) _
      have x1 : w1.heap[w.heap.size]? = some (.cells #[.int .i64 6, .int .i64 t, .int .u16 m, .int .u8 k0, .int .u8 k1, .int .u8 k2, .int .u8 k3, .bool ot, .int .i64 o, .bool nt, .int .i64 n] 48 (0, 0)) := by rw [hw1]; exact heap_alloc_new w _
      obtain ⟨w2, hw2⟩ : ∃ w2, w2 = w1.alloc (.cells #[.int .i64 6, .int .i64 t, .int .u16 0, .int .u8 0, .int .u8 0, .int .u8 0, .int .u8 0, .bool false, .int .i64 0, .bool false, .int .i64 0] 48) := ⟨_, rfl⟩
      have bk : Below w1.heap.size w1 w2 := by rw [hw2]; exact (Below.refl _ _).alloc (Nat.le_refl _) _
      have XA := Lib.hid ((bk.block _ (Array.getElem?_eq_some_iff.1 x1).1).trans x1)
      have Hb := Lib.hid (b1.trans (bk.mono b1.size))
      have y0 := cells_at x1 0
      have y1 := cells_at x1 1
      have y2 := cells_at x1 2
      have y3 := cells_at x1 3
      have y4 := cells_at x1 4
      have y5 := cells_at x1 5
      have y6 := cells_at x1 6
      have y7 := cells_at x1 7
      have y8 := cells_at x1 8
      have y9 := cells_at x1 9
      have y10 := cells_at x1 10
      clear x1 b1 bk
      go_enter Try.func18, Try.ntmps18
      go_wp2_with fail
      rw [← hw1, ← hw2]
      clear hw1 hw2
      go_ret
      exact ⟨(congrArg (fun b => Ending.returned (Value.bool b)) HV.out).symm, Hb.out⟩
    by_cases g2 : t ≤ 1048576
    case neg =>
      have hv : rightRc ⟨6, t, m, k0, k1, k2, k3, ot, o, nt, n⟩ = false := by rw [rr6, decide_eq_true ge, decide_eq_true g1, Bool.true_and, decide_eq_false g2, Bool.true_and]
      have HV := Lib.hid hv; clear hv Hri
      have hq := fun w => rc_eql w ⟨6, t, m, k0, k1, k2, k3, ot, o, nt, n⟩ ⟨6, t, 0, 0, 0, 0, 0, false, 0, false, 0⟩
      have hg := fun x y w => rc_guard .eql x y ⟨6, t, m, k0, k1, k2, k3, ot, o, nt, n⟩ ⟨6, t, 0, 0, 0, 0, 0, false, 0, false, 0⟩ w
      rw [decide_eq_true ge] at hq
      simp only [Rc.cells] at hq hg
      have f1 : decide (1 ≤ t) = true := decide_eq_true g1
      have f2 : decide (t ≤ 1048576) = false := decide_eq_false g2
      clear ge g1 g2
      obtain ⟨w1, hw1⟩ : ∃ w1, w1 = w.alloc (.cells #[.int .i64 6, .int .i64 t, .int .u16 m, .int .u8 k0, .int .u8 k1, .int .u8 k2, .int .u8 k3, .bool ot, .int .i64 o, .bool nt, .int .i64 n] 48) := ⟨_, rfl⟩
      have b1 : Below w.heap.size w w1 := by rw [hw1]; exact (Below.refl _ _).alloc (Nat.le_refl _) _
      have x1 : w1.heap[w.heap.size]? = some (.cells #[.int .i64 6, .int .i64 t, .int .u16 m, .int .u8 k0, .int .u8 k1, .int .u8 k2, .int .u8 k3, .bool ot, .int .i64 o, .bool nt, .int .i64 n] 48 (0, 0)) := by rw [hw1]; exact heap_alloc_new w _
      obtain ⟨w2, hw2⟩ : ∃ w2, w2 = w1.alloc (.cells #[.int .i64 6, .int .i64 t, .int .u16 0, .int .u8 0, .int .u8 0, .int .u8 0, .int .u8 0, .bool false, .int .i64 0, .bool false, .int .i64 0] 48) := ⟨_, rfl⟩
      have bk : Below w1.heap.size w1 w2 := by rw [hw2]; exact (Below.refl _ _).alloc (Nat.le_refl _) _
      have XA := Lib.hid ((bk.block _ (Array.getElem?_eq_some_iff.1 x1).1).trans x1)
      have Hb := Lib.hid (b1.trans (bk.mono b1.size))
      have y0 := cells_at x1 0
      have y1 := cells_at x1 1
      have y2 := cells_at x1 2
      have y3 := cells_at x1 3
      have y4 := cells_at x1 4
      have y5 := cells_at x1 5
      have y6 := cells_at x1 6
      have y7 := cells_at x1 7
      have y8 := cells_at x1 8
      have y9 := cells_at x1 9
      have y10 := cells_at x1 10
      clear x1 b1 bk
      go_enter Try.func18, Try.ntmps18
      go_wp2_with fail
      rw [← hw1, ← hw2]
      clear hw1 hw2
      go_ret
      exact ⟨(congrArg (fun b => Ending.returned (Value.bool b)) HV.out).symm, Hb.out⟩
    have hv : rightRc ⟨6, t, m, k0, k1, k2, k3, ot, o, nt, n⟩ = true := by rw [rr6, decide_eq_true ge, decide_eq_true g1, Bool.true_and, decide_eq_true g2, Bool.true_and]
    have HV := Lib.hid hv; clear hv Hri
    have hq := fun w => rc_eql w ⟨6, t, m, k0, k1, k2, k3, ot, o, nt, n⟩ ⟨6, t, 0, 0, 0, 0, 0, false, 0, false, 0⟩
    have hg := fun x y w => rc_guard .eql x y ⟨6, t, m, k0, k1, k2, k3, ot, o, nt, n⟩ ⟨6, t, 0, 0, 0, 0, 0, false, 0, false, 0⟩ w
    rw [decide_eq_true ge] at hq
    simp only [Rc.cells] at hq hg
    have f1 : decide (1 ≤ t) = true := decide_eq_true g1
    have f2 : decide (t ≤ 1048576) = true := decide_eq_true g2
    clear ge g1 g2
    obtain ⟨w1, hw1⟩ : ∃ w1, w1 = w.alloc (.cells #[.int .i64 6, .int .i64 t, .int .u16 m, .int .u8 k0, .int .u8 k1, .int .u8 k2, .int .u8 k3, .bool ot, .int .i64 o, .bool nt, .int .i64 n] 48) := ⟨_, rfl⟩
    have b1 : Below w.heap.size w w1 := by rw [hw1]; exact (Below.refl _ _).alloc (Nat.le_refl _) _
    have x1 : w1.heap[w.heap.size]? = some (.cells #[.int .i64 6, .int .i64 t, .int .u16 m, .int .u8 k0, .int .u8 k1, .int .u8 k2, .int .u8 k3, .bool ot, .int .i64 o, .bool nt, .int .i64 n] 48 (0, 0)) := by rw [hw1]; exact heap_alloc_new w _
    obtain ⟨w2, hw2⟩ : ∃ w2, w2 = w1.alloc (.cells #[.int .i64 6, .int .i64 t, .int .u16 0, .int .u8 0, .int .u8 0, .int .u8 0, .int .u8 0, .bool false, .int .i64 0, .bool false, .int .i64 0] 48) := ⟨_, rfl⟩
    have bk : Below w1.heap.size w1 w2 := by rw [hw2]; exact (Below.refl _ _).alloc (Nat.le_refl _) _
    have XA := Lib.hid ((bk.block _ (Array.getElem?_eq_some_iff.1 x1).1).trans x1)
    have Hb := Lib.hid (b1.trans (bk.mono b1.size))
    have y0 := cells_at x1 0
    have y1 := cells_at x1 1
    have y2 := cells_at x1 2
    have y3 := cells_at x1 3
    have y4 := cells_at x1 4
    have y5 := cells_at x1 5
    have y6 := cells_at x1 6
    have y7 := cells_at x1 7
    have y8 := cells_at x1 8
    have y9 := cells_at x1 9
    have y10 := cells_at x1 10
    clear x1 b1 bk
    go_enter Try.func18, Try.ntmps18
    go_wp2_with fail
    rw [← hw1, ← hw2]
    clear hw1 hw2
    go_ret
    exact ⟨(congrArg (fun b => Ending.returned (Value.bool b)) HV.out).symm, Hb.out⟩
  by_cases c7 : k = 7
  case pos =>
    subst c7
    by_cases ge : (⟨7, t, m, k0, k1, k2, k3, ot, o, nt, n⟩ : Rc) = ⟨7, 0, 0, k0, k1, k2, k3, false, 0, nt, n⟩
    case neg =>
      have hv : rightRc ⟨7, t, m, k0, k1, k2, k3, ot, o, nt, n⟩ = false := by rw [rr7, decide_eq_false ge, Bool.false_and]
      have HV := Lib.hid hv; clear hv Hri
      have hq := fun w => rc_eql w ⟨7, t, m, k0, k1, k2, k3, ot, o, nt, n⟩ ⟨7, 0, 0, k0, k1, k2, k3, false, 0, nt, n⟩
      have hg := fun x y w => rc_guard .eql x y ⟨7, t, m, k0, k1, k2, k3, ot, o, nt, n⟩ ⟨7, 0, 0, k0, k1, k2, k3, false, 0, nt, n⟩ w
      rw [decide_eq_false ge] at hq
      simp only [Rc.cells] at hq hg
      clear ge
      obtain ⟨w1, hw1⟩ : ∃ w1, w1 = w.alloc (.cells #[.int .i64 7, .int .i64 t, .int .u16 m, .int .u8 k0, .int .u8 k1, .int .u8 k2, .int .u8 k3, .bool ot, .int .i64 o, .bool nt, .int .i64 n] 48) := ⟨_, rfl⟩
      have b1 : Below w.heap.size w w1 := by rw [hw1]; exact (Below.refl _ _).alloc (Nat.le_refl _) _
      have x1 : w1.heap[w.heap.size]? = some (.cells #[.int .i64 7, .int .i64 t, .int .u16 m, .int .u8 k0, .int .u8 k1, .int .u8 k2, .int .u8 k3, .bool ot, .int .i64 o, .bool nt, .int .i64 n] 48 (0, 0)) := by rw [hw1]; exact heap_alloc_new w _
      obtain ⟨w2, hw2⟩ : ∃ w2, w2 = w1.alloc (.cells #[.int .i64 7, .int .i64 0, .int .u16 0, .int .u8 k0, .int .u8 k1, .int .u8 k2, .int .u8 k3, .bool false, .int .i64 0, .bool nt, .int .i64 n] 48) := ⟨_, rfl⟩
      have bk : Below w1.heap.size w1 w2 := by rw [hw2]; exact (Below.refl _ _).alloc (Nat.le_refl _) _
      have XA := Lib.hid ((bk.block _ (Array.getElem?_eq_some_iff.1 x1).1).trans x1)
      have Hb := Lib.hid (b1.trans (bk.mono b1.size))
      have y0 := cells_at x1 0
      have y1 := cells_at x1 1
      have y2 := cells_at x1 2
      have y3 := cells_at x1 3
      have y4 := cells_at x1 4
      have y5 := cells_at x1 5
      have y6 := cells_at x1 6
      have y7 := cells_at x1 7
      have y8 := cells_at x1 8
      have y9 := cells_at x1 9
      have y10 := cells_at x1 10
      clear x1 b1 bk
      go_enter Try.func18, Try.ntmps18
      go_wp2_with fail
      rw [← hw1, ← hw2]
      clear hw1 hw2
      go_ret
      exact ⟨(congrArg (fun b => Ending.returned (Value.bool b)) HV.out).symm, Hb.out⟩
    have hv : rightRc ⟨7, t, m, k0, k1, k2, k3, ot, o, nt, n⟩ = nt := by rw [rr7, decide_eq_true ge, Bool.true_and]
    have HV := Lib.hid hv; clear hv Hri
    have hq := fun w => rc_eql w ⟨7, t, m, k0, k1, k2, k3, ot, o, nt, n⟩ ⟨7, 0, 0, k0, k1, k2, k3, false, 0, nt, n⟩
    have hg := fun x y w => rc_guard .eql x y ⟨7, t, m, k0, k1, k2, k3, ot, o, nt, n⟩ ⟨7, 0, 0, k0, k1, k2, k3, false, 0, nt, n⟩ w
    rw [decide_eq_true ge] at hq
    simp only [Rc.cells] at hq hg
    clear ge
    obtain ⟨w1, hw1⟩ : ∃ w1, w1 = w.alloc (.cells #[.int .i64 7, .int .i64 t, .int .u16 m, .int .u8 k0, .int .u8 k1, .int .u8 k2, .int .u8 k3, .bool ot, .int .i64 o, .bool nt, .int .i64 n] 48) := ⟨_, rfl⟩
    have b1 : Below w.heap.size w w1 := by rw [hw1]; exact (Below.refl _ _).alloc (Nat.le_refl _) _
    have x1 : w1.heap[w.heap.size]? = some (.cells #[.int .i64 7, .int .i64 t, .int .u16 m, .int .u8 k0, .int .u8 k1, .int .u8 k2, .int .u8 k3, .bool ot, .int .i64 o, .bool nt, .int .i64 n] 48 (0, 0)) := by rw [hw1]; exact heap_alloc_new w _
    obtain ⟨w2, hw2⟩ : ∃ w2, w2 = w1.alloc (.cells #[.int .i64 7, .int .i64 0, .int .u16 0, .int .u8 k0, .int .u8 k1, .int .u8 k2, .int .u8 k3, .bool false, .int .i64 0, .bool nt, .int .i64 n] 48) := ⟨_, rfl⟩
    have bk : Below w1.heap.size w1 w2 := by rw [hw2]; exact (Below.refl _ _).alloc (Nat.le_refl _) _
    have XA := Lib.hid ((bk.block _ (Array.getElem?_eq_some_iff.1 x1).1).trans x1)
    have Hb := Lib.hid (b1.trans (bk.mono b1.size))
    have y0 := cells_at x1 0
    have y1 := cells_at x1 1
    have y2 := cells_at x1 2
    have y3 := cells_at x1 3
    have y4 := cells_at x1 4
    have y5 := cells_at x1 5
    have y6 := cells_at x1 6
    have y7 := cells_at x1 7
    have y8 := cells_at x1 8
    have y9 := cells_at x1 9
    have y10 := cells_at x1 10
    clear x1 b1 bk
    go_enter Try.func18, Try.ntmps18
    go_wp2_with fail
    rw [← hw1, ← hw2]
    clear hw1 hw2
    go_ret
    exact ⟨(congrArg (fun b => Ending.returned (Value.bool b)) HV.out).symm, Hb.out⟩
  by_cases c8 : k = 8
  case pos =>
    subst c8
    by_cases ge : (⟨8, t, m, k0, k1, k2, k3, ot, o, nt, n⟩ : Rc) = ⟨8, 0, m, 0, 0, 0, 0, false, 0, false, 0⟩
    case neg =>
      have hv : rightRc ⟨8, t, m, k0, k1, k2, k3, ot, o, nt, n⟩ = false := by rw [rr8, decide_eq_false ge, Bool.false_and]
      have HV := Lib.hid hv; clear hv Hri
      have hq := fun w => rc_eql w ⟨8, t, m, k0, k1, k2, k3, ot, o, nt, n⟩ ⟨8, 0, m, 0, 0, 0, 0, false, 0, false, 0⟩
      have hg := fun x y w => rc_guard .eql x y ⟨8, t, m, k0, k1, k2, k3, ot, o, nt, n⟩ ⟨8, 0, m, 0, 0, 0, 0, false, 0, false, 0⟩ w
      rw [decide_eq_false ge] at hq
      simp only [Rc.cells] at hq hg
      clear ge
      obtain ⟨w1, hw1⟩ : ∃ w1, w1 = w.alloc (.cells #[.int .i64 8, .int .i64 t, .int .u16 m, .int .u8 k0, .int .u8 k1, .int .u8 k2, .int .u8 k3, .bool ot, .int .i64 o, .bool nt, .int .i64 n] 48) := ⟨_, rfl⟩
      have b1 : Below w.heap.size w w1 := by rw [hw1]; exact (Below.refl _ _).alloc (Nat.le_refl _) _
      have x1 : w1.heap[w.heap.size]? = some (.cells #[.int .i64 8, .int .i64 t, .int .u16 m, .int .u8 k0, .int .u8 k1, .int .u8 k2, .int .u8 k3, .bool ot, .int .i64 o, .bool nt, .int .i64 n] 48 (0, 0)) := by rw [hw1]; exact heap_alloc_new w _
      obtain ⟨w2, hw2⟩ : ∃ w2, w2 = w1.alloc (.cells #[.int .i64 8, .int .i64 0, .int .u16 m, .int .u8 0, .int .u8 0, .int .u8 0, .int .u8 0, .bool false, .int .i64 0, .bool false, .int .i64 0] 48) := ⟨_, rfl⟩
      have bk : Below w1.heap.size w1 w2 := by rw [hw2]; exact (Below.refl _ _).alloc (Nat.le_refl _) _
      have XA := Lib.hid ((bk.block _ (Array.getElem?_eq_some_iff.1 x1).1).trans x1)
      have Hb := Lib.hid (b1.trans (bk.mono b1.size))
      have y0 := cells_at x1 0
      have y1 := cells_at x1 1
      have y2 := cells_at x1 2
      have y3 := cells_at x1 3
      have y4 := cells_at x1 4
      have y5 := cells_at x1 5
      have y6 := cells_at x1 6
      have y7 := cells_at x1 7
      have y8 := cells_at x1 8
      have y9 := cells_at x1 9
      have y10 := cells_at x1 10
      clear x1 b1 bk
      go_enter Try.func18, Try.ntmps18
      go_wp2_with fail
      rw [← hw1, ← hw2]
      clear hw1 hw2
      go_ret
      exact ⟨(congrArg (fun b => Ending.returned (Value.bool b)) HV.out).symm, Hb.out⟩
    by_cases g5 : m ≤ 64
    case neg =>
      have hv : rightRc ⟨8, t, m, k0, k1, k2, k3, ot, o, nt, n⟩ = false := by rw [rr8, decide_eq_true ge, decide_eq_false g5, Bool.true_and]
      have HV := Lib.hid hv; clear hv Hri
      have hq := fun w => rc_eql w ⟨8, t, m, k0, k1, k2, k3, ot, o, nt, n⟩ ⟨8, 0, m, 0, 0, 0, 0, false, 0, false, 0⟩
      have hg := fun x y w => rc_guard .eql x y ⟨8, t, m, k0, k1, k2, k3, ot, o, nt, n⟩ ⟨8, 0, m, 0, 0, 0, 0, false, 0, false, 0⟩ w
      rw [decide_eq_true ge] at hq
      simp only [Rc.cells] at hq hg
      have f5 : decide (m ≤ 64) = false := decide_eq_false g5
      clear ge g5
      obtain ⟨w1, hw1⟩ : ∃ w1, w1 = w.alloc (.cells #[.int .i64 8, .int .i64 t, .int .u16 m, .int .u8 k0, .int .u8 k1, .int .u8 k2, .int .u8 k3, .bool ot, .int .i64 o, .bool nt, .int .i64 n] 48) := ⟨_, rfl⟩
      have b1 : Below w.heap.size w w1 := by rw [hw1]; exact (Below.refl _ _).alloc (Nat.le_refl _) _
      have x1 : w1.heap[w.heap.size]? = some (.cells #[.int .i64 8, .int .i64 t, .int .u16 m, .int .u8 k0, .int .u8 k1, .int .u8 k2, .int .u8 k3, .bool ot, .int .i64 o, .bool nt, .int .i64 n] 48 (0, 0)) := by rw [hw1]; exact heap_alloc_new w _
      obtain ⟨w2, hw2⟩ : ∃ w2, w2 = w1.alloc (.cells #[.int .i64 8, .int .i64 0, .int .u16 m, .int .u8 0, .int .u8 0, .int .u8 0, .int .u8 0, .bool false, .int .i64 0, .bool false, .int .i64 0] 48) := ⟨_, rfl⟩
      have bk : Below w1.heap.size w1 w2 := by rw [hw2]; exact (Below.refl _ _).alloc (Nat.le_refl _) _
      have XA := Lib.hid ((bk.block _ (Array.getElem?_eq_some_iff.1 x1).1).trans x1)
      have Hb := Lib.hid (b1.trans (bk.mono b1.size))
      have y0 := cells_at x1 0
      have y1 := cells_at x1 1
      have y2 := cells_at x1 2
      have y3 := cells_at x1 3
      have y4 := cells_at x1 4
      have y5 := cells_at x1 5
      have y6 := cells_at x1 6
      have y7 := cells_at x1 7
      have y8 := cells_at x1 8
      have y9 := cells_at x1 9
      have y10 := cells_at x1 10
      clear x1 b1 bk
      go_enter Try.func18, Try.ntmps18
      go_wp2_with fail
      rw [← hw1, ← hw2]
      clear hw1 hw2
      go_ret
      exact ⟨(congrArg (fun b => Ending.returned (Value.bool b)) HV.out).symm, Hb.out⟩
    have hv : rightRc ⟨8, t, m, k0, k1, k2, k3, ot, o, nt, n⟩ = true := by rw [rr8, decide_eq_true ge, decide_eq_true g5, Bool.true_and]
    have HV := Lib.hid hv; clear hv Hri
    have hq := fun w => rc_eql w ⟨8, t, m, k0, k1, k2, k3, ot, o, nt, n⟩ ⟨8, 0, m, 0, 0, 0, 0, false, 0, false, 0⟩
    have hg := fun x y w => rc_guard .eql x y ⟨8, t, m, k0, k1, k2, k3, ot, o, nt, n⟩ ⟨8, 0, m, 0, 0, 0, 0, false, 0, false, 0⟩ w
    rw [decide_eq_true ge] at hq
    simp only [Rc.cells] at hq hg
    have f5 : decide (m ≤ 64) = true := decide_eq_true g5
    clear ge g5
    obtain ⟨w1, hw1⟩ : ∃ w1, w1 = w.alloc (.cells #[.int .i64 8, .int .i64 t, .int .u16 m, .int .u8 k0, .int .u8 k1, .int .u8 k2, .int .u8 k3, .bool ot, .int .i64 o, .bool nt, .int .i64 n] 48) := ⟨_, rfl⟩
    have b1 : Below w.heap.size w w1 := by rw [hw1]; exact (Below.refl _ _).alloc (Nat.le_refl _) _
    have x1 : w1.heap[w.heap.size]? = some (.cells #[.int .i64 8, .int .i64 t, .int .u16 m, .int .u8 k0, .int .u8 k1, .int .u8 k2, .int .u8 k3, .bool ot, .int .i64 o, .bool nt, .int .i64 n] 48 (0, 0)) := by rw [hw1]; exact heap_alloc_new w _
    obtain ⟨w2, hw2⟩ : ∃ w2, w2 = w1.alloc (.cells #[.int .i64 8, .int .i64 0, .int .u16 m, .int .u8 0, .int .u8 0, .int .u8 0, .int .u8 0, .bool false, .int .i64 0, .bool false, .int .i64 0] 48) := ⟨_, rfl⟩
    have bk : Below w1.heap.size w1 w2 := by rw [hw2]; exact (Below.refl _ _).alloc (Nat.le_refl _) _
    have XA := Lib.hid ((bk.block _ (Array.getElem?_eq_some_iff.1 x1).1).trans x1)
    have Hb := Lib.hid (b1.trans (bk.mono b1.size))
    have y0 := cells_at x1 0
    have y1 := cells_at x1 1
    have y2 := cells_at x1 2
    have y3 := cells_at x1 3
    have y4 := cells_at x1 4
    have y5 := cells_at x1 5
    have y6 := cells_at x1 6
    have y7 := cells_at x1 7
    have y8 := cells_at x1 8
    have y9 := cells_at x1 9
    have y10 := cells_at x1 10
    clear x1 b1 bk
    go_enter Try.func18, Try.ntmps18
    go_wp2_with fail
    rw [← hw1, ← hw2]
    clear hw1 hw2
    go_ret
    exact ⟨(congrArg (fun b => Ending.returned (Value.bool b)) HV.out).symm, Hb.out⟩
  have hv : rightRc ⟨k, t, m, k0, k1, k2, k3, ot, o, nt, n⟩ = false := decide_eq_false (fun h => by have h3 := (Hri.out.1 h).1; omega)
  have HV := Lib.hid hv; clear hv Hri
  have d1 : (k == 1) = false := by simpa using c1
  have d2 : (k == 2) = false := by simpa using c2
  have d3 : (k == 3) = false := by simpa using c3
  have d4 : (k == 4) = false := by simpa using c4
  have d5 : (k == 5) = false := by simpa using c5
  have d6 : (k == 6) = false := by simpa using c6
  have d7 : (k == 7) = false := by simpa using c7
  have d8 : (k == 8) = false := by simpa using c8
  obtain ⟨w1, hw1⟩ : ∃ w1, w1 = w.alloc (.cells #[.int .i64 k, .int .i64 t, .int .u16 m, .int .u8 k0, .int .u8 k1, .int .u8 k2, .int .u8 k3, .bool ot, .int .i64 o, .bool nt, .int .i64 n] 48) := ⟨_, rfl⟩
  have b1 : Below w.heap.size w w1 := by rw [hw1]; exact (Below.refl _ _).alloc (Nat.le_refl _) _
  have x1 : w1.heap[w.heap.size]? = some (.cells #[.int .i64 k, .int .i64 t, .int .u16 m, .int .u8 k0, .int .u8 k1, .int .u8 k2, .int .u8 k3, .bool ot, .int .i64 o, .bool nt, .int .i64 n] 48 (0, 0)) := by rw [hw1]; exact heap_alloc_new w _
  obtain ⟨w2, hw2⟩ : ∃ w2, w2 = w1.alloc (.cells #[.int .i64 k, .int .i64 0, .int .u16 0, .int .u8 0, .int .u8 0, .int .u8 0, .int .u8 0, .bool false, .int .i64 0, .bool false, .int .i64 0] 48) := ⟨_, rfl⟩
  have bk : Below w1.heap.size w1 w2 := by rw [hw2]; exact (Below.refl _ _).alloc (Nat.le_refl _) _
  have XA := Lib.hid ((bk.block _ (Array.getElem?_eq_some_iff.1 x1).1).trans x1)
  have Hb := Lib.hid (b1.trans (bk.mono b1.size))
  have y0 := cells_at x1 0
  have y1 := cells_at x1 1
  have y2 := cells_at x1 2
  have y3 := cells_at x1 3
  have y4 := cells_at x1 4
  have y5 := cells_at x1 5
  have y6 := cells_at x1 6
  have y7 := cells_at x1 7
  have y8 := cells_at x1 8
  have y9 := cells_at x1 9
  have y10 := cells_at x1 10
  clear x1 b1 bk
  go_enter Try.func18, Try.ntmps18
  go_wp2_with fail
  rw [← hw1, ← hw2]
  clear hw1 hw2
  go_ret
  exact ⟨(congrArg (fun b => Ending.returned (Value.bool b)) HV.out).symm, Hb.out⟩
end Go.Proofs.Ytgpedejeifmfdaa
