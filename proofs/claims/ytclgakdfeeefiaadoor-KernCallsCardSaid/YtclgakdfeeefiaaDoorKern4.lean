/- Kernels: fits; Out. -/
import Derived.Test.YtclgakdfeeefiaaDoorKern3
namespace Go.Proofs.YtclgakdfeeefiaaDoor
open Go.RowKit

def upOf (m : Msg) : Bool := decide (1 ≤ m.kind ∧ m.kind ≤ 3)
theorem Up_calls {w : World} (m : Msg) : Calls Tryd.prog 69 #[.agg m.cells.toArray] w fun e w' => e = .returned (.bool (upOf m)) ∧ Below w.heap.size w w' := by
  obtain ⟨k, p, t, x⟩ := m
  obtain ⟨R, hR⟩ : ∃ R, R = upOf (k, p, t, x) := ⟨_, rfl⟩
  rw [← hR]
  have hd : (decide (1 ≤ k) = false ∧ R = false) ∨ (decide (1 ≤ k) = true ∧ decide (k ≤ 3) = R) := by
    rw [hR]
    unfold upOf
    simp only [Msg.kind]
    by_cases h : 1 ≤ k
    · exact .inr ⟨decide_eq_true h, by congr 1; exact propext ⟨fun q => ⟨h, q⟩, fun q => q.2⟩⟩
    · exact .inl ⟨decide_eq_false h, decide_eq_false fun q => h q.1⟩
  clear hR
  simp only [Msg.cells, Msg.kind, Msg.part, Msg.tx, Msg.what]
  have b1 := (Below.refl w.heap.size w).alloc (Nat.le_refl _) (.cells #[.int .i64 k, .int .i64 p, .int .i64 t, .int .i64 x] 39)
  have Hb1 := Lib.hid b1; clear b1
  rcases hd with ⟨d1, rfl⟩ | ⟨d1, d2⟩
  all_goals
    go_enter Tryd.func69, Tryd.ntmps69
    go_wp2
    go_ret
    exact ⟨rfl, Hb1.out⟩
/-- Is a message one of a way? -/
def fitsOf (e : End) (m : Msg) : Bool := rightOf m && decide (m.part = e.1) && (upOf m == decide (e.2 = 1))
set_option maxHeartbeats 4000000 in
theorem fits_calls {w : World} (e : End) (m : Msg) : Calls Tryd.prog 46 #[endV e, .agg m.cells.toArray] w fun r w' => r = .returned (.bool (fitsOf e m)) ∧ Below w.heap.size w w' := by
  have hr := fun w : World => Right_calls (w := w) m
  have hu := fun w : World => Up_calls (w := w) m
  unfold fitsOf
  generalize rightOf m = R at *
  generalize upOf m = U at *
  obtain ⟨q, d⟩ := e
  obtain ⟨k, p, t, x⟩ := m
  simp only [Msg.cells, Msg.kind, Msg.part, Msg.tx, Msg.what, endV] at hr hu ⊢
  obtain ⟨w1, hw1⟩ : ∃ w1, w1 = w.alloc (.cells #[.int .i64 q, .int .i64 d] 84) := ⟨_, rfl⟩
  have c1 : Below w.heap.size w w1 := by rw [hw1]; exact (Below.refl _ _).alloc (Nat.le_refl _) _
  have z1 : w1.heap[w.heap.size]? = some (.cells #[.int .i64 q, .int .i64 d] 84 (0, 0)) := by rw [hw1]; exact heap_alloc_new w _
  have s1 : w1.heap.size = w.heap.size + 1 := by rw [hw1, World.size_alloc]
  obtain ⟨w2, hw2⟩ : ∃ w2, w2 = w1.alloc (.cells #[.int .i64 k, .int .i64 p, .int .i64 t, .int .i64 x] 39) := ⟨_, rfl⟩
  have c2 : Below w1.heap.size w1 w2 := by rw [hw2]; exact (Below.refl _ _).alloc (Nat.le_refl _) _
  have z2 : w2.heap[w1.heap.size]? = some (.cells #[.int .i64 k, .int .i64 p, .int .i64 t, .int .i64 x] 39 (0, 0)) := by rw [hw2]; exact heap_alloc_new w1 _
  rw [s1] at z2
  have c12 := c1.trans (c2.mono c1.size)
  have y1 := (c2.block _ (Array.getElem?_eq_some_iff.1 z1).1).trans z1
  have q0 := cell_regrown (cells_at y1 0)
  have q1 := cell_regrown (cells_at y1 1)
  have m0 := cell_regrown (cells_at z2 0)
  have m1 := cell_regrown (cells_at z2 1)
  have m2 := cell_regrown (cells_at z2 2)
  have m3 := cell_regrown (cells_at z2 3)
  have C := Lib.hid c12; clear c12 c1 c2 z1 z2 y1 s1
  cases R with
  | false =>
    have Hr := Lib.hid hr; clear hr hu
    go_enter Tryd.func46, Tryd.ntmps46
    go_wp2_with fail
    rw [← hw1, ← hw2]
    clear hw1 hw2
    refine wp_region_quiet_below (by kernel_rfl) (by kernel_rfl) ?_
    repeat (go_big_quiet_step ((first | (go_at_call 68; exact Calls.regrown_of (Hr.out _)))))
    refine wpQuiet_nil ?_
    intro wq hwq
    have bk : Below w2.heap.size w2 wq := by obtain ⟨q, rfl⟩ := hwq; exact below_regrown _ _ _
    have hb := C.out.trans (bk.mono C.out.size)
    clear q0 q1 m0 m1 m2 m3 C bk hwq
    have Hb := Lib.hid hb; clear hb
    go_wp2
    go_ret
    exact ⟨by simp, Hb.out⟩
  | true =>
    by_cases hp : p = q
    · rw [decide_eq_true hp]
      have e1 : (p == q) = true := by simpa using hp
      clear hp
      cases U with
      | false =>
        by_cases hd : d = 1
        · have e2 : (d == 1) = true := by simpa using hd
          rw [decide_eq_true hd]
          clear hd
          have Hr := Lib.hid hr; clear hr
          have Hu := Lib.hid hu; clear hu
          go_enter Tryd.func46, Tryd.ntmps46
          go_wp2_with fail
          rw [← hw1, ← hw2]
          clear hw1 hw2
          refine wp_region_quiet_below (by kernel_rfl) (by kernel_rfl) ?_
          repeat (go_big_quiet_step ((first | (go_at_call 68; exact Calls.regrown_of (Hr.out _)) | (go_at_call 69; exact Calls.regrown_of (Hu.out _)))))
          refine wpQuiet_nil ?_
          intro wq hwq
          have bk : Below w2.heap.size w2 wq := by obtain ⟨q, rfl⟩ := hwq; exact below_regrown _ _ _
          have hb := C.out.trans (bk.mono C.out.size)
          clear q0 q1 m0 m1 m2 m3 C bk hwq
          have Hb := Lib.hid hb; clear hb
          go_wp2
          go_ret
          exact ⟨by simp, Hb.out⟩
        · have e2 : (d == 1) = false := by simpa using hd
          rw [decide_eq_false hd]
          clear hd
          have Hr := Lib.hid hr; clear hr
          have Hu := Lib.hid hu; clear hu
          go_enter Tryd.func46, Tryd.ntmps46
          go_wp2_with fail
          rw [← hw1, ← hw2]
          clear hw1 hw2
          refine wp_region_quiet_below (by kernel_rfl) (by kernel_rfl) ?_
          repeat (go_big_quiet_step ((first | (go_at_call 68; exact Calls.regrown_of (Hr.out _)) | (go_at_call 69; exact Calls.regrown_of (Hu.out _)))))
          refine wpQuiet_nil ?_
          intro wq hwq
          have bk : Below w2.heap.size w2 wq := by obtain ⟨q, rfl⟩ := hwq; exact below_regrown _ _ _
          have hb := C.out.trans (bk.mono C.out.size)
          clear q0 q1 m0 m1 m2 m3 C bk hwq
          have Hb := Lib.hid hb; clear hb
          go_wp2
          go_ret
          exact ⟨by simp, Hb.out⟩
      | true =>
        by_cases hd : d = 1
        · have e2 : (d == 1) = true := by simpa using hd
          rw [decide_eq_true hd]
          clear hd
          have Hr := Lib.hid hr; clear hr
          have Hu := Lib.hid hu; clear hu
          go_enter Tryd.func46, Tryd.ntmps46
          go_wp2_with fail
          rw [← hw1, ← hw2]
          clear hw1 hw2
          refine wp_region_quiet_below (by kernel_rfl) (by kernel_rfl) ?_
          repeat (go_big_quiet_step ((first | (go_at_call 68; exact Calls.regrown_of (Hr.out _)) | (go_at_call 69; exact Calls.regrown_of (Hu.out _)))))
          refine wpQuiet_nil ?_
          intro wq hwq
          have bk : Below w2.heap.size w2 wq := by obtain ⟨q, rfl⟩ := hwq; exact below_regrown _ _ _
          have hb := C.out.trans (bk.mono C.out.size)
          clear q0 q1 m0 m1 m2 m3 C bk hwq
          have Hb := Lib.hid hb; clear hb
          go_wp2
          go_ret
          exact ⟨by simp, Hb.out⟩
        · have e2 : (d == 1) = false := by simpa using hd
          rw [decide_eq_false hd]
          clear hd
          have Hr := Lib.hid hr; clear hr
          have Hu := Lib.hid hu; clear hu
          go_enter Tryd.func46, Tryd.ntmps46
          go_wp2_with fail
          rw [← hw1, ← hw2]
          clear hw1 hw2
          refine wp_region_quiet_below (by kernel_rfl) (by kernel_rfl) ?_
          repeat (go_big_quiet_step ((first | (go_at_call 68; exact Calls.regrown_of (Hr.out _)) | (go_at_call 69; exact Calls.regrown_of (Hu.out _)))))
          refine wpQuiet_nil ?_
          intro wq hwq
          have bk : Below w2.heap.size w2 wq := by obtain ⟨q, rfl⟩ := hwq; exact below_regrown _ _ _
          have hb := C.out.trans (bk.mono C.out.size)
          clear q0 q1 m0 m1 m2 m3 C bk hwq
          have Hb := Lib.hid hb; clear hb
          go_wp2
          go_ret
          exact ⟨by simp, Hb.out⟩
    · rw [decide_eq_false hp]
      have e1 : (p == q) = false := by simpa using hp
      clear hp
      have Hr := Lib.hid hr; clear hr hu
      go_enter Tryd.func46, Tryd.ntmps46
      go_wp2_with fail
      rw [← hw1, ← hw2]
      clear hw1 hw2
      refine wp_region_quiet_below (by kernel_rfl) (by kernel_rfl) ?_
      repeat (go_big_quiet_step ((first | (go_at_call 68; exact Calls.regrown_of (Hr.out _)))))
      refine wpQuiet_nil ?_
      intro wq hwq
      have bk : Below w2.heap.size w2 wq := by obtain ⟨q, rfl⟩ := hwq; exact below_regrown _ _ _
      have hb := C.out.trans (bk.mono C.out.size)
      clear q0 q1 m0 m1 m2 m3 C bk hwq
      have Hb := Lib.hid hb; clear hb
      go_wp2
      go_ret
      exact ⟨by simp, Hb.out⟩
theorem ptr_of {w : World} {mb : Nat} {ws : List (End × Nat)} (h : MapK endV w mb (ptrs ws)) {e : End} {b : Nat} (he : (e, b) ∈ ws) : valOf (ptrs ws) e = some (.pointer (some ⟨b, 0, none⟩)) :=
  valOf_mem (p := (e, Value.pointer (some ⟨b, 0, none⟩))) h.once (List.mem_map.2 ⟨_, he, rfl⟩)
theorem ptr_none {ws : List (End × Nat)} {e : End} (he : ∀ b, (e, b) ∉ ws) : valOf (ptrs ws) e = none := valOf_none fun q hq => by
  obtain ⟨⟨e', b⟩, hb, rfl⟩ := List.mem_map.1 hq
  intro h
  simp only at h
  subst h
  exact he b hb
end Go.Proofs.YtclgakdfeeefiaaDoor
