/- rec.part, Right, small. -/
import Derived.Test.YtgpedejeifmfdaaGreatRec1
import Derived.BigRegion
namespace Go.Proofs.YtgpedejeifmfdaaGreat
open Go.RowKit

theorem below3 (w : World) (a b c : Obj) : Below w.heap.size w (((w.alloc a).alloc b).alloc c) := (((Below.refl _ _).alloc (Nat.le_refl _) a).alloc (by simp) b).alloc (by simp; omega) c
theorem below3d (w : World) (a b c : Obj) : Below w.heap.size w (((w.alloc a).alloc b).alloc c).drew := Below.drewN (below3 w a b c) 1
theorem part_other {r : Rc} (h1 : ¬ r.kind = 1) (h2 : ¬ r.kind = 2) (h7 : ¬ r.kind = 7) (h8 : ¬ r.kind = 8) : partRc r = ⟨r.kind, r.tx, 0, 0, 0, 0, 0, false, 0, false, 0⟩ := by unfold partRc; rw [if_neg h1, if_neg h2, if_neg h7, if_neg h8]
set_option maxHeartbeats 2000000 in
theorem part_calls {w : World} (r : Rc) : Calls Tryz.prog 102 #[.agg r.cells.toArray] w fun e w' => e = .returned (.agg (partRc r).cells.toArray) ∧ Below w.heap.size w w' := by
  obtain ⟨k, t, m, k0, k1, k2, k3, ot, o, nt, n⟩ := r
  by_cases h1 : k = 1
  · subst h1
    rw [show partRc ⟨1, t, m, k0, k1, k2, k3, ot, o, nt, n⟩ = ⟨1, t, 0, k0, k1, k2, k3, ot, o, nt, n⟩ from rfl]
    simp only [Rc.cells]
    go_enter Tryz.func102, Tryz.ntmps102
    go_wp2
    go_region
    go_wp2
    refine bodyPost_ret (v := .agg #[.int .i64 1, .int .i64 t, .int .u16 0, .int .u8 k0, .int .u8 k1, .int .u8 k2, .int .u8 k3, .bool ot, .int .i64 o, .bool nt, .int .i64 n]) (by simp [results, Tryz.results102, go_sem]) rfl ?_
    exact ⟨rfl, below3d _ _ _ _⟩
  by_cases h2 : k = 2
  · subst h2
    rw [show partRc ⟨2, t, m, k0, k1, k2, k3, ot, o, nt, n⟩ = ⟨2, t, m, 0, 0, 0, 0, false, 0, false, 0⟩ from rfl]
    simp only [Rc.cells]
    go_enter Tryz.func102, Tryz.ntmps102
    go_wp2
    go_region
    go_wp2
    refine bodyPost_ret (v := .agg #[.int .i64 2, .int .i64 t, .int .u16 m, .int .u8 0, .int .u8 0, .int .u8 0, .int .u8 0, .bool false, .int .i64 0, .bool false, .int .i64 0]) (by simp [results, Tryz.results102, go_sem]) rfl ?_
    exact ⟨rfl, below3d _ _ _ _⟩
  by_cases h7 : k = 7
  · subst h7
    rw [show partRc ⟨7, t, m, k0, k1, k2, k3, ot, o, nt, n⟩ = ⟨7, 0, 0, k0, k1, k2, k3, false, 0, nt, n⟩ from rfl]
    simp only [Rc.cells]
    go_enter Tryz.func102, Tryz.ntmps102
    go_wp2
    go_region
    go_wp2
    refine bodyPost_ret (v := .agg #[.int .i64 7, .int .i64 0, .int .u16 0, .int .u8 k0, .int .u8 k1, .int .u8 k2, .int .u8 k3, .bool false, .int .i64 0, .bool nt, .int .i64 n]) (by simp [results, Tryz.results102, go_sem]) rfl ?_
    exact ⟨rfl, below3d _ _ _ _⟩
  by_cases h8 : k = 8
  · subst h8
    rw [show partRc ⟨8, t, m, k0, k1, k2, k3, ot, o, nt, n⟩ = ⟨8, 0, m, 0, 0, 0, 0, false, 0, false, 0⟩ from rfl]
    simp only [Rc.cells]
    go_enter Tryz.func102, Tryz.ntmps102
    go_wp2
    refine bodyPost_ret (v := .agg #[.int .i64 8, .int .i64 0, .int .u16 m, .int .u8 0, .int .u8 0, .int .u8 0, .int .u8 0, .bool false, .int .i64 0, .bool false, .int .i64 0]) (by simp [results, Tryz.results102, go_sem]) rfl ?_
    exact ⟨rfl, below3 _ _ _ _⟩
  rw [part_other h1 h2 h7 h8]
  have e1 : (k == 1) = false := by simpa using h1
  have e2 : (k == 2) = false := by simpa using h2
  have e7 : (k == 7) = false := by simpa using h7
  have e8 : (k == 8) = false := by simpa using h8
  clear h1 h2 h7 h8
  simp only [Rc.cells]
  go_enter Tryz.func102, Tryz.ntmps102
  go_wp2
  refine bodyPost_ret (v := .agg #[.int .i64 k, .int .i64 t, .int .u16 0, .int .u8 0, .int .u8 0, .int .u8 0, .int .u8 0, .bool false, .int .i64 0, .bool false, .int .i64 0]) (by simp [results, Tryz.results102, go_sem]) rfl ?_
  exact ⟨rfl, below3 _ _ _ _⟩
theorem right_iffs (k t m k0 k1 k2 k3 : Int) (ot : Bool) (o : Int) (nt : Bool) (n : Int) : RightRc ⟨k, t, m, k0, k1, k2, k3, ot, o, nt, n⟩ ↔ (1 ≤ k ∧ k ≤ 8) ∧ partRc ⟨k, t, m, k0, k1, k2, k3, ot, o, nt, n⟩ = ⟨k, t, m, k0, k1, k2, k3, ot, o, nt, n⟩ ∧
    (if k = 1 then (1 ≤ t ∧ t ≤ 1048576) ∧ (ot = true ∨ o = 0) ∧ (nt = true ∨ n = 0) else if k = 2 then (1 ≤ t ∧ t ≤ 1048576) ∧ m ≠ 0 else if k = 7 then nt = true else if k = 8 then m ≤ 64 else 1 ≤ t ∧ t ≤ 1048576) := Iff.rfl
set_option maxHeartbeats 8000000 in
theorem Right_calls {w : World} (r : Rc) : Calls Tryz.prog 78 #[.agg r.cells.toArray] w fun e w' => e = .returned (.bool (rightRc r)) ∧ Below w.heap.size w w' := by
  obtain ⟨k, t, m, k0, k1, k2, k3, ot, o, nt, n⟩ := r
  simp only [Rc.cells]
  have hb := (Below.refl w.heap.size w).alloc (Nat.le_refl _) (.cells #[.int .i64 k, .int .i64 t, .int .u16 m, .int .u8 k0, .int .u8 k1, .int .u8 k2, .int .u8 k3, .bool ot, .int .i64 o, .bool nt, .int .i64 n] 63)
  have z := heap_alloc_new w (.cells #[.int .i64 k, .int .i64 t, .int .u16 m, .int .u8 k0, .int .u8 k1, .int .u8 k2, .int .u8 k3, .bool ot, .int .i64 o, .bool nt, .int .i64 n] 63)
  obtain ⟨w1, hw1⟩ : ∃ w1, w1 = w.alloc (.cells #[.int .i64 k, .int .i64 t, .int .u16 m, .int .u8 k0, .int .u8 k1, .int .u8 k2, .int .u8 k3, .bool ot, .int .i64 o, .bool nt, .int .i64 n] 63) := ⟨_, rfl⟩
  rw [← hw1] at hb z
  have Hb := Lib.hid hb; clear hb
  have Z := Lib.hid z; clear z
  by_cases c1 : k < 1
  · have hv : rightRc ⟨k, t, m, k0, k1, k2, k3, ot, o, nt, n⟩ = false := decide_eq_false (fun h => by have := ((right_iffs _ _ _ _ _ _ _ _ _ _ _).1 h).1; omega)
    have HV := Lib.hid hv; clear hv
    have d1 : decide (k < 1) = true := decide_eq_true c1
    clear c1
    have z0 := cell_regrown (cells_at Z.out 0)
    have z1 := cell_regrown (cells_at Z.out 1)
    have z2 := cell_regrown (cells_at Z.out 2)
    have z3 := cell_regrown (cells_at Z.out 3)
    have z4 := cell_regrown (cells_at Z.out 4)
    have z5 := cell_regrown (cells_at Z.out 5)
    have z6 := cell_regrown (cells_at Z.out 6)
    have z7 := cell_regrown (cells_at Z.out 7)
    have z8 := cell_regrown (cells_at Z.out 8)
    have z9 := cell_regrown (cells_at Z.out 9)
    have z10 := cell_regrown (cells_at Z.out 10)
    go_enter Tryz.func78, Tryz.ntmps78
    go_wp2_with fail
    rw [← hw1]
    clear hw1
    refine wp_region_quiet_below (by kernel_rfl) (by kernel_rfl) ?_
    repeat (go_big_quiet_step (fail))
    refine wpQuiet_nil ?_
    intro wq hwq
    have bk : Below w1.heap.size w1 wq := by obtain ⟨q, rfl⟩ := hwq; exact below_regrown _ _ _
    have hb := Hb.out.trans (bk.mono Hb.out.size)
    have z := (bk.block _ (Array.getElem?_eq_some_iff.1 Z.out).1).trans Z.out
    clear Z Hb bk hwq
    have Hb := Lib.hid hb; clear hb
    have Z := Lib.hid z; clear z
    clear z0 z1 z2 z3 z4 z5 z6 z7 z8 z9 z10
    go_wp2
    go_ret
    exact ⟨(congrArg (fun b => Ending.returned (Value.bool b)) HV.out).symm, Hb.out⟩
  by_cases c2 : 8 < k
  · have hv : rightRc ⟨k, t, m, k0, k1, k2, k3, ot, o, nt, n⟩ = false := decide_eq_false (fun h => by have := ((right_iffs _ _ _ _ _ _ _ _ _ _ _).1 h).1; omega)
    have HV := Lib.hid hv; clear hv
    have d1 : decide (k < 1) = false := decide_eq_false c1
    have d2 : decide (8 < k) = true := decide_eq_true c2
    clear c1 c2
    have z0 := cell_regrown (cells_at Z.out 0)
    have z1 := cell_regrown (cells_at Z.out 1)
    have z2 := cell_regrown (cells_at Z.out 2)
    have z3 := cell_regrown (cells_at Z.out 3)
    have z4 := cell_regrown (cells_at Z.out 4)
    have z5 := cell_regrown (cells_at Z.out 5)
    have z6 := cell_regrown (cells_at Z.out 6)
    have z7 := cell_regrown (cells_at Z.out 7)
    have z8 := cell_regrown (cells_at Z.out 8)
    have z9 := cell_regrown (cells_at Z.out 9)
    have z10 := cell_regrown (cells_at Z.out 10)
    go_enter Tryz.func78, Tryz.ntmps78
    go_wp2_with fail
    rw [← hw1]
    clear hw1
    refine wp_region_quiet_below (by kernel_rfl) (by kernel_rfl) ?_
    repeat (go_big_quiet_step (fail))
    refine wpQuiet_nil ?_
    intro wq hwq
    have bk : Below w1.heap.size w1 wq := by obtain ⟨q, rfl⟩ := hwq; exact below_regrown _ _ _
    have hb := Hb.out.trans (bk.mono Hb.out.size)
    have z := (bk.block _ (Array.getElem?_eq_some_iff.1 Z.out).1).trans Z.out
    clear Z Hb bk hwq
    have Hb := Lib.hid hb; clear hb
    have Z := Lib.hid z; clear z
    clear z0 z1 z2 z3 z4 z5 z6 z7 z8 z9 z10
    go_wp2
    go_ret
    exact ⟨(congrArg (fun b => Ending.returned (Value.bool b)) HV.out).symm, Hb.out⟩
  have hpt := fun w : World => part_calls (w := w) ⟨k, t, m, k0, k1, k2, k3, ot, o, nt, n⟩
  have hne := fun w => rc_neq w (partRc ⟨k, t, m, k0, k1, k2, k3, ot, o, nt, n⟩) ⟨k, t, m, k0, k1, k2, k3, ot, o, nt, n⟩
  have hgd := fun x y w => rc_guard .neq x y (partRc ⟨k, t, m, k0, k1, k2, k3, ot, o, nt, n⟩) ⟨k, t, m, k0, k1, k2, k3, ot, o, nt, n⟩ w
  have hri := right_iffs k t m k0 k1 k2 k3 ot o nt n
  obtain ⟨PR, hPR⟩ : ∃ p, p = partRc ⟨k, t, m, k0, k1, k2, k3, ot, o, nt, n⟩ := ⟨_, rfl⟩
  rw [← hPR] at hpt hne hgd hri
  clear hPR
  have Hri := Lib.hid hri; clear hri
  have d1 : decide (k < 1) = false := decide_eq_false c1
  have d2 : decide (8 < k) = false := decide_eq_false c2
  by_cases c3 : PR = ⟨k, t, m, k0, k1, k2, k3, ot, o, nt, n⟩
  case neg =>
    rw [decide_eq_false c3] at hne
    obtain ⟨p0, p1, p2, p3, p4, p5, p6, p7, p8, p9, p10⟩ := PR
    simp only [Rc.cells, Bool.not_false] at hpt hne hgd
    have Hpt := Lib.hid hpt; clear hpt
    have hv : rightRc ⟨k, t, m, k0, k1, k2, k3, ot, o, nt, n⟩ = false := decide_eq_false (fun h => c3 (Hri.out.1 h).2.1)
    have HV := Lib.hid hv; clear hv
    clear c1 c2 c3 Hri
    have z0 := cell_regrown (cells_at Z.out 0)
    have z1 := cell_regrown (cells_at Z.out 1)
    have z2 := cell_regrown (cells_at Z.out 2)
    have z3 := cell_regrown (cells_at Z.out 3)
    have z4 := cell_regrown (cells_at Z.out 4)
    have z5 := cell_regrown (cells_at Z.out 5)
    have z6 := cell_regrown (cells_at Z.out 6)
    have z7 := cell_regrown (cells_at Z.out 7)
    have z8 := cell_regrown (cells_at Z.out 8)
    have z9 := cell_regrown (cells_at Z.out 9)
    have z10 := cell_regrown (cells_at Z.out 10)
    go_enter Tryz.func78, Tryz.ntmps78
    go_wp2_with fail
    rw [← hw1]
    clear hw1
    refine wp_region_quiet_below (by kernel_rfl) (by kernel_rfl) ?_
    repeat (go_big_quiet_step ((go_at_call 102; exact Calls.regrown_of (Hpt.out _))))
    refine wpQuiet_nil ?_
    intro wq hwq
    have bk : Below w1.heap.size w1 wq := by obtain ⟨q, rfl⟩ := hwq; exact below_regrown _ _ _
    have hb := Hb.out.trans (bk.mono Hb.out.size)
    have z := (bk.block _ (Array.getElem?_eq_some_iff.1 Z.out).1).trans Z.out
    clear Z Hb bk hwq
    have Hb := Lib.hid hb; clear hb
    have Z := Lib.hid z; clear z
    clear z0 z1 z2 z3 z4 z5 z6 z7 z8 z9 z10
    go_wp2
    go_ret
    exact ⟨(congrArg (fun b => Ending.returned (Value.bool b)) HV.out).symm, Hb.out⟩
  case pos =>
    rw [decide_eq_true c3] at hne
    have hrj : rightRc ⟨k, t, m, k0, k1, k2, k3, ot, o, nt, n⟩ = decide (if k = 1 then (1 ≤ t ∧ t ≤ 1048576) ∧ (ot = true ∨ o = 0) ∧ (nt = true ∨ n = 0) else if k = 2 then (1 ≤ t ∧ t ≤ 1048576) ∧ m ≠ 0 else if k = 7 then nt = true else if k = 8 then m ≤ 64 else 1 ≤ t ∧ t ≤ 1048576) := by
      unfold rightRc
      rw [decide_eq_decide, Hri.out]
      exact ⟨fun h => h.2.2, fun h => ⟨⟨by omega, by omega⟩, c3, h⟩⟩
    subst c3
    simp only [Rc.cells, Bool.not_true] at hpt hne hgd
    have Hpt := Lib.hid hpt; clear hpt
    have Hrj := Lib.hid hrj; clear hrj
    have v1 := fun w : World => value_calls (w := w) ot o
    have v2 := fun w : World => value_calls (w := w) nt n
    have V1 := Lib.hid v1; clear v1
    have V2 := Lib.hid v2; clear v2
    clear Hri c1 c2
    by_cases h1 : k = 1
    · subst h1
      by_cases n1 : t < 1
      · have f1 : decide (1 ≤ t) = false := decide_eq_false (by omega)
        have hv : rightRc ⟨1, t, m, k0, k1, k2, k3, ot, o, nt, n⟩ = false := by rw [Hrj.out]; exact decide_eq_false (fun h => by rw [if_pos rfl] at h; omega)
        have HV := Lib.hid hv; clear hv Hrj
        clear n1
        have z0 := cell_regrown (cells_at Z.out 0)
        have z1 := cell_regrown (cells_at Z.out 1)
        have z2 := cell_regrown (cells_at Z.out 2)
        have z3 := cell_regrown (cells_at Z.out 3)
        have z4 := cell_regrown (cells_at Z.out 4)
        have z5 := cell_regrown (cells_at Z.out 5)
        have z6 := cell_regrown (cells_at Z.out 6)
        have z7 := cell_regrown (cells_at Z.out 7)
        have z8 := cell_regrown (cells_at Z.out 8)
        have z9 := cell_regrown (cells_at Z.out 9)
        have z10 := cell_regrown (cells_at Z.out 10)
        go_enter Tryz.func78, Tryz.ntmps78
        go_wp2_with fail
        rw [← hw1]
        clear hw1
        refine wp_region_quiet_below (by kernel_rfl) (by kernel_rfl) ?_
        repeat (go_big_quiet_step ((go_at_call 102; exact Calls.regrown_of (Hpt.out _))))
        refine wpQuiet_nil ?_
        intro wq hwq
        have bk : Below w1.heap.size w1 wq := by obtain ⟨q, rfl⟩ := hwq; exact below_regrown _ _ _
        have hb := Hb.out.trans (bk.mono Hb.out.size)
        have z := (bk.block _ (Array.getElem?_eq_some_iff.1 Z.out).1).trans Z.out
        clear Z Hb bk hwq
        have Hb := Lib.hid hb; clear hb
        have Z := Lib.hid z; clear z
        clear z0 z1 z2 z3 z4 z5 z6 z7 z8 z9 z10
        have y0 := cells_at Z.out 0
        have y1 := cells_at Z.out 1
        have y2 := cells_at Z.out 2
        have y3 := cells_at Z.out 3
        have y4 := cells_at Z.out 4
        have y5 := cells_at Z.out 5
        have y6 := cells_at Z.out 6
        have y7 := cells_at Z.out 7
        have y8 := cells_at Z.out 8
        have y9 := cells_at Z.out 9
        have y10 := cells_at Z.out 10
        go_wp2
        go_ret
        exact ⟨(congrArg (fun b => Ending.returned (Value.bool b)) HV.out).symm, Hb.out⟩
      by_cases n2 : 1048576 < t
      · have f1 : decide (1 ≤ t) = true := decide_eq_true (by omega)
        have f2 : decide (t ≤ 1048576) = false := decide_eq_false (by omega)
        have hv : rightRc ⟨1, t, m, k0, k1, k2, k3, ot, o, nt, n⟩ = false := by rw [Hrj.out]; exact decide_eq_false (fun h => by rw [if_pos rfl] at h; omega)
        have HV := Lib.hid hv; clear hv Hrj
        clear n1 n2
        have z0 := cell_regrown (cells_at Z.out 0)
        have z1 := cell_regrown (cells_at Z.out 1)
        have z2 := cell_regrown (cells_at Z.out 2)
        have z3 := cell_regrown (cells_at Z.out 3)
        have z4 := cell_regrown (cells_at Z.out 4)
        have z5 := cell_regrown (cells_at Z.out 5)
        have z6 := cell_regrown (cells_at Z.out 6)
        have z7 := cell_regrown (cells_at Z.out 7)
        have z8 := cell_regrown (cells_at Z.out 8)
        have z9 := cell_regrown (cells_at Z.out 9)
        have z10 := cell_regrown (cells_at Z.out 10)
        go_enter Tryz.func78, Tryz.ntmps78
        go_wp2_with fail
        rw [← hw1]
        clear hw1
        refine wp_region_quiet_below (by kernel_rfl) (by kernel_rfl) ?_
        repeat (go_big_quiet_step ((go_at_call 102; exact Calls.regrown_of (Hpt.out _))))
        refine wpQuiet_nil ?_
        intro wq hwq
        have bk : Below w1.heap.size w1 wq := by obtain ⟨q, rfl⟩ := hwq; exact below_regrown _ _ _
        have hb := Hb.out.trans (bk.mono Hb.out.size)
        have z := (bk.block _ (Array.getElem?_eq_some_iff.1 Z.out).1).trans Z.out
        clear Z Hb bk hwq
        have Hb := Lib.hid hb; clear hb
        have Z := Lib.hid z; clear z
        clear z0 z1 z2 z3 z4 z5 z6 z7 z8 z9 z10
        have y0 := cells_at Z.out 0
        have y1 := cells_at Z.out 1
        have y2 := cells_at Z.out 2
        have y3 := cells_at Z.out 3
        have y4 := cells_at Z.out 4
        have y5 := cells_at Z.out 5
        have y6 := cells_at Z.out 6
        have y7 := cells_at Z.out 7
        have y8 := cells_at Z.out 8
        have y9 := cells_at Z.out 9
        have y10 := cells_at Z.out 10
        go_wp2
        go_ret
        exact ⟨(congrArg (fun b => Ending.returned (Value.bool b)) HV.out).symm, Hb.out⟩
      have f1 : decide (1 ≤ t) = true := decide_eq_true (by omega)
      have f2 : decide (t ≤ 1048576) = true := decide_eq_true (by omega)
      by_cases v1 : ot = true ∨ o = 0
      · by_cases v2 : nt = true ∨ n = 0
        · have g1 : decide (valOk ot o) = true := decide_eq_true v1
          have g2 : decide (valOk nt n) = true := decide_eq_true v2
          have hv : rightRc ⟨1, t, m, k0, k1, k2, k3, ot, o, nt, n⟩ = true := by rw [Hrj.out]; exact decide_eq_true (by rw [if_pos rfl]; exact ⟨⟨by omega, by omega⟩, v1, v2⟩)
          have HV := Lib.hid hv; clear hv Hrj
          clear n1 n2 v1 v2
          rw [g1] at V1
          rw [g2] at V2
          clear g1 g2
          have z0 := cell_regrown (cells_at Z.out 0)
          have z1 := cell_regrown (cells_at Z.out 1)
          have z2 := cell_regrown (cells_at Z.out 2)
          have z3 := cell_regrown (cells_at Z.out 3)
          have z4 := cell_regrown (cells_at Z.out 4)
          have z5 := cell_regrown (cells_at Z.out 5)
          have z6 := cell_regrown (cells_at Z.out 6)
          have z7 := cell_regrown (cells_at Z.out 7)
          have z8 := cell_regrown (cells_at Z.out 8)
          have z9 := cell_regrown (cells_at Z.out 9)
          have z10 := cell_regrown (cells_at Z.out 10)
          go_enter Tryz.func78, Tryz.ntmps78
          go_wp2_with fail
          rw [← hw1]
          clear hw1
          refine wp_region_quiet_below (by kernel_rfl) (by kernel_rfl) ?_
          repeat (go_big_quiet_step ((go_at_call 102; exact Calls.regrown_of (Hpt.out _))))
          refine wpQuiet_nil ?_
          intro wq hwq
          have bk : Below w1.heap.size w1 wq := by obtain ⟨q, rfl⟩ := hwq; exact below_regrown _ _ _
          have hb := Hb.out.trans (bk.mono Hb.out.size)
          have z := (bk.block _ (Array.getElem?_eq_some_iff.1 Z.out).1).trans Z.out
          clear Z Hb bk hwq
          have Hb := Lib.hid hb; clear hb
          have Z := Lib.hid z; clear z
          clear z0 z1 z2 z3 z4 z5 z6 z7 z8 z9 z10
          have y0 := cells_at Z.out 0
          have y1 := cells_at Z.out 1
          have y2 := cells_at Z.out 2
          have y3 := cells_at Z.out 3
          have y4 := cells_at Z.out 4
          have y5 := cells_at Z.out 5
          have y6 := cells_at Z.out 6
          have y7 := cells_at Z.out 7
          have y8 := cells_at Z.out 8
          have y9 := cells_at Z.out 9
          have y10 := cells_at Z.out 10
          go_wp2_with fail
          refine (V1.out _).mono ?_
          rintro e v1w ⟨rfl, bk⟩
          have hb := Hb.out.trans (bk.mono Hb.out.size)
          have z := (bk.block _ (Array.getElem?_eq_some_iff.1 Z.out).1).trans Z.out
          clear Z Hb bk y0 y1 y2 y3 y4 y5 y6 y7 y8 y9 y10
          have Hb := Lib.hid hb; clear hb
          have Z := Lib.hid z; clear z
          have y0 := cells_at Z.out 0
          have y1 := cells_at Z.out 1
          have y2 := cells_at Z.out 2
          have y3 := cells_at Z.out 3
          have y4 := cells_at Z.out 4
          have y5 := cells_at Z.out 5
          have y6 := cells_at Z.out 6
          have y7 := cells_at Z.out 7
          have y8 := cells_at Z.out 8
          have y9 := cells_at Z.out 9
          have y10 := cells_at Z.out 10
          go_wp2_with fail
          refine (V2.out _).mono ?_
          rintro e v2w ⟨rfl, bk⟩
          have hb := Hb.out.trans (bk.mono Hb.out.size)
          have z := (bk.block _ (Array.getElem?_eq_some_iff.1 Z.out).1).trans Z.out
          clear Z Hb bk y0 y1 y2 y3 y4 y5 y6 y7 y8 y9 y10
          have Hb := Lib.hid hb; clear hb
          have Z := Lib.hid z; clear z
          have y0 := cells_at Z.out 0
          have y1 := cells_at Z.out 1
          have y2 := cells_at Z.out 2
          have y3 := cells_at Z.out 3
          have y4 := cells_at Z.out 4
          have y5 := cells_at Z.out 5
          have y6 := cells_at Z.out 6
          have y7 := cells_at Z.out 7
          have y8 := cells_at Z.out 8
          have y9 := cells_at Z.out 9
          have y10 := cells_at Z.out 10
          go_wp2
          go_ret
          exact ⟨(congrArg (fun b => Ending.returned (Value.bool b)) HV.out).symm, Hb.out⟩
        · have g1 : decide (valOk ot o) = true := decide_eq_true v1
          have g2 : decide (valOk nt n) = false := decide_eq_false v2
          have hv : rightRc ⟨1, t, m, k0, k1, k2, k3, ot, o, nt, n⟩ = false := by rw [Hrj.out]; exact decide_eq_false (fun h => by rw [if_pos rfl] at h; exact v2 h.2.2)
          have HV := Lib.hid hv; clear hv Hrj
          clear n1 n2 v1 v2
          rw [g1] at V1
          rw [g2] at V2
          clear g1 g2
          have z0 := cell_regrown (cells_at Z.out 0)
          have z1 := cell_regrown (cells_at Z.out 1)
          have z2 := cell_regrown (cells_at Z.out 2)
          have z3 := cell_regrown (cells_at Z.out 3)
          have z4 := cell_regrown (cells_at Z.out 4)
          have z5 := cell_regrown (cells_at Z.out 5)
          have z6 := cell_regrown (cells_at Z.out 6)
          have z7 := cell_regrown (cells_at Z.out 7)
          have z8 := cell_regrown (cells_at Z.out 8)
          have z9 := cell_regrown (cells_at Z.out 9)
          have z10 := cell_regrown (cells_at Z.out 10)
          go_enter Tryz.func78, Tryz.ntmps78
          go_wp2_with fail
          rw [← hw1]
          clear hw1
          refine wp_region_quiet_below (by kernel_rfl) (by kernel_rfl) ?_
          repeat (go_big_quiet_step ((go_at_call 102; exact Calls.regrown_of (Hpt.out _))))
          refine wpQuiet_nil ?_
          intro wq hwq
          have bk : Below w1.heap.size w1 wq := by obtain ⟨q, rfl⟩ := hwq; exact below_regrown _ _ _
          have hb := Hb.out.trans (bk.mono Hb.out.size)
          have z := (bk.block _ (Array.getElem?_eq_some_iff.1 Z.out).1).trans Z.out
          clear Z Hb bk hwq
          have Hb := Lib.hid hb; clear hb
          have Z := Lib.hid z; clear z
          clear z0 z1 z2 z3 z4 z5 z6 z7 z8 z9 z10
          have y0 := cells_at Z.out 0
          have y1 := cells_at Z.out 1
          have y2 := cells_at Z.out 2
          have y3 := cells_at Z.out 3
          have y4 := cells_at Z.out 4
          have y5 := cells_at Z.out 5
          have y6 := cells_at Z.out 6
          have y7 := cells_at Z.out 7
          have y8 := cells_at Z.out 8
          have y9 := cells_at Z.out 9
          have y10 := cells_at Z.out 10
          go_wp2_with fail
          refine (V1.out _).mono ?_
          rintro e v1w ⟨rfl, bk⟩
          have hb := Hb.out.trans (bk.mono Hb.out.size)
          have z := (bk.block _ (Array.getElem?_eq_some_iff.1 Z.out).1).trans Z.out
          clear Z Hb bk y0 y1 y2 y3 y4 y5 y6 y7 y8 y9 y10
          have Hb := Lib.hid hb; clear hb
          have Z := Lib.hid z; clear z
          have y0 := cells_at Z.out 0
          have y1 := cells_at Z.out 1
          have y2 := cells_at Z.out 2
          have y3 := cells_at Z.out 3
          have y4 := cells_at Z.out 4
          have y5 := cells_at Z.out 5
          have y6 := cells_at Z.out 6
          have y7 := cells_at Z.out 7
          have y8 := cells_at Z.out 8
          have y9 := cells_at Z.out 9
          have y10 := cells_at Z.out 10
          go_wp2_with fail
          refine (V2.out _).mono ?_
          rintro e v2w ⟨rfl, bk⟩
          have hb := Hb.out.trans (bk.mono Hb.out.size)
          have z := (bk.block _ (Array.getElem?_eq_some_iff.1 Z.out).1).trans Z.out
          clear Z Hb bk y0 y1 y2 y3 y4 y5 y6 y7 y8 y9 y10
          have Hb := Lib.hid hb; clear hb
          have Z := Lib.hid z; clear z
          have y0 := cells_at Z.out 0
          have y1 := cells_at Z.out 1
          have y2 := cells_at Z.out 2
          have y3 := cells_at Z.out 3
          have y4 := cells_at Z.out 4
          have y5 := cells_at Z.out 5
          have y6 := cells_at Z.out 6
          have y7 := cells_at Z.out 7
          have y8 := cells_at Z.out 8
          have y9 := cells_at Z.out 9
          have y10 := cells_at Z.out 10
          go_wp2
          go_ret
          exact ⟨(congrArg (fun b => Ending.returned (Value.bool b)) HV.out).symm, Hb.out⟩
      · have g1 : decide (valOk ot o) = false := decide_eq_false v1
        have hv : rightRc ⟨1, t, m, k0, k1, k2, k3, ot, o, nt, n⟩ = false := by rw [Hrj.out]; exact decide_eq_false (fun h => by rw [if_pos rfl] at h; exact v1 h.2.1)
        have HV := Lib.hid hv; clear hv Hrj
        clear n1 n2 v1
        rw [g1] at V1
        clear g1
        have z0 := cell_regrown (cells_at Z.out 0)
        have z1 := cell_regrown (cells_at Z.out 1)
        have z2 := cell_regrown (cells_at Z.out 2)
        have z3 := cell_regrown (cells_at Z.out 3)
        have z4 := cell_regrown (cells_at Z.out 4)
        have z5 := cell_regrown (cells_at Z.out 5)
        have z6 := cell_regrown (cells_at Z.out 6)
        have z7 := cell_regrown (cells_at Z.out 7)
        have z8 := cell_regrown (cells_at Z.out 8)
        have z9 := cell_regrown (cells_at Z.out 9)
        have z10 := cell_regrown (cells_at Z.out 10)
        go_enter Tryz.func78, Tryz.ntmps78
        go_wp2_with fail
        rw [← hw1]
        clear hw1
        refine wp_region_quiet_below (by kernel_rfl) (by kernel_rfl) ?_
        repeat (go_big_quiet_step ((go_at_call 102; exact Calls.regrown_of (Hpt.out _))))
        refine wpQuiet_nil ?_
        intro wq hwq
        have bk : Below w1.heap.size w1 wq := by obtain ⟨q, rfl⟩ := hwq; exact below_regrown _ _ _
        have hb := Hb.out.trans (bk.mono Hb.out.size)
        have z := (bk.block _ (Array.getElem?_eq_some_iff.1 Z.out).1).trans Z.out
        clear Z Hb bk hwq
        have Hb := Lib.hid hb; clear hb
        have Z := Lib.hid z; clear z
        clear z0 z1 z2 z3 z4 z5 z6 z7 z8 z9 z10
        have y0 := cells_at Z.out 0
        have y1 := cells_at Z.out 1
        have y2 := cells_at Z.out 2
        have y3 := cells_at Z.out 3
        have y4 := cells_at Z.out 4
        have y5 := cells_at Z.out 5
        have y6 := cells_at Z.out 6
        have y7 := cells_at Z.out 7
        have y8 := cells_at Z.out 8
        have y9 := cells_at Z.out 9
        have y10 := cells_at Z.out 10
        go_wp2_with fail
        refine (V1.out _).mono ?_
        rintro e v1w ⟨rfl, bk⟩
        have hb := Hb.out.trans (bk.mono Hb.out.size)
        have z := (bk.block _ (Array.getElem?_eq_some_iff.1 Z.out).1).trans Z.out
        clear Z Hb bk y0 y1 y2 y3 y4 y5 y6 y7 y8 y9 y10
        have Hb := Lib.hid hb; clear hb
        have Z := Lib.hid z; clear z
        have y0 := cells_at Z.out 0
        have y1 := cells_at Z.out 1
        have y2 := cells_at Z.out 2
        have y3 := cells_at Z.out 3
        have y4 := cells_at Z.out 4
        have y5 := cells_at Z.out 5
        have y6 := cells_at Z.out 6
        have y7 := cells_at Z.out 7
        have y8 := cells_at Z.out 8
        have y9 := cells_at Z.out 9
        have y10 := cells_at Z.out 10
        go_wp2
        go_ret
        exact ⟨(congrArg (fun b => Ending.returned (Value.bool b)) HV.out).symm, Hb.out⟩
    by_cases h2 : k = 2
    · subst h2
      by_cases n1 : t < 1
      · have f1 : decide (1 ≤ t) = false := decide_eq_false (by omega)
        have hv : rightRc ⟨2, t, m, k0, k1, k2, k3, ot, o, nt, n⟩ = false := by rw [Hrj.out]; exact decide_eq_false (fun h => by rw [if_neg (by decide), if_pos rfl] at h; omega)
        have HV := Lib.hid hv; clear hv Hrj
        clear n1
        have z0 := cell_regrown (cells_at Z.out 0)
        have z1 := cell_regrown (cells_at Z.out 1)
        have z2 := cell_regrown (cells_at Z.out 2)
        have z3 := cell_regrown (cells_at Z.out 3)
        have z4 := cell_regrown (cells_at Z.out 4)
        have z5 := cell_regrown (cells_at Z.out 5)
        have z6 := cell_regrown (cells_at Z.out 6)
        have z7 := cell_regrown (cells_at Z.out 7)
        have z8 := cell_regrown (cells_at Z.out 8)
        have z9 := cell_regrown (cells_at Z.out 9)
        have z10 := cell_regrown (cells_at Z.out 10)
        go_enter Tryz.func78, Tryz.ntmps78
        go_wp2_with fail
        rw [← hw1]
        clear hw1
        refine wp_region_quiet_below (by kernel_rfl) (by kernel_rfl) ?_
        repeat (go_big_quiet_step ((go_at_call 102; exact Calls.regrown_of (Hpt.out _))))
        refine wpQuiet_nil ?_
        intro wq hwq
        have bk : Below w1.heap.size w1 wq := by obtain ⟨q, rfl⟩ := hwq; exact below_regrown _ _ _
        have hb := Hb.out.trans (bk.mono Hb.out.size)
        have z := (bk.block _ (Array.getElem?_eq_some_iff.1 Z.out).1).trans Z.out
        clear Z Hb bk hwq
        have Hb := Lib.hid hb; clear hb
        have Z := Lib.hid z; clear z
        clear z0 z1 z2 z3 z4 z5 z6 z7 z8 z9 z10
        have y0 := cells_at Z.out 0
        have y1 := cells_at Z.out 1
        have y2 := cells_at Z.out 2
        have y3 := cells_at Z.out 3
        have y4 := cells_at Z.out 4
        have y5 := cells_at Z.out 5
        have y6 := cells_at Z.out 6
        have y7 := cells_at Z.out 7
        have y8 := cells_at Z.out 8
        have y9 := cells_at Z.out 9
        have y10 := cells_at Z.out 10
        go_wp2
        go_ret
        exact ⟨(congrArg (fun b => Ending.returned (Value.bool b)) HV.out).symm, Hb.out⟩
      by_cases n2 : 1048576 < t
      · have f1 : decide (1 ≤ t) = true := decide_eq_true (by omega)
        have f2 : decide (t ≤ 1048576) = false := decide_eq_false (by omega)
        have hv : rightRc ⟨2, t, m, k0, k1, k2, k3, ot, o, nt, n⟩ = false := by rw [Hrj.out]; exact decide_eq_false (fun h => by rw [if_neg (by decide), if_pos rfl] at h; omega)
        have HV := Lib.hid hv; clear hv Hrj
        clear n1 n2
        have z0 := cell_regrown (cells_at Z.out 0)
        have z1 := cell_regrown (cells_at Z.out 1)
        have z2 := cell_regrown (cells_at Z.out 2)
        have z3 := cell_regrown (cells_at Z.out 3)
        have z4 := cell_regrown (cells_at Z.out 4)
        have z5 := cell_regrown (cells_at Z.out 5)
        have z6 := cell_regrown (cells_at Z.out 6)
        have z7 := cell_regrown (cells_at Z.out 7)
        have z8 := cell_regrown (cells_at Z.out 8)
        have z9 := cell_regrown (cells_at Z.out 9)
        have z10 := cell_regrown (cells_at Z.out 10)
        go_enter Tryz.func78, Tryz.ntmps78
        go_wp2_with fail
        rw [← hw1]
        clear hw1
        refine wp_region_quiet_below (by kernel_rfl) (by kernel_rfl) ?_
        repeat (go_big_quiet_step ((go_at_call 102; exact Calls.regrown_of (Hpt.out _))))
        refine wpQuiet_nil ?_
        intro wq hwq
        have bk : Below w1.heap.size w1 wq := by obtain ⟨q, rfl⟩ := hwq; exact below_regrown _ _ _
        have hb := Hb.out.trans (bk.mono Hb.out.size)
        have z := (bk.block _ (Array.getElem?_eq_some_iff.1 Z.out).1).trans Z.out
        clear Z Hb bk hwq
        have Hb := Lib.hid hb; clear hb
        have Z := Lib.hid z; clear z
        clear z0 z1 z2 z3 z4 z5 z6 z7 z8 z9 z10
        have y0 := cells_at Z.out 0
        have y1 := cells_at Z.out 1
        have y2 := cells_at Z.out 2
        have y3 := cells_at Z.out 3
        have y4 := cells_at Z.out 4
        have y5 := cells_at Z.out 5
        have y6 := cells_at Z.out 6
        have y7 := cells_at Z.out 7
        have y8 := cells_at Z.out 8
        have y9 := cells_at Z.out 9
        have y10 := cells_at Z.out 10
        go_wp2
        go_ret
        exact ⟨(congrArg (fun b => Ending.returned (Value.bool b)) HV.out).symm, Hb.out⟩
      have f1 : decide (1 ≤ t) = true := decide_eq_true (by omega)
      have f2 : decide (t ≤ 1048576) = true := decide_eq_true (by omega)
      by_cases v1 : m = 0
      · have hv : rightRc ⟨2, t, m, k0, k1, k2, k3, ot, o, nt, n⟩ = false := by rw [Hrj.out]; exact decide_eq_false (fun h => by rw [if_neg (by decide), if_pos rfl] at h; exact h.2 v1)
        have HV := Lib.hid hv; clear hv Hrj
        have g1 : (m != 0) = false := by simpa using v1
        clear n1 n2 v1
        have z0 := cell_regrown (cells_at Z.out 0)
        have z1 := cell_regrown (cells_at Z.out 1)
        have z2 := cell_regrown (cells_at Z.out 2)
        have z3 := cell_regrown (cells_at Z.out 3)
        have z4 := cell_regrown (cells_at Z.out 4)
        have z5 := cell_regrown (cells_at Z.out 5)
        have z6 := cell_regrown (cells_at Z.out 6)
        have z7 := cell_regrown (cells_at Z.out 7)
        have z8 := cell_regrown (cells_at Z.out 8)
        have z9 := cell_regrown (cells_at Z.out 9)
        have z10 := cell_regrown (cells_at Z.out 10)
        go_enter Tryz.func78, Tryz.ntmps78
        go_wp2_with fail
        rw [← hw1]
        clear hw1
        refine wp_region_quiet_below (by kernel_rfl) (by kernel_rfl) ?_
        repeat (go_big_quiet_step ((go_at_call 102; exact Calls.regrown_of (Hpt.out _))))
        refine wpQuiet_nil ?_
        intro wq hwq
        have bk : Below w1.heap.size w1 wq := by obtain ⟨q, rfl⟩ := hwq; exact below_regrown _ _ _
        have hb := Hb.out.trans (bk.mono Hb.out.size)
        have z := (bk.block _ (Array.getElem?_eq_some_iff.1 Z.out).1).trans Z.out
        clear Z Hb bk hwq
        have Hb := Lib.hid hb; clear hb
        have Z := Lib.hid z; clear z
        clear z0 z1 z2 z3 z4 z5 z6 z7 z8 z9 z10
        have y0 := cells_at Z.out 0
        have y1 := cells_at Z.out 1
        have y2 := cells_at Z.out 2
        have y3 := cells_at Z.out 3
        have y4 := cells_at Z.out 4
        have y5 := cells_at Z.out 5
        have y6 := cells_at Z.out 6
        have y7 := cells_at Z.out 7
        have y8 := cells_at Z.out 8
        have y9 := cells_at Z.out 9
        have y10 := cells_at Z.out 10
        go_wp2
        go_ret
        exact ⟨(congrArg (fun b => Ending.returned (Value.bool b)) HV.out).symm, Hb.out⟩
      · have hv : rightRc ⟨2, t, m, k0, k1, k2, k3, ot, o, nt, n⟩ = true := by rw [Hrj.out]; exact decide_eq_true (by rw [if_neg (by decide), if_pos rfl]; exact ⟨⟨by omega, by omega⟩, v1⟩)
        have HV := Lib.hid hv; clear hv Hrj
        have g1 : (m != 0) = true := by simpa using v1
        clear n1 n2 v1
        have z0 := cell_regrown (cells_at Z.out 0)
        have z1 := cell_regrown (cells_at Z.out 1)
        have z2 := cell_regrown (cells_at Z.out 2)
        have z3 := cell_regrown (cells_at Z.out 3)
        have z4 := cell_regrown (cells_at Z.out 4)
        have z5 := cell_regrown (cells_at Z.out 5)
        have z6 := cell_regrown (cells_at Z.out 6)
        have z7 := cell_regrown (cells_at Z.out 7)
        have z8 := cell_regrown (cells_at Z.out 8)
        have z9 := cell_regrown (cells_at Z.out 9)
        have z10 := cell_regrown (cells_at Z.out 10)
        go_enter Tryz.func78, Tryz.ntmps78
        go_wp2_with fail
        rw [← hw1]
        clear hw1
        refine wp_region_quiet_below (by kernel_rfl) (by kernel_rfl) ?_
        repeat (go_big_quiet_step ((go_at_call 102; exact Calls.regrown_of (Hpt.out _))))
        refine wpQuiet_nil ?_
        intro wq hwq
        have bk : Below w1.heap.size w1 wq := by obtain ⟨q, rfl⟩ := hwq; exact below_regrown _ _ _
        have hb := Hb.out.trans (bk.mono Hb.out.size)
        have z := (bk.block _ (Array.getElem?_eq_some_iff.1 Z.out).1).trans Z.out
        clear Z Hb bk hwq
        have Hb := Lib.hid hb; clear hb
        have Z := Lib.hid z; clear z
        clear z0 z1 z2 z3 z4 z5 z6 z7 z8 z9 z10
        have y0 := cells_at Z.out 0
        have y1 := cells_at Z.out 1
        have y2 := cells_at Z.out 2
        have y3 := cells_at Z.out 3
        have y4 := cells_at Z.out 4
        have y5 := cells_at Z.out 5
        have y6 := cells_at Z.out 6
        have y7 := cells_at Z.out 7
        have y8 := cells_at Z.out 8
        have y9 := cells_at Z.out 9
        have y10 := cells_at Z.out 10
        go_wp2
        go_ret
        exact ⟨(congrArg (fun b => Ending.returned (Value.bool b)) HV.out).symm, Hb.out⟩
    by_cases h7 : k = 7
    · subst h7
      by_cases n1 : t < 1
      · have f1 : decide (1 ≤ t) = false := decide_eq_false (by omega)
        have hv : rightRc ⟨7, t, m, k0, k1, k2, k3, ot, o, nt, n⟩ = nt := by rw [Hrj.out]; simp
        have HV := Lib.hid hv; clear hv Hrj
        clear n1
        have z0 := cell_regrown (cells_at Z.out 0)
        have z1 := cell_regrown (cells_at Z.out 1)
        have z2 := cell_regrown (cells_at Z.out 2)
        have z3 := cell_regrown (cells_at Z.out 3)
        have z4 := cell_regrown (cells_at Z.out 4)
        have z5 := cell_regrown (cells_at Z.out 5)
        have z6 := cell_regrown (cells_at Z.out 6)
        have z7 := cell_regrown (cells_at Z.out 7)
        have z8 := cell_regrown (cells_at Z.out 8)
        have z9 := cell_regrown (cells_at Z.out 9)
        have z10 := cell_regrown (cells_at Z.out 10)
        go_enter Tryz.func78, Tryz.ntmps78
        go_wp2_with fail
        rw [← hw1]
        clear hw1
        refine wp_region_quiet_below (by kernel_rfl) (by kernel_rfl) ?_
        repeat (go_big_quiet_step ((go_at_call 102; exact Calls.regrown_of (Hpt.out _))))
        refine wpQuiet_nil ?_
        intro wq hwq
        have bk : Below w1.heap.size w1 wq := by obtain ⟨q, rfl⟩ := hwq; exact below_regrown _ _ _
        have hb := Hb.out.trans (bk.mono Hb.out.size)
        have z := (bk.block _ (Array.getElem?_eq_some_iff.1 Z.out).1).trans Z.out
        clear Z Hb bk hwq
        have Hb := Lib.hid hb; clear hb
        have Z := Lib.hid z; clear z
        clear z0 z1 z2 z3 z4 z5 z6 z7 z8 z9 z10
        have y0 := cells_at Z.out 0
        have y1 := cells_at Z.out 1
        have y2 := cells_at Z.out 2
        have y3 := cells_at Z.out 3
        have y4 := cells_at Z.out 4
        have y5 := cells_at Z.out 5
        have y6 := cells_at Z.out 6
        have y7 := cells_at Z.out 7
        have y8 := cells_at Z.out 8
        have y9 := cells_at Z.out 9
        have y10 := cells_at Z.out 10
        go_wp2
        go_ret
        exact ⟨(congrArg (fun b => Ending.returned (Value.bool b)) HV.out).symm, Hb.out⟩
      by_cases n2 : 1048576 < t
      · have f1 : decide (1 ≤ t) = true := decide_eq_true (by omega)
        have f2 : decide (t ≤ 1048576) = false := decide_eq_false (by omega)
        have hv : rightRc ⟨7, t, m, k0, k1, k2, k3, ot, o, nt, n⟩ = nt := by rw [Hrj.out]; simp
        have HV := Lib.hid hv; clear hv Hrj
        clear n1 n2
        have z0 := cell_regrown (cells_at Z.out 0)
        have z1 := cell_regrown (cells_at Z.out 1)
        have z2 := cell_regrown (cells_at Z.out 2)
        have z3 := cell_regrown (cells_at Z.out 3)
        have z4 := cell_regrown (cells_at Z.out 4)
        have z5 := cell_regrown (cells_at Z.out 5)
        have z6 := cell_regrown (cells_at Z.out 6)
        have z7 := cell_regrown (cells_at Z.out 7)
        have z8 := cell_regrown (cells_at Z.out 8)
        have z9 := cell_regrown (cells_at Z.out 9)
        have z10 := cell_regrown (cells_at Z.out 10)
        go_enter Tryz.func78, Tryz.ntmps78
        go_wp2_with fail
        rw [← hw1]
        clear hw1
        refine wp_region_quiet_below (by kernel_rfl) (by kernel_rfl) ?_
        repeat (go_big_quiet_step ((go_at_call 102; exact Calls.regrown_of (Hpt.out _))))
        refine wpQuiet_nil ?_
        intro wq hwq
        have bk : Below w1.heap.size w1 wq := by obtain ⟨q, rfl⟩ := hwq; exact below_regrown _ _ _
        have hb := Hb.out.trans (bk.mono Hb.out.size)
        have z := (bk.block _ (Array.getElem?_eq_some_iff.1 Z.out).1).trans Z.out
        clear Z Hb bk hwq
        have Hb := Lib.hid hb; clear hb
        have Z := Lib.hid z; clear z
        clear z0 z1 z2 z3 z4 z5 z6 z7 z8 z9 z10
        have y0 := cells_at Z.out 0
        have y1 := cells_at Z.out 1
        have y2 := cells_at Z.out 2
        have y3 := cells_at Z.out 3
        have y4 := cells_at Z.out 4
        have y5 := cells_at Z.out 5
        have y6 := cells_at Z.out 6
        have y7 := cells_at Z.out 7
        have y8 := cells_at Z.out 8
        have y9 := cells_at Z.out 9
        have y10 := cells_at Z.out 10
        go_wp2
        go_ret
        exact ⟨(congrArg (fun b => Ending.returned (Value.bool b)) HV.out).symm, Hb.out⟩
      have f1 : decide (1 ≤ t) = true := decide_eq_true (by omega)
      have f2 : decide (t ≤ 1048576) = true := decide_eq_true (by omega)
      have hv : rightRc ⟨7, t, m, k0, k1, k2, k3, ot, o, nt, n⟩ = nt := by rw [Hrj.out]; simp
      have HV := Lib.hid hv; clear hv Hrj
      clear n1 n2
      have z0 := cell_regrown (cells_at Z.out 0)
      have z1 := cell_regrown (cells_at Z.out 1)
      have z2 := cell_regrown (cells_at Z.out 2)
      have z3 := cell_regrown (cells_at Z.out 3)
      have z4 := cell_regrown (cells_at Z.out 4)
      have z5 := cell_regrown (cells_at Z.out 5)
      have z6 := cell_regrown (cells_at Z.out 6)
      have z7 := cell_regrown (cells_at Z.out 7)
      have z8 := cell_regrown (cells_at Z.out 8)
      have z9 := cell_regrown (cells_at Z.out 9)
      have z10 := cell_regrown (cells_at Z.out 10)
      go_enter Tryz.func78, Tryz.ntmps78
      go_wp2_with fail
      rw [← hw1]
      clear hw1
      refine wp_region_quiet_below (by kernel_rfl) (by kernel_rfl) ?_
      repeat (go_big_quiet_step ((go_at_call 102; exact Calls.regrown_of (Hpt.out _))))
      refine wpQuiet_nil ?_
      intro wq hwq
      have bk : Below w1.heap.size w1 wq := by obtain ⟨q, rfl⟩ := hwq; exact below_regrown _ _ _
      have hb := Hb.out.trans (bk.mono Hb.out.size)
      have z := (bk.block _ (Array.getElem?_eq_some_iff.1 Z.out).1).trans Z.out
      clear Z Hb bk hwq
      have Hb := Lib.hid hb; clear hb
      have Z := Lib.hid z; clear z
      clear z0 z1 z2 z3 z4 z5 z6 z7 z8 z9 z10
      have y0 := cells_at Z.out 0
      have y1 := cells_at Z.out 1
      have y2 := cells_at Z.out 2
      have y3 := cells_at Z.out 3
      have y4 := cells_at Z.out 4
      have y5 := cells_at Z.out 5
      have y6 := cells_at Z.out 6
      have y7 := cells_at Z.out 7
      have y8 := cells_at Z.out 8
      have y9 := cells_at Z.out 9
      have y10 := cells_at Z.out 10
      go_wp2
      go_ret
      exact ⟨(congrArg (fun b => Ending.returned (Value.bool b)) HV.out).symm, Hb.out⟩
    by_cases h8 : k = 8
    · subst h8
      by_cases n1 : t < 1
      · have f1 : decide (1 ≤ t) = false := decide_eq_false (by omega)
        have hv : rightRc ⟨8, t, m, k0, k1, k2, k3, ot, o, nt, n⟩ = decide (m ≤ 64) := by rw [Hrj.out]; simp
        have HV := Lib.hid hv; clear hv Hrj
        clear n1
        have z0 := cell_regrown (cells_at Z.out 0)
        have z1 := cell_regrown (cells_at Z.out 1)
        have z2 := cell_regrown (cells_at Z.out 2)
        have z3 := cell_regrown (cells_at Z.out 3)
        have z4 := cell_regrown (cells_at Z.out 4)
        have z5 := cell_regrown (cells_at Z.out 5)
        have z6 := cell_regrown (cells_at Z.out 6)
        have z7 := cell_regrown (cells_at Z.out 7)
        have z8 := cell_regrown (cells_at Z.out 8)
        have z9 := cell_regrown (cells_at Z.out 9)
        have z10 := cell_regrown (cells_at Z.out 10)
        go_enter Tryz.func78, Tryz.ntmps78
        go_wp2_with fail
        rw [← hw1]
        clear hw1
        refine wp_region_quiet_below (by kernel_rfl) (by kernel_rfl) ?_
        repeat (go_big_quiet_step ((go_at_call 102; exact Calls.regrown_of (Hpt.out _))))
        refine wpQuiet_nil ?_
        intro wq hwq
        have bk : Below w1.heap.size w1 wq := by obtain ⟨q, rfl⟩ := hwq; exact below_regrown _ _ _
        have hb := Hb.out.trans (bk.mono Hb.out.size)
        have z := (bk.block _ (Array.getElem?_eq_some_iff.1 Z.out).1).trans Z.out
        clear Z Hb bk hwq
        have Hb := Lib.hid hb; clear hb
        have Z := Lib.hid z; clear z
        clear z0 z1 z2 z3 z4 z5 z6 z7 z8 z9 z10
        have y0 := cells_at Z.out 0
        have y1 := cells_at Z.out 1
        have y2 := cells_at Z.out 2
        have y3 := cells_at Z.out 3
        have y4 := cells_at Z.out 4
        have y5 := cells_at Z.out 5
        have y6 := cells_at Z.out 6
        have y7 := cells_at Z.out 7
        have y8 := cells_at Z.out 8
        have y9 := cells_at Z.out 9
        have y10 := cells_at Z.out 10
        go_wp2
        go_ret
        exact ⟨(congrArg (fun b => Ending.returned (Value.bool b)) HV.out).symm, Hb.out⟩
      by_cases n2 : 1048576 < t
      · have f1 : decide (1 ≤ t) = true := decide_eq_true (by omega)
        have f2 : decide (t ≤ 1048576) = false := decide_eq_false (by omega)
        have hv : rightRc ⟨8, t, m, k0, k1, k2, k3, ot, o, nt, n⟩ = decide (m ≤ 64) := by rw [Hrj.out]; simp
        have HV := Lib.hid hv; clear hv Hrj
        clear n1 n2
        have z0 := cell_regrown (cells_at Z.out 0)
        have z1 := cell_regrown (cells_at Z.out 1)
        have z2 := cell_regrown (cells_at Z.out 2)
        have z3 := cell_regrown (cells_at Z.out 3)
        have z4 := cell_regrown (cells_at Z.out 4)
        have z5 := cell_regrown (cells_at Z.out 5)
        have z6 := cell_regrown (cells_at Z.out 6)
        have z7 := cell_regrown (cells_at Z.out 7)
        have z8 := cell_regrown (cells_at Z.out 8)
        have z9 := cell_regrown (cells_at Z.out 9)
        have z10 := cell_regrown (cells_at Z.out 10)
        go_enter Tryz.func78, Tryz.ntmps78
        go_wp2_with fail
        rw [← hw1]
        clear hw1
        refine wp_region_quiet_below (by kernel_rfl) (by kernel_rfl) ?_
        repeat (go_big_quiet_step ((go_at_call 102; exact Calls.regrown_of (Hpt.out _))))
        refine wpQuiet_nil ?_
        intro wq hwq
        have bk : Below w1.heap.size w1 wq := by obtain ⟨q, rfl⟩ := hwq; exact below_regrown _ _ _
        have hb := Hb.out.trans (bk.mono Hb.out.size)
        have z := (bk.block _ (Array.getElem?_eq_some_iff.1 Z.out).1).trans Z.out
        clear Z Hb bk hwq
        have Hb := Lib.hid hb; clear hb
        have Z := Lib.hid z; clear z
        clear z0 z1 z2 z3 z4 z5 z6 z7 z8 z9 z10
        have y0 := cells_at Z.out 0
        have y1 := cells_at Z.out 1
        have y2 := cells_at Z.out 2
        have y3 := cells_at Z.out 3
        have y4 := cells_at Z.out 4
        have y5 := cells_at Z.out 5
        have y6 := cells_at Z.out 6
        have y7 := cells_at Z.out 7
        have y8 := cells_at Z.out 8
        have y9 := cells_at Z.out 9
        have y10 := cells_at Z.out 10
        go_wp2
        go_ret
        exact ⟨(congrArg (fun b => Ending.returned (Value.bool b)) HV.out).symm, Hb.out⟩
      have f1 : decide (1 ≤ t) = true := decide_eq_true (by omega)
      have f2 : decide (t ≤ 1048576) = true := decide_eq_true (by omega)
      have hv : rightRc ⟨8, t, m, k0, k1, k2, k3, ot, o, nt, n⟩ = decide (m ≤ 64) := by rw [Hrj.out]; simp
      have HV := Lib.hid hv; clear hv Hrj
      clear n1 n2
      have z0 := cell_regrown (cells_at Z.out 0)
      have z1 := cell_regrown (cells_at Z.out 1)
      have z2 := cell_regrown (cells_at Z.out 2)
      have z3 := cell_regrown (cells_at Z.out 3)
      have z4 := cell_regrown (cells_at Z.out 4)
      have z5 := cell_regrown (cells_at Z.out 5)
      have z6 := cell_regrown (cells_at Z.out 6)
      have z7 := cell_regrown (cells_at Z.out 7)
      have z8 := cell_regrown (cells_at Z.out 8)
      have z9 := cell_regrown (cells_at Z.out 9)
      have z10 := cell_regrown (cells_at Z.out 10)
      go_enter Tryz.func78, Tryz.ntmps78
      go_wp2_with fail
      rw [← hw1]
      clear hw1
      refine wp_region_quiet_below (by kernel_rfl) (by kernel_rfl) ?_
      repeat (go_big_quiet_step ((go_at_call 102; exact Calls.regrown_of (Hpt.out _))))
      refine wpQuiet_nil ?_
      intro wq hwq
      have bk : Below w1.heap.size w1 wq := by obtain ⟨q, rfl⟩ := hwq; exact below_regrown _ _ _
      have hb := Hb.out.trans (bk.mono Hb.out.size)
      have z := (bk.block _ (Array.getElem?_eq_some_iff.1 Z.out).1).trans Z.out
      clear Z Hb bk hwq
      have Hb := Lib.hid hb; clear hb
      have Z := Lib.hid z; clear z
      clear z0 z1 z2 z3 z4 z5 z6 z7 z8 z9 z10
      have y0 := cells_at Z.out 0
      have y1 := cells_at Z.out 1
      have y2 := cells_at Z.out 2
      have y3 := cells_at Z.out 3
      have y4 := cells_at Z.out 4
      have y5 := cells_at Z.out 5
      have y6 := cells_at Z.out 6
      have y7 := cells_at Z.out 7
      have y8 := cells_at Z.out 8
      have y9 := cells_at Z.out 9
      have y10 := cells_at Z.out 10
      go_wp2
      go_ret
      exact ⟨(congrArg (fun b => Ending.returned (Value.bool b)) HV.out).symm, Hb.out⟩
    by_cases n1 : t < 1
    · have f1 : decide (1 ≤ t) = false := decide_eq_false (by omega)
      have hv : rightRc ⟨k, t, m, k0, k1, k2, k3, ot, o, nt, n⟩ = false := by rw [Hrj.out]; exact decide_eq_false (fun h => by rw [if_neg h1, if_neg h2, if_neg h7, if_neg h8] at h; omega)
      have HV := Lib.hid hv; clear hv Hrj
      have e1 : (k == 1) = false := by simpa using h1
      have e2 : (k == 2) = false := by simpa using h2
      have e7 : (k == 7) = false := by simpa using h7
      have e8 : (k == 8) = false := by simpa using h8
      clear h1 h2 h7 h8 n1
      have z0 := cell_regrown (cells_at Z.out 0)
      have z1 := cell_regrown (cells_at Z.out 1)
      have z2 := cell_regrown (cells_at Z.out 2)
      have z3 := cell_regrown (cells_at Z.out 3)
      have z4 := cell_regrown (cells_at Z.out 4)
      have z5 := cell_regrown (cells_at Z.out 5)
      have z6 := cell_regrown (cells_at Z.out 6)
      have z7 := cell_regrown (cells_at Z.out 7)
      have z8 := cell_regrown (cells_at Z.out 8)
      have z9 := cell_regrown (cells_at Z.out 9)
      have z10 := cell_regrown (cells_at Z.out 10)
      go_enter Tryz.func78, Tryz.ntmps78
      go_wp2_with fail
      rw [← hw1]
      clear hw1
      refine wp_region_quiet_below (by kernel_rfl) (by kernel_rfl) ?_
      repeat (go_big_quiet_step ((go_at_call 102; exact Calls.regrown_of (Hpt.out _))))
      refine wpQuiet_nil ?_
      intro wq hwq
      have bk : Below w1.heap.size w1 wq := by obtain ⟨q, rfl⟩ := hwq; exact below_regrown _ _ _
      have hb := Hb.out.trans (bk.mono Hb.out.size)
      have z := (bk.block _ (Array.getElem?_eq_some_iff.1 Z.out).1).trans Z.out
      clear Z Hb bk hwq
      have Hb := Lib.hid hb; clear hb
      have Z := Lib.hid z; clear z
      clear z0 z1 z2 z3 z4 z5 z6 z7 z8 z9 z10
      have y0 := cells_at Z.out 0
      have y1 := cells_at Z.out 1
      have y2 := cells_at Z.out 2
      have y3 := cells_at Z.out 3
      have y4 := cells_at Z.out 4
      have y5 := cells_at Z.out 5
      have y6 := cells_at Z.out 6
      have y7 := cells_at Z.out 7
      have y8 := cells_at Z.out 8
      have y9 := cells_at Z.out 9
      have y10 := cells_at Z.out 10
      go_wp2
      go_ret
      exact ⟨(congrArg (fun b => Ending.returned (Value.bool b)) HV.out).symm, Hb.out⟩
    by_cases n2 : 1048576 < t
    · have f1 : decide (1 ≤ t) = true := decide_eq_true (by omega)
      have f2 : decide (t ≤ 1048576) = false := decide_eq_false (by omega)
      have hv : rightRc ⟨k, t, m, k0, k1, k2, k3, ot, o, nt, n⟩ = false := by rw [Hrj.out]; exact decide_eq_false (fun h => by rw [if_neg h1, if_neg h2, if_neg h7, if_neg h8] at h; omega)
      have HV := Lib.hid hv; clear hv Hrj
      have e1 : (k == 1) = false := by simpa using h1
      have e2 : (k == 2) = false := by simpa using h2
      have e7 : (k == 7) = false := by simpa using h7
      have e8 : (k == 8) = false := by simpa using h8
      clear h1 h2 h7 h8 n1 n2
      have z0 := cell_regrown (cells_at Z.out 0)
      have z1 := cell_regrown (cells_at Z.out 1)
      have z2 := cell_regrown (cells_at Z.out 2)
      have z3 := cell_regrown (cells_at Z.out 3)
      have z4 := cell_regrown (cells_at Z.out 4)
      have z5 := cell_regrown (cells_at Z.out 5)
      have z6 := cell_regrown (cells_at Z.out 6)
      have z7 := cell_regrown (cells_at Z.out 7)
      have z8 := cell_regrown (cells_at Z.out 8)
      have z9 := cell_regrown (cells_at Z.out 9)
      have z10 := cell_regrown (cells_at Z.out 10)
      go_enter Tryz.func78, Tryz.ntmps78
      go_wp2_with fail
      rw [← hw1]
      clear hw1
      refine wp_region_quiet_below (by kernel_rfl) (by kernel_rfl) ?_
      repeat (go_big_quiet_step ((go_at_call 102; exact Calls.regrown_of (Hpt.out _))))
      refine wpQuiet_nil ?_
      intro wq hwq
      have bk : Below w1.heap.size w1 wq := by obtain ⟨q, rfl⟩ := hwq; exact below_regrown _ _ _
      have hb := Hb.out.trans (bk.mono Hb.out.size)
      have z := (bk.block _ (Array.getElem?_eq_some_iff.1 Z.out).1).trans Z.out
      clear Z Hb bk hwq
      have Hb := Lib.hid hb; clear hb
      have Z := Lib.hid z; clear z
      clear z0 z1 z2 z3 z4 z5 z6 z7 z8 z9 z10
      have y0 := cells_at Z.out 0
      have y1 := cells_at Z.out 1
      have y2 := cells_at Z.out 2
      have y3 := cells_at Z.out 3
      have y4 := cells_at Z.out 4
      have y5 := cells_at Z.out 5
      have y6 := cells_at Z.out 6
      have y7 := cells_at Z.out 7
      have y8 := cells_at Z.out 8
      have y9 := cells_at Z.out 9
      have y10 := cells_at Z.out 10
      go_wp2
      go_ret
      exact ⟨(congrArg (fun b => Ending.returned (Value.bool b)) HV.out).symm, Hb.out⟩
    have f1 : decide (1 ≤ t) = true := decide_eq_true (by omega)
    have f2 : decide (t ≤ 1048576) = true := decide_eq_true (by omega)
    have hv : rightRc ⟨k, t, m, k0, k1, k2, k3, ot, o, nt, n⟩ = true := by rw [Hrj.out]; exact decide_eq_true (by rw [if_neg h1, if_neg h2, if_neg h7, if_neg h8]; omega)
    have HV := Lib.hid hv; clear hv Hrj
    have e1 : (k == 1) = false := by simpa using h1
    have e2 : (k == 2) = false := by simpa using h2
    have e7 : (k == 7) = false := by simpa using h7
    have e8 : (k == 8) = false := by simpa using h8
    clear h1 h2 h7 h8 n1 n2
    have z0 := cell_regrown (cells_at Z.out 0)
    have z1 := cell_regrown (cells_at Z.out 1)
    have z2 := cell_regrown (cells_at Z.out 2)
    have z3 := cell_regrown (cells_at Z.out 3)
    have z4 := cell_regrown (cells_at Z.out 4)
    have z5 := cell_regrown (cells_at Z.out 5)
    have z6 := cell_regrown (cells_at Z.out 6)
    have z7 := cell_regrown (cells_at Z.out 7)
    have z8 := cell_regrown (cells_at Z.out 8)
    have z9 := cell_regrown (cells_at Z.out 9)
    have z10 := cell_regrown (cells_at Z.out 10)
    go_enter Tryz.func78, Tryz.ntmps78
    go_wp2_with fail
    rw [← hw1]
    clear hw1
    refine wp_region_quiet_below (by kernel_rfl) (by kernel_rfl) ?_
    repeat (go_big_quiet_step ((go_at_call 102; exact Calls.regrown_of (Hpt.out _))))
    refine wpQuiet_nil ?_
    intro wq hwq
    have bk : Below w1.heap.size w1 wq := by obtain ⟨q, rfl⟩ := hwq; exact below_regrown _ _ _
    have hb := Hb.out.trans (bk.mono Hb.out.size)
    have z := (bk.block _ (Array.getElem?_eq_some_iff.1 Z.out).1).trans Z.out
    clear Z Hb bk hwq
    have Hb := Lib.hid hb; clear hb
    have Z := Lib.hid z; clear z
    clear z0 z1 z2 z3 z4 z5 z6 z7 z8 z9 z10
    have y0 := cells_at Z.out 0
    have y1 := cells_at Z.out 1
    have y2 := cells_at Z.out 2
    have y3 := cells_at Z.out 3
    have y4 := cells_at Z.out 4
    have y5 := cells_at Z.out 5
    have y6 := cells_at Z.out 6
    have y7 := cells_at Z.out 7
    have y8 := cells_at Z.out 8
    have y9 := cells_at Z.out 9
    have y10 := cells_at Z.out 10
    go_wp2
    go_ret
    exact ⟨(congrArg (fun b => Ending.returned (Value.bool b)) HV.out).symm, Hb.out⟩
end Go.Proofs.YtgpedejeifmfdaaGreat
