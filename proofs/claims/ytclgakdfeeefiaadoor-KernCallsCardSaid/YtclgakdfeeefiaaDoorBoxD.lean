/- The document's Right. -/
import Derived.Test.YtclgakdfeeefiaaDoorBox1
namespace Go.Proofs.YtclgakdfeeefiaaDoor
open Go.RowKit

set_option maxHeartbeats 2000000 in
theorem RRight_calls {w : World} (m : Msg) : Calls Tryd.prog 72 #[.agg m.cells.toArray] w fun e w' => e = .returned (.bool (rightOf m)) ∧ Below w.heap.size w w' := by
  obtain ⟨k, p, t, q⟩ := m
  simp only [Msg.cells, Msg.kind, Msg.part, Msg.tx, Msg.what]
  have fin : Below w.heap.size w (w.alloc (.cells #[.int .i64 k, .int .i64 p, .int .i64 t, .int .i64 q] 39)) := (Below.refl _ _).alloc (Nat.le_refl _) _
  have Hfin := Lib.hid fin; clear fin
  have hright : rightOf (k, p, t, q) = decide (0 ≤ p ∧ p < 6 ∧ 1 ≤ t ∧ t ≤ 1048576 ∧ 0 ≤ q ∧ q ≤ mostOf k) := rfl
  have hmost : mostOf k = if k = 1 then 2 else if k = 4 then 1 else if k = 2 ∨ k = 3 ∨ k = 5 then 0 else -1 := rfl
  generalize rightOf (k, p, t, q) = X at hright ⊢
  generalize mostOf k = M at hright hmost
  by_cases h0 : p < 0
  · have e0 : decide (p < 0) = true := decide_eq_true h0
    obtain rfl : X = false := hright.trans (decide_eq_false (by omega))
    clear hright hmost
    go_enter Tryd.func72, Tryd.ntmps72
    go_wp2
    go_ret
    exact ⟨rfl, Hfin.out⟩
  have e0 : decide (p < 0) = false := decide_eq_false h0
  by_cases h1 : 5 < p
  · have e1 : decide (5 < p) = true := decide_eq_true h1
    obtain rfl : X = false := hright.trans (decide_eq_false (by omega))
    clear hright hmost
    go_enter Tryd.func72, Tryd.ntmps72
    go_wp2
    go_ret
    exact ⟨rfl, Hfin.out⟩
  have e1 : decide (5 < p) = false := decide_eq_false h1
  by_cases h2 : t < 1
  · have e2 : decide (t < 1) = true := decide_eq_true h2
    obtain rfl : X = false := hright.trans (decide_eq_false (by omega))
    clear hright hmost
    go_enter Tryd.func72, Tryd.ntmps72
    go_wp2
    go_ret
    exact ⟨rfl, Hfin.out⟩
  have e2 : decide (t < 1) = false := decide_eq_false h2
  by_cases h3 : 1048576 < t
  · have e3 : decide (1048576 < t) = true := decide_eq_true h3
    obtain rfl : X = false := hright.trans (decide_eq_false (by omega))
    clear hright hmost
    go_enter Tryd.func72, Tryd.ntmps72
    go_wp2
    go_ret
    exact ⟨rfl, Hfin.out⟩
  have e3 : decide (1048576 < t) = false := decide_eq_false h3
  by_cases h5 : k = 1
  · subst h5
    rw [if_pos rfl] at hmost
    by_cases g0 : 0 ≤ q
    · have f0 : decide (0 ≤ q) = true := decide_eq_true g0
      by_cases g1 : q ≤ 2
      · have f1 : decide (q ≤ 2) = true := decide_eq_true g1
        obtain rfl : X = true := hright.trans (decide_eq_true (by omega))
        clear hright hmost
        go_enter Tryd.func72, Tryd.ntmps72
        go_wp2
        go_ret
        exact ⟨rfl, Hfin.out⟩
      · have f1 : decide (q ≤ 2) = false := decide_eq_false g1
        obtain rfl : X = false := hright.trans (decide_eq_false (by omega))
        clear hright hmost
        go_enter Tryd.func72, Tryd.ntmps72
        go_wp2
        go_ret
        exact ⟨rfl, Hfin.out⟩
    · have f0 : decide (0 ≤ q) = false := decide_eq_false g0
      obtain rfl : X = false := hright.trans (decide_eq_false (by omega))
      clear hright hmost
      go_enter Tryd.func72, Tryd.ntmps72
      go_wp2
      go_ret
      exact ⟨rfl, Hfin.out⟩
  have k1 : (k == 1) = false := by simpa using h5
  rw [if_neg h5] at hmost
  by_cases h6 : k = 4
  · subst h6
    rw [if_pos rfl] at hmost
    by_cases g0 : q = 0
    · subst g0
      obtain rfl : X = true := hright.trans (decide_eq_true (by omega))
      clear hright hmost
      go_enter Tryd.func72, Tryd.ntmps72
      go_wp2
      go_ret
      exact ⟨rfl, Hfin.out⟩
    have f0 : (q == 0) = false := by simpa using g0
    by_cases g1 : q = 1
    · subst g1
      obtain rfl : X = true := hright.trans (decide_eq_true (by omega))
      clear hright hmost
      go_enter Tryd.func72, Tryd.ntmps72
      go_wp2
      go_ret
      exact ⟨rfl, Hfin.out⟩
    have f1 : (q == 1) = false := by simpa using g1
    obtain rfl : X = false := hright.trans (decide_eq_false (by omega))
    clear hright hmost
    go_enter Tryd.func72, Tryd.ntmps72
    go_wp2
    go_ret
    exact ⟨rfl, Hfin.out⟩
  have k4 : (k == 4) = false := by simpa using h6
  rw [if_neg h6] at hmost
  by_cases h12 : k = 2
  · subst h12
    rw [if_pos (by decide)] at hmost
    by_cases g0 : q = 0
    · subst g0
      obtain rfl : X = true := hright.trans (decide_eq_true (by omega))
      clear hright hmost
      go_enter Tryd.func72, Tryd.ntmps72
      go_wp2
      go_ret
      exact ⟨rfl, Hfin.out⟩
    have f0 : (q == 0) = false := by simpa using g0
    obtain rfl : X = false := hright.trans (decide_eq_false (by omega))
    clear hright hmost
    go_enter Tryd.func72, Tryd.ntmps72
    go_wp2
    go_ret
    exact ⟨rfl, Hfin.out⟩
  have k2 : (k == 2) = false := by simpa using h12
  by_cases h13 : k = 3
  · subst h13
    rw [if_pos (by decide)] at hmost
    by_cases g0 : q = 0
    · subst g0
      obtain rfl : X = true := hright.trans (decide_eq_true (by omega))
      clear hright hmost
      go_enter Tryd.func72, Tryd.ntmps72
      go_wp2
      go_ret
      exact ⟨rfl, Hfin.out⟩
    have f0 : (q == 0) = false := by simpa using g0
    obtain rfl : X = false := hright.trans (decide_eq_false (by omega))
    clear hright hmost
    go_enter Tryd.func72, Tryd.ntmps72
    go_wp2
    go_ret
    exact ⟨rfl, Hfin.out⟩
  have k3 : (k == 3) = false := by simpa using h13
  by_cases h15 : k = 5
  · subst h15
    rw [if_pos (by decide)] at hmost
    by_cases g0 : q = 0
    · subst g0
      obtain rfl : X = true := hright.trans (decide_eq_true (by omega))
      clear hright hmost
      go_enter Tryd.func72, Tryd.ntmps72
      go_wp2
      go_ret
      exact ⟨rfl, Hfin.out⟩
    have f0 : (q == 0) = false := by simpa using g0
    obtain rfl : X = false := hright.trans (decide_eq_false (by omega))
    clear hright hmost
    go_enter Tryd.func72, Tryd.ntmps72
    go_wp2
    go_ret
    exact ⟨rfl, Hfin.out⟩
  have k5 : (k == 5) = false := by simpa using h15
  rw [if_neg (by omega)] at hmost
  obtain rfl : X = false := hright.trans (decide_eq_false (by omega))
  clear hright hmost
  go_enter Tryd.func72, Tryd.ntmps72
  go_wp2
  go_ret
  exact ⟨rfl, Hfin.out⟩
end Go.Proofs.YtclgakdfeeefiaaDoor
