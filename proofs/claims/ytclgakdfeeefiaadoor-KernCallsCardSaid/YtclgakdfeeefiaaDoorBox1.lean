/- Messages and labels: most, Right, Minus, Within, Need, With. -/
import Derived.Test.YtclgakdfeeefiaaDoorBase
import Derived.Test.YtclgakdfeeefiaaDoorPark
import Derived.Test.YtclgakdfeeefiaaDoorChecked
namespace Go.Proofs.YtclgakdfeeefiaaDoor
open Go.RowKit

/-- kind, part, transaction, what -/
abbrev Msg := Int × Int × Int × Int
abbrev Msg.kind (m : Msg) : Int := m.1
abbrev Msg.part (m : Msg) : Int := m.2.1
abbrev Msg.tx (m : Msg) : Int := m.2.2.1
abbrev Msg.what (m : Msg) : Int := m.2.2.2
def Msg.cells (m : Msg) : List Value := [.int .i64 m.kind, .int .i64 m.part, .int .i64 m.tx, .int .i64 m.what]
def Msg.ok (m : Msg) : Prop := (Lit.int .i64 m.kind).wf = true ∧ (Lit.int .i64 m.part).wf = true ∧ (Lit.int .i64 m.tx).wf = true ∧ (Lit.int .i64 m.what).wf = true

def mostOf (k : Int) : Int := if k = 1 then 2 else if k = 4 then 1 else if k = 2 ∨ k = 3 ∨ k = 5 then 0 else -1
def rightOf (m : Msg) : Bool := decide (0 ≤ m.part ∧ m.part < 6 ∧ 1 ≤ m.tx ∧ m.tx ≤ 1048576 ∧ 0 ≤ m.what ∧ m.what ≤ mostOf m.kind)

theorem most_calls {w : World} (k : Int) : Calls Tryd.prog 78 #[.int .i64 k] w fun e w' => e = .returned (.int .i64 (mostOf k)) ∧ w' = w := by
  by_cases h1 : k = 1
  · subst h1
    go_enter Tryd.func78, Tryd.ntmps78
    go_wp2
    go_ret
    exact ⟨rfl, rfl⟩
  by_cases h4 : k = 4
  · subst h4
    go_enter Tryd.func78, Tryd.ntmps78
    go_wp2
    go_ret
    exact ⟨rfl, rfl⟩
  by_cases h2 : k = 2
  · subst h2
    go_enter Tryd.func78, Tryd.ntmps78
    go_wp2
    go_ret
    exact ⟨rfl, rfl⟩
  by_cases h3 : k = 3
  · subst h3
    go_enter Tryd.func78, Tryd.ntmps78
    go_wp2
    go_ret
    exact ⟨rfl, rfl⟩
  by_cases h5 : k = 5
  · subst h5
    go_enter Tryd.func78, Tryd.ntmps78
    go_wp2
    go_ret
    exact ⟨rfl, rfl⟩
  have e1 : ((k : Int) == 1) = false := by simpa using h1
  have e2 : ((k : Int) == 2) = false := by simpa using h2
  have e3 : ((k : Int) == 3) = false := by simpa using h3
  have e4 : ((k : Int) == 4) = false := by simpa using h4
  have e5 : ((k : Int) == 5) = false := by simpa using h5
  have hm : mostOf k = -1 := by unfold mostOf; rw [if_neg h1, if_neg h4, if_neg (by omega)]
  rw [hm]
  clear hm h1 h2 h3 h4 h5
  go_enter Tryd.func78, Tryd.ntmps78
  go_wp2
  go_ret
  exact ⟨rfl, rfl⟩

set_option maxHeartbeats 2000000 in
theorem Right_calls {w : World} (m : Msg) : Calls Tryd.prog 68 #[.agg m.cells.toArray] w fun e w' => e = .returned (.bool (rightOf m)) ∧ Below w.heap.size w w' := by
  obtain ⟨k, p, t, q⟩ := m
  simp only [Msg.cells]
  have fin : ∀ nn : Nat, Below w.heap.size w ((w.alloc (.cells #[.int .i64 k, .int .i64 p, .int .i64 t, .int .i64 q] 39)).drewN nn) := fun nn =>
    ((Below.refl _ _).alloc (Nat.le_refl _) _).trans ⟨rfl, rfl, rfl, Nat.le_refl _, fun _ _ => rfl⟩
  obtain ⟨M, hM⟩ : ∃ M, M = mostOf k := ⟨_, rfl⟩
  have hmost : ∀ w : World, Calls Tryd.prog 78 #[.int .i64 k] w fun e w' => e = .returned (.int .i64 M) ∧ w' = w := fun w => by rw [hM]; exact most_calls k
  have hright : rightOf (k, p, t, q) = decide (0 ≤ p ∧ p < 6 ∧ 1 ≤ t ∧ t ≤ 1048576 ∧ 0 ≤ q ∧ q ≤ M) := by rw [hM]; rfl
  rw [hright]
  have Hmost := Lib.hid hmost; clear hmost hright hM
  by_cases h1 : ¬ (0 ≤ p)
  · have e1 : decide (0 ≤ p) = false := decide_eq_false h1
    have hr : decide (0 ≤ p ∧ p < 6 ∧ 1 ≤ t ∧ t ≤ 1048576 ∧ 0 ≤ q ∧ q ≤ M) = false := decide_eq_false fun h => h1 h.1
    rw [hr]
    clear hr h1
    go_enter Tryd.func68, Tryd.ntmps68
    go_wp2_with fail
    go_quiet ((go_at_call 78; exact Calls.quiet_of_same (Hmost.out _)))
    go_wp2
    go_ret
    exact ⟨rfl, fin _⟩
  have h1 := Decidable.not_not.1 h1
  have e1 : decide (0 ≤ p) = true := decide_eq_true h1
  by_cases h2 : ¬ (p < 6)
  · have e2 : decide (p < 6) = false := decide_eq_false h2
    have hr : decide (0 ≤ p ∧ p < 6 ∧ 1 ≤ t ∧ t ≤ 1048576 ∧ 0 ≤ q ∧ q ≤ M) = false := decide_eq_false fun h => h2 h.2.1
    rw [hr]
    clear hr h2
    go_enter Tryd.func68, Tryd.ntmps68
    go_wp2_with fail
    go_quiet ((go_at_call 78; exact Calls.quiet_of_same (Hmost.out _)))
    go_wp2
    go_ret
    exact ⟨rfl, fin _⟩
  have h2 := Decidable.not_not.1 h2
  have e2 : decide (p < 6) = true := decide_eq_true h2
  by_cases h3 : ¬ (1 ≤ t)
  · have e3 : decide (1 ≤ t) = false := decide_eq_false h3
    have hr : decide (0 ≤ p ∧ p < 6 ∧ 1 ≤ t ∧ t ≤ 1048576 ∧ 0 ≤ q ∧ q ≤ M) = false := decide_eq_false fun h => h3 h.2.2.1
    rw [hr]
    clear hr h3
    go_enter Tryd.func68, Tryd.ntmps68
    go_wp2_with fail
    go_quiet ((go_at_call 78; exact Calls.quiet_of_same (Hmost.out _)))
    go_wp2
    go_ret
    exact ⟨rfl, fin _⟩
  have h3 := Decidable.not_not.1 h3
  have e3 : decide (1 ≤ t) = true := decide_eq_true h3
  by_cases h4 : ¬ (t ≤ 1048576)
  · have e4 : decide (t ≤ 1048576) = false := decide_eq_false h4
    have hr : decide (0 ≤ p ∧ p < 6 ∧ 1 ≤ t ∧ t ≤ 1048576 ∧ 0 ≤ q ∧ q ≤ M) = false := decide_eq_false fun h => h4 h.2.2.2.1
    rw [hr]
    clear hr h4
    go_enter Tryd.func68, Tryd.ntmps68
    go_wp2_with fail
    go_quiet ((go_at_call 78; exact Calls.quiet_of_same (Hmost.out _)))
    go_wp2
    go_ret
    exact ⟨rfl, fin _⟩
  have h4 := Decidable.not_not.1 h4
  have e4 : decide (t ≤ 1048576) = true := decide_eq_true h4
  by_cases h5 : ¬ (0 ≤ q)
  · have e5 : decide (0 ≤ q) = false := decide_eq_false h5
    have hr : decide (0 ≤ p ∧ p < 6 ∧ 1 ≤ t ∧ t ≤ 1048576 ∧ 0 ≤ q ∧ q ≤ M) = false := decide_eq_false fun h => h5 h.2.2.2.2.1
    rw [hr]
    clear hr h5
    go_enter Tryd.func68, Tryd.ntmps68
    go_wp2_with fail
    go_quiet ((go_at_call 78; exact Calls.quiet_of_same (Hmost.out _)))
    go_wp2
    go_ret
    exact ⟨rfl, fin _⟩
  have h5 := Decidable.not_not.1 h5
  have e5 : decide (0 ≤ q) = true := decide_eq_true h5
  by_cases h6 : ¬ (q ≤ M)
  · have e6 : decide (q ≤ M) = false := decide_eq_false h6
    have hr : decide (0 ≤ p ∧ p < 6 ∧ 1 ≤ t ∧ t ≤ 1048576 ∧ 0 ≤ q ∧ q ≤ M) = false := decide_eq_false fun h => h6 h.2.2.2.2.2
    rw [hr]
    clear hr h6
    go_enter Tryd.func68, Tryd.ntmps68
    go_wp2_with fail
    go_quiet ((go_at_call 78; exact Calls.quiet_of_same (Hmost.out _)))
    go_wp2
    go_ret
    exact ⟨rfl, fin _⟩
  have h6 := Decidable.not_not.1 h6
  have e6 : decide (q ≤ M) = true := decide_eq_true h6
  have hr : decide (0 ≤ p ∧ p < 6 ∧ 1 ≤ t ∧ t ≤ 1048576 ∧ 0 ≤ q ∧ q ≤ M) = true := decide_eq_true ⟨h1, h2, h3, h4, h5, h6⟩
  rw [hr]
  clear hr h1 h2 h3 h4 h5 h6
  go_enter Tryd.func68, Tryd.ntmps68
  go_wp2_with fail
  go_quiet ((go_at_call 78; exact Calls.quiet_of_same (Hmost.out _)))
  go_wp2
  go_ret
  exact ⟨rfl, fin _⟩

/-! ### labels -/
/-- secret, trust -/
abbrev Label := Int × Int
def Label.cells (l : Label) : List Value := [.int .u64 l.1, .int .u64 l.2]
def Label.ok (l : Label) : Prop := (Lit.int .u64 l.1).wf = true ∧ (Lit.int .u64 l.2).wf = true
def minusOf (a b : Int) : Int := bits .andNot .u64 a b
def needOf' (a b : Label) : Int := bits .or .u64 (minusOf a.1 b.1) (minusOf b.2 a.2)
def withOf (a b : Label) (o : Int) : Bool := minusOf (needOf' a b) o == 0

theorem Minus_calls {w : World} (a b : Int) : Calls Tryd.prog 77 #[.int .u64 a, .int .u64 b] w fun e w' => e = .returned (.int .u64 (minusOf a b)) ∧ w' = w := by
  go_enter Tryd.func77, Tryd.ntmps77
  go_wp2
  go_ret
  exact ⟨rfl, rfl⟩
theorem Within_calls {w : World} (a b : Int) : Calls Tryd.prog 64 #[.int .u64 a, .int .u64 b] w fun e w' => e = .returned (.bool (minusOf a b == 0)) ∧ w' = w := by
  go_enter Tryd.func64, Tryd.ntmps64
  go_wp2
  go_ret
  exact ⟨rfl, rfl⟩
set_option maxHeartbeats 1000000 in
theorem Need_calls {w : World} (a b : Label) : Calls Tryd.prog 65 #[.agg a.cells.toArray, .agg b.cells.toArray] w fun e w' => e = .returned (.int .u64 (needOf' a b)) ∧ Below w.heap.size w w' := by
  obtain ⟨a1, a2⟩ := a
  obtain ⟨b1, b2⟩ := b
  simp only [Label.cells]
  go_enter Tryd.func65, Tryd.ntmps65
  go_wp2_with fail
  go_quiet ((go_at_call 77; exact Calls.quiet_of_same (Minus_calls _ _)))
  go_wp2
  go_ret
  exact ⟨rfl, (((Below.refl _ _).alloc (Nat.le_refl _) _).alloc (by simp) _).trans ⟨rfl, rfl, rfl, Nat.le_refl _, fun _ _ => rfl⟩⟩
end Go.Proofs.YtclgakdfeeefiaaDoor
