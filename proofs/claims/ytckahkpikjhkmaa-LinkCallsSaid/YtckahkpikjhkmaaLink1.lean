/- Messages: right ones. -/
import Derived.Test.YtckahkpikjhkmaaList
import Derived.Test.YtckahkpikjhkmaaPark
import Derived.Test.YtckahkpikjhkmaaChain
import Derived.Test.YtckahkpikjhkmaaFree
import Derived.Test.YtckahkpikjhkmaaSeq
import Derived.Test.YtckahkpikjhkmaaPhase
import Derived.Test.YtckahkpikjhkmaaKeyed
import Derived.Test.YtckahkpikjhkmaaChecked
namespace Go.Proofs.Ytckahkpikjhkmaa
open Go.RowKit

/-- kind, part, tx, what -/
abbrev Msg := Int × Int × Int × Int
abbrev Msg.kind (m : Msg) : Int := m.1
abbrev Msg.part (m : Msg) : Int := m.2.1
abbrev Msg.tx (m : Msg) : Int := m.2.2.1
abbrev Msg.what (m : Msg) : Int := m.2.2.2
def Msg.cells (m : Msg) : List Value := [.int .i64 m.kind, .int .i64 m.part, .int .i64 m.tx, .int .i64 m.what]
def msgF : Fmt Msg := ⟨Msg.cells, 4, fun _ => rfl, by decide, fun x u hu => by simp [Msg.cells] at hu; rcases hu with rfl | rfl | rfl | rfl <;> rfl⟩
def noMsg : Msg := (0, 0, 0, 0)
def mostOf (k : Int) : Int := if k = 1 then 2 else if k = 4 then 1 else if k = 2 ∨ k = 3 ∨ k = 5 then 0 else -1
def rightOf (m : Msg) : Bool := decide (0 ≤ m.part ∧ m.part < 6 ∧ 1 ≤ m.tx ∧ m.tx ≤ 1048576 ∧ 0 ≤ m.what ∧ m.what ≤ mostOf m.kind)

theorem most_calls {w : World} (k : Int) : Calls Try.prog 31 #[.int .i64 k] w fun e w' => e = .returned (.int .i64 (mostOf k)) ∧ w' = w := by
  by_cases h1 : k = 1
  · subst h1
    go_enter Try.func31, Try.ntmps31
    go_wp2
    go_ret
    exact ⟨rfl, rfl⟩
  by_cases h4 : k = 4
  · subst h4
    go_enter Try.func31, Try.ntmps31
    go_wp2
    go_ret
    exact ⟨rfl, rfl⟩
  by_cases h2 : k = 2
  · subst h2
    go_enter Try.func31, Try.ntmps31
    go_wp2
    go_ret
    exact ⟨rfl, rfl⟩
  by_cases h3 : k = 3
  · subst h3
    go_enter Try.func31, Try.ntmps31
    go_wp2
    go_ret
    exact ⟨rfl, rfl⟩
  by_cases h5 : k = 5
  · subst h5
    go_enter Try.func31, Try.ntmps31
    go_wp2
    go_ret
    exact ⟨rfl, rfl⟩
  have e : mostOf k = -1 := by
    unfold mostOf
    rw [if_neg h1, if_neg h4, if_neg (by omega)]
  rw [e]
  have e1 : (k == 1) = false := by simpa using h1
  have e2 : (k == 2) = false := by simpa using h2
  have e3 : (k == 3) = false := by simpa using h3
  have e4 : (k == 4) = false := by simpa using h4
  have e5 : (k == 5) = false := by simpa using h5
  clear h1 h2 h3 h4 h5 e
  go_enter Try.func31, Try.ntmps31
  go_wp2
  go_ret
  exact ⟨rfl, rfl⟩

set_option maxHeartbeats 4000000 in
theorem Right_calls {w : World} (m : Msg) : Calls Try.prog 26 #[.agg m.cells.toArray] w fun e w' => e = .returned (.bool (rightOf m)) ∧ Below w.heap.size w w' := by
  obtain ⟨k, p, t, x⟩ := m
  obtain ⟨R, hR⟩ : ∃ R, R = rightOf (k, p, t, x) := ⟨_, rfl⟩
  rw [← hR]
  unfold rightOf at hR
  simp only [Msg.kind, Msg.part, Msg.tx, Msg.what] at hR
  have hm := fun w : World => most_calls (w := w) k
  generalize mostOf k = M at hR hm
  have Hm := Lib.hid hm; clear hm
  have hd : (decide (0 ≤ p) = false ∧ R = false) ∨ (decide (0 ≤ p) = true ∧ decide (p < 6) = false ∧ R = false) ∨ (decide (0 ≤ p) = true ∧ decide (p < 6) = true ∧ decide (1 ≤ t) = false ∧ R = false) ∨
      (decide (0 ≤ p) = true ∧ decide (p < 6) = true ∧ decide (1 ≤ t) = true ∧ decide (t ≤ 1048576) = false ∧ R = false) ∨ (decide (0 ≤ p) = true ∧ decide (p < 6) = true ∧ decide (1 ≤ t) = true ∧ decide (t ≤ 1048576) = true ∧ decide (0 ≤ x) = false ∧ R = false) ∨
      (decide (0 ≤ p) = true ∧ decide (p < 6) = true ∧ decide (1 ≤ t) = true ∧ decide (t ≤ 1048576) = true ∧ decide (0 ≤ x) = true ∧ decide (x ≤ M) = false ∧ R = false) ∨
      (decide (0 ≤ p) = true ∧ decide (p < 6) = true ∧ decide (1 ≤ t) = true ∧ decide (t ≤ 1048576) = true ∧ decide (0 ≤ x) = true ∧ decide (x ≤ M) = true ∧ R = true) := by
    rw [hR]
    by_cases c1 : 0 ≤ p <;> by_cases c2 : p < 6 <;> by_cases c3 : 1 ≤ t <;> by_cases c4 : t ≤ 1048576 <;> by_cases c5 : 0 ≤ x <;> by_cases c6 : x ≤ M <;> simp [c1, c2, c3, c4, c5, c6]
  clear hR
  simp only [Msg.cells, Msg.kind, Msg.part, Msg.tx, Msg.what]
  have b1 := (Below.refl w.heap.size w).alloc (Nat.le_refl _) (.cells #[.int .i64 k, .int .i64 p, .int .i64 t, .int .i64 x] 38)
  have hx := heap_alloc_new w (.cells #[.int .i64 k, .int .i64 p, .int .i64 t, .int .i64 x] 38)
  have Hb1 := Lib.hid b1; clear b1
  have z0 := cell_regrown (cells_at hx 0)
  have z1 := cell_regrown (cells_at hx 1)
  have z2 := cell_regrown (cells_at hx 2)
  have z3 := cell_regrown (cells_at hx 3)
  clear hx
  go_enter Try.func26, Try.ntmps26
  go_wp2_with fail
  generalize w.alloc (.cells #[.int .i64 k, .int .i64 p, .int .i64 t, .int .i64 x] 38) = w1 at *
  rcases hd with ⟨d1, rfl⟩ | ⟨d1, d2, rfl⟩ | ⟨d1, d2, d3, rfl⟩ | ⟨d1, d2, d3, d4, rfl⟩ | ⟨d1, d2, d3, d4, d5, rfl⟩ | ⟨d1, d2, d3, d4, d5, d6, rfl⟩ | ⟨d1, d2, d3, d4, d5, d6, rfl⟩
  all_goals
    refine wp_region_quiet_below (by kernel_rfl) (by kernel_rfl) ?_
    repeat (any_goals (first | go_big_quiet_step ((go_at_call 31; exact Calls.regrown_of ((Hm.out _).mono fun _ _ h => ⟨h.1, by rw [h.2]; exact Below.refl _ _⟩))) | quiet_step ((go_at_call 31; exact Calls.regrown_of ((Hm.out _).mono fun _ _ h => ⟨h.1, by rw [h.2]; exact Below.refl _ _⟩)))))
    refine wpQuiet_nil ?_
    intro w3 hw3
    have bf : Below w1.heap.size w1 w3 := by obtain ⟨q, rfl⟩ := hw3; exact below_regrown _ _ _
    clear hw3 z0 z1 z2 z3
    have bz := Hb1.out.trans (bf.mono Hb1.out.size)
    clear bf
    have Hbz := Lib.hid bz; clear bz
    go_wp2
    go_ret
    exact ⟨rfl, Hbz.out⟩
end Go.Proofs.Ytckahkpikjhkmaa
