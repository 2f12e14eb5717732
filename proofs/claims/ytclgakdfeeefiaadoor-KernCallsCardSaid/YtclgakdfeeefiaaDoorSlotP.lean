/- Plans: round, later, Deadline, Release, New, of the program and of the document (printed by genSlotP.py out of XDesk1: change that). -/
import Derived.Test.YtclgakdfeeefiaaDoorList
import Derived.Test.YtclgakdfeeefiaaDoorPark
import Derived.Test.YtclgakdfeeefiaaDoorChain
import Derived.Test.YtclgakdfeeefiaaDoorFree
import Derived.Test.YtclgakdfeeefiaaDoorSeq
import Derived.Test.YtclgakdfeeefiaaDoorChecked
namespace Go.Proofs.YtclgakdfeeefiaaDoor
open Go.RowKit

/-- parts, window, delay -/
abbrev Pl := Int × Int × Int
abbrev Pl.parts (p : Pl) : Int := p.1
abbrev Pl.window (p : Pl) : Int := p.2.1
abbrev Pl.delay (p : Pl) : Int := p.2.2
def Pl.cells (p : Pl) : List Value := [.int .i64 p.parts, .int .i64 p.window, .int .i64 p.delay]
def Pl.good (p : Pl) : Prop := 1 ≤ p.parts ∧ p.parts ≤ 6 ∧ 1 ≤ p.window ∧ p.window ≤ 100 ∧ p.window < p.delay ∧ p.delay ≤ 200
def Pl.fine (p : Pl) : Prop := 0 ≤ p.parts ∧ p.parts ≤ 6 ∧ 0 ≤ p.window ∧ p.window ≤ 200 ∧ 0 ≤ p.delay ∧ p.delay ≤ 200
theorem Pl.good.fine {p : Pl} (h : p.good) : p.fine := by obtain ⟨h1, h2, h3, h4, h5, h6⟩ := h; exact ⟨by omega, h2, by omega, by omega, by omega, h6⟩
instance (p : Pl) : Decidable p.good := by unfold Pl.good; infer_instance
def lowTick (b : Int) : Int := if b < 0 then 0 else if 1099511627776 < b then 1099511627776 else b
def laterOf (p : Pl) (b r : Int) : Int := lowTick b + r * (p.parts + 1)

theorem round_calls {w : World} (p : Pl) (h : p.fine) : Calls Tryd.prog 67 #[.agg p.cells.toArray] w fun e w' => e = .returned (.int .i64 (p.parts + 1)) ∧ Below w.heap.size w w' := by
  obtain ⟨a, b, c⟩ := p
  obtain ⟨h1, h2, -⟩ := h
  simp only [Pl.cells, Pl.parts, Pl.window, Pl.delay] at h1 h2 ⊢
  go_enter Tryd.func67, Tryd.ntmps67
  go_wp2
  go_ret
  exact ⟨rfl, (Below.refl _ _).alloc (Nat.le_refl _) _⟩
theorem prod_low {r a : Int} (hr : 0 ≤ r ∧ r ≤ 200) (h1 : 0 ≤ a) (h2 : a ≤ 6) : 0 ≤ r * (a + 1) ∧ r * (a + 1) ≤ 1400 := by
  refine ⟨Int.mul_nonneg hr.1 (by omega), ?_⟩
  have : r * (a + 1) ≤ 200 * 7 := Int.mul_le_mul hr.2 (by omega) (by omega) (by omega)
  omega
theorem low_low (b : Int) : 0 ≤ lowTick b ∧ lowTick b ≤ 1099511627776 := by unfold lowTick; split <;> (try split) <;> omega
def deadOf (p : Pl) (b : Int) : Int := laterOf p b p.window
def releaseOf (p : Pl) (b : Int) : Int := laterOf p b p.delay

set_option maxHeartbeats 1000000 in
theorem slotNew_calls {w : World} (p : Pl) : Calls Tryd.prog 32 #[.int .i64 p.parts, .int .i64 p.window, .int .i64 p.delay] w fun e w' => e = .returned (.tuple #[.agg (if p.good then p else (0, 0, 0)).cells.toArray, .int .i64 (if p.good then 0 else 11)]) ∧ Below w.heap.size w w' := by
  obtain ⟨a, b, c⟩ := p
  simp only [Pl.parts, Pl.window, Pl.delay]
  by_cases h0 : a < 1
  · have hg : ¬ Pl.good (a, b, c) := fun ⟨h1, h2, h3, h4, h5, h6⟩ => by simp only [Pl.parts, Pl.window, Pl.delay] at *; omega
    rw [if_neg hg, if_neg hg]
    clear hg
    have d0 : decide (a < 1) = true := decide_eq_true h0
    clear h0
    simp only [Pl.cells, Pl.parts, Pl.window, Pl.delay]
    go_enter Tryd.func32, Tryd.ntmps32
    go_wp2
    refine bodyPost_ret (v := .tuple #[.agg #[.int .i64 0, .int .i64 0, .int .i64 0], .int .i64 11]) (by simp [results, Tryd.results32, go_sem]) rfl ?_
    exact ⟨rfl, (Below.refl _ _).alloc (Nat.le_refl _) _⟩
  by_cases h1 : 6 < a
  · have hg : ¬ Pl.good (a, b, c) := fun ⟨h1, h2, h3, h4, h5, h6⟩ => by simp only [Pl.parts, Pl.window, Pl.delay] at *; omega
    rw [if_neg hg, if_neg hg]
    clear hg
    have d1 : decide (6 < a) = true := decide_eq_true h1
    have d0 : decide (a < 1) = false := decide_eq_false h0
    clear h0 h1
    simp only [Pl.cells, Pl.parts, Pl.window, Pl.delay]
    go_enter Tryd.func32, Tryd.ntmps32
    go_wp2
    refine bodyPost_ret (v := .tuple #[.agg #[.int .i64 0, .int .i64 0, .int .i64 0], .int .i64 11]) (by simp [results, Tryd.results32, go_sem]) rfl ?_
    exact ⟨rfl, (Below.refl _ _).alloc (Nat.le_refl _) _⟩
  by_cases h2 : b < 1
  · have hg : ¬ Pl.good (a, b, c) := fun ⟨h1, h2, h3, h4, h5, h6⟩ => by simp only [Pl.parts, Pl.window, Pl.delay] at *; omega
    rw [if_neg hg, if_neg hg]
    clear hg
    have d2 : decide (b < 1) = true := decide_eq_true h2
    have d0 : decide (a < 1) = false := decide_eq_false h0
    have d1 : decide (6 < a) = false := decide_eq_false h1
    clear h0 h1 h2
    simp only [Pl.cells, Pl.parts, Pl.window, Pl.delay]
    go_enter Tryd.func32, Tryd.ntmps32
    go_wp2
    refine bodyPost_ret (v := .tuple #[.agg #[.int .i64 0, .int .i64 0, .int .i64 0], .int .i64 11]) (by simp [results, Tryd.results32, go_sem]) rfl ?_
    exact ⟨rfl, (Below.refl _ _).alloc (Nat.le_refl _) _⟩
  by_cases h3 : 100 < b
  · have hg : ¬ Pl.good (a, b, c) := fun ⟨h1, h2, h3, h4, h5, h6⟩ => by simp only [Pl.parts, Pl.window, Pl.delay] at *; omega
    rw [if_neg hg, if_neg hg]
    clear hg
    have d3 : decide (100 < b) = true := decide_eq_true h3
    have d0 : decide (a < 1) = false := decide_eq_false h0
    have d1 : decide (6 < a) = false := decide_eq_false h1
    have d2 : decide (b < 1) = false := decide_eq_false h2
    clear h0 h1 h2 h3
    simp only [Pl.cells, Pl.parts, Pl.window, Pl.delay]
    go_enter Tryd.func32, Tryd.ntmps32
    go_wp2
    refine bodyPost_ret (v := .tuple #[.agg #[.int .i64 0, .int .i64 0, .int .i64 0], .int .i64 11]) (by simp [results, Tryd.results32, go_sem]) rfl ?_
    exact ⟨rfl, (Below.refl _ _).alloc (Nat.le_refl _) _⟩
  by_cases h4 : c ≤ b
  · have hg : ¬ Pl.good (a, b, c) := fun ⟨h1, h2, h3, h4, h5, h6⟩ => by simp only [Pl.parts, Pl.window, Pl.delay] at *; omega
    rw [if_neg hg, if_neg hg]
    clear hg
    have d4 : decide (c ≤ b) = true := decide_eq_true h4
    have d0 : decide (a < 1) = false := decide_eq_false h0
    have d1 : decide (6 < a) = false := decide_eq_false h1
    have d2 : decide (b < 1) = false := decide_eq_false h2
    have d3 : decide (100 < b) = false := decide_eq_false h3
    clear h0 h1 h2 h3 h4
    simp only [Pl.cells, Pl.parts, Pl.window, Pl.delay]
    go_enter Tryd.func32, Tryd.ntmps32
    go_wp2
    refine bodyPost_ret (v := .tuple #[.agg #[.int .i64 0, .int .i64 0, .int .i64 0], .int .i64 11]) (by simp [results, Tryd.results32, go_sem]) rfl ?_
    exact ⟨rfl, (Below.refl _ _).alloc (Nat.le_refl _) _⟩
  by_cases h5 : 200 < c
  · have hg : ¬ Pl.good (a, b, c) := fun ⟨h1, h2, h3, h4, h5, h6⟩ => by simp only [Pl.parts, Pl.window, Pl.delay] at *; omega
    rw [if_neg hg, if_neg hg]
    clear hg
    have d5 : decide (200 < c) = true := decide_eq_true h5
    have d0 : decide (a < 1) = false := decide_eq_false h0
    have d1 : decide (6 < a) = false := decide_eq_false h1
    have d2 : decide (b < 1) = false := decide_eq_false h2
    have d3 : decide (100 < b) = false := decide_eq_false h3
    have d4 : decide (c ≤ b) = false := decide_eq_false h4
    clear h0 h1 h2 h3 h4 h5
    simp only [Pl.cells, Pl.parts, Pl.window, Pl.delay]
    go_enter Tryd.func32, Tryd.ntmps32
    go_wp2
    refine bodyPost_ret (v := .tuple #[.agg #[.int .i64 0, .int .i64 0, .int .i64 0], .int .i64 11]) (by simp [results, Tryd.results32, go_sem]) rfl ?_
    exact ⟨rfl, (Below.refl _ _).alloc (Nat.le_refl _) _⟩
  have hg : Pl.good (a, b, c) := by refine ⟨?_, ?_, ?_, ?_, ?_, ?_⟩ <;> simp only [Pl.parts, Pl.window, Pl.delay] <;> omega
  rw [if_pos hg, if_pos hg]
  clear hg
  have d0 : decide (a < 1) = false := decide_eq_false h0
  have d1 : decide (6 < a) = false := decide_eq_false h1
  have d2 : decide (b < 1) = false := decide_eq_false h2
  have d3 : decide (100 < b) = false := decide_eq_false h3
  have d4 : decide (c ≤ b) = false := decide_eq_false h4
  have d5 : decide (200 < c) = false := decide_eq_false h5
  clear h0 h1 h2 h3 h4 h5
  simp only [Pl.cells, Pl.parts, Pl.window, Pl.delay]
  go_enter Tryd.func32, Tryd.ntmps32
  go_wp2
  refine bodyPost_ret (v := .tuple #[.agg #[.int .i64 a, .int .i64 b, .int .i64 c], .int .i64 0]) (by simp [results, Tryd.results32, go_sem]) rfl ?_
  exact ⟨rfl, (Below.refl _ _).alloc (Nat.le_refl _) _⟩
set_option maxHeartbeats 1000000 in
theorem RslotNew_calls {w : World} (p : Pl) : Calls Tryd.prog 52 #[.int .i64 p.parts, .int .i64 p.window, .int .i64 p.delay] w fun e w' => e = .returned (.tuple #[.agg (if p.good then p else (0, 0, 0)).cells.toArray, .int .i64 (if p.good then 0 else 11)]) ∧ Below w.heap.size w w' := by
  obtain ⟨a, b, c⟩ := p
  simp only [Pl.parts, Pl.window, Pl.delay]
  by_cases h0 : a < 1
  · have hg : ¬ Pl.good (a, b, c) := fun ⟨h1, h2, h3, h4, h5, h6⟩ => by simp only [Pl.parts, Pl.window, Pl.delay] at *; omega
    rw [if_neg hg, if_neg hg]
    clear hg
    have d0 : decide (a < 1) = true := decide_eq_true h0
    clear h0
    simp only [Pl.cells, Pl.parts, Pl.window, Pl.delay]
    go_enter Tryd.func52, Tryd.ntmps52
    go_wp2
    refine bodyPost_ret (v := .tuple #[.agg #[.int .i64 0, .int .i64 0, .int .i64 0], .int .i64 11]) (by simp [results, Tryd.results52, go_sem]) rfl ?_
    exact ⟨rfl, (Below.refl _ _).alloc (Nat.le_refl _) _⟩
  by_cases h1 : 6 < a
  · have hg : ¬ Pl.good (a, b, c) := fun ⟨h1, h2, h3, h4, h5, h6⟩ => by simp only [Pl.parts, Pl.window, Pl.delay] at *; omega
    rw [if_neg hg, if_neg hg]
    clear hg
    have d1 : decide (6 < a) = true := decide_eq_true h1
    have d0 : decide (a < 1) = false := decide_eq_false h0
    clear h0 h1
    simp only [Pl.cells, Pl.parts, Pl.window, Pl.delay]
    go_enter Tryd.func52, Tryd.ntmps52
    go_wp2
    refine bodyPost_ret (v := .tuple #[.agg #[.int .i64 0, .int .i64 0, .int .i64 0], .int .i64 11]) (by simp [results, Tryd.results52, go_sem]) rfl ?_
    exact ⟨rfl, (Below.refl _ _).alloc (Nat.le_refl _) _⟩
  by_cases h2 : b < 1
  · have hg : ¬ Pl.good (a, b, c) := fun ⟨h1, h2, h3, h4, h5, h6⟩ => by simp only [Pl.parts, Pl.window, Pl.delay] at *; omega
    rw [if_neg hg, if_neg hg]
    clear hg
    have d2 : decide (b < 1) = true := decide_eq_true h2
    have d0 : decide (a < 1) = false := decide_eq_false h0
    have d1 : decide (6 < a) = false := decide_eq_false h1
    clear h0 h1 h2
    simp only [Pl.cells, Pl.parts, Pl.window, Pl.delay]
    go_enter Tryd.func52, Tryd.ntmps52
    go_wp2
    refine bodyPost_ret (v := .tuple #[.agg #[.int .i64 0, .int .i64 0, .int .i64 0], .int .i64 11]) (by simp [results, Tryd.results52, go_sem]) rfl ?_
    exact ⟨rfl, (Below.refl _ _).alloc (Nat.le_refl _) _⟩
  by_cases h3 : 100 < b
  · have hg : ¬ Pl.good (a, b, c) := fun ⟨h1, h2, h3, h4, h5, h6⟩ => by simp only [Pl.parts, Pl.window, Pl.delay] at *; omega
    rw [if_neg hg, if_neg hg]
    clear hg
    have d3 : decide (100 < b) = true := decide_eq_true h3
    have d0 : decide (a < 1) = false := decide_eq_false h0
    have d1 : decide (6 < a) = false := decide_eq_false h1
    have d2 : decide (b < 1) = false := decide_eq_false h2
    clear h0 h1 h2 h3
    simp only [Pl.cells, Pl.parts, Pl.window, Pl.delay]
    go_enter Tryd.func52, Tryd.ntmps52
    go_wp2
    refine bodyPost_ret (v := .tuple #[.agg #[.int .i64 0, .int .i64 0, .int .i64 0], .int .i64 11]) (by simp [results, Tryd.results52, go_sem]) rfl ?_
    exact ⟨rfl, (Below.refl _ _).alloc (Nat.le_refl _) _⟩
  by_cases h4 : c ≤ b
  · have hg : ¬ Pl.good (a, b, c) := fun ⟨h1, h2, h3, h4, h5, h6⟩ => by simp only [Pl.parts, Pl.window, Pl.delay] at *; omega
    rw [if_neg hg, if_neg hg]
    clear hg
    have d4 : decide (c ≤ b) = true := decide_eq_true h4
    have d0 : decide (a < 1) = false := decide_eq_false h0
    have d1 : decide (6 < a) = false := decide_eq_false h1
    have d2 : decide (b < 1) = false := decide_eq_false h2
    have d3 : decide (100 < b) = false := decide_eq_false h3
    clear h0 h1 h2 h3 h4
    simp only [Pl.cells, Pl.parts, Pl.window, Pl.delay]
    go_enter Tryd.func52, Tryd.ntmps52
    go_wp2
    refine bodyPost_ret (v := .tuple #[.agg #[.int .i64 0, .int .i64 0, .int .i64 0], .int .i64 11]) (by simp [results, Tryd.results52, go_sem]) rfl ?_
    exact ⟨rfl, (Below.refl _ _).alloc (Nat.le_refl _) _⟩
  by_cases h5 : 200 < c
  · have hg : ¬ Pl.good (a, b, c) := fun ⟨h1, h2, h3, h4, h5, h6⟩ => by simp only [Pl.parts, Pl.window, Pl.delay] at *; omega
    rw [if_neg hg, if_neg hg]
    clear hg
    have d5 : decide (200 < c) = true := decide_eq_true h5
    have d0 : decide (a < 1) = false := decide_eq_false h0
    have d1 : decide (6 < a) = false := decide_eq_false h1
    have d2 : decide (b < 1) = false := decide_eq_false h2
    have d3 : decide (100 < b) = false := decide_eq_false h3
    have d4 : decide (c ≤ b) = false := decide_eq_false h4
    clear h0 h1 h2 h3 h4 h5
    simp only [Pl.cells, Pl.parts, Pl.window, Pl.delay]
    go_enter Tryd.func52, Tryd.ntmps52
    go_wp2
    refine bodyPost_ret (v := .tuple #[.agg #[.int .i64 0, .int .i64 0, .int .i64 0], .int .i64 11]) (by simp [results, Tryd.results52, go_sem]) rfl ?_
    exact ⟨rfl, (Below.refl _ _).alloc (Nat.le_refl _) _⟩
  have hg : Pl.good (a, b, c) := by refine ⟨?_, ?_, ?_, ?_, ?_, ?_⟩ <;> simp only [Pl.parts, Pl.window, Pl.delay] <;> omega
  rw [if_pos hg, if_pos hg]
  clear hg
  have d0 : decide (a < 1) = false := decide_eq_false h0
  have d1 : decide (6 < a) = false := decide_eq_false h1
  have d2 : decide (b < 1) = false := decide_eq_false h2
  have d3 : decide (100 < b) = false := decide_eq_false h3
  have d4 : decide (c ≤ b) = false := decide_eq_false h4
  have d5 : decide (200 < c) = false := decide_eq_false h5
  clear h0 h1 h2 h3 h4 h5
  simp only [Pl.cells, Pl.parts, Pl.window, Pl.delay]
  go_enter Tryd.func52, Tryd.ntmps52
  go_wp2
  refine bodyPost_ret (v := .tuple #[.agg #[.int .i64 a, .int .i64 b, .int .i64 c], .int .i64 0]) (by simp [results, Tryd.results52, go_sem]) rfl ?_
  exact ⟨rfl, (Below.refl _ _).alloc (Nat.le_refl _) _⟩

end Go.Proofs.YtclgakdfeeefiaaDoor
