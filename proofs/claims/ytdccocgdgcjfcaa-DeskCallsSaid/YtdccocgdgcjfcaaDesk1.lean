/- Plans: round, later, Deadline, Release, New, of the program and of the document; categories: Has, of both. -/
import Derived.Test.YtdccocgdgcjfcaaList
import Derived.Test.YtdccocgdgcjfcaaHas
import Derived.Test.YtdccocgdgcjfcaaPark
import Derived.Test.YtdccocgdgcjfcaaChain
import Derived.Test.YtdccocgdgcjfcaaFree
import Derived.Test.YtdccocgdgcjfcaaSeq
import Derived.Test.YtdccocgdgcjfcaaChecked
namespace Go.Proofs.Ytdccocgdgcjfcaa
open Go.RowKit

/-- parts, window, delay -/
abbrev Pl := Int × Int × Int
abbrev Pl.parts (p : Pl) : Int := p.1
abbrev Pl.window (p : Pl) : Int := p.2.1
abbrev Pl.delay (p : Pl) : Int := p.2.2
def Pl.cells (p : Pl) : List Value := [.int .i64 p.parts, .int .i64 p.window, .int .i64 p.delay]
def Pl.good (p : Pl) : Prop := 1 ≤ p.parts ∧ p.parts ≤ 6 ∧ 1 ≤ p.window ∧ p.window ≤ 100 ∧ p.window < p.delay ∧ p.delay ≤ 200
instance (p : Pl) : Decidable p.good := by unfold Pl.good; infer_instance
def lowTick (b : Int) : Int := if b < 0 then 0 else if 1099511627776 < b then 1099511627776 else b
def laterOf (p : Pl) (b r : Int) : Int := lowTick b + r * (p.parts + 1)

theorem round_calls {w : World} (p : Pl) (h : p.good) : Calls Try.prog 38 #[.agg p.cells.toArray] w fun e w' => e = .returned (.int .i64 (p.parts + 1)) ∧ Below w.heap.size w w' := by
  obtain ⟨a, b, c⟩ := p
  obtain ⟨h1, h2, -⟩ := h
  simp only [Pl.cells, Pl.parts, Pl.window, Pl.delay] at h1 h2 ⊢
  go_enter Try.func38, Try.ntmps38
  go_wp2
  go_ret
  exact ⟨rfl, (Below.refl _ _).alloc (Nat.le_refl _) _⟩
theorem prod_low {r a : Int} (hr : 0 ≤ r ∧ r ≤ 200) (h1 : 1 ≤ a) (h2 : a ≤ 6) : 0 ≤ r * (a + 1) ∧ r * (a + 1) ≤ 1400 := by
  refine ⟨Int.mul_nonneg hr.1 (by omega), ?_⟩
  have : r * (a + 1) ≤ 200 * 7 := Int.mul_le_mul hr.2 (by omega) (by omega) (by omega)
  omega
theorem low_low (b : Int) : 0 ≤ lowTick b ∧ lowTick b ≤ 1099511627776 := by unfold lowTick; split <;> (try split) <;> omega
set_option maxHeartbeats 1000000 in
theorem later_calls {w : World} (p : Pl) (h : p.good) (b r : Int) (hr : 0 ≤ r ∧ r ≤ 200) : Calls Try.prog 34 #[.agg p.cells.toArray, .int .i64 b, .int .i64 r] w fun e w' => e = .returned (.int .i64 (laterOf p b r)) ∧ Below w.heap.size w w' := by
  have hc := fun w : World => round_calls (w := w) p h
  obtain ⟨L, hL⟩ : ∃ L, L = laterOf p b r := ⟨_, rfl⟩
  rw [← hL]
  obtain ⟨a, c, d⟩ := p
  obtain ⟨h1, h2, -⟩ := h
  have hm := prod_low hr h1 h2
  unfold laterOf at hL
  simp only [Pl.cells, Pl.parts, Pl.window, Pl.delay] at hm hL hc ⊢
  clear h1 h2 hr
  have Hc := Lib.hid hc; clear hc
  have HL := Lib.hid hL; clear hL
  generalize a + 1 = A at Hc HL hm
  go_enter Try.func34, Try.ntmps34
  go_wp2_with fail
  all_goals
    refine (Hc.out _).mono ?_
    rintro e w1 ⟨rfl, b1⟩
    have b0 := ((Below.refl w.heap.size w).alloc (Nat.le_refl _) (.cells #[.int .i64 a, .int .i64 c, .int .i64 d] 29))
    have bb := b0.trans (b1.mono b0.size)
    clear b1 b0
    have Hb := Lib.hid bb; clear bb
    go_wp2
    go_ret
    refine ⟨?_, Hb.out⟩
    rw [HL.out]
    unfold lowTick
    repeat (first | rw [if_pos (by omega)] | rw [if_neg (by omega)])
    first | rfl | (rw [Int.zero_add]; rfl)
def deadOf (p : Pl) (b : Int) : Int := laterOf p b p.window
def releaseOf (p : Pl) (b : Int) : Int := laterOf p b p.delay
set_option maxHeartbeats 1000000 in
theorem Deadline_calls {w : World} (p : Pl) (h : p.good) (b : Int) : Calls Try.prog 23 #[.agg p.cells.toArray, .int .i64 b] w fun e w' => e = .returned (.int .i64 (deadOf p b)) ∧ Below w.heap.size w w' := by
  have hc := fun w : World => later_calls (w := w) p h b p.window (by have := h.2.2.1; have := h.2.2.2.1; omega)
  rw [show laterOf p b p.window = deadOf p b from rfl] at hc
  obtain ⟨L, hL⟩ : ∃ L, L = deadOf p b := ⟨_, rfl⟩
  rw [← hL] at hc ⊢
  clear hL h
  obtain ⟨a, c, d⟩ := p
  simp only [Pl.cells, Pl.parts, Pl.window, Pl.delay] at hc ⊢
  have Hc := Lib.hid hc; clear hc
  go_enter Try.func23, Try.ntmps23
  go_wp2_with fail
  refine (Hc.out _).mono ?_
  rintro e w1 ⟨rfl, b1⟩
  have b0 := ((Below.refl w.heap.size w).alloc (Nat.le_refl _) (.cells #[.int .i64 a, .int .i64 c, .int .i64 d] 29))
  have bb := b0.trans (b1.mono b0.size)
  clear b1 b0
  have Hb := Lib.hid bb; clear bb
  go_wp2
  go_ret
  exact ⟨rfl, Hb.out⟩
set_option maxHeartbeats 1000000 in
theorem Release_calls {w : World} (p : Pl) (h : p.good) (b : Int) : Calls Try.prog 24 #[.agg p.cells.toArray, .int .i64 b] w fun e w' => e = .returned (.int .i64 (releaseOf p b)) ∧ Below w.heap.size w w' := by
  have hc := fun w : World => later_calls (w := w) p h b p.delay (by obtain ⟨-, -, h3, -, h5, h6⟩ := h; omega)
  rw [show laterOf p b p.delay = releaseOf p b from rfl] at hc
  obtain ⟨L, hL⟩ : ∃ L, L = releaseOf p b := ⟨_, rfl⟩
  rw [← hL] at hc ⊢
  clear hL h
  obtain ⟨a, c, d⟩ := p
  simp only [Pl.cells, Pl.parts, Pl.window, Pl.delay] at hc ⊢
  have Hc := Lib.hid hc; clear hc
  go_enter Try.func24, Try.ntmps24
  go_wp2_with fail
  refine (Hc.out _).mono ?_
  rintro e w1 ⟨rfl, b1⟩
  have b0 := ((Below.refl w.heap.size w).alloc (Nat.le_refl _) (.cells #[.int .i64 a, .int .i64 c, .int .i64 d] 29))
  have bb := b0.trans (b1.mono b0.size)
  clear b1 b0
  have Hb := Lib.hid bb; clear bb
  go_wp2
  go_ret
  exact ⟨rfl, Hb.out⟩
set_option maxHeartbeats 1000000 in
theorem Rlater_calls {w : World} (p : Pl) (h : p.good) (b r : Int) (hr : 0 ≤ r ∧ r ≤ 200) : Calls Try.prog 37 #[.agg p.cells.toArray, .int .i64 b, .int .i64 r] w fun e w' => e = .returned (.int .i64 (laterOf p b r)) ∧ Below w.heap.size w w' := by
  obtain ⟨L, hL⟩ : ∃ L, L = laterOf p b r := ⟨_, rfl⟩
  rw [← hL]
  obtain ⟨a, c, d⟩ := p
  obtain ⟨h1, h2, -⟩ := h
  have hm := prod_low hr h1 h2
  unfold laterOf at hL
  simp only [Pl.cells, Pl.parts, Pl.window, Pl.delay] at h1 h2 hm hL ⊢
  clear hr
  have HL := Lib.hid hL; clear hL
  have b0 := ((Below.refl w.heap.size w).alloc (Nat.le_refl _) (.cells #[.int .i64 a, .int .i64 c, .int .i64 d] 30))
  have Hb := Lib.hid b0; clear b0
  go_enter Try.func37, Try.ntmps37
  go_wp2
  all_goals
    go_ret
    refine ⟨?_, Hb.out⟩
    rw [HL.out]
    unfold lowTick
    repeat (first | rw [if_pos (by omega)] | rw [if_neg (by omega)])
    first | rfl | (rw [Int.zero_add]; rfl)
set_option maxHeartbeats 1000000 in
theorem RDeadline_calls {w : World} (p : Pl) (h : p.good) (b : Int) : Calls Try.prog 29 #[.agg p.cells.toArray, .int .i64 b] w fun e w' => e = .returned (.int .i64 (deadOf p b)) ∧ Below w.heap.size w w' := by
  have hc := fun w : World => Rlater_calls (w := w) p h b p.window (by have := h.2.2.1; have := h.2.2.2.1; omega)
  rw [show laterOf p b p.window = deadOf p b from rfl] at hc
  obtain ⟨L, hL⟩ : ∃ L, L = deadOf p b := ⟨_, rfl⟩
  rw [← hL] at hc ⊢
  clear hL h
  obtain ⟨a, c, d⟩ := p
  simp only [Pl.cells, Pl.parts, Pl.window, Pl.delay] at hc ⊢
  have Hc := Lib.hid hc; clear hc
  go_enter Try.func29, Try.ntmps29
  go_wp2_with fail
  refine (Hc.out _).mono ?_
  rintro e w1 ⟨rfl, b1⟩
  have b0 := ((Below.refl w.heap.size w).alloc (Nat.le_refl _) (.cells #[.int .i64 a, .int .i64 c, .int .i64 d] 30))
  have bb := b0.trans (b1.mono b0.size)
  clear b1 b0
  have Hb := Lib.hid bb; clear bb
  go_wp2
  go_ret
  exact ⟨rfl, Hb.out⟩
set_option maxHeartbeats 1000000 in
theorem RRelease_calls {w : World} (p : Pl) (h : p.good) (b : Int) : Calls Try.prog 30 #[.agg p.cells.toArray, .int .i64 b] w fun e w' => e = .returned (.int .i64 (releaseOf p b)) ∧ Below w.heap.size w w' := by
  have hc := fun w : World => Rlater_calls (w := w) p h b p.delay (by obtain ⟨-, -, h3, -, h5, h6⟩ := h; omega)
  rw [show laterOf p b p.delay = releaseOf p b from rfl] at hc
  obtain ⟨L, hL⟩ : ∃ L, L = releaseOf p b := ⟨_, rfl⟩
  rw [← hL] at hc ⊢
  clear hL h
  obtain ⟨a, c, d⟩ := p
  simp only [Pl.cells, Pl.parts, Pl.window, Pl.delay] at hc ⊢
  have Hc := Lib.hid hc; clear hc
  go_enter Try.func30, Try.ntmps30
  go_wp2_with fail
  refine (Hc.out _).mono ?_
  rintro e w1 ⟨rfl, b1⟩
  have b0 := ((Below.refl w.heap.size w).alloc (Nat.le_refl _) (.cells #[.int .i64 a, .int .i64 c, .int .i64 d] 30))
  have bb := b0.trans (b1.mono b0.size)
  clear b1 b0
  have Hb := Lib.hid bb; clear bb
  go_wp2
  go_ret
  exact ⟨rfl, Hb.out⟩

set_option maxHeartbeats 1000000 in
theorem slotNew_calls {w : World} (p : Pl) : Calls Try.prog 25 #[.int .i64 p.parts, .int .i64 p.window, .int .i64 p.delay] w fun e w' => e = .returned (.tuple #[.agg (if p.good then p else (0, 0, 0)).cells.toArray, .int .i64 (if p.good then 0 else 11)]) ∧ Below w.heap.size w w' := by
  obtain ⟨a, b, c⟩ := p
  simp only [Pl.parts, Pl.window, Pl.delay]
  by_cases h0 : a < 1
  · have hg : ¬ Pl.good (a, b, c) := fun ⟨h1, h2, h3, h4, h5, h6⟩ => by simp only [Pl.parts, Pl.window, Pl.delay] at *; omega
    rw [if_neg hg, if_neg hg]
    clear hg
    have d0 : decide (a < 1) = true := decide_eq_true h0
    clear h0
    simp only [Pl.cells, Pl.parts, Pl.window, Pl.delay]
    go_enter Try.func25, Try.ntmps25
    go_wp2
    refine bodyPost_ret (v := .tuple #[.agg #[.int .i64 0, .int .i64 0, .int .i64 0], .int .i64 11]) (by simp [results, Try.results25, go_sem]) rfl ?_
    exact ⟨rfl, (Below.refl _ _).alloc (Nat.le_refl _) _⟩
  by_cases h1 : 6 < a
  · have hg : ¬ Pl.good (a, b, c) := fun ⟨h1, h2, h3, h4, h5, h6⟩ => by simp only [Pl.parts, Pl.window, Pl.delay] at *; omega
    rw [if_neg hg, if_neg hg]
    clear hg
    have d1 : decide (6 < a) = true := decide_eq_true h1
    have d0 : decide (a < 1) = false := decide_eq_false h0
    clear h0 h1
    simp only [Pl.cells, Pl.parts, Pl.window, Pl.delay]
    go_enter Try.func25, Try.ntmps25
    go_wp2
    refine bodyPost_ret (v := .tuple #[.agg #[.int .i64 0, .int .i64 0, .int .i64 0], .int .i64 11]) (by simp [results, Try.results25, go_sem]) rfl ?_
    exact ⟨rfl, (Below.refl _ _).alloc (Nat.le_refl _) _⟩
  by_cases h2 : b < 1
  · have hg : ¬ Pl.good (a, b, c) := fun ⟨h1, h2, h3, h4, h5, h6⟩ => by simp only [Pl.parts, Pl.window, Pl.delay] at *; omega
    rw [if_neg hg, if_neg hg]
    clear hg
    have d2 : decide (b < 1) = true := decide_eq_true h2
    have d0 : decide (a < 1) = false := decide_eq_false h0
    have d1 : decide (6 < a) = false := decide_eq_false h1
    clear h0 h1 h2
    simp only [Pl.cells, Pl.parts, Pl.window, Pl.delay]
    go_enter Try.func25, Try.ntmps25
    go_wp2
    refine bodyPost_ret (v := .tuple #[.agg #[.int .i64 0, .int .i64 0, .int .i64 0], .int .i64 11]) (by simp [results, Try.results25, go_sem]) rfl ?_
    exact ⟨rfl, (Below.refl _ _).alloc (Nat.le_refl _) _⟩
  by_cases h3 : 100 < b
  · have hg : ¬ Pl.good (a, b, c) := fun ⟨h1, h2, h3, h4, h5, h6⟩ => by simp only [Pl.parts, Pl.window, Pl.delay] at *; omega
    rw [if_neg hg, if_neg hg]
    clear hg
    have d3 : decide (100 < b) = true := decide_eq_true h3
    have d0 : decide (a < 1) = false := decide_eq_false h0
    have d1 : decide (6 < a) = false := decide_eq_false h1
    have d2 : decide (b < 1) = false := decide_eq_false h2
    clear h0 h1 h2 h3
    simp only [Pl.cells, Pl.parts, Pl.window, Pl.delay]
    go_enter Try.func25, Try.ntmps25
    go_wp2
    refine bodyPost_ret (v := .tuple #[.agg #[.int .i64 0, .int .i64 0, .int .i64 0], .int .i64 11]) (by simp [results, Try.results25, go_sem]) rfl ?_
    exact ⟨rfl, (Below.refl _ _).alloc (Nat.le_refl _) _⟩
  by_cases h4 : c ≤ b
  · have hg : ¬ Pl.good (a, b, c) := fun ⟨h1, h2, h3, h4, h5, h6⟩ => by simp only [Pl.parts, Pl.window, Pl.delay] at *; omega
    rw [if_neg hg, if_neg hg]
    clear hg
    have d4 : decide (c ≤ b) = true := decide_eq_true h4
    have d0 : decide (a < 1) = false := decide_eq_false h0
    have d1 : decide (6 < a) = false := decide_eq_false h1
    have d2 : decide (b < 1) = false := decide_eq_false h2
    have d3 : decide (100 < b) = false := decide_eq_false h3
    clear h0 h1 h2 h3 h4
    simp only [Pl.cells, Pl.parts, Pl.window, Pl.delay]
    go_enter Try.func25, Try.ntmps25
    go_wp2
    refine bodyPost_ret (v := .tuple #[.agg #[.int .i64 0, .int .i64 0, .int .i64 0], .int .i64 11]) (by simp [results, Try.results25, go_sem]) rfl ?_
    exact ⟨rfl, (Below.refl _ _).alloc (Nat.le_refl _) _⟩
  by_cases h5 : 200 < c
  · have hg : ¬ Pl.good (a, b, c) := fun ⟨h1, h2, h3, h4, h5, h6⟩ => by simp only [Pl.parts, Pl.window, Pl.delay] at *; omega
    rw [if_neg hg, if_neg hg]
    clear hg
    have d5 : decide (200 < c) = true := decide_eq_true h5
    have d0 : decide (a < 1) = false := decide_eq_false h0
    have d1 : decide (6 < a) = false := decide_eq_false h1
    have d2 : decide (b < 1) = false := decide_eq_false h2
    have d3 : decide (100 < b) = false := decide_eq_false h3
    have d4 : decide (c ≤ b) = false := decide_eq_false h4
    clear h0 h1 h2 h3 h4 h5
    simp only [Pl.cells, Pl.parts, Pl.window, Pl.delay]
    go_enter Try.func25, Try.ntmps25
    go_wp2
    refine bodyPost_ret (v := .tuple #[.agg #[.int .i64 0, .int .i64 0, .int .i64 0], .int .i64 11]) (by simp [results, Try.results25, go_sem]) rfl ?_
    exact ⟨rfl, (Below.refl _ _).alloc (Nat.le_refl _) _⟩
  have hg : Pl.good (a, b, c) := by refine ⟨?_, ?_, ?_, ?_, ?_, ?_⟩ <;> simp only [Pl.parts, Pl.window, Pl.delay] <;> omega
  rw [if_pos hg, if_pos hg]
  clear hg
  have d0 : decide (a < 1) = false := decide_eq_false h0
  have d1 : decide (6 < a) = false := decide_eq_false h1
  have d2 : decide (b < 1) = false := decide_eq_false h2
  have d3 : decide (100 < b) = false := decide_eq_false h3
  have d4 : decide (c ≤ b) = false := decide_eq_false h4
  have d5 : decide (200 < c) = false := decide_eq_false h5
  clear h0 h1 h2 h3 h4 h5
  simp only [Pl.cells, Pl.parts, Pl.window, Pl.delay]
  go_enter Try.func25, Try.ntmps25
  go_wp2
  refine bodyPost_ret (v := .tuple #[.agg #[.int .i64 a, .int .i64 b, .int .i64 c], .int .i64 0]) (by simp [results, Try.results25, go_sem]) rfl ?_
  exact ⟨rfl, (Below.refl _ _).alloc (Nat.le_refl _) _⟩
set_option maxHeartbeats 1000000 in
theorem RslotNew_calls {w : World} (p : Pl) : Calls Try.prog 9 #[.int .i64 p.parts, .int .i64 p.window, .int .i64 p.delay] w fun e w' => e = .returned (.tuple #[.agg (if p.good then p else (0, 0, 0)).cells.toArray, .int .i64 (if p.good then 0 else 11)]) ∧ Below w.heap.size w w' := by
  obtain ⟨a, b, c⟩ := p
  simp only [Pl.parts, Pl.window, Pl.delay]
  by_cases h0 : a < 1
  · have hg : ¬ Pl.good (a, b, c) := fun ⟨h1, h2, h3, h4, h5, h6⟩ => by simp only [Pl.parts, Pl.window, Pl.delay] at *; omega
    rw [if_neg hg, if_neg hg]
    clear hg
    have d0 : decide (a < 1) = true := decide_eq_true h0
    clear h0
    simp only [Pl.cells, Pl.parts, Pl.window, Pl.delay]
    go_enter Try.func9, Try.ntmps9
    go_wp2
    refine bodyPost_ret (v := .tuple #[.agg #[.int .i64 0, .int .i64 0, .int .i64 0], .int .i64 11]) (by simp [results, Try.results9, go_sem]) rfl ?_
    exact ⟨rfl, (Below.refl _ _).alloc (Nat.le_refl _) _⟩
  by_cases h1 : 6 < a
  · have hg : ¬ Pl.good (a, b, c) := fun ⟨h1, h2, h3, h4, h5, h6⟩ => by simp only [Pl.parts, Pl.window, Pl.delay] at *; omega
    rw [if_neg hg, if_neg hg]
    clear hg
    have d1 : decide (6 < a) = true := decide_eq_true h1
    have d0 : decide (a < 1) = false := decide_eq_false h0
    clear h0 h1
    simp only [Pl.cells, Pl.parts, Pl.window, Pl.delay]
    go_enter Try.func9, Try.ntmps9
    go_wp2
    refine bodyPost_ret (v := .tuple #[.agg #[.int .i64 0, .int .i64 0, .int .i64 0], .int .i64 11]) (by simp [results, Try.results9, go_sem]) rfl ?_
    exact ⟨rfl, (Below.refl _ _).alloc (Nat.le_refl _) _⟩
  by_cases h2 : b < 1
  · have hg : ¬ Pl.good (a, b, c) := fun ⟨h1, h2, h3, h4, h5, h6⟩ => by simp only [Pl.parts, Pl.window, Pl.delay] at *; omega
    rw [if_neg hg, if_neg hg]
    clear hg
    have d2 : decide (b < 1) = true := decide_eq_true h2
    have d0 : decide (a < 1) = false := decide_eq_false h0
    have d1 : decide (6 < a) = false := decide_eq_false h1
    clear h0 h1 h2
    simp only [Pl.cells, Pl.parts, Pl.window, Pl.delay]
    go_enter Try.func9, Try.ntmps9
    go_wp2
    refine bodyPost_ret (v := .tuple #[.agg #[.int .i64 0, .int .i64 0, .int .i64 0], .int .i64 11]) (by simp [results, Try.results9, go_sem]) rfl ?_
    exact ⟨rfl, (Below.refl _ _).alloc (Nat.le_refl _) _⟩
  by_cases h3 : 100 < b
  · have hg : ¬ Pl.good (a, b, c) := fun ⟨h1, h2, h3, h4, h5, h6⟩ => by simp only [Pl.parts, Pl.window, Pl.delay] at *; omega
    rw [if_neg hg, if_neg hg]
    clear hg
    have d3 : decide (100 < b) = true := decide_eq_true h3
    have d0 : decide (a < 1) = false := decide_eq_false h0
    have d1 : decide (6 < a) = false := decide_eq_false h1
    have d2 : decide (b < 1) = false := decide_eq_false h2
    clear h0 h1 h2 h3
    simp only [Pl.cells, Pl.parts, Pl.window, Pl.delay]
    go_enter Try.func9, Try.ntmps9
    go_wp2
    refine bodyPost_ret (v := .tuple #[.agg #[.int .i64 0, .int .i64 0, .int .i64 0], .int .i64 11]) (by simp [results, Try.results9, go_sem]) rfl ?_
    exact ⟨rfl, (Below.refl _ _).alloc (Nat.le_refl _) _⟩
  by_cases h4 : c ≤ b
  · have hg : ¬ Pl.good (a, b, c) := fun ⟨h1, h2, h3, h4, h5, h6⟩ => by simp only [Pl.parts, Pl.window, Pl.delay] at *; omega
    rw [if_neg hg, if_neg hg]
    clear hg
    have d4 : decide (c ≤ b) = true := decide_eq_true h4
    have d0 : decide (a < 1) = false := decide_eq_false h0
    have d1 : decide (6 < a) = false := decide_eq_false h1
    have d2 : decide (b < 1) = false := decide_eq_false h2
    have d3 : decide (100 < b) = false := decide_eq_false h3
    clear h0 h1 h2 h3 h4
    simp only [Pl.cells, Pl.parts, Pl.window, Pl.delay]
    go_enter Try.func9, Try.ntmps9
    go_wp2
    refine bodyPost_ret (v := .tuple #[.agg #[.int .i64 0, .int .i64 0, .int .i64 0], .int .i64 11]) (by simp [results, Try.results9, go_sem]) rfl ?_
    exact ⟨rfl, (Below.refl _ _).alloc (Nat.le_refl _) _⟩
  by_cases h5 : 200 < c
  · have hg : ¬ Pl.good (a, b, c) := fun ⟨h1, h2, h3, h4, h5, h6⟩ => by simp only [Pl.parts, Pl.window, Pl.delay] at *; omega
    rw [if_neg hg, if_neg hg]
    clear hg
    have d5 : decide (200 < c) = true := decide_eq_true h5
    have d0 : decide (a < 1) = false := decide_eq_false h0
    have d1 : decide (6 < a) = false := decide_eq_false h1
    have d2 : decide (b < 1) = false := decide_eq_false h2
    have d3 : decide (100 < b) = false := decide_eq_false h3
    have d4 : decide (c ≤ b) = false := decide_eq_false h4
    clear h0 h1 h2 h3 h4 h5
    simp only [Pl.cells, Pl.parts, Pl.window, Pl.delay]
    go_enter Try.func9, Try.ntmps9
    go_wp2
    refine bodyPost_ret (v := .tuple #[.agg #[.int .i64 0, .int .i64 0, .int .i64 0], .int .i64 11]) (by simp [results, Try.results9, go_sem]) rfl ?_
    exact ⟨rfl, (Below.refl _ _).alloc (Nat.le_refl _) _⟩
  have hg : Pl.good (a, b, c) := by refine ⟨?_, ?_, ?_, ?_, ?_, ?_⟩ <;> simp only [Pl.parts, Pl.window, Pl.delay] <;> omega
  rw [if_pos hg, if_pos hg]
  clear hg
  have d0 : decide (a < 1) = false := decide_eq_false h0
  have d1 : decide (6 < a) = false := decide_eq_false h1
  have d2 : decide (b < 1) = false := decide_eq_false h2
  have d3 : decide (100 < b) = false := decide_eq_false h3
  have d4 : decide (c ≤ b) = false := decide_eq_false h4
  have d5 : decide (200 < c) = false := decide_eq_false h5
  clear h0 h1 h2 h3 h4 h5
  simp only [Pl.cells, Pl.parts, Pl.window, Pl.delay]
  go_enter Try.func9, Try.ntmps9
  go_wp2
  refine bodyPost_ret (v := .tuple #[.agg #[.int .i64 a, .int .i64 b, .int .i64 c], .int .i64 0]) (by simp [results, Try.results9, go_sem]) rfl ?_
  exact ⟨rfl, (Below.refl _ _).alloc (Nat.le_refl _) _⟩

theorem bits_and_one {x : Int} (h0 : 0 ≤ x) (h1 : x < 18446744073709551616) : bits .and .u64 x 1 = x % 2 := by
  obtain ⟨n, rfl⟩ : ∃ n : Nat, x = n := ⟨x.toNat, by omega⟩
  show IntKind.u64.wrap ((BitVec.ofInt 64 (n : Int) &&& BitVec.ofInt 64 1).toNat : Int) = _
  have h2 : (BitVec.ofInt 64 (n : Int) &&& BitVec.ofInt 64 1).toNat = n % 2 := by
    rw [BitVec.toNat_and, BitVec.ofInt_natCast, BitVec.toNat_ofNat]
    show n % 2 ^ 64 &&& 1 = _
    rw [Nat.and_one_is_mod]
    omega
  rw [h2, IntKind.wrap_u64]
  omega
theorem has_shift {s : Int} (hs : (Lit.int .u64 s).wf = true) (K : Nat) : (bits .and .u64 (s / 2 ^ K) 1 == 1) = has s K := by
  simp [Lit.wf, IntKind.min, IntKind.max, IntKind.signed, IntKind.bits] at hs
  obtain ⟨S, rfl⟩ : ∃ S : Nat, s = S := ⟨s.toNat, by omega⟩
  have e : ((2 : Int) ^ K) = ((2 ^ K : Nat) : Int) := by simp
  rw [has_div, e]
  have h1 : (1 : Int) ≤ ((2 ^ K : Nat) : Int) := by have := Nat.one_le_two_pow (n := K); omega
  have n0 : 0 ≤ (S : Int) / ((2 ^ K : Nat) : Int) := Int.ediv_nonneg (by omega) (by omega)
  have n1 : (S : Int) / ((2 ^ K : Nat) : Int) ≤ (S : Int) := Int.ediv_le_self _ (by omega)
  rw [bits_and_one n0 (by omega)]
theorem there_calls {w : World} (k : Int) : Calls Try.prog 36 #[.int .i64 k] w fun e w' => e = .returned (.bool (decide (0 ≤ k ∧ k < 64))) ∧ w' = w := by
  by_cases h1 : 0 ≤ k
  · have e1 : decide (0 ≤ k) = true := decide_eq_true h1
    have e2 : decide (0 ≤ k ∧ k < 64) = decide (k < 64) := by simp [h1]
    rw [e2]
    go_enter Try.func36, Try.ntmps36
    go_wp2
    go_ret
    exact ⟨rfl, rfl⟩
  · have e1 : decide (0 ≤ k) = false := decide_eq_false h1
    have e2 : decide (0 ≤ k ∧ k < 64) = false := decide_eq_false fun h => h1 h.1
    rw [e2]
    go_enter Try.func36, Try.ntmps36
    go_wp2
    go_ret
    exact ⟨rfl, rfl⟩
theorem setHas_calls {w : World} {s : Int} (hs : (Lit.int .u64 s).wf = true) (k : Int) : Calls Try.prog 28 #[.int .u64 s, .int .i64 k] w fun e w' => e = .returned (.bool (decide (0 ≤ k ∧ k < 64) && has s k.toNat)) ∧ w' = w := by
  have hc := there_calls (w := w) k
  by_cases hk : 0 ≤ k ∧ k < 64
  · rw [decide_eq_true hk] at hc ⊢
    obtain ⟨K, rfl⟩ : ∃ K : Nat, k = K := ⟨k.toNat, by omega⟩
    have hk0 : (0:Int) ≤ (K : Int) := hk.1
    have hk1 : K < 64 := by omega
    have Hc := Lib.hid hc; clear hc hk
    go_enter Try.func28, Try.ntmps28
    go_wp2_with fail
    refine Hc.out.mono ?_
    rintro e w1 ⟨rfl, rfl⟩
    go_wp2_with fail
    go_ret
    refine ⟨?_, rfl⟩
    rw [Bool.true_and, Int.toNat_natCast, ← has_shift hs K]
    rfl
  · rw [decide_eq_false hk] at hc ⊢
    have Hc := Lib.hid hc; clear hc hk
    go_enter Try.func28, Try.ntmps28
    go_wp2_with fail
    refine Hc.out.mono ?_
    rintro e w1 ⟨rfl, rfl⟩
    go_wp2_with fail
    go_ret
    exact ⟨rfl, rfl⟩
end Go.Proofs.Ytdccocgdgcjfcaa
