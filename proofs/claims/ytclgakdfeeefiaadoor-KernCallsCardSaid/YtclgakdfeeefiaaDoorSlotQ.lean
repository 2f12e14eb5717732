/- Plans: Owner, Round, Next, of the program and of the document (printed by genSlotQ.py). -/
import Derived.Test.YtclgakdfeeefiaaDoorSlotP
import Derived.Test.YtclgakdfeeefiaaDoorPhase
import Derived.Lib.QuietBelow
import Derived.BigQuiet
namespace Go.Proofs.YtclgakdfeeefiaaDoor
open Go.RowKit

def tickOf (t : Int) : Int := if t < 0 then 0 else t
def ownOf (p : Pl) (t : Int) : Int := tickOf t % (p.parts + 1)
def rndOf (p : Pl) (t : Int) : Int := tickOf t / (p.parts + 1)
def nextOf (p : Pl) (t who : Int) : Int := if who < 0 ∨ p.parts < who then -1 else tickOf t + (who - ownOf p t + (p.parts + 1)) % (p.parts + 1)
theorem tick_low (t : Int) : 0 ≤ tickOf t := by unfold tickOf; split <;> omega
theorem tick_of {t : Int} (h : 0 ≤ t) : tickOf t = t := if_neg (by omega)
theorem seven {A : Int} (h1 : 1 ≤ A) (h2 : A ≤ 7) : A = 1 ∨ A = 2 ∨ A = 3 ∨ A = 4 ∨ A = 5 ∨ A = 6 ∨ A = 7 := by omega
theorem mod_low {A t : Int} (h1 : 1 ≤ A) (ht : 0 ≤ t) : 0 ≤ t % A ∧ t % A < A ∧ t % A ≤ t := ⟨Int.emod_nonneg _ (by omega), Int.emod_lt_of_pos _ (by omega), by
  have h := Int.emod_add_mul_ediv t A
  have := Int.mul_nonneg (show (0 : Int) ≤ A by omega) (Int.ediv_nonneg ht (show (0 : Int) ≤ A by omega))
  omega⟩
theorem round_back {A t : Int} (h1 : 1 ≤ A) : (t - t % A) / A = t / A := by
  have h : t - t % A = A * (t / A) := by have := Int.emod_add_mul_ediv t A; omega
  rw [h]
  exact Int.mul_ediv_cancel_left _ (by omega)
theorem quo_in {A t : Int} (h1 : 1 ≤ A) (ht : 0 ≤ t) (hm : t ≤ 9223372036854775807) : wrap64 (t.tdiv A) = t / A := by
  rw [Int.tdiv_eq_ediv_of_nonneg ht]
  have h2 := Int.ediv_nonneg ht (show (0 : Int) ≤ A by omega)
  have h3 := Int.ediv_le_self A ht
  unfold wrap64
  omega
theorem next_own {A T who : Int} (h1 : 1 ≤ A) (h2 : A ≤ 7) (_hT : 0 ≤ T) (h0 : 0 ≤ who) (h3 : who < A) : 0 ≤ (who - T % A + A) % A ∧ (who - T % A + A) % A < A ∧ (T + (who - T % A + A) % A) % A = who ∧ ∀ x, T ≤ x → x ≤ T + (who - T % A + A) % A → x % A = who → x = T + (who - T % A + A) % A := by
  rcases seven h1 h2 with rfl | rfl | rfl | rfl | rfl | rfl | rfl <;> refine ⟨by omega, by omega, by omega, fun x hx1 hx2 hx3 => by omega⟩
set_option maxHeartbeats 1000000 in
theorem Owner_calls {w : World} (p : Pl) (h : p.fine) (t : Int) : Calls Tryd.prog 44 #[.agg p.cells.toArray, .int .i64 t] w fun e w' => e = .returned (.int .i64 (ownOf p t)) ∧ Below w.heap.size w w' := by
  have hc := fun w : World => round_calls (w := w) p h
  obtain ⟨L, hL⟩ : ∃ L, L = ownOf p t := ⟨_, rfl⟩
  rw [← hL]
  obtain ⟨a, c, d⟩ := p
  obtain ⟨h1, h2, -⟩ := h
  unfold ownOf tickOf at hL
  simp only [Pl.cells, Pl.parts, Pl.window, Pl.delay] at h1 h2 hL hc ⊢
  have Hc := Lib.hid hc; clear hc
  have hA : 1 ≤ a + 1 := by omega
  generalize a + 1 = A at Hc hL hA
  clear h1 h2
  have i0 : ¬ (A = 0) := by omega
  have i1 : (A == 0) = false := by simpa using i0
  have b0 := ((Below.refl w.heap.size w).alloc (Nat.le_refl _) (.cells #[.int .i64 a, .int .i64 c, .int .i64 d] 28))
  have Hb0 := Lib.hid b0; clear b0
  by_cases ht : t < 0
  · rw [if_pos ht] at hL
    have HL := Lib.hid hL; clear hL
    go_enter Tryd.func44, Tryd.ntmps44
    go_wp2_with fail
    refine (Hc.out _).mono ?_
    rintro e w1 ⟨rfl, b1⟩
    have bb := Hb0.out.trans (b1.mono Hb0.out.size)
    clear b1 Hb0
    have Hb := Lib.hid bb; clear bb
    go_wp2
    go_ret
    refine ⟨?_, Hb.out⟩
    rw [HL.out]
    rw [Int.zero_emod]; rfl
  · rw [if_neg ht] at hL
    have HL := Lib.hid hL; clear hL
    have i2 : 0 ≤ t := by omega
    go_enter Tryd.func44, Tryd.ntmps44
    go_wp2_with fail
    refine (Hc.out _).mono ?_
    rintro e w1 ⟨rfl, b1⟩
    have bb := Hb0.out.trans (b1.mono Hb0.out.size)
    clear b1 Hb0
    have Hb := Lib.hid bb; clear bb
    go_wp2
    go_ret
    refine ⟨?_, Hb.out⟩
    rw [HL.out]
    rfl
set_option maxHeartbeats 1000000 in
theorem ROwner_calls {w : World} (p : Pl) (h : p.fine) (t : Int) : Calls Tryd.prog 54 #[.agg p.cells.toArray, .int .i64 t] w fun e w' => e = .returned (.int .i64 (ownOf p t)) ∧ Below w.heap.size w w' := by
  obtain ⟨L, hL⟩ : ∃ L, L = ownOf p t := ⟨_, rfl⟩
  rw [← hL]
  obtain ⟨a, c, d⟩ := p
  obtain ⟨h1, h2, -⟩ := h
  unfold ownOf tickOf at hL
  simp only [Pl.cells, Pl.parts, Pl.window, Pl.delay] at h1 h2 hL ⊢
  have b0 := ((Below.refl w.heap.size w).alloc (Nat.le_refl _) (.cells #[.int .i64 a, .int .i64 c, .int .i64 d] 103))
  have Hb0 := Lib.hid b0; clear b0
  by_cases ht : t < 0
  · rw [if_pos ht] at hL
    have HL := Lib.hid hL; clear hL
    go_enter Tryd.func54, Tryd.ntmps54
    go_wp2
    go_ret
    refine ⟨?_, Hb0.out⟩
    rw [HL.out, Int.zero_emod]; rfl
  · rw [if_neg ht] at hL
    have HL := Lib.hid hL; clear hL
    have i2 : 0 ≤ t := by omega
    have i0 : ¬ (a + 1 = 0) := by omega
    have i3 : 0 ≤ a + 1 := by omega
    go_enter Tryd.func54, Tryd.ntmps54
    go_wp2
    go_ret
    refine ⟨?_, Hb0.out⟩
    rw [HL.out]; rfl
end Go.Proofs.YtclgakdfeeefiaaDoor
