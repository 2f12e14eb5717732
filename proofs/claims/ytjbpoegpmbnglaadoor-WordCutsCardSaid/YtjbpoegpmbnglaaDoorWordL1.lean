/- The law WordCuts. -/
import Derived.Test.YtjbpoegpmbnglaaDoorWord6
namespace Go.Proofs.YtjbpoegpmbnglaaDoor
open Go.RowKit

theorem bmod_bmod {n : Int} {a b : Nat} (h : a ≤ b) : Int.bmod (Int.bmod n (2 ^ b)) (2 ^ a) = Int.bmod n (2 ^ a) := by
  have := Int.bmod_bmod_of_dvd (a := n) (n := 2 ^ a) (m := 2 ^ b) (Nat.pow_dvd_pow 2 h)
  exact_mod_cast this
theorem cut_cut {n k f : Int} (hk : 1 ≤ k ∧ k ≤ 64) (hf : 1 ≤ f) (hfk : f ≤ k) : cutS (cutS n k) f = cutS n f := by
  unfold cutS
  rw [if_pos hk, if_pos ⟨hf, by omega⟩, if_pos ⟨hf, by omega⟩]
  exact bmod_bmod (by omega)
theorem fits_cut {n k : Int} (hk : 1 ≤ k ∧ k ≤ 64) : fitsS (cutS n k) k = true := by
  rw [fits_eq, decide_eq_true hk, Bool.true_and]
  exact decide_eq_true (cut_cut hk hk.1 (Int.le_refl _))
set_option maxHeartbeats 1000000 in
theorem lawWordCuts {w : World} {n k f : Int} (hT : TabOk w) (_h1 : (Lit.int .i64 n).wf = true) (_h2 : (Lit.int .i64 k).wf = true) (_h3 : (Lit.int .i64 f).wf = true) :
    Calls Tryd.prog 5 #[.int .i64 n, .int .i64 k, .int .i64 f] w fun e w' => e = .returned (.bool true) ∧ Below w.heap.size w w' := by
  clear _h1 _h2 _h3
  have ha := alive_calls hT
  have c1 := fun w : World => Cut_calls (w := w) n k
  have c2 := fun w : World => Fits_calls (w := w) n k
  have hA := Lib.hid ha; clear ha hT
  by_cases hk : 1 ≤ k ∧ k ≤ 64
  · have c3 := fun w : World => Fits_calls (w := w) (cutS n k) k
    have c4 := fun w : World => Cut_calls (w := w) (cutS n k) k
    have hfits : fitsS n k = decide (cutS n k = n) := by rw [fits_eq, decide_eq_true hk, Bool.true_and]
    rw [fits_cut hk] at c3
    rw [cut_cut hk hk.1 (Int.le_refl _)] at c4
    rw [hfits] at c2
    have hc5 := fun (hf : 1 ≤ f) (hfk : f ≤ k) (w : World) => (cut_cut (n := n) hk hf hfk) ▸ Cut_calls (w := w) (cutS n k) f
    have c6 := fun w : World => Cut_calls (w := w) n f
    generalize cutS n k = C at *
    have d1 : decide (k < 1) = false := decide_eq_false (by omega)
    have d2 : decide (64 < k) = false := decide_eq_false (by omega)
    have d3 : (C != C) = false := by simp
    have hdE : decide (C = n) = (C == n) := by by_cases h : C = n <;> simp [h]
    rw [hdE] at c2
    clear hdE
    obtain ⟨E, hE⟩ : ∃ E, (C == n) = E := ⟨_, rfl⟩
    rw [hE] at c2
    have d4 : (E != E) = false := by simp
    have C1 := Lib.hid c1; clear c1
    have C2 := Lib.hid c2; clear c2 hfits
    have C3 := Lib.hid c3; clear c3
    have C4 := Lib.hid c4; clear c4
    go_enter Tryd.func5, Tryd.ntmps5
    go_wp2_with fail
    refine hA.out.mono ?_
    rintro e w1 ⟨rfl, b1⟩
    have hB := Lib.hid b1; clear b1
    go_wp2_with fail
    refine (C1.out _).mono ?_
    rintro e w2 ⟨rfl, rfl⟩
    go_wp2_with fail
    refine (C3.out _).mono ?_
    rintro e w2 ⟨rfl, rfl⟩
    go_wp2_with fail
    refine (C4.out _).mono ?_
    rintro e w2 ⟨rfl, rfl⟩
    go_wp2_with fail
    refine (C2.out _).mono ?_
    rintro e w2 ⟨rfl, rfl⟩
    by_cases hf : 1 ≤ f
    · have d5 : decide (f < 1) = false := decide_eq_false (by omega)
      by_cases hfk : f ≤ k
      · have d6 : decide (k < f) = false := decide_eq_false (by omega)
        have c5 := hc5 hf hfk
        clear hc5 hk hf hfk
        generalize cutS n f = D at *
        have d7 : (D == D) = true := by simp
        have C5 := Lib.hid c5; clear c5
        have C6 := Lib.hid c6; clear c6
        go_wp2_with fail
        refine (C5.out _).mono ?_
        rintro e w2 ⟨rfl, rfl⟩
        go_wp2_with fail
        refine (C6.out _).mono ?_
        rintro e w2 ⟨rfl, rfl⟩
        go_wp2
        go_ret
        exact ⟨rfl, hB.out⟩
      · have d6 : decide (k < f) = true := decide_eq_true (by omega)
        clear hc5 hk hf hfk c6
        go_wp2
        go_ret
        exact ⟨rfl, hB.out⟩
    · have d5 : decide (f < 1) = true := decide_eq_true (by omega)
      clear hc5 hk hf c6
      go_wp2
      go_ret
      exact ⟨rfl, hB.out⟩
  · have e1 : cutS n k = 0 := if_neg hk
    have e2 : fitsS n k = false := decide_eq_false fun h => hk ⟨h.1, h.2.1⟩
    rw [e1] at c1
    rw [e2] at c2
    have C1 := Lib.hid c1; clear c1 e1 e2
    have C2 := Lib.hid c2; clear c2
    have hd : decide (k < 1) = true ∨ (decide (k < 1) = false ∧ decide (64 < k) = true) := by
      by_cases h : k < 1
      · exact .inl (decide_eq_true h)
      · exact .inr ⟨decide_eq_false h, decide_eq_true (by omega)⟩
    clear hk
    rcases hd with d1 | ⟨d1, d2⟩
    all_goals
      go_enter Tryd.func5, Tryd.ntmps5
      go_wp2_with fail
      refine hA.out.mono ?_
      rintro e w1 ⟨rfl, b1⟩
      have hB := Lib.hid b1; clear b1
      go_wp2_with fail
      refine (C1.out _).mono ?_
      rintro e w2 ⟨rfl, rfl⟩
      go_wp2_with fail
      refine (C2.out _).mono ?_
      rintro e w2 ⟨rfl, rfl⟩
      go_wp2
      go_ret
      exact ⟨rfl, hB.out⟩
end Go.Proofs.YtjbpoegpmbnglaaDoor
