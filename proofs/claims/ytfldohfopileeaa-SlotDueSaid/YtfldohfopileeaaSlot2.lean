/- Timers: their order, the binary search. -/
import Derived.Test.YtfldohfopileeaaSlot1
namespace Go.Proofs.Ytfldohfopileeaa
open Go.RowKit

theorem isNaN_calls {w : World} (u : Int) : Calls Try.prog 44 #[.int .i64 u] w fun e w' => e = .returned (.bool false) ∧ w' = w := by
  have h : (u != u) = false := by simp
  go_enter Try.func44, Try.ntmps44
  go_wp2
  go_ret
  exact ⟨rfl, rfl⟩
def cmpI (a b : Int) : Int := if a < b then -1 else if b < a then 1 else 0
theorem Compare_calls {w : World} (a b : Int) : Calls Try.prog 40 #[.int .i64 a, .int .i64 b] w fun e w' => e = .returned (.int .i64 (cmpI a b)) ∧ w' = w := by
  obtain ⟨R, hR⟩ : ∃ R, R = cmpI a b := ⟨_, rfl⟩
  rw [← hR]
  have hd : (decide (a < b) = true ∧ R = -1) ∨ (decide (a < b) = false ∧ decide (b < a) = true ∧ R = 1) ∨ (decide (a < b) = false ∧ decide (b < a) = false ∧ R = 0) := by
    rw [hR]
    unfold cmpI
    by_cases h1 : a < b
    · rw [if_pos h1]; exact .inl ⟨decide_eq_true h1, rfl⟩
    · rw [if_neg h1]
      by_cases h2 : b < a
      · rw [if_pos h2]; exact .inr (.inl ⟨decide_eq_false h1, decide_eq_true h2, rfl⟩)
      · rw [if_neg h2]; exact .inr (.inr ⟨decide_eq_false h1, decide_eq_false h2, rfl⟩)
  clear hR
  rcases hd with ⟨d1, rfl⟩ | ⟨d1, d2, rfl⟩ | ⟨d1, d2, rfl⟩
  all_goals
    go_enter Try.func40, Try.ntmps40
    go_wp2_with fail
    refine (isNaN_calls a).mono ?_
    rintro e w1 ⟨rfl, rfl⟩
    go_wp2_with fail
    refine (isNaN_calls b).mono ?_
    rintro e w1 ⟨rfl, rfl⟩
    go_wp2
    go_ret
    exact ⟨rfl, rfl⟩
def orI (x y : Int) : Int := if x = 0 then y else x
theorem Or_calls {w : World} {g c : Nat} {x y : Int} (_hc : 2 ≤ c) (h0 : w.cell? ⟨g, 0, none⟩ = some (.int .i64 x)) (h1 : w.cell? ⟨g, 1, none⟩ = some (.int .i64 y)) :
    Calls Try.prog 39 #[.slice (some ⟨g, 0, none⟩) 2 c] w fun e w' => e = .returned (.int .i64 (orI x y)) ∧ w' = w := by
  obtain ⟨R, hR⟩ : ∃ R, R = orI x y := ⟨_, rfl⟩
  rw [← hR]
  have hd : ((x != 0) = true ∧ R = x) ∨ (x = 0 ∧ (y != 0) = true ∧ R = y) ∨ (x = 0 ∧ y = 0 ∧ R = 0) := by
    rw [hR]
    unfold orI
    by_cases hx : x = 0
    · rw [if_pos hx]
      by_cases hy : y = 0
      · exact .inr (.inr ⟨hx, hy, hy⟩)
      · exact .inr (.inl ⟨hx, by simpa using hy, rfl⟩)
    · rw [if_neg hx]; exact .inl ⟨by simpa using hx, rfl⟩
  clear hR
  go_enter Try.func39, Try.ntmps39
  go_wp2_with fail
  go_loopw [8] (fun u wr => wr = w ∧ (u = .int .i64 0 ∨ (u = .int .i64 1 ∧ x = 0) ∨ (u = .int .i64 2 ∧ x = 0 ∧ y = 0))) (fun u _ => 2 - (intOf u).toNat)
  case atStart => exact ⟨rfl, .inl rfl⟩
  case round =>
    obtain ⟨rfl, rfl | ⟨rfl, rfl⟩ | ⟨rfl, rfl, rfl⟩⟩ := hrel
    · rcases hd with ⟨d1, rfl⟩ | ⟨rfl, d1, rfl⟩ | ⟨rfl, rfl, rfl⟩
      · go_wp2
        go_ret
        exact ⟨rfl, rfl⟩
      all_goals
        go_wp2_with fail
        go_roundw
        case rel => simp
        case measure => decide
    · rcases hd with ⟨d1, rfl⟩ | ⟨-, d1, rfl⟩ | ⟨-, rfl, rfl⟩
      · simp at d1
      · go_wp2
        go_ret
        exact ⟨rfl, rfl⟩
      · go_wp2_with fail
        go_roundw
        case rel => simp
        case measure => decide
    · rcases hd with ⟨d1, rfl⟩ | ⟨-, d1, rfl⟩ | ⟨-, -, rfl⟩
      · simp at d1
      · simp at d1
      · go_wp2
        go_ret
        exact ⟨rfl, rfl⟩
def ordT (a b : Tm) : Int := orI (cmpI a.1 b.1) (cmpI a.2 b.2)
set_option maxHeartbeats 1000000 in
theorem order_calls {w : World} (a b : Tm) : Calls Try.prog 35 #[.agg #[.int .i64 a.1, .int .i64 a.2], .agg #[.int .i64 b.1, .int .i64 b.2]] w fun e w' => e = .returned (.int .i64 (ordT a b)) ∧ Below w.heap.size w w' := by
  obtain ⟨R, hR⟩ : ∃ R, R = ordT a b := ⟨_, rfl⟩
  rw [← hR]
  unfold ordT at hR
  obtain ⟨a1, a2⟩ := a
  obtain ⟨b1, b2⟩ := b
  simp only at hR ⊢
  have c1 := fun w : World => Compare_calls (w := w) a1 b1
  have c2 := fun w : World => Compare_calls (w := w) a2 b2
  generalize cmpI a1 b1 = x at *
  generalize cmpI a2 b2 = y at *
  obtain ⟨o1, ho1⟩ : ∃ o, o = w.alloc (.cells #[.int .i64 a1, .int .i64 a2] tE) := ⟨_, rfl⟩
  have hx1 : o1.heap[w.heap.size]? = some (.cells #[.int .i64 a1, .int .i64 a2] tE (0, 0)) := by rw [ho1]; exact heap_alloc_new w _
  have s1 : o1.heap.size = w.heap.size + 1 := by rw [ho1, World.size_alloc]
  obtain ⟨o2, ho2⟩ : ∃ o, o = o1.alloc (.cells #[.int .i64 b1, .int .i64 b2] tE) := ⟨_, rfl⟩
  have hx2 : o2.heap[w.heap.size + 1]? = some (.cells #[.int .i64 b1, .int .i64 b2] tE (0, 0)) := by rw [← s1, ho2]; exact heap_alloc_new o1 _
  have hb1 : Below w.heap.size w o1 := by rw [ho1]; exact (Below.refl _ _).alloc (Nat.le_refl _) _
  have hb2 : Below o1.heap.size o1 o2 := by rw [ho2]; exact (Below.refl _ _).alloc (Nat.le_refl _) _
  have hx3 : o2.heap[w.heap.size]? = some (.cells #[.int .i64 a1, .int .i64 a2] tE (0, 0)) := (hb2.block _ (by omega)).trans hx1
  have hb := hb1.trans (hb2.mono hb1.size)
  clear hx1 hb1 hb2 s1
  have Hb := Lib.hid hb; clear hb
  have X1 := Lib.hid hx3; clear hx3
  have X2 := Lib.hid hx2; clear hx2
  have C1 := Lib.hid c1; clear c1
  have C2 := Lib.hid c2; clear c2
  have HR := Lib.hid hR; clear hR
  go_enter Try.func35, Try.ntmps35
  go_wp2_with fail
  rw [← ho1, ← ho2]
  clear ho1 ho2
  have s0 := below_drew o2
  refine wp_region_phases (fun w' : World => Below o2.heap.size o2 w') 17 [([0, 1, 2, 3, 5, 6, 7, 8], [[4], [9], [10], [11], [12]])] (by kernel_rfl) (by kernel_rfl) rfl (by kernel_rfl) (fun _ _ _ h => by obtain ⟨_, h, _⟩ := h; cases h) s0 ?_
  generalize o2.drew = wd at s0 ⊢
  have Hs0 := Lib.hid s0; clear s0
  refine ph_more rfl ?_
  apply Exists.intro
  apply And.intro
  · intro w' s
    have x1 := (s.block _ (Array.getElem?_eq_some_iff.1 X1.out).1).trans X1.out
    have x2 := (s.block _ (Array.getElem?_eq_some_iff.1 X2.out).1).trans X2.out
    have y0 := cells_at x1 0
    have y1 := cells_at x1 1
    have y2 := cells_at x2 0
    have y3 := cells_at x2 1
    clear s x1 x2
    simp only [List.map_cons, List.map_nil, List.getD_cons_zero, List.getD_cons_succ]
    go_wp2_with fail
    exact pre_end
  simp only [List.map_cons, List.map_nil, List.getD_cons_zero, List.getD_cons_succ]
  refine segsK_more ?_
  go_wp2_with fail
  refine (C1.out _).mono ?_
  rintro e we ⟨rfl, rfl⟩
  go_wp2_with fail
  refine seg_end Hs0.out (segsK_more ?_)
  go_wp2_with fail
  refine (C2.out _).mono ?_
  rintro e we ⟨rfl, rfl⟩
  go_wp2_with fail
  refine seg_end Hs0.out (segsK_more ?_)
  have sn := Hs0.out.alloc Hs0.out.size (.cells #[.int .i64 x, .int .i64 y] 3)
  have Hsn := Lib.hid sn; clear sn
  have z := heap_alloc_new we (.cells #[.int .i64 x, .int .i64 y] 3)
  have Z := Lib.hid z; clear z
  go_wp2_with fail
  generalize we.heap.size = gz at *
  generalize we.alloc (.cells #[.int .i64 x, .int .i64 y] 3) = wf at *
  refine seg_end Hsn.out (segsK_more ?_)
  go_wp2_with fail
  refine (Or_calls (Nat.le_refl _) (cells_at Z.out 0) (cells_at Z.out 1)).mono ?_
  rintro e we ⟨rfl, rfl⟩
  go_wp2_with fail
  refine seg_end Hsn.out (segsK_more ?_)
  go_wp2_with fail
  refine seg_end Hsn.out (segsK_end (ph_end ?_))
  go_wp2
  go_ret
  rw [HR.out]
  exact ⟨rfl, Hb.out.trans (Hsn.out.mono Hb.out.size)⟩
end Go.Proofs.Ytfldohfopileeaa
