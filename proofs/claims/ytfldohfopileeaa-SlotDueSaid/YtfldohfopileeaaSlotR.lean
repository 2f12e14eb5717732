/- Plans: Next, of the program and of the document (printed by genSlotR.py). -/
import Derived.Test.YtfldohfopileeaaSlotQ
namespace Go.Proofs.Ytfldohfopileeaa
open Go.RowKit

theorem own_tick (p : Pl) (t : Int) : ownOf p (tickOf t) = ownOf p t := by unfold ownOf; rw [tick_of (tick_low t)]
set_option maxHeartbeats 4000000 in
theorem Next_calls {w : World} (p : Pl) (h : p.fine) (t who : Int) (htm : t ≤ 4611686018427387904) : Calls Try.prog 16 #[.agg p.cells.toArray, .int .i64 t, .int .i64 who] w fun e w' => e = .returned (.int .i64 (nextOf p t who)) ∧ Below w.heap.size w w' := by
  have hc := fun w : World => round_calls (w := w) p h
  have ho := fun w : World => Owner_calls (w := w) p h (tickOf t)
  rw [own_tick] at ho
  obtain ⟨L, hL⟩ : ∃ L, L = nextOf p t who := ⟨_, rfl⟩
  rw [← hL]
  unfold nextOf ownOf at hL
  unfold ownOf at ho
  have hT0 := tick_low t
  have hTm : tickOf t ≤ 4611686018427387904 := by unfold tickOf; split <;> omega
  have hTt : (t < 0 ∧ tickOf t = 0) ∨ (0 ≤ t ∧ tickOf t = t) := by unfold tickOf; split <;> omega
  generalize tickOf t = T at *
  obtain ⟨a, c, d⟩ := p
  obtain ⟨h1, h2, -⟩ := h
  simp only [Pl.cells, Pl.parts, Pl.window, Pl.delay] at h1 h2 hL hc ho ⊢
  obtain ⟨w0, hw0⟩ : ∃ w0, w0 = w.alloc (.cells #[.int .i64 a, .int .i64 c, .int .i64 d] 24) := ⟨_, rfl⟩
  have b0 : Below w.heap.size w w0 := by rw [hw0]; exact ((Below.refl w.heap.size w).alloc (Nat.le_refl _) (.cells #[.int .i64 a, .int .i64 c, .int .i64 d] 24))
  have hx := heap_alloc_new w (.cells #[.int .i64 a, .int .i64 c, .int .i64 d] 24)
  have y0 := cells_at hx 0
  rw [← hw0] at hx
  have z0 := cell_regrown (cells_at hx 0)
  have z1 := cell_regrown (cells_at hx 1)
  have z2 := cell_regrown (cells_at hx 2)
  have Hb0 := Lib.hid b0; clear b0 hx
  have Hc := Lib.hid hc; clear hc
  have Ho := Lib.hid ho; clear ho
  by_cases hw : who < 0
  · have e : L = -1 := by rw [hL, if_pos (.inl hw)]
    subst e
    have d1 : decide (who < 0) = true := decide_eq_true hw
    clear hL hw z0 z1 z2
    go_enter Try.func16, Try.ntmps16
    go_wp2
    go_ret
    exact ⟨rfl, by rw [← hw0]; exact Hb0.out⟩
  have d1 : decide (who < 0) = false := decide_eq_false hw
  by_cases hp : a < who
  · have e : L = -1 := by rw [hL, if_pos (.inr hp)]
    subst e
    have d2 : decide (a < who) = true := decide_eq_true hp
    clear hL hp hw z0 z1 z2
    go_enter Try.func16, Try.ntmps16
    go_wp2
    go_ret
    exact ⟨rfl, by rw [← hw0]; exact Hb0.out⟩
  have d2 : decide (a < who) = false := decide_eq_false hp
  rw [if_neg (fun h => h.elim hw hp)] at hL
  obtain ⟨A, hA⟩ : ∃ A, A = a + 1 := ⟨_, rfl⟩
  rw [← hA] at hL Hc Ho
  have hA1 : 1 ≤ A := by omega
  have hA7 : A ≤ 7 := by omega
  have hO := mod_low hA1 hT0
  generalize T % A = O at *
  obtain ⟨m1, m2, -⟩ := hO
  have hD := mod_low (A := A) (t := who - O + A) hA1 (by omega)
  obtain ⟨m3, m4, -⟩ := hD
  have m5 : 0 ≤ (who - O) % A := Int.emod_nonneg _ (by omega)
  have m6 : (who - O) % A < A := Int.emod_lt_of_pos _ (by omega)
  have i0 : ¬ (A = 0) := by omega
  have i1 : (A == 0) = false := by simpa using i0
  have i2 : 0 ≤ who - O + A := by omega
  have i3 : 0 ≤ who := by omega
  have i4 : who ≤ 6 := by omega
  have HL := Lib.hid hL; clear hL hw hp hA htm
  rcases hTt with ⟨ht, rfl⟩ | ⟨ht, rfl⟩
  all_goals
    go_enter Try.func16, Try.ntmps16
    go_wp2_with fail
    rw [← hw0]
    clear y0 hw0
    refine wp_region_quiet_below (by kernel_rfl) (by kernel_rfl) ?_
    repeat (any_goals (first | go_big_quiet_step ((first | (go_at_call 31; exact Calls.regrown_of (Hc.out _)) | (go_at_call 12; exact Calls.regrown_of (Ho.out _)))) | quiet_step ((first | (go_at_call 31; exact Calls.regrown_of (Hc.out _)) | (go_at_call 12; exact Calls.regrown_of (Ho.out _))))))
    refine wpQuiet_nil ?_
    intro wq hwq
    have bk : Below w0.heap.size w0 wq := by obtain ⟨q, rfl⟩ := hwq; exact below_regrown _ _ _
    have bn := Hb0.out.trans (bk.mono Hb0.out.size)
    clear hwq bk z0 z1 z2 Hb0
    have Hb := Lib.hid bn; clear bn
    go_wp2
    go_ret
    refine ⟨?_, Hb.out⟩
    rw [HL.out]
    first | rfl | (simp; done) | (simp; unfold wrap64; omega)
set_option maxHeartbeats 4000000 in
theorem RNext_calls {w : World} (p : Pl) (h : p.fine) (t who : Int) (htm : t ≤ 4611686018427387904) : Calls Try.prog 17 #[.agg p.cells.toArray, .int .i64 t, .int .i64 who] w fun e w' => e = .returned (.int .i64 (nextOf p t who)) ∧ Below w.heap.size w w' := by
  have ho := fun (w : World) x => ROwner_calls (w := w) p h x
  obtain ⟨L, hL⟩ : ∃ L, L = nextOf p t who := ⟨_, rfl⟩
  rw [← hL]
  unfold nextOf ownOf at hL
  unfold ownOf at ho
  have hT0 := tick_low t
  have hTm : tickOf t ≤ 4611686018427387904 := by unfold tickOf; split <;> omega
  have hTt : (t < 0 ∧ tickOf t = 0) ∨ (0 ≤ t ∧ tickOf t = t) := by unfold tickOf; split <;> omega
  obtain ⟨a, c, d⟩ := p
  obtain ⟨h1, h2, -⟩ := h
  simp only [Pl.cells, Pl.parts, Pl.window, Pl.delay] at h1 h2 hL ho ⊢
  obtain ⟨w0, hw0⟩ : ∃ w0, w0 = w.alloc (.cells #[.int .i64 a, .int .i64 c, .int .i64 d] 28) := ⟨_, rfl⟩
  have b0 : Below w.heap.size w w0 := by rw [hw0]; exact ((Below.refl w.heap.size w).alloc (Nat.le_refl _) (.cells #[.int .i64 a, .int .i64 c, .int .i64 d] 28))
  have hx := heap_alloc_new w (.cells #[.int .i64 a, .int .i64 c, .int .i64 d] 28)
  have y0 := cells_at hx 0
  rw [← hw0] at hx
  have Hb0 := Lib.hid b0; clear b0
  have HX := Lib.hid hx; clear hx
  by_cases hw : who < 0
  · have e : L = -1 := by rw [hL, if_pos (.inl hw)]
    subst e
    have d1 : decide (who < 0) = true := decide_eq_true hw
    clear hL hw
    go_enter Try.func17, Try.ntmps17
    go_wp2
    go_ret
    exact ⟨rfl, by rw [← hw0]; exact Hb0.out⟩
  have d1 : decide (who < 0) = false := decide_eq_false hw
  by_cases hp : a < who
  · have e : L = -1 := by rw [hL, if_pos (.inr hp)]
    subst e
    have d2 : decide (a < who) = true := decide_eq_true hp
    clear hL hp hw
    go_enter Try.func17, Try.ntmps17
    go_wp2
    go_ret
    exact ⟨rfl, by rw [← hw0]; exact Hb0.out⟩
  have d2 : decide (a < who) = false := decide_eq_false hp
  rw [if_neg (fun h => h.elim hw hp)] at hL
  obtain ⟨A, hA⟩ : ∃ A, A = a + 1 := ⟨_, rfl⟩
  rw [← hA] at hL ho
  have hA1 : 1 ≤ A := by omega
  have hA7 : A ≤ 7 := by omega
  have hnx := next_own hA1 hA7 hT0 (who := who) (by omega) (by omega)
  rw [← hL] at hnx
  have hTL : tickOf t ≤ L := by rw [hL]; omega
  have hLm : L ≤ 4611686018427387910 := by rw [hL]; omega
  have hnx' := hnx.2.2
  clear hnx hL
  have Hnx := Lib.hid hnx'; clear hnx'
  have ho' : ∀ (w : World) x, 0 ≤ x → Calls Try.prog 13 #[.agg #[.int .i64 a, .int .i64 c, .int .i64 d], .int .i64 x] w fun e w' => e = .returned (.int .i64 (x % A)) ∧ Below w.heap.size w w' := fun w x hx => by have := ho w x; rw [tick_of hx] at this; exact this
  have Ho := Lib.hid ho'; clear ho' ho
  clear hw hp hA htm
  have HT := Lib.hid hTt
  have i5 : decide (9223372036854775000 < tickOf t) = false := decide_eq_false (by omega)
  have hTT := hTt
  generalize tickOf t = T at *
  rcases hTT with ⟨ht, rfl⟩ | ⟨ht, rfl⟩
  · go_enter Try.func17, Try.ntmps17
    go_wp2_with fail
    rw [← hw0]
    clear y0 hw0
    go_loopw [7] (fun u wr => ∃ x : Int, u = .int .i64 x ∧ 0 ≤ x ∧ x ≤ L ∧ Below w.heap.size w wr ∧ wr.heap[w.heap.size]? = some (.cells #[.int .i64 a, .int .i64 c, .int .i64 d] 28 (0, 0))) (fun u _ => (L - intOf u).toNat)
    case atStart => exact ⟨_, rfl, Int.le_refl _, hTL, Hb0.out, HX.out⟩
    case round =>
      clear Hb0 HX
      obtain ⟨x, rfl, hx1, hx2, hb, hx⟩ := hrel
      have y0 := cells_at hx 0
      have y1 := cells_at hx 1
      have y2 := cells_at hx 2
      have Hb := Lib.hid hb; clear hb
      have HX := Lib.hid hx; clear hx
      go_wp2_with fail
      refine (Ho.out _ _ (by omega)).mono ?_
      rintro e w2 ⟨rfl, b2⟩
      have bb := Hb.out.trans (b2.mono Hb.out.size)
      have hx3 := (b2.block _ (Array.getElem?_eq_some_iff.1 HX.out).1).trans HX.out
      clear b2 Hb HX y0 y1 y2
      have Hb := Lib.hid bb; clear bb
      have HX := Lib.hid hx3; clear hx3
      by_cases hxw : x % A = who
      · have e := Hnx.out.2 x hx1 hx2 hxw
        subst e
        have q : (x % A != who) = false := by simp [hxw]
        have q2 : (who != x % A) = false := by simp [hxw]
        clear hxw
        generalize x % A = M at *
        go_wp2
        go_ret
        exact ⟨rfl, Hb.out⟩
      · have hne : x ≠ L := fun e => hxw (by rw [e]; exact Hnx.out.1)
        have q : (x % A != who) = true := by simpa using hxw
        have q2 : (who != x % A) = true := by simpa using fun e => hxw e.symm
        clear hxw
        generalize x % A = M at *
        have i6 : x < L := by omega
        go_wp2_with fail
        go_roundw
        case rel => exact ⟨x + 1, by go_num, by omega, by omega, Hb.out, HX.out⟩
        case measure => simp [intOf]; omega
  · go_enter Try.func17, Try.ntmps17
    go_wp2_with fail
    rw [← hw0]
    clear y0 hw0
    go_loopw [7] (fun u wr => ∃ x : Int, u = .int .i64 x ∧ T ≤ x ∧ x ≤ L ∧ Below w.heap.size w wr ∧ wr.heap[w.heap.size]? = some (.cells #[.int .i64 a, .int .i64 c, .int .i64 d] 28 (0, 0))) (fun u _ => (L - intOf u).toNat)
    case atStart => exact ⟨_, rfl, Int.le_refl _, hTL, Hb0.out, HX.out⟩
    case round =>
      clear Hb0 HX
      obtain ⟨x, rfl, hx1, hx2, hb, hx⟩ := hrel
      have y0 := cells_at hx 0
      have y1 := cells_at hx 1
      have y2 := cells_at hx 2
      have Hb := Lib.hid hb; clear hb
      have HX := Lib.hid hx; clear hx
      go_wp2_with fail
      refine (Ho.out _ _ (by omega)).mono ?_
      rintro e w2 ⟨rfl, b2⟩
      have bb := Hb.out.trans (b2.mono Hb.out.size)
      have hx3 := (b2.block _ (Array.getElem?_eq_some_iff.1 HX.out).1).trans HX.out
      clear b2 Hb HX y0 y1 y2
      have Hb := Lib.hid bb; clear bb
      have HX := Lib.hid hx3; clear hx3
      by_cases hxw : x % A = who
      · have e := Hnx.out.2 x hx1 hx2 hxw
        subst e
        have q : (x % A != who) = false := by simp [hxw]
        have q2 : (who != x % A) = false := by simp [hxw]
        clear hxw
        generalize x % A = M at *
        go_wp2
        go_ret
        exact ⟨rfl, Hb.out⟩
      · have hne : x ≠ L := fun e => hxw (by rw [e]; exact Hnx.out.1)
        have q : (x % A != who) = true := by simpa using hxw
        have q2 : (who != x % A) = true := by simpa using fun e => hxw e.symm
        clear hxw
        generalize x % A = M at *
        have i6 : x < L := by omega
        go_wp2_with fail
        go_roundw
        case rel => exact ⟨x + 1, by go_num, by omega, by omega, Hb.out, HX.out⟩
        case measure => simp [intOf]; omega
end Go.Proofs.Ytfldohfopileeaa
