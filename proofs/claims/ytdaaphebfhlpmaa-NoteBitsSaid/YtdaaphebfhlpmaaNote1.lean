/- note's widths, Up, Word; cmp.Compare. -/
import Derived.Test.YtdaaphebfhlpmaaNoteP
import Derived.Test.YtdaaphebfhlpmaaForkN
namespace Go.Proofs.Ytdaaphebfhlpmaa
open Go.RowKit

theorem ints_alloc {w : World} {k : IntKind} {E : TypeId} {C : Array Value} (zs : List Int) (hC : C = (zs.map (Value.int k)).toArray) {n : Nat} (hn : zs.length = n) (hm : n ≤ 1000) (hf : ∀ z ∈ zs, (Lit.int k z).wf = true) :
    Ints (w.alloc (.cells C E)) k (some ⟨w.heap.size, 0, none⟩) n n zs := by
  subst hC hn
  have hc := heap_alloc_new w (.cells (zs.map (Value.int k)).toArray E)
  refine Ints.of rfl (Nat.le_refl _) (by omega) hf fun j hj => ?_
  rw [Nat.zero_add, cells_at hc j]
  simp only [List.getElem?_toArray, List.getElem?_map, List.getD_eq_getElem?_getD]
  rw [List.getElem?_eq_getElem hj]
  rfl
theorem widths_calls {w : World} : Calls Try.prog 26 #[] w fun e w' => e = .returned (.slice (some ⟨w.heap.size, 0, none⟩) 4 4) ∧ Ints w' .i64 (some ⟨w.heap.size, 0, none⟩) 4 4 wid ∧ Below w.heap.size w w' := by
  have hi : Ints (w.alloc (.cells #[.int .i64 3, .int .i64 3, .int .i64 2, .int .i64 21] 3)) .i64 (some ⟨w.heap.size, 0, none⟩) 4 4 wid := ints_alloc wid rfl rfl (by decide) (by decide)
  have hb : Below w.heap.size w (w.alloc (.cells #[.int .i64 3, .int .i64 3, .int .i64 2, .int .i64 21] 3)) := (Below.refl _ _).alloc (Nat.le_refl _) _
  have Hi := Lib.hid hi; clear hi
  have Hb := Lib.hid hb; clear hb
  go_enter Try.func26, Try.ntmps26
  go_wp2
  go_ret
  exact ⟨rfl, Hi.out, Hb.out⟩
theorem Up_calls {w : World} (m : Msg) : Calls Try.prog 21 #[.agg m.cells.toArray] w fun e w' => e = .returned (.bool (upOf m)) ∧ Below w.heap.size w w' := by
  obtain ⟨k, p, t, x⟩ := m
  obtain ⟨R, hR⟩ : ∃ R, R = upOf (k, p, t, x) := ⟨_, rfl⟩
  rw [← hR]
  have hd : (decide (1 ≤ k) = false ∧ R = false) ∨ (decide (1 ≤ k) = true ∧ decide (k ≤ 3) = R) := by
    rw [hR]
    unfold upOf
    simp only [Msg.kind]
    by_cases h : 1 ≤ k
    · exact .inr ⟨decide_eq_true h, by congr 1; exact propext ⟨fun q => ⟨h, q⟩, fun q => q.2⟩⟩
    · exact .inl ⟨decide_eq_false h, decide_eq_false fun q => h q.1⟩
  clear hR
  simp only [Msg.cells, Msg.kind, Msg.part, Msg.tx, Msg.what]
  have b1 := (Below.refl w.heap.size w).alloc (Nat.le_refl _) (.cells #[.int .i64 k, .int .i64 p, .int .i64 t, .int .i64 x] 23)
  have Hb1 := Lib.hid b1; clear b1
  rcases hd with ⟨d1, rfl⟩ | ⟨d1, d2⟩
  all_goals
    go_enter Try.func21, Try.ntmps21
    go_wp2
    go_ret
    exact ⟨rfl, Hb1.out⟩
theorem isNaN_calls {w : World} (u : Int) : Calls Try.prog 49 #[.int .u64 u] w fun e w' => e = .returned (.bool false) ∧ w' = w := by
  have h : (u != u) = false := by simp
  go_enter Try.func49, Try.ntmps49
  go_wp2
  go_ret
  exact ⟨rfl, rfl⟩
def cmpN (a b : Nat) : Int := if a < b then -1 else if b < a then 1 else 0
theorem Compare_calls {w : World} (a b : Nat) : Calls Try.prog 36 #[.int .u64 a, .int .u64 b] w fun e w' => e = .returned (.int .i64 (cmpN a b)) ∧ w' = w := by
  obtain ⟨R, hR⟩ : ∃ R, R = cmpN a b := ⟨_, rfl⟩
  rw [← hR]
  have hd : (decide ((a : Int) < (b : Int)) = true ∧ R = -1) ∨ (decide ((a : Int) < (b : Int)) = false ∧ decide ((b : Int) < (a : Int)) = true ∧ R = 1) ∨ (decide ((a : Int) < (b : Int)) = false ∧ decide ((b : Int) < (a : Int)) = false ∧ R = 0) := by
    rw [hR]
    unfold cmpN
    by_cases h1 : a < b
    · rw [if_pos h1]; exact .inl ⟨decide_eq_true (by omega), rfl⟩
    · rw [if_neg h1]
      by_cases h2 : b < a
      · rw [if_pos h2]; exact .inr (.inl ⟨decide_eq_false (by omega), decide_eq_true (by omega), rfl⟩)
      · rw [if_neg h2]; exact .inr (.inr ⟨decide_eq_false (by omega), decide_eq_false (by omega), rfl⟩)
  clear hR
  obtain ⟨A, hA⟩ : ∃ A : Int, A = (a : Int) := ⟨_, rfl⟩
  obtain ⟨B, hB⟩ : ∃ B : Int, B = (b : Int) := ⟨_, rfl⟩
  rw [← hA, ← hB] at hd ⊢
  clear hA hB
  rcases hd with ⟨d1, rfl⟩ | ⟨d1, d2, rfl⟩ | ⟨d1, d2, rfl⟩
  all_goals
    go_enter Try.func36, Try.ntmps36
    go_wp2_with fail
    refine (isNaN_calls A).mono ?_
    rintro e w1 ⟨rfl, rfl⟩
    go_wp2_with fail
    refine (isNaN_calls B).mono ?_
    rintro e w1 ⟨rfl, rfl⟩
    go_wp2
    go_ret
    exact ⟨rfl, rfl⟩
set_option maxHeartbeats 2000000 in
theorem Word_calls {w : World} (m : Msg) : Calls Try.prog 9 #[.agg m.cells.toArray] w fun e w' => e = .returned (.tuple #[.int .u64 (noteW m : Nat), .bool (rightOf m)]) ∧ Below w.heap.size w w' := by
  have hri := fun w : World => Right_calls (w := w) m
  unfold noteW
  obtain ⟨w1, hw1⟩ : ∃ w1, w1 = w.alloc (.cells m.cells.toArray 23) := ⟨_, rfl⟩
  have hx : w1.heap[w.heap.size]? = some (.cells m.cells.toArray 23) := by rw [hw1]; exact heap_alloc_new w _
  have hb : Below w.heap.size w w1 := by rw [hw1]; exact (Below.refl _ _).alloc (Nat.le_refl _) _
  cases hr : rightOf m with
  | false =>
    rw [hr] at hri
    rw [if_neg (by decide)]
    obtain ⟨k, p, t, x⟩ := m
    simp only [Msg.cells, Msg.kind, Msg.part, Msg.tx, Msg.what] at hri hx hw1 ⊢
    have Hri := Lib.hid hri; clear hri hr
    have Hb := Lib.hid hb; clear hb hx
    go_enter Try.func9, Try.ntmps9
    go_wp2_with fail
    rw [← hw1]
    refine (Hri.out w1).mono ?_
    rintro e w2 ⟨rfl, b2⟩
    have hb := Hb.out.trans (b2.mono Hb.out.size)
    clear Hb b2
    have Hb := Lib.hid hb; clear hb
    go_wp2
    go_ret2
    exact ⟨rfl, Hb.out⟩
  | true =>
    have hpk := note_pack hr
    have hbd := right_bounds hr
    rw [hr] at hri
    rw [if_pos rfl]
    generalize wordN m = U at hpk ⊢
    obtain ⟨k, p, t, x⟩ := m
    simp only [Msg.cells, Msg.kind, Msg.part, Msg.tx, Msg.what] at hri hx hw1 hpk hbd ⊢
    have hfit : ∀ z ∈ [k, p, x, t], (Lit.int .i64 z).wf = true := fun z hz => by
      simp only [List.mem_cons, List.not_mem_nil, or_false] at hz
      exact WalkArith.wf_i64 (by rcases hz with rfl | rfl | rfl | rfl <;> omega)
    clear hbd
    have Hri := Lib.hid hri; clear hri hr
    have Hpk := Lib.hid hpk; clear hpk
    have Hfit := Lib.hid hfit; clear hfit
    have Hb := Lib.hid hb; clear hb
    have Hx := Lib.hid hx; clear hx
    go_enter Try.func9, Try.ntmps9
    go_wp2_with fail
    rw [← hw1]
    refine (Hri.out w1).mono ?_
    rintro e w2 ⟨rfl, b2⟩
    have hb := Hb.out.trans (b2.mono Hb.out.size)
    have hx2 := (b2.block _ (Array.getElem?_eq_some_iff.1 Hx.out).1).trans Hx.out
    clear Hb b2 Hx hw1
    have Hb := Lib.hid hb; clear hb
    have Hx := Lib.hid hx2; clear hx2
    go_wp2_with fail
    have s0 := below_drew w2
    refine wp_region_forkN (fun w' : World => Below w2.heap.size w2 w') [1, 2, 3, 4, 5, 6, 7, 8] 6 [(0, [[9], [10], [11, 12, 13, 14]]), (9, [[0], [10], [11, 12, 13, 14]])] (by kernel_rfl) (by kernel_rfl) rfl (by kernel_rfl) (fun _ _ _ h => by obtain ⟨_, h, _⟩ := h; cases h) (fun _ _ h => by obtain ⟨h, _⟩ := h; cases h) s0 (by kernel_rfl) ?_
    generalize w2.drew = wd at s0 ⊢
    apply Exists.intro
    apply And.intro
    · intro w' s
      have xg := (s.block _ (Array.getElem?_eq_some_iff.1 Hx.out).1).trans Hx.out
      have y0 := cells_at xg 0
      have y1 := cells_at xg 1
      have y2 := cells_at xg 2
      have y3 := cells_at xg 3
      clear s xg
      simp only [List.map_cons, List.map_nil, List.getD_cons_zero, List.getD_cons_succ]
      go_wp2_with fail
      exact pre_end
    have Hs0 := Lib.hid s0; clear s0
    intro br hbr
    simp only [List.mem_cons, List.not_mem_nil, or_false] at hbr
    rcases hbr with rfl | rfl
    · simp only [List.map_cons, List.map_nil, List.getD_cons_zero, List.getD_cons_succ]
      go_wp2_with fail
      refine widths_calls.mono ?_
      rintro e w3 ⟨rfl, i3, b3⟩
      have s3 := Hs0.out.trans (b3.mono Hs0.out.size)
      have b4 := (Below.refl w3.heap.size w3).alloc (Nat.le_refl _) (.cells #[.int .i64 k, .int .i64 p, .int .i64 x, .int .i64 t] 3)
      have i4 := i3.keep b4
      have j4 : Ints (w3.alloc (.cells #[.int .i64 k, .int .i64 p, .int .i64 x, .int .i64 t] 3)) .i64 (some ⟨w3.heap.size, 0, none⟩) 4 4 [k, p, x, t] := ints_alloc [k, p, x, t] rfl rfl (by decide) Hfit.out
      have hp := Pack_calls i4 j4 (by decide) (by decide)
      rw [Hpk.out] at hp
      have s4 := s3.trans (b4.mono s3.size)
      have Hp := Lib.hid hp; clear hp i4 j4 i3 b4 b3 Hs0
      have Hs4 := Lib.hid s4; clear s4
      go_wp2_with fail
      refine seg_end s3 (segs_more ?_)
      clear s3
      go_wp2_with fail
      refine seg_end Hs4.out (segs_more ?_)
      go_wp2_with fail
      refine Hp.out.mono ?_
      rintro e w5 ⟨rfl, b5⟩
      have s5 := Hs4.out.trans (b5.mono Hs4.out.size)
      clear Hs4 b5 Hp
      go_wp2_with fail
      refine seg_end s5 (segs_last ?_)
      have hbz := Hb.out.trans (s5.mono Hb.out.size)
      clear s5 Hb
      have Hbz := Lib.hid hbz; clear hbz
      go_wp2
      go_ret2
      exact ⟨rfl, Hbz.out⟩
    · simp only [List.map_cons, List.map_nil, List.getD_cons_zero, List.getD_cons_succ]
      have b4 := (Below.refl wd.heap.size wd).alloc (Nat.le_refl _) (.cells #[.int .i64 k, .int .i64 p, .int .i64 x, .int .i64 t] 3)
      have j4 : Ints (wd.alloc (.cells #[.int .i64 k, .int .i64 p, .int .i64 x, .int .i64 t] 3)) .i64 (some ⟨wd.heap.size, 0, none⟩) 4 4 [k, p, x, t] := ints_alloc [k, p, x, t] rfl rfl (by decide) Hfit.out
      have s4 := Hs0.out.trans (b4.mono Hs0.out.size)
      obtain ⟨w3, hw3⟩ : ∃ w3, w3 = wd.alloc (.cells #[.int .i64 k, .int .i64 p, .int .i64 x, .int .i64 t] 3) := ⟨_, rfl⟩
      rw [← hw3] at j4 s4
      clear b4 Hs0
      have Hs4 := Lib.hid s4; clear s4
      have J4 := Lib.hid j4; clear j4
      go_wp2_with fail
      rw [← hw3]
      clear hw3
      refine seg_end Hs4.out (segs_more ?_)
      go_wp2_with fail
      refine widths_calls.mono ?_
      rintro e w4 ⟨rfl, i4, b4⟩
      have hp := Pack_calls i4 (J4.out.keep b4) (by decide) (by decide)
      rw [Hpk.out] at hp
      have s5 := Hs4.out.trans (b4.mono Hs4.out.size)
      have Hp := Lib.hid hp; clear hp i4 b4 J4 Hs4
      have Hs5 := Lib.hid s5; clear s5
      go_wp2_with fail
      refine seg_end Hs5.out (segs_more ?_)
      go_wp2_with fail
      refine Hp.out.mono ?_
      rintro e w5 ⟨rfl, b5⟩
      have s5 := Hs5.out.trans (b5.mono Hs5.out.size)
      clear Hs5 b5 Hp
      go_wp2_with fail
      refine seg_end s5 (segs_last ?_)
      have hbz := Hb.out.trans (s5.mono Hb.out.size)
      clear s5 Hb
      have Hbz := Lib.hid hbz; clear hbz
      go_wp2
      go_ret2
      exact ⟨rfl, Hbz.out⟩
end Go.Proofs.Ytdaaphebfhlpmaa
