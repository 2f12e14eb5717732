/- note's Of, Encode, Decode, Order. -/
import Derived.Test.YtdaaphebfhlpmaaNote1
import Derived.Test.YtdaaphebfhlpmaaSumW3
namespace Go.Proofs.Ytdaaphebfhlpmaa
open Go.RowKit

theorem noteB_no {u : Nat} (h : ¬ u < 536870912) : noteB u = false ∧ noteO u = noMsg ∧ decide (restU wid u = 0) = false ∧ ¬ restU wid u = 0 := by
  have h1 : noteB u = false := by
    unfold noteB
    rw [decide_eq_false h]
    rfl
  have h2 : ¬ restU wid u = 0 := by rw [note_rest]; omega
  exact ⟨h1, by unfold noteO; rw [if_neg (by rw [h1]; decide)], decide_eq_false h2, h2⟩
theorem noteB_yes {u : Nat} (h : u < 536870912) : noteB u = rightOf (ofN u) ∧ (noteO u = if rightOf (ofN u) = true then ofN u else noMsg) ∧ decide (restU wid u = 0) = true ∧ restU wid u = 0 := by
  have h1 : noteB u = rightOf (ofN u) := by
    unfold noteB
    rw [decide_eq_true h]
    rfl
  have h2 : restU wid u = 0 := by rw [note_rest]; omega
  exact ⟨h1, by unfold noteO; rw [h1], decide_eq_true h2, h2⟩
set_option maxHeartbeats 2000000 in
theorem Of_calls {w : World} {u : Nat} (hu : u < 18446744073709551616) : Calls Try.prog 11 #[.int .u64 u] w fun e w' => e = .returned (.tuple #[.agg (noteO u).cells.toArray, .bool (noteB u)]) ∧ Below w.heap.size w w' := by
  obtain ⟨w1, hw1⟩ : ∃ w1, w1 = w.alloc (.cells #[.int .i64 0, .int .i64 0, .int .i64 0, .int .i64 0] 23) := ⟨_, rfl⟩
  have hx : w1.heap[w.heap.size]? = some (.cells #[.int .i64 0, .int .i64 0, .int .i64 0, .int .i64 0] 23 (0, 0)) := by rw [hw1]; exact heap_alloc_new w _
  have hb : Below w.heap.size w w1 := by rw [hw1]; exact (Below.refl _ _).alloc (Nat.le_refl _) _
  have Hx := Lib.hid hx; clear hx
  have Hb := Lib.hid hb; clear hb
  by_cases h29 : u < 536870912
  · obtain ⟨q1, q2, q3, q4⟩ := noteB_yes h29
    have hup := fun (w : World) a (hi : Ints w .i64 a 4 4 wid) => Unpack_calls hi (by decide) hu wid_right
    simp only [q3, if_pos q4, note_out h29] at hup
    rw [q1, q2]
    clear q1 q2 q3 q4
    generalize ofN u = mm at *
    have hri := fun w : World => Right_calls (w := w) mm
    generalize rightOf mm = R at *
    obtain ⟨k, p, t, x⟩ := mm
    simp only [Msg.cells, Msg.kind, Msg.part, Msg.tx, Msg.what] at hup hri ⊢
    have Hup := Lib.hid hup; clear hup
    have Hri := Lib.hid hri; clear hri
    clear h29 hu
    go_enter Try.func11, Try.ntmps11
    go_wp2_with fail
    rw [← hw1]
    refine widths_calls.mono ?_
    rintro e w2 ⟨rfl, i2, b2⟩
    have hb := Hb.out.trans (b2.mono Hb.out.size)
    have hx := (b2.block _ (Array.getElem?_eq_some_iff.1 Hx.out).1).trans Hx.out
    have hup := Hup.out w2 _ i2
    clear Hb Hx b2 i2 hw1 Hup
    have Hup := Lib.hid hup; clear hup
    have Hb := Lib.hid hb; clear hb
    have Hx := Lib.hid hx; clear hx
    go_wp2_with fail
    refine Hup.out.mono ?_
    rintro e w3 ⟨v, rfl, ov, b3⟩
    obtain ⟨va, vc, rfl, iv, -⟩ := ov.ints
    have hlen : [k, p, x, t].length = 4 := rfl
    rw [hlen] at iv ⊢
    obtain ⟨b, o, rfl, hc⟩ := iv.cell (by decide)
    have x0 := hc 0 (by decide)
    have x1 := hc 1 (by decide)
    have x2 := hc 2 (by decide)
    have x3 := hc 3 (by decide)
    have hle := iv.le
    simp only [List.getD_cons_zero, List.getD_cons_succ, Nat.add_zero] at x0 x1 x2 x3
    have hb := Hb.out.trans (b3.mono Hb.out.size)
    have hx := (b3.block _ (Array.getElem?_eq_some_iff.1 Hx.out).1).trans Hx.out
    clear Hb Hx b3 Hup iv hc ov hlen
    have Hb := Lib.hid hb; clear hb
    have Hx := Lib.hid hx; clear hx
    have Hle := Lib.hid hle; clear hle
    go_wp2_with fail
    have s0 := below_drew w3
    refine wp_region_held (fun w' : World => Below w3.heap.size w3 w') [0, 1, 2, 3, 4, 5, 6, 7, 8, 9, 10, 11, 12] [[13], [14]] (by kernel_rfl) (by kernel_rfl) rfl (by kernel_rfl) (fun _ _ _ h => by obtain ⟨_, h, _⟩ := h; cases h) (fun _ _ h => by obtain ⟨h, _⟩ := h; cases h) s0 (by kernel_rfl) ?_
    apply Exists.intro
    apply And.intro
    · intro w' s
      have x0 := (World.cell?_of_block (s.block _ (World.block_lt_of_cell? w3 _ x0))).trans x0
      have x1 := (World.cell?_of_block (s.block _ (World.block_lt_of_cell? w3 _ x1))).trans x1
      have x2 := (World.cell?_of_block (s.block _ (World.block_lt_of_cell? w3 _ x2))).trans x2
      have x3 := (World.cell?_of_block (s.block _ (World.block_lt_of_cell? w3 _ x3))).trans x3
      clear s
      simp only [List.map_cons, List.map_nil, List.getD_cons_zero, List.getD_cons_succ]
      go_wp2_with fail
      exact pre_end
    have hb := Hb.out.trans (s0.mono Hb.out.size)
    have hx := (show w3.drew.heap[w.heap.size]? = _ from Hx.out)
    clear Hb Hx
    generalize w3.drew = wd at *
    have Hs0 := Lib.hid s0; clear s0
    have Hb := Lib.hid hb; clear hb
    have Hx := Lib.hid hx; clear hx
    simp only [List.map_cons, List.map_nil, List.getD_cons_zero, List.getD_cons_succ]
    refine segs_more ?_
    go_wp2_with fail
    refine seg_end (Hs0.out.alloc Hs0.out.size _) (segs_last ?_)
    clear Hs0
    go_wp2_with (with_reducible refine stop_store 23 ?_)
    refine unpark ?_
    obtain ⟨wa, hwa⟩ : ∃ wa, wa = wd.alloc (.cells #[.int .i64 0, .int .i64 0, .int .i64 0, .int .i64 0] 23) := ⟨_, rfl⟩
    rw [← hwa]
    have hz : wa.heap[wd.heap.size]? = some (.cells #[.int .i64 0, .int .i64 0, .int .i64 0, .int .i64 0] 23 (0, 0)) := by rw [hwa]; exact heap_alloc_new wd _
    have bA : Below wd.heap.size wd wa := by rw [hwa]; exact (Below.refl _ _).alloc (Nat.le_refl _) _
    have hx := (bA.block _ (Array.getElem?_eq_some_iff.1 Hx.out).1).trans Hx.out
    have hlt := (Array.getElem?_eq_some_iff.1 Hx.out).1
    have hb := Hb.out.trans (bA.mono Hb.out.size)
    have hsz := Hb.out.size
    clear hwa bA Hx Hb x0 x1 x2 x3
    have Hb := Lib.hid hb; clear hb
    have Hx := Lib.hid hx; clear hx
    refine wpList_store_at rfl 23 _ _ rfl wd.heap.size 0 rfl (.agg #[.int .i64 k, .int .i64 p, .int .i64 t, .int .i64 x]) rfl (msgF.cells (k, p, t, x)) rfl 23 _ hz 4 rfl (by decide) (msgF.one _) (by kernel_rfl) ?_
    intro w5 h5 g5 s5
    have z5 : w5.heap[wd.heap.size]? = some (.cells #[.int .i64 k, .int .i64 p, .int .i64 t, .int .i64 x] 23 (0, 0)) := h5
    have b5 := Hb.out.grown g5 Hb.out.size (fun k hk => by have := Option.some.inj hk; omega)
    have hx := (g5.block w.heap.size (by have := (Array.getElem?_eq_some_iff.1 Hx.out).1; omega) fun e => by have := Option.some.inj e; omega).trans Hx.out
    have y0 := cells_at z5 0
    have y1 := cells_at z5 1
    have y2 := cells_at z5 2
    have y3 := cells_at z5 3
    clear h5 g5 Hb Hx hz s5
    have Hb := Lib.hid b5; clear b5
    have Hx := Lib.hid hx; clear hx
    have Hz := Lib.hid z5; clear z5
    go_wp2_with fail
    refine (Hri.out _).mono ?_
    rintro e w6 ⟨rfl, b6⟩
    have hb := Hb.out.trans (b6.mono Hb.out.size)
    have hx := (b6.block _ (Array.getElem?_eq_some_iff.1 Hx.out).1).trans Hx.out
    have hz := (b6.block _ (Array.getElem?_eq_some_iff.1 Hz.out).1).trans Hz.out
    clear Hb Hx Hz b6 Hri y0 y1 y2 y3
    have Hb := Lib.hid hb; clear hb
    have Hx := Lib.hid hx; clear hx
    have y0 := cells_at hz 0
    have y1 := cells_at hz 1
    have y2 := cells_at hz 2
    have y3 := cells_at hz 3
    clear hz
    cases R with
    | true =>
      go_wp2_with (with_reducible refine stop_store 23 ?_)
      refine unpark ?_
      refine wpList_store_at rfl 23 _ _ rfl w.heap.size 0 rfl (.agg #[.int .i64 k, .int .i64 p, .int .i64 t, .int .i64 x]) rfl (msgF.cells (k, p, t, x)) rfl 23 _ Hx.out 4 rfl (by decide) (msgF.one _) (by kernel_rfl) ?_
      intro w7 h7 g7 s7
      have z7 : w7.heap[w.heap.size]? = some (.cells #[.int .i64 k, .int .i64 p, .int .i64 t, .int .i64 x] 23 (0, 0)) := h7
      have b7 := Hb.out.grown g7 Hb.out.size (fun k hk => by have := Option.some.inj hk; omega)
      have r7 := cells_at z7 0
      have r8 := cells_at z7 1
      have r9 := cells_at z7 2
      have ra := cells_at z7 3
      clear h7 z7 g7 Hb Hx y0 y1 y2 y3
      have Hb := Lib.hid b7; clear b7
      go_wp2
      refine bodyPost_ret (v := .tuple #[.agg #[.int .i64 k, .int .i64 p, .int .i64 t, .int .i64 x], .bool true]) (by simp [results, Try.results11, go_sem, r7, r8, r9, ra]) rfl ?_
      exact ⟨rfl, Hb.out⟩
    | false =>
      go_wp2_with (with_reducible refine stop_store 23 ?_)
      refine unpark ?_
      refine wpList_store_at rfl 23 _ _ rfl w.heap.size 0 rfl (.agg #[.int .i64 0, .int .i64 0, .int .i64 0, .int .i64 0]) rfl (msgF.cells (0, 0, 0, 0)) rfl 23 _ Hx.out 4 rfl (by decide) (msgF.one _) (by kernel_rfl) ?_
      intro w7 h7 g7 s7
      have z7 : w7.heap[w.heap.size]? = some (.cells #[.int .i64 0, .int .i64 0, .int .i64 0, .int .i64 0] 23 (0, 0)) := h7
      have b7 := Hb.out.grown g7 Hb.out.size (fun k hk => by have := Option.some.inj hk; omega)
      have r7 := cells_at z7 0
      have r8 := cells_at z7 1
      have r9 := cells_at z7 2
      have ra := cells_at z7 3
      clear h7 z7 g7 Hb Hx y0 y1 y2 y3
      have Hb := Lib.hid b7; clear b7
      go_wp2
      refine bodyPost_ret (v := .tuple #[.agg #[.int .i64 0, .int .i64 0, .int .i64 0, .int .i64 0], .bool false]) (by simp [results, Try.results11, go_sem, r7, r8, r9, ra]) rfl ?_
      exact ⟨rfl, Hb.out⟩
  · obtain ⟨q1, q2, q3, q4⟩ := noteB_no h29
    have hup := fun (w : World) a (hi : Ints w .i64 a 4 4 wid) => Unpack_calls hi (by decide) hu wid_right
    simp only [q3, if_neg q4] at hup
    rw [q1, q2]
    clear q1 q2 q3 q4 h29
    have Hup := Lib.hid hup; clear hup
    go_enter Try.func11, Try.ntmps11
    go_wp2_with fail
    rw [← hw1]
    refine widths_calls.mono ?_
    rintro e w2 ⟨rfl, i2, b2⟩
    have hb := Hb.out.trans (b2.mono Hb.out.size)
    have hx := (b2.block _ (Array.getElem?_eq_some_iff.1 Hx.out).1).trans Hx.out
    have hup := Hup.out w2 _ i2
    clear Hb Hx b2 i2 hw1 Hup
    have Hup := Lib.hid hup; clear hup
    have Hb := Lib.hid hb; clear hb
    have Hx := Lib.hid hx; clear hx
    go_wp2_with fail
    refine Hup.out.mono ?_
    rintro e w3 ⟨v, rfl, ov, b3⟩
    obtain ⟨va, vc, rfl, -, -⟩ := ov.ints
    have hb := Hb.out.trans (b3.mono Hb.out.size)
    have hx := (b3.block _ (Array.getElem?_eq_some_iff.1 Hx.out).1).trans Hx.out
    clear Hb Hx b3 Hup ov
    have Hb := Lib.hid hb; clear hb
    have Hx := Lib.hid hx; clear hx
    go_wp2_with (with_reducible refine stop_store 23 ?_)
    refine unpark ?_
    refine wpList_store_at rfl 23 _ _ rfl w.heap.size 0 rfl (.agg #[.int .i64 0, .int .i64 0, .int .i64 0, .int .i64 0]) rfl (msgF.cells (0, 0, 0, 0)) rfl 23 _ Hx.out 4 rfl (by decide) (msgF.one _) (by kernel_rfl) ?_
    intro w7 h7 g7 s7
    have z7 : w7.heap[w.heap.size]? = some (.cells #[.int .i64 0, .int .i64 0, .int .i64 0, .int .i64 0] 23 (0, 0)) := h7
    have b7 := Hb.out.grown g7 Hb.out.size (fun k hk => by have := Option.some.inj hk; omega)
    have r7 := cells_at z7 0
    have r8 := cells_at z7 1
    have r9 := cells_at z7 2
    have ra := cells_at z7 3
    clear h7 z7 g7 Hb Hx
    have Hb := Lib.hid b7; clear b7
    go_wp2
    refine bodyPost_ret (v := .tuple #[.agg #[.int .i64 0, .int .i64 0, .int .i64 0, .int .i64 0], .bool false]) (by simp [results, Try.results11, go_sem, r7, r8, r9, ra]) rfl ?_
    exact ⟨rfl, Hb.out⟩
theorem noteW_lt (m : Msg) : noteW m < 18446744073709551616 := by
  unfold noteW
  split
  · rename_i h
    have := (wordZ_nat h).2.2
    omega
  · decide
theorem noteW_div (m : Msg) : noteW m / 2 ^ (8 * 4) = 0 := by
  unfold noteW
  split
  · rename_i h
    have := (wordZ_nat h).2.2
    exact Nat.div_eq_of_lt (Nat.lt_of_lt_of_le this (by decide))
  · rfl
/-- What Encode answers. -/
def noteE (m : Msg) : List Int := if rightOf m = true then sealed (bytesZ 4 (noteW m)) else []
set_option maxHeartbeats 1000000 in
theorem Encode_calls {w : World} (m : Msg) : Calls Try.prog 13 #[.agg m.cells.toArray] w fun e w' => ∃ v, e = .returned (.tuple #[v, .bool (rightOf m)]) ∧ Own w' w.heap.size 5 .u8 v (noteE m) ∧ Below w.heap.size w w' := by
  have hwd := fun w : World => Word_calls (w := w) m
  have h0 := noteW_div m
  have h1 := noteW_lt m
  unfold noteE
  generalize noteW m = u at hwd h0 h1 ⊢
  have hby := fun w : World => Bytes_calls (w := w) (n := 4) h1 (by decide) h0
  clear h0 h1
  obtain ⟨k, p, t, x⟩ := m
  have b1 := (Below.refl w.heap.size w).alloc (Nat.le_refl _) (.cells (Msg.cells (k, p, t, x)).toArray 23)
  have hx := heap_alloc_new w (.cells (Msg.cells (k, p, t, x)).toArray 23)
  generalize rightOf (k, p, t, x) = R at *
  simp only [Msg.cells, Msg.kind, Msg.part, Msg.tx, Msg.what] at hwd b1 hx ⊢
  have Hwd := Lib.hid hwd; clear hwd
  have Hby := Lib.hid hby; clear hby
  have Hb := Lib.hid b1; clear b1
  obtain ⟨L, hL⟩ : ∃ L, L = bytesZ 4 u := ⟨_, rfl⟩
  have hL4 : L.length = 4 := by rw [hL]; exact bytes_len 4 u
  rw [← hL]
  have HL := Lib.hid hL; clear hL
  have HL4 := Lib.hid hL4; clear hL4
  cases R with
  | false =>
    go_enter Try.func13, Try.ntmps13
    go_wp2_with fail
    refine (Hwd.out _).mono ?_
    rintro e w2 ⟨rfl, b2⟩
    have hb := Hb.out.trans (b2.mono Hb.out.size)
    clear Hb b2
    have Hb := Lib.hid hb; clear hb
    go_wp2
    go_ret2
    exact ⟨_, rfl, own_nil _ _ _ _, Hb.out⟩
  | true =>
    go_enter Try.func13, Try.ntmps13
    go_wp2_with fail
    refine (Hwd.out _).mono ?_
    rintro e w2 ⟨rfl, b2⟩
    have hb := Hb.out.trans (b2.mono Hb.out.size)
    clear Hb b2 hx
    have Hb := Lib.hid hb; clear hb
    go_wp2_with fail
    refine (Hby.out _).mono ?_
    rintro e w3 ⟨v, rfl, ov, b3⟩
    obtain ⟨va, vc, rfl, iv, -⟩ := ov.ints
    rw [bytes_len, ← HL.out] at iv
    rw [bytes_len]
    have hb := Hb.out.trans (b3.mono Hb.out.size)
    have hsl := Seal_calls iv (by decide)
    clear Hb b3 ov iv Hby Hwd
    have Hb := Lib.hid hb; clear hb
    have Hsl := Lib.hid hsl; clear hsl
    go_wp2_with fail
    refine Hsl.out.mono ?_
    rintro e w4 ⟨v, rfl, ov, b4⟩
    have hb := Hb.out.trans (b4.mono Hb.out.size)
    have own := ov.mono Hb.out.size
    clear Hb b4 ov Hsl
    have Hb := Lib.hid hb; clear hb
    have Ho := Lib.hid own; clear own
    go_wp2
    go_ret2
    exact ⟨_, rfl, Ho.out, Hb.out⟩
set_option maxHeartbeats 1000000 in
theorem Order_calls {w : World} (a b : Msg) : Calls Try.prog 18 #[.agg a.cells.toArray, .agg b.cells.toArray] w fun e w' => e = .returned (.int .i64 (noteC a b)) ∧ Below w.heap.size w w' := by
  have h1 := fun w : World => Word_calls (w := w) a
  have h2 := fun w : World => Word_calls (w := w) b
  have hc : noteC a b = if rightOf a = true ∧ rightOf b = true then cmpN (noteW a) (noteW b) else 0 := by
    unfold noteC cmpN noteW
    by_cases h : rightOf a = true ∧ rightOf b = true
    · rw [if_pos h, if_pos h, if_pos h.1, if_pos h.2]
    · rw [if_neg h, if_neg h]
  rw [hc]
  clear hc
  generalize noteW a = U1 at *
  generalize noteW b = U2 at *
  generalize rightOf a = R1 at *
  generalize rightOf b = R2 at *
  obtain ⟨w1, hw1⟩ : ∃ w1, w1 = (w.alloc (.cells a.cells.toArray 23)).alloc (.cells b.cells.toArray 23) := ⟨_, rfl⟩
  have b1 : Below w.heap.size w w1 := by rw [hw1]; exact ((Below.refl _ w).alloc (Nat.le_refl _) _).alloc (by simp) _
  have hy : w1.heap[w.heap.size + 1]? = some (.cells b.cells.toArray 23 (0, 0)) := by
    rw [hw1]
    have := heap_alloc_new (w.alloc (.cells a.cells.toArray 23)) (.cells b.cells.toArray 23)
    rwa [World.size_alloc] at this
  obtain ⟨k, p, t, x⟩ := a
  obtain ⟨k', p', t', x'⟩ := b
  simp only [Msg.cells, Msg.kind, Msg.part, Msg.tx, Msg.what] at h1 h2 hw1 hy ⊢
  have Hb := Lib.hid b1; clear b1
  have H1 := Lib.hid h1; clear h1
  have H2 := Lib.hid h2; clear h2
  have Hy := Lib.hid hy; clear hy
  cases R1
  · cases R2
    all_goals
      go_enter Try.func18, Try.ntmps18
      go_wp2_with fail
      rw [← hw1]
      refine (H1.out _).mono ?_
      rintro e w2 ⟨rfl, b2⟩
      have hb := Hb.out.trans (b2.mono Hb.out.size)
      have hy := (b2.block _ (Array.getElem?_eq_some_iff.1 Hy.out).1).trans Hy.out
      clear Hb b2 Hy hw1
      have Hb := Lib.hid hb; clear hb
      have y0 := cells_at hy 0
      have y1 := cells_at hy 1
      have y2 := cells_at hy 2
      have y3 := cells_at hy 3
      clear hy
      go_wp2_with fail
      refine (H2.out _).mono ?_
      rintro e w3 ⟨rfl, b3⟩
      have hb := Hb.out.trans (b3.mono Hb.out.size)
      clear Hb b3 y0 y1 y2 y3
      have Hb := Lib.hid hb; clear hb
      go_wp2
      go_ret
      exact ⟨rfl, Hb.out⟩
  · cases R2
    · go_enter Try.func18, Try.ntmps18
      go_wp2_with fail
      rw [← hw1]
      refine (H1.out _).mono ?_
      rintro e w2 ⟨rfl, b2⟩
      have hb := Hb.out.trans (b2.mono Hb.out.size)
      have hy := (b2.block _ (Array.getElem?_eq_some_iff.1 Hy.out).1).trans Hy.out
      clear Hb b2 Hy hw1
      have Hb := Lib.hid hb; clear hb
      have y0 := cells_at hy 0
      have y1 := cells_at hy 1
      have y2 := cells_at hy 2
      have y3 := cells_at hy 3
      clear hy
      go_wp2_with fail
      refine (H2.out _).mono ?_
      rintro e w3 ⟨rfl, b3⟩
      have hb := Hb.out.trans (b3.mono Hb.out.size)
      clear Hb b3 y0 y1 y2 y3
      have Hb := Lib.hid hb; clear hb
      go_wp2
      go_ret
      exact ⟨rfl, Hb.out⟩
    · go_enter Try.func18, Try.ntmps18
      go_wp2_with fail
      rw [← hw1]
      refine (H1.out _).mono ?_
      rintro e w2 ⟨rfl, b2⟩
      have hb := Hb.out.trans (b2.mono Hb.out.size)
      have hy := (b2.block _ (Array.getElem?_eq_some_iff.1 Hy.out).1).trans Hy.out
      clear Hb b2 Hy hw1
      have Hb := Lib.hid hb; clear hb
      have y0 := cells_at hy 0
      have y1 := cells_at hy 1
      have y2 := cells_at hy 2
      have y3 := cells_at hy 3
      clear hy
      go_wp2_with fail
      refine (H2.out _).mono ?_
      rintro e w3 ⟨rfl, b3⟩
      have hb := Hb.out.trans (b3.mono Hb.out.size)
      clear Hb b3 y0 y1 y2 y3
      have Hb := Lib.hid hb; clear hb
      go_wp2_with fail
      refine (Compare_calls U1 U2).mono ?_
      rintro e w4 ⟨rfl, rfl⟩
      go_wp2
      go_ret
      exact ⟨rfl, Hb.out⟩
end Go.Proofs.Ytdaaphebfhlpmaa
