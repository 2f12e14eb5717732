/- The link's laws: msg, alive. -/
import Derived.Test.YtckahkpikjhkmaaLinkA
namespace Go.Proofs.Ytckahkpikjhkmaa
open Go.RowKit

theorem msg_calls {w : World} (tx : Int) : Calls Try.prog 24 #[.int .i64 tx] w fun e w' => e = .returned (.agg #[.int .i64 2, .int .i64 0, .int .i64 tx, .int .i64 0]) ∧ Below w.heap.size w w' := by
  go_enter Try.func24, Try.ntmps24
  go_wp2
  first
    | (go_ret; exact ⟨rfl, Below.refl _ _⟩)
    | (refine bodyPost_ret (v := .agg #[.int .i64 2, .int .i64 0, .int .i64 tx, .int .i64 0]) (by simp [results, Try.results24, go_sem]) rfl ?_
       exact ⟨rfl, (Below.refl _ _).alloc (Nat.le_refl _) _⟩)
abbrev mg (tx : Int) : Msg := (2, 0, tx, 0)
abbrev A1 : Pla → List Msg := upd ls0 (0, true) [mg 1, mg 2]
abbrev A2 : Pla → List Msg := upd A1 (0, true) [mg 1]
theorem put_alive : putN 2 ls0 (0, true) [mg 1, noMsg, mg 2] = (2, 0, A1) := rfl
theorem take_alive1 : takeN 2 A1 (0, true) 1 true = (mg 2, 0, A1) := rfl
theorem take_alive2 : takeN 2 A1 (0, true) 1 false = (mg 2, 0, A2) := rfl
theorem drop_alive : takeN 2 A2 (0, true) 1 false = (noMsg, 12, A2) := rfl
theorem sum_alive : sumOf A2 (keysOf 2) = 1 := rfl
theorem clear_alive : clearN 2 A2 (0, true) = (1, upd A2 (0, true) []) := rfl
theorem bag_alive : (if ((0, true) : Pla) ∈ keysOf 2 then upd A2 (0, true) [] (0, true) else []) = [] := rfl

theorem recs_of_block {w : World} {g : Nat} {T : TypeId} {fr : Nat × Nat} {ms : List Msg} (h : w.heap[g]? = some (.cells (msgF.row ms).toArray T fr)) (hm : ms.length ≤ 9223372036854775807) : Recs msgF w (some ⟨g, 0, none⟩) ms.length ms.length ms :=
  ⟨rfl, Nat.le_refl _, hm, fun _ => ⟨g, 0, rfl, fun j u hu => by rw [Nat.zero_add, cells_at h, List.getElem?_toArray]; exact hu⟩⟩
set_option maxHeartbeats 4000000 in
set_option maxRecDepth 100000 in
theorem alive_calls {w : World} : Calls Try.prog 8 #[] w fun e w' => e = .returned (.bool true) ∧ Below w.heap.size w w' := by
  have hnew := New_lk (w0 := w) (n := 2) (Below.refl w.heap.size w) (by decide) (by decide)
  have Hnew := Lib.hid hnew; clear hnew
  go_enter Try.func8, Try.ntmps8
  go_wp2_with fail
  refine Hnew.out.mono ?_
  rintro e w1 ⟨b, F, rfl, hl, -, -⟩
  have Hl := Lib.hid hl; clear hl Hnew
  go_wp2_with fail
  refine (msg_calls 1).mono ?_
  rintro e w2 ⟨rfl, b2⟩
  have h2 := Hl.out.step b2
  clear Hl b2
  have Hl := Lib.hid h2; clear h2
  go_wp2_with fail
  refine (msg_calls 2).mono ?_
  rintro e w3 ⟨rfl, b3⟩
  have h3 := Hl.out.step b3
  clear Hl b3
  have Hl := Lib.hid h3; clear h3
  go_wp2_with fail
  have hx4 := heap_alloc_new w3 (.cells #[.int .i64 2, .int .i64 0, .int .i64 1, .int .i64 0, .int .i64 0, .int .i64 0, .int .i64 0, .int .i64 0, .int .i64 2, .int .i64 0, .int .i64 2, .int .i64 0] 38)
  have h4 := Hl.out.step ((Below.refl w3.heap.size w3).alloc (Nat.le_refl _) (.cells #[.int .i64 2, .int .i64 0, .int .i64 1, .int .i64 0, .int .i64 0, .int .i64 0, .int .i64 0, .int .i64 0, .int .i64 2, .int .i64 0, .int .i64 2, .int .i64 0] 38))
  generalize w3.alloc (.cells #[.int .i64 2, .int .i64 0, .int .i64 1, .int .i64 0, .int .i64 0, .int .i64 0, .int .i64 0, .int .i64 0, .int .i64 2, .int .i64 0, .int .i64 2, .int .i64 0] 38) = w4 at *
  have rec4 : Recs msgF w4 (some ⟨w3.heap.size, 0, none⟩) 3 3 [mg 1, noMsg, mg 2] := recs_of_block (ms := [mg 1, noMsg, mg 2]) hx4 (by decide)
  have hp := Put_lk h4 (0, true) rec4 (by decide)
  rw [put_alive] at hp
  clear Hl h4 rec4 hx4
  refine hp.mono ?_
  rintro e w5 ⟨rfl, l5, -⟩
  clear hp
  have ht := Take_lk l5 (0, true) 1 true
  rw [take_alive1] at ht
  simp only [Msg.cells, Msg.kind, Msg.part, Msg.tx, Msg.what] at ht
  have Ht := Lib.hid ht; clear ht l5
  go_wp2_with fail
  refine Ht.out.mono ?_
  rintro e w6 ⟨rfl, l6, -⟩
  have h7 := l6.step ((Below.refl w6.heap.size w6).alloc (Nat.le_refl _) (.cells #[.int .i64 2, .int .i64 0, .int .i64 2, .int .i64 0] 38))
  have hx7 := heap_alloc_new w6 (.cells #[.int .i64 2, .int .i64 0, .int .i64 2, .int .i64 0] 38)
  have lt7 : ∀ k, grownF (grownF F w4 w5) w5 w6 k → k ≠ w6.heap.size := fun k hk => by have := (l6.low k hk).2; omega
  have ht := Take_lk h7 (0, true) 1 false
  rw [take_alive2] at ht
  simp only [Msg.cells, Msg.kind, Msg.part, Msg.tx, Msg.what] at ht
  have Ht2 := Lib.hid ht; clear ht l6 h7 Ht
  have Hx7 := Lib.hid hx7; clear hx7
  have Lt7 := Lib.hid lt7; clear lt7
  go_wp2_with fail
  generalize w6.heap.size = g1 at *
  generalize w6.alloc (.cells #[.int .i64 2, .int .i64 0, .int .i64 2, .int .i64 0] 38) = w7 at *
  generalize grownF (grownF F w4 w5) w5 w6 = F7 at *
  refine Ht2.out.mono ?_
  rintro e w8 ⟨rfl, l8, m8⟩
  have g8 := (m8.block g1 (Array.getElem?_eq_some_iff.1 Hx7.out).1 fun hf => Lt7.out g1 hf rfl).trans Hx7.out
  have n8 : ¬ grownF F7 w7 w8 g1 := fun hf => hf.elim (fun hf => Lt7.out g1 hf rfl) fun hf => by have := (Array.getElem?_eq_some_iff.1 Hx7.out).1; omega
  generalize grownF F7 w7 w8 = F8 at *
  have b9 := (Below.refl w8.heap.size w8).alloc (Nat.le_refl _) (.cells #[.int .i64 2, .int .i64 0, .int .i64 2, .int .i64 0] 38)
  have hx9 := heap_alloc_new w8 (.cells #[.int .i64 2, .int .i64 0, .int .i64 2, .int .i64 0] 38)
  have l9 := l8.step b9
  have g9 := (b9.block g1 (Array.getElem?_eq_some_iff.1 g8).1).trans g8
  have n9 : ¬ F8 w8.heap.size := fun hf => by have := (l8.low _ hf).2; omega
  have hd := Drop_lk l9 (0, true) 1
  rw [drop_alive] at hd
  have Hd := Lib.hid hd; clear hd m8 l8 b9 g8 Ht2 Hx7 Lt7
  have G9 := Lib.hid g9; clear g9
  have Hx9 := Lib.hid hx9; clear hx9
  go_wp2_with fail
  generalize w8.heap.size = g2 at *
  generalize w8.alloc (.cells #[.int .i64 2, .int .i64 0, .int .i64 2, .int .i64 0] 38) = w9 at *
  clear l9
  refine Hd.out.mono ?_
  rintro e wa ⟨rfl, la, ma⟩
  have ga := (ma.block g1 (Array.getElem?_eq_some_iff.1 G9.out).1 n8).trans G9.out
  have xa := (ma.block g2 (Array.getElem?_eq_some_iff.1 Hx9.out).1 n9).trans Hx9.out
  have na1 : ¬ grownF F8 w9 wa g1 := fun hf => hf.elim n8 fun hf => by have := (Array.getElem?_eq_some_iff.1 G9.out).1; omega
  have na2 : ¬ grownF F8 w9 wa g2 := fun hf => hf.elim n9 fun hf => by have := (Array.getElem?_eq_some_iff.1 Hx9.out).1; omega
  generalize grownF F8 w9 wa = Fa at *
  have ht := Total_lk la
  rw [sum_alive] at ht
  have Ht := Lib.hid ht; clear ht ma G9 Hx9 Hd n8 n9
  go_wp2_with fail
  refine Ht.out.mono ?_
  rintro e wb ⟨rfl, bb⟩
  have lb := la.step bb
  have gb := (bb.block g1 (Array.getElem?_eq_some_iff.1 ga).1).trans ga
  have xb := (bb.block g2 (Array.getElem?_eq_some_iff.1 xa).1).trans xa
  have hc := Clear_lk lb (0, true)
  rw [clear_alive] at hc
  have Hc := Lib.hid hc; clear hc la ga xa bb Ht
  have Gb := Lib.hid gb; clear gb
  have Xb := Lib.hid xb; clear xb
  go_wp2_with fail
  refine Hc.out.mono ?_
  rintro e wc ⟨rfl, lc, mc⟩
  have gc := (mc.block g1 (Array.getElem?_eq_some_iff.1 Gb.out).1 na1).trans Gb.out
  have xc := (mc.block g2 (Array.getElem?_eq_some_iff.1 Xb.out).1 na2).trans Xb.out
  clear lb mc Gb Xb Hc na1 na2
  generalize grownF Fa wb wc = Fc at *
  have Hl := Lib.hid lc; clear lc
  have Gc := Lib.hid gc; clear gc
  have Xc := Lib.hid xc; clear xc
  go_wp2_with fail
  have hq := fun w => msg_eql w (mg 2) (mg 2)
  have hg := fun x y w => msg_guard .eql x y (mg 2) (mg 2) w
  simp only [mg, Msg.cells, Msg.kind, Msg.part, Msg.tx, Msg.what, decide_true] at hq hg
  have Hq := Lib.hid hq; clear hq
  have Hg := Lib.hid hg; clear hg
  have s0 := below_drew wc
  refine wp_region_phases (fun w' : World => Below wc.heap.size wc w') 88 [([], [[0, 1], [2, 3, 4], [5, 6]]), ([7], [[8], [9], [10, 11, 12, 13], [14, 15]]), ([16], [[17], [18], [19, 20, 21, 22], [23, 24, 25, 26], [27, 28, 29, 30], [31, 32, 33, 34], [35, 36, 37, 38], [39], [40], [41, 42]])] (by kernel_rfl) (by kernel_rfl) rfl (by kernel_rfl) (fun _ _ _ h => by obtain ⟨_, h, _⟩ := h; cases h) s0 ?_
  generalize wc.drew = wd at s0 ⊢
  have Hs0 := Lib.hid s0; clear s0
  refine ph_plain rfl ?_
  simp only [List.map_cons, List.map_nil, List.getD_cons_zero, List.getD_cons_succ]
  refine segsK_more ?_
  go_wp2_with fail
  refine seg_end Hs0.out (segsK_more ?_)
  go_wp2_with fail
  refine seg_end Hs0.out (segsK_more ?_)
  go_wp2_with fail
  refine seg_end Hs0.out (segsK_end (ph_more rfl ?_))
  apply Exists.intro
  apply And.intro
  · intro w' s
    have xg := (s.block g1 (Array.getElem?_eq_some_iff.1 Gc.out).1).trans Gc.out
    have y0 := cells_at xg 0
    have y1 := cells_at xg 1
    have y2 := cells_at xg 2
    have y3 := cells_at xg 3
    clear s xg
    simp only [List.map_cons, List.map_nil, List.getD_cons_zero, List.getD_cons_succ]
    go_wp2_with fail
    exact pre_end
  simp only [List.map_cons, List.map_nil, List.getD_cons_zero, List.getD_cons_succ]
  refine segsK_more ?_
  go_wp2_with fail
  refine (msg_calls 2).mono ?_
  rintro e we ⟨rfl, be⟩
  have se := Hs0.out.trans (be.mono Hs0.out.size)
  clear Hs0 be
  have Hs0 := Lib.hid se; clear se
  have hq := Hq.out
  have hg := Hg.out
  go_wp2_with fail
  refine seg_end Hs0.out (segsK_more ?_)
  go_wp2_with fail
  refine seg_end Hs0.out (segsK_more ?_)
  go_wp2_with fail
  refine seg_end Hs0.out (segsK_more ?_)
  go_wp2_with fail
  refine seg_end Hs0.out (segsK_end (ph_more rfl ?_))
  apply Exists.intro
  apply And.intro
  · intro w' s
    have xg := (s.block g2 (Array.getElem?_eq_some_iff.1 Xc.out).1).trans Xc.out
    have y0 := cells_at xg 0
    have y1 := cells_at xg 1
    have y2 := cells_at xg 2
    have y3 := cells_at xg 3
    clear s xg
    simp only [List.map_cons, List.map_nil, List.getD_cons_zero, List.getD_cons_succ]
    go_wp2_with fail
    exact pre_end
  simp only [List.map_cons, List.map_nil, List.getD_cons_zero, List.getD_cons_succ]
  refine segsK_more ?_
  go_wp2_with fail
  refine (msg_calls 2).mono ?_
  rintro e wf ⟨rfl, bf⟩
  have sf := Hs0.out.trans (bf.mono Hs0.out.size)
  clear Hs0 bf
  have Hs0 := Lib.hid sf; clear sf
  go_wp2_with fail
  refine seg_end Hs0.out (segsK_more ?_)
  go_wp2_with fail
  refine seg_end Hs0.out (segsK_more ?_)
  go_wp2_with fail
  refine seg_end Hs0.out (segsK_more ?_)
  go_wp2_with fail
  refine seg_end Hs0.out (segsK_more ?_)
  go_wp2_with fail
  refine seg_end Hs0.out (segsK_more ?_)
  go_wp2_with fail
  refine seg_end Hs0.out (segsK_more ?_)
  go_wp2_with fail
  have hb := Bag_lk (Hl.out.step Hs0.out) (0, true)
  rw [bag_alive] at hb
  refine hb.mono ?_
  rintro e wg ⟨v, rfl, ov, bg⟩
  obtain ⟨va, vc, rfl⟩ := ov.shape
  have sg := Hs0.out.trans (bg.mono Hs0.out.size)
  clear Hs0 bg ov hb
  have Hs0 := Lib.hid sg; clear sg
  simp only [List.length_nil]
  go_wp2_with fail
  refine seg_end Hs0.out (segsK_more ?_)
  go_wp2_with fail
  refine seg_end Hs0.out (segsK_more ?_)
  go_wp2_with fail
  refine seg_end Hs0.out (segsK_more ?_)
  go_wp2_with fail
  refine seg_end Hs0.out (segsK_end (ph_end ?_))
  have lf := Hl.out.step Hs0.out
  clear Hl Gc Xc Hs0 Hq Hg hq hg
  have Hl := Lib.hid lf; clear lf
  go_wp2
  go_ret
  exact ⟨rfl, Hl.out.bel⟩
end Go.Proofs.Ytckahkpikjhkmaa
