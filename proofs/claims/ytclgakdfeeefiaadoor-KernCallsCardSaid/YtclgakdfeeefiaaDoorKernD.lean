/- Kernels' laws: vote, alive. -/
import Derived.Test.YtclgakdfeeefiaaDoorKernM
namespace Go.Proofs.YtclgakdfeeefiaaDoor
open Go.RowKit

theorem vote_calls {w : World} (q : Int) : Calls Tryd.prog 33 #[.int .i64 q] w fun e w' => e = .returned (.agg #[.int .i64 1, .int .i64 q, .int .i64 1, .int .i64 1]) ∧ Below w.heap.size w w' := by
  go_enter Tryd.func33, Tryd.ntmps33
  go_wp2
  first
    | (go_ret; exact ⟨rfl, Below.refl _ _⟩)
    | (refine bodyPost_ret (v := .agg #[.int .i64 1, .int .i64 q, .int .i64 1, .int .i64 1]) (by simp [results, Tryd.results33, go_sem]) rfl ?_
       exact ⟨rfl, (Below.refl _ _).alloc (Nat.le_refl _) _⟩)
abbrev pA : Pl := (2, 1, 3)
abbrev mA : Msg := (1, 0, 1, 1)
abbrev mB : Msg := (1, 1, 1, 1)
abbrev sA1 : Sta := (sendK 2 pA st0 0 2 mA 0).2
abbrev sA2 : Sta := (sendK 2 pA sA1 1 2 mB 0).2
abbrev sA3 : Sta := (sendK 2 pA sA2 0 1 mA 0).2
abbrev sA4 : Sta := (outK 2 sA3 (0, dirOf true)).2
abbrev sA5 : Sta := (carryK 2 sA4 (0, dirOf true) mA).2
abbrev sA6 : Sta := (recvK 2 pA sA5 2 0 0 2).2
abbrev sA7 : Sta := (recvK 2 pA sA6 1 0 0 1).2
/-- The gate's place and what it owns, told once. -/
theorem Gate_kg {w0 w : World} {kb n : Nat} {p : Pl} {st : Sta} {L : List (Nat × Obj)} (h : KnL w0 w kb n p st L) : Calls Tryd.prog 13 #[.pointer (some ⟨kb, 0, none⟩)] w fun e w' => ∃ gb, e = .returned (.pointer (some ⟨gb, 0, none⟩)) ∧ GateAt w gb (allOf n : Nat) ∧ Below w.heap.size w w' := by
  obtain ⟨F, h1, -⟩ := h
  refine (Gate_kn h1).mono ?_
  rintro e w' ⟨gb, rfl, hg, rfl⟩
  exact ⟨gb, rfl, hg, Below.refl _ _⟩
theorem alive_good : pA.good := by decide
theorem alive1 : (sendK 2 pA st0 0 2 mA 0).1 = 0 := by decide +kernel
theorem alive2 : (sendK 2 pA sA1 1 2 mB 0).1 = 23 := by decide +kernel
theorem alive3 : (sendK 2 pA sA2 0 1 mA 0).1 = 14 := by decide +kernel
theorem alive4 : (outK 2 sA3 (0, dirOf true)).1.length = 1 := by decide +kernel
theorem alive5 : (carryK 2 sA4 (0, dirOf true) mA).1 = true := by decide +kernel
theorem alive6 : (recvK 2 pA sA5 2 0 0 2).1 = (mA, 0) := by decide +kernel
theorem alive7 : (recvK 2 pA sA6 1 0 0 1).1 = (noMsg, 14) := by decide +kernel
theorem alive8 : flowOf 2 2 0 = true ∧ flowOf 2 0 1 = false ∧ labelOf 2 2 = (3, 0) ∧ boxK 2 sA7 (0, dirOf true) = [] ∧ withOf (3, 0) (0, 0) (allOf 2 : Nat) = true := by decide +kernel
set_option maxHeartbeats 16000000 in
set_option maxRecDepth 100000 in
theorem alive_calls {w : World} (hT : TabOk w) : Calls Tryd.prog 9 #[] w fun e w' => e = .returned (.bool true) ∧ Below w.heap.size w w' := by
  have h0 : 0 < w.heap.size := World.block_lt_of_cell? _ _ (hT 0 (by decide))
  have hnew := fun w : World => slotNew_calls (w := w) pA
  rw [if_pos alive_good, if_pos alive_good] at hnew
  simp only [Pl.cells, Pl.parts, Pl.window, Pl.delay] at hnew
  have Hnew := Lib.hid hnew; clear hnew
  have HT := Lib.hid hT; clear hT
  have H0 := Lib.hid h0; clear h0
  go_enter Tryd.func9, Tryd.ntmps9
  go_wp2_with fail
  refine (Hnew.out _).mono ?_
  rintro e w1 ⟨rfl, b1⟩
  clear Hnew
  obtain ⟨w2, hw2⟩ : ∃ w2, w2 = w1.alloc (.cells #[.int .i64 2, .int .i64 1, .int .i64 3] 28) := ⟨_, rfl⟩
  have b2 : Below w1.heap.size w1 w2 := by rw [hw2]; exact (Below.refl _ _).alloc (Nat.le_refl _) _
  have z2 : w2.heap[w1.heap.size]? = some (.cells #[.int .i64 2, .int .i64 1, .int .i64 3] 28 (0, 0)) := by rw [hw2]; exact heap_alloc_new w1 _
  have b12 := b1.trans (b2.mono b1.size)
  have y0 := cells_at z2 0
  have y1 := cells_at z2 1
  have y2 := cells_at z2 2
  rw [hw2] at y0 y1 y2
  have hn := New_kl (w0 := w) b12 (HT.out.below b12) (Nat.lt_of_lt_of_le H0.out b12.size) pA alive_good (n := 2) rfl (L := [(w1.heap.size, .cells #[.int .i64 2, .int .i64 1, .int .i64 3] 28 (0, 0))]) (fun x hx => by rw [List.mem_singleton] at hx; subst hx; exact z2)
  simp only [Pl.cells, Pl.parts, Pl.window, Pl.delay] at hn
  clear b1 b2 z2 b12
  have Hn := Lib.hid hn; clear hn
  go_wp2_with fail
  rw [← hw2]
  clear hw2 y0 y1 y2
  generalize w1.heap.size = gp at *
  refine Hn.out.mono ?_
  rintro e w3 ⟨kb, rfl, hk, -⟩
  have HK := Lib.hid hk; clear hk Hn
  have hg := HK.out
  obtain ⟨F, hkf, -⟩ := hg
  have Hg := Lib.hid (Gate_kn hkf); clear hkf
  go_wp2_with fail
  refine Hg.out.mono ?_
  rintro e w3' ⟨gb, rfl, -, rfl⟩
  clear Hg
  go_wp2_with fail
  refine (vote_calls 0).mono ?_
  rintro e w4 ⟨rfl, bk⟩
  have hk := HK.out.step bk
  clear bk HK
  have HK := Lib.hid hk; clear hk
  have hc := Send_kl HK.out outs0 (by decide) 0 2 mA 0
  rw [alive1] at hc
  try simp only [Msg.cells, Msg.kind, Msg.part, Msg.tx, Msg.what] at hc
  have Hc := Lib.hid hc; clear hc
  go_wp2_with fail
  refine Hc.out.mono ?_
  rintro e w5 ⟨rfl, hk⟩
  clear Hc HK
  have HK := Lib.hid hk; clear hk
  go_wp2_with fail
  refine (vote_calls 1).mono ?_
  rintro e w6 ⟨rfl, bk⟩
  have hk := HK.out.step bk
  clear bk HK
  have HK := Lib.hid hk; clear hk
  have hc := Send_kl HK.out (outs0.send 0 2 mA 0 : Outs 1 sA1) (by decide) 1 2 mB 0
  rw [alive2] at hc
  try simp only [Msg.cells, Msg.kind, Msg.part, Msg.tx, Msg.what] at hc
  have Hc := Lib.hid hc; clear hc
  go_wp2_with fail
  refine Hc.out.mono ?_
  rintro e w7 ⟨rfl, hk⟩
  clear Hc HK
  have HK := Lib.hid hk; clear hk
  go_wp2_with fail
  refine (vote_calls 0).mono ?_
  rintro e w8 ⟨rfl, bk⟩
  have hk := HK.out.step bk
  clear bk HK
  have HK := Lib.hid hk; clear hk
  have hc := Send_kl HK.out ((outs0.send 0 2 mA 0).send 1 2 mB 0 : Outs 2 sA2) (by decide) 0 1 mA 0
  rw [alive3] at hc
  try simp only [Msg.cells, Msg.kind, Msg.part, Msg.tx, Msg.what] at hc
  have Hc := Lib.hid hc; clear hc
  go_wp2_with fail
  refine Hc.out.mono ?_
  rintro e w9 ⟨rfl, hk⟩
  clear Hc HK
  have HK := Lib.hid hk; clear hk
  have hc := Out_kl HK.out 0 true
  rw [alive4] at hc
  try simp only [Msg.cells, Msg.kind, Msg.part, Msg.tx, Msg.what] at hc
  have Hc := Lib.hid hc; clear hc
  go_wp2_with fail
  refine Hc.out.mono ?_
  rintro e w10 ⟨oa, oc, rfl, -, hk⟩
  clear Hc HK
  have HK := Lib.hid hk; clear hk
  go_wp2_with fail
  refine (vote_calls 0).mono ?_
  rintro e w11 ⟨rfl, bk⟩
  have hk := HK.out.step bk
  clear bk HK
  have HK := Lib.hid hk; clear hk
  have hc := Carry_kl HK.out 0 true mA
  rw [alive5] at hc
  try simp only [Msg.cells, Msg.kind, Msg.part, Msg.tx, Msg.what] at hc
  have Hc := Lib.hid hc; clear hc
  go_wp2_with fail
  refine Hc.out.mono ?_
  rintro e w12 ⟨rfl, hk⟩
  clear Hc HK
  have HK := Lib.hid hk; clear hk
  have hc := Recv_kl HK.out 2 0 0 2
  rw [alive6] at hc
  try simp only [Msg.cells, Msg.kind, Msg.part, Msg.tx, Msg.what] at hc
  have Hc := Lib.hid hc; clear hc
  go_wp2_with fail
  refine Hc.out.mono ?_
  rintro e w13 ⟨rfl, hk⟩
  clear Hc HK
  have HK := Lib.hid hk; clear hk
  obtain ⟨wm, hwm⟩ : ∃ wm, wm = w13.alloc (.cells #[.int .i64 1, .int .i64 0, .int .i64 1, .int .i64 1] 39) := ⟨_, rfl⟩
  have hk := HK.out.made (.cells #[.int .i64 1, .int .i64 0, .int .i64 1, .int .i64 1] 39)
  rw [← hwm] at hk
  clear HK
  have HK := Lib.hid hk; clear hk
  have hc := Recv_kl HK.out 1 0 0 1
  rw [alive7] at hc
  try simp only [Msg.cells, Msg.kind, Msg.part, Msg.tx, Msg.what, noMsg] at hc
  have Hc := Lib.hid hc; clear hc
  go_wp2_with fail
  rw [← hwm]
  clear hwm
  refine Hc.out.mono ?_
  rintro e w21 ⟨rfl, hk⟩
  clear Hc HK
  have HK := Lib.hid hk; clear hk
  obtain ⟨wx, hwx⟩ : ∃ wx, wx = w21.alloc (.cells #[.int .i64 0, .int .i64 0, .int .i64 0, .int .i64 0] 39) := ⟨_, rfl⟩
  have hk := HK.out.step ((Below.refl w21.heap.size w21).alloc (Nat.le_refl _) (.cells #[.int .i64 0, .int .i64 0, .int .i64 0, .int .i64 0] 39))
  rw [← hwx] at hk
  clear HK
  generalize w13.heap.size = gm at *
  have zm := hk.at (.head _)
  have zp := hk.at (.tail _ (.head _))
  obtain ⟨f1, f2, f3, f4, f5⟩ := alive8
  have hb := hk.bel
  clear f4 f5
  have Zm := Lib.hid zm; clear zm
  have Zp := Lib.hid zp; clear zp
  have HK := Lib.hid hk; clear hk
  have Hb := Lib.hid hb; clear hb
  have F1 := Lib.hid f1; clear f1
  have F2 := Lib.hid f2; clear f2
  have F3 := Lib.hid f3; clear f3
  go_wp2_with fail
  rw [← hwx]
  clear hwx
  have s0 := below_drew wx
  have hq := fun w => msg_eql w mA mA
  have hg := fun x y w => msg_guard .eql x y mA mA w
  have lq := fun w => label_eql w (3, 0) (3, 0)
  have lg := fun x y w => label_guard .eql x y (3, 0) (3, 0) w
  have pq := fun w => pl_eql w pA pA
  have pg := fun x y w => pl_guard .eql x y pA pA w
  simp only [Msg.cells, Msg.kind, Msg.part, Msg.tx, Msg.what, Label.cells, Pl.cells, Pl.parts, Pl.window, Pl.delay, decide_true] at hq hg lq lg pq pg
  try dsimp only [List.append]
  refine wp_region_phases (fun w' : World => Below wx.heap.size wx w') 125 [([], [[0, 1], [2, 3, 4], [5, 6, 7, 8], [9, 10, 11, 12], [13], [14, 15, 16, 17, 18, 19, 20], [21, 22]]), ([23], [[24], [25], [26, 27, 28, 29], [30, 31, 32, 33], [34, 35, 36, 37], [38, 39, 40]]), ([41, 43], [[42], [44], [45, 46]]), ([47, 49], [[48], [50], [51, 52, 53, 54], [55], [56], [57, 58]]), ([59, 61, 63], [[60], [62], [64], [65, 66]])] (by kernel_rfl) (by kernel_rfl) rfl (by kernel_rfl) (fun _ _ _ h => by obtain ⟨_, h, _⟩ := h; cases h) s0 ?_
  generalize wx.drew = wd at s0 ⊢
  have Hs0 := Lib.hid s0; clear s0
  refine ph_plain rfl ?_
  simp only [List.map_cons, List.map_nil, List.getD_cons_zero, List.getD_cons_succ]
  refine segsK_more ?_
  go_wp2_with fail
  refine seg_end Hs0.out (segsK_more ?_)
  go_wp2_with fail
  refine seg_end Hs0.out (segsK_more ?_)
  go_wp2_with fail
  refine seg_end Hs0.out (segsK_more ?_)
  go_wp2_with fail
  refine seg_end Hs0.out (segsK_more ?_)
  go_wp2_with fail
  refine seg_end Hs0.out (segsK_more ?_)
  go_wp2_with fail
  refine seg_end Hs0.out (segsK_more ?_)
  go_wp2_with fail
  refine seg_end Hs0.out (segsK_end (ph_more rfl ?_))
  apply Exists.intro
  apply And.intro
  · intro w' s
    have xg := (s.block _ (Array.getElem?_eq_some_iff.1 Zm.out).1).trans Zm.out
    have y0 := cells_at xg 0
    have y1 := cells_at xg 1
    have y2 := cells_at xg 2
    have y3 := cells_at xg 3
    clear xg
    simp only [List.map_cons, List.map_nil, List.getD_cons_zero, List.getD_cons_succ]
    go_wp2_with fail
    exact pre_end
  simp only [List.map_cons, List.map_nil, List.getD_cons_zero, List.getD_cons_succ]
  refine segsK_more ?_
  go_wp2_with fail
  refine (vote_calls 0).mono ?_
  rintro e we1 ⟨rfl, be⟩
  have be0 := Lib.hid be
  have se := Hs0.out.trans (be.mono Hs0.out.size)
  clear Hs0 be
  clear be0
  have Hs0 := Lib.hid se; clear se
  go_wp2_with fail
  refine seg_end Hs0.out (segsK_more ?_)
  go_wp2_with fail
  refine seg_end Hs0.out (segsK_more ?_)
  go_wp2_with fail
  refine seg_end Hs0.out (segsK_more ?_)
  go_wp2_with fail
  refine ((Flow_kl (HK.out.step Hs0.out) 2 0)).mono ?_
  rintro e we2 ⟨rfl, be⟩
  have be0 := Lib.hid be
  have se := Hs0.out.trans (be.mono Hs0.out.size)
  clear Hs0 be
  rw [F1.out]
  clear be0
  have Hs0 := Lib.hid se; clear se
  go_wp2_with fail
  refine seg_end Hs0.out (segsK_more ?_)
  go_wp2_with fail
  refine ((Flow_kl (HK.out.step Hs0.out) 0 1)).mono ?_
  rintro e we3 ⟨rfl, be⟩
  have be0 := Lib.hid be
  have se := Hs0.out.trans (be.mono Hs0.out.size)
  clear Hs0 be
  rw [F2.out]
  clear be0
  have Hs0 := Lib.hid se; clear se
  go_wp2_with fail
  refine seg_end Hs0.out (segsK_more ?_)
  go_wp2_with fail
  refine seg_end Hs0.out (segsK_end (ph_more rfl ?_))
  apply Exists.intro
  apply And.intro
  · intro w' s
    simp only [List.map_cons, List.map_nil, List.getD_cons_zero, List.getD_cons_succ]
    go_wp2_with fail
    exact pre_end
  simp only [List.map_cons, List.map_nil, List.getD_cons_zero, List.getD_cons_succ]
  refine segsK_more ?_
  go_wp2_with fail
  refine ((Label_kl (HK.out.step Hs0.out) 2)).mono ?_
  rintro e we4 ⟨rfl, be⟩
  have be0 := Lib.hid be
  have se := Hs0.out.trans (be.mono Hs0.out.size)
  clear Hs0 be
  rw [F3.out]
  simp only [Label.cells]
  clear be0
  have Hs0 := Lib.hid se; clear se
  go_wp2_with fail
  refine seg_end Hs0.out (segsK_more ?_)
  go_wp2_with fail
  refine seg_end Hs0.out (segsK_more ?_)
  go_wp2_with fail
  refine seg_end Hs0.out (segsK_end (ph_more rfl ?_))
  apply Exists.intro
  apply And.intro
  · intro w' s
    have xg := (s.block _ (Array.getElem?_eq_some_iff.1 Zp.out).1).trans Zp.out
    have y0 := cells_at xg 0
    have y1 := cells_at xg 1
    have y2 := cells_at xg 2
    clear xg
    simp only [List.map_cons, List.map_nil, List.getD_cons_zero, List.getD_cons_succ]
    go_wp2_with fail
    exact pre_end
  simp only [List.map_cons, List.map_nil, List.getD_cons_zero, List.getD_cons_succ]
  refine segsK_more ?_
  go_wp2_with fail
  refine ((Plan_kl (HK.out.step Hs0.out))).mono ?_
  rintro e we5 ⟨rfl, be⟩
  have be0 := Lib.hid be
  have se := Hs0.out.trans (be.mono Hs0.out.size)
  clear Hs0 be
  simp only [Pl.cells, Pl.parts, Pl.window, Pl.delay]
  clear be0
  have Hs0 := Lib.hid se; clear se
  go_wp2_with fail
  refine seg_end Hs0.out (segsK_more ?_)
  go_wp2_with fail
  refine seg_end Hs0.out (segsK_more ?_)
  go_wp2_with fail
  refine ((Box_kl (HK.out.step Hs0.out) 0 true)).mono ?_
  rintro e we6 ⟨v, rfl, ov, be⟩
  have be0 := Lib.hid be
  have se := Hs0.out.trans (be.mono Hs0.out.size)
  clear Hs0 be
  rw [alive8.2.2.2.1] at ov
  obtain ⟨va, vk, vc, rfl, hms, -⟩ := ov.msgs
  obtain rfl : vk = 0 := hms.len.symm
  clear hms ov
  clear be0
  have Hs0 := Lib.hid se; clear se
  go_wp2_with fail
  refine seg_end Hs0.out (segsK_more ?_)
  go_wp2_with fail
  refine seg_end Hs0.out (segsK_more ?_)
  go_wp2_with fail
  refine seg_end Hs0.out (segsK_more ?_)
  go_wp2_with fail
  refine seg_end Hs0.out (segsK_end (ph_more rfl ?_))
  apply Exists.intro
  apply And.intro
  · intro w' s
    simp only [List.map_cons, List.map_nil, List.getD_cons_zero, List.getD_cons_succ]
    go_wp2_with fail
    exact pre_end
  simp only [List.map_cons, List.map_nil, List.getD_cons_zero, List.getD_cons_succ]
  refine segsK_more ?_
  go_wp2_with fail
  refine ((Gate_kg (HK.out.step Hs0.out))).mono ?_
  rintro e we7 ⟨gc, rfl, hgc, be⟩
  have be0 := Lib.hid be
  have se := Hs0.out.trans (be.mono Hs0.out.size)
  have hgk := hgc.keep (be.block _ hgc.lt)
  clear hgc
  have HGc := Lib.hid hgk; clear hgk
  clear Hs0 be
  clear be0
  have Hs0 := Lib.hid se; clear se
  go_wp2_with fail
  refine seg_end Hs0.out (segsK_more ?_)
  go_wp2_with fail
  refine ((Label_kl (HK.out.step Hs0.out) 2)).mono ?_
  rintro e we8 ⟨rfl, be⟩
  have be0 := Lib.hid be
  have se := Hs0.out.trans (be.mono Hs0.out.size)
  clear Hs0 be
  rw [F3.out]
  simp only [Label.cells]
  have hgk := HGc.out.keep (be0.out.block _ HGc.out.lt)
  clear HGc
  have HGc := Lib.hid hgk; clear hgk
  clear be0
  have Hs0 := Lib.hid se; clear se
  go_wp2_with fail
  refine seg_end Hs0.out (segsK_more ?_)
  go_wp2_with fail
  refine ((Pass_calls HGc.out (3, 0) (0, 0))).mono ?_
  rintro e we9 ⟨rfl, be⟩
  have be0 := Lib.hid be
  have se := Hs0.out.trans (be.mono Hs0.out.size)
  clear Hs0 be
  rw [alive8.2.2.2.2]
  clear be0
  have Hs0 := Lib.hid se; clear se
  go_wp2_with fail
  refine seg_end Hs0.out (segsK_more ?_)
  go_wp2_with fail
  refine seg_end Hs0.out (segsK_end (ph_end ?_))
  have hb := Hb.out.trans (Hs0.out.mono Hb.out.size)
  clear hq hg lq lg pq pg
  have HB := Lib.hid hb; clear hb
  go_wp2
  go_ret
  exact ⟨rfl, HB.out⟩
end Go.Proofs.YtclgakdfeeefiaaDoor
