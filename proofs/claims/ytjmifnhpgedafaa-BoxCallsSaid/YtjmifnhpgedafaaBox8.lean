/- The laws' 'alive': a box that is full. -/
import Derived.Test.YtjmifnhpgedafaaBox7
import Derived.Test.YtjmifnhpgedafaaSeq
namespace Go.Proofs.Ytjmifnhpgedafaa
open Go.RowKit

set_option maxHeartbeats 4000000 in
set_option maxRecDepth 100000 in
theorem alive_calls {w : World} : Calls Try.prog 8 #[] w fun e w' => e = .returned (.bool true) ∧ Below w.heap.size w w' := by
  have e1 : putOf (1, 0) 1 [] (0, 0) 0 (2, 0, 1, 0) = (true, 0, [(2, 0, 1, 0)]) := by decide
  have e2 : putOf (1, 0) 1 [(2, 0, 1, 0)] (0, 0) 0 (2, 0, 2, 0) = (false, 0, [(2, 0, 1, 0)]) := by decide
  have e3 : putOf (1, 0) 1 [(2, 0, 1, 0)] (0, 0) 1 (2, 0, 3, 0) = (false, 15, [(2, 0, 1, 0)]) := by decide
  have e4 : takeOf (1, 0) [(2, 0, 1, 0)] (0, 0) 0 0 = (noMsg, 14, [(2, 0, 1, 0)]) := by decide
  have e5 : withOf (1, 0) (1, 0) 0 = true := by decide
  have e6 : takeOf (1, 0) [(2, 0, 1, 0)] (0, 0) 1 0 = ((2, 0, 1, 0), 0, []) := by decide
  have e7 : takeOf (1, 0) [] (0, 0) 1 0 = (noMsg, 12, []) := by decide
  have E1 := Lib.hid e1; clear e1
  have E2 := Lib.hid e2; clear e2
  have E3 := Lib.hid e3; clear e3
  have E4 := Lib.hid e4; clear e4
  have E5 := Lib.hid e5; clear e5
  have E6 := Lib.hid e6; clear e6
  have E7 := Lib.hid e7; clear e7
  have en := fun w => New_bx (w0 := w) (Below.refl w.heap.size w) (1, 0) (n := 1) (by decide) (by decide)
  simp only [Label.cells] at en
  have EN := Lib.hid en; clear en
  go_enter Try.func8, Try.ntmps8
  go_wp2_with fail
  refine (EN.out w).mono ?_
  rintro e w1 ⟨b, F, rfl, d1, lo1, b1⟩
  clear EN
  have Hd1 := Lib.hid d1; clear d1
  have Hb1 := Lib.hid b1; clear b1
  have Hl1 := Lib.hid lo1; clear lo1
  go_wp2_with fail
  refine (msg_calls 1).mono ?_
  rintro e w2 ⟨rfl, b2⟩
  have d2 := Hd1.out.step b2
  have bb2 := Hb1.out.trans (b2.mono Hb1.out.size)
  clear Hd1 Hb1 b2
  have Hd2 := Lib.hid d2; clear d2
  have Hb2 := Lib.hid bb2; clear bb2
  simp only [Msg.cells, Msg.kind, Msg.part, Msg.tx, Msg.what]
  go_wp2_with fail
  refine (Put_bx Hd2.out (0, 0) 0 (2, 0, 1, 0)).mono ?_
  rintro e w3 ⟨rfl, d3, -⟩
  rw [E1.out] at d3 ⊢
  clear E1 Hd2 Hb2 Hl1
  have Hd3 := Lib.hid d3; clear d3
  go_wp2_with fail
  refine (msg_calls 2).mono ?_
  rintro e w4 ⟨rfl, b4⟩
  have d4 := Hd3.out.step b4
  clear Hd3 b4
  have Hd4 := Lib.hid d4; clear d4
  simp only [Msg.cells, Msg.kind, Msg.part, Msg.tx, Msg.what]
  go_wp2_with fail
  refine (Put_bx Hd4.out (0, 0) 0 (2, 0, 2, 0)).mono ?_
  rintro e w5 ⟨rfl, d5, -⟩
  rw [E2.out] at d5 ⊢
  clear E2 Hd4
  have Hd5 := Lib.hid d5; clear d5
  go_wp2_with fail
  refine (msg_calls 3).mono ?_
  rintro e w6 ⟨rfl, b6⟩
  have d6 := Hd5.out.step b6
  clear Hd5 b6
  have Hd6 := Lib.hid d6; clear d6
  simp only [Msg.cells, Msg.kind, Msg.part, Msg.tx, Msg.what]
  go_wp2_with fail
  refine (Put_bx Hd6.out (0, 0) 1 (2, 0, 3, 0)).mono ?_
  rintro e w7 ⟨rfl, d7, -⟩
  rw [E3.out] at d7 ⊢
  clear E3 Hd6
  have Hd7 := Lib.hid d7; clear d7
  go_wp2_with fail
  refine (Take_bx Hd7.out (0, 0) 0 0).mono ?_
  rintro e w8 ⟨rfl, d8, -⟩
  rw [E4.out] at d8 ⊢
  clear E4 Hd7
  have Hd8 := Lib.hid d8; clear d8
  simp only [noMsg, Msg.cells, Msg.kind, Msg.part, Msg.tx, Msg.what]
  go_wp2_with fail
  have d9 := Hd8.out.step ((Below.refl _ _).alloc (Nat.le_refl _) (.cells #[.int .i64 0, .int .i64 0, .int .i64 0, .int .i64 0] 34))
  generalize w8.alloc (.cells #[.int .i64 0, .int .i64 0, .int .i64 0, .int .i64 0] 34) = w9 at d9 ⊢
  clear Hd8
  refine (List_bx d9 (1, 0) 0).mono ?_
  rintro e wa ⟨v, rfl, own, -, da⟩
  rw [E5.out] at own ⊢
  obtain ⟨va, vc, rfl⟩ := own_slice own
  clear E5 own d9
  have Hda := Lib.hid da; clear da
  go_wp2_with fail
  refine (Take_bx Hda.out (0, 0) 1 0).mono ?_
  rintro e wb ⟨rfl, db, -⟩
  rw [E6.out] at db ⊢
  clear E6 Hda
  have Hdb := Lib.hid db; clear db
  simp only [Msg.cells, Msg.kind, Msg.part, Msg.tx, Msg.what]
  go_wp2_with fail
  obtain ⟨wc, hwc⟩ : ∃ wc, wc = wb.alloc (.cells #[.int .i64 2, .int .i64 0, .int .i64 1, .int .i64 0] 34) := ⟨_, rfl⟩
  have dc := Hdb.out.step ((Below.refl _ _).alloc (Nat.le_refl _) (.cells #[.int .i64 2, .int .i64 0, .int .i64 1, .int .i64 0] 34))
  have xc := heap_alloc_new wb (.cells #[.int .i64 2, .int .i64 0, .int .i64 1, .int .i64 0] 34)
  have sc : wb.heap.size < (wb.alloc (.cells #[.int .i64 2, .int .i64 0, .int .i64 1, .int .i64 0] 34)).heap.size := by simp
  rw [← hwc] at dc xc sc ⊢
  have nF : ¬ grownF (grownF (grownF (grownF (grownF F w2 w3) w4 w5) w6 w7) w7 w8) wa wb wb.heap.size := fun h => by have := (Hdb.out.low _ h).2; omega
  clear hwc Hdb
  refine (Take_bx dc (0, 0) 1 0).mono ?_
  rintro e wd ⟨rfl, dd, md⟩
  have xd := (md.block _ sc nF).trans xc
  rw [E7.out] at dd ⊢
  clear E7 dc xc nF md
  generalize wb.heap.size = g at xd sc ⊢
  have Hdd := Lib.hid dd; clear dd
  have Hxd := Lib.hid xd; clear xd sc
  simp only [noMsg, Msg.cells, Msg.kind, Msg.part, Msg.tx, Msg.what]
  go_wp2_with fail
  generalize hwf : wd.alloc (.cells #[.int .i64 0, .int .i64 0, .int .i64 0, .int .i64 0] 34) = wf
  have hb : Below wd.heap.size wd wf := by rw [← hwf]; exact (Below.refl _ _).alloc (Nat.le_refl _) _
  have df := (Hdd.out.step hb).drawn 1
  have xf : wf.drew.heap[g]? = some (.cells #[.int .i64 2, .int .i64 0, .int .i64 1, .int .i64 0] 34 (0, 0)) := by
    have := hb.block g (Array.getElem?_eq_some_iff.1 Hxd.out).1
    exact this.trans Hxd.out
  replace df : Bx w wf.drew b _ (1, 0) 1 [] := df
  generalize wd.heap.size = gd
  clear hb Hdd Hxd hwf
  have Hdf := Lib.hid df; clear df
  refine wp_region_seq (fun _ => true) (fun w' : World => w'.heap[g]? = some (.cells #[.int .i64 2, .int .i64 0, .int .i64 1, .int .i64 0] 34 (0, 0))) 131
    [0, 1, 2, 3, 4, 5, 6, 7, 8, 9, 10, 11, 12, 13, 14, 15, 16, 17, 18, 19, 20, 21, 22, 23, 24, 25, 26, 27, 28, 29, 30, 31, 32, 33, 34, 35, 36, 37, 38] [39] [[40], [41], [42, 43, 44, 45], [46, 47, 48, 49], [50], [51, 52, 53, 55, 54], [56], [57, 58]] (by kernel_rfl) (by kernel_rfl) rfl (by kernel_rfl)
    (fun _ _ _ h => by obtain ⟨_, h, _⟩ := h; cases h) (fun _ _ h => by obtain ⟨h, _⟩ := h; cases h) (by kernel_rfl) ?_
  simp only [List.map_cons, List.map_nil, List.getD_cons_zero, List.getD_cons_succ]
  have Hxf := Lib.hid xf; clear xf
  generalize wf.drew = wg at Hdf Hxf ⊢
  go_wp2_with fail
  refine held_at rfl Hxf.out ?_
  apply Exists.intro
  apply And.intro
  · intro w' s
    have c0 : w'.cell? ⟨g, 0, none⟩ = some (.int .i64 2) := cells_at s 0
    have c1 : w'.cell? ⟨g, 1, none⟩ = some (.int .i64 0) := cells_at s 1
    have c2 : w'.cell? ⟨g, 2, none⟩ = some (.int .i64 1) := cells_at s 2
    have c3 : w'.cell? ⟨g, 3, none⟩ = some (.int .i64 0) := cells_at s 3
    simp only [List.map_cons, List.map_nil, List.getD_cons_zero, List.getD_cons_succ]
    go_wp2_with fail
    exact pre_end
  · simp only [List.map_cons, List.map_nil, List.getD_cons_zero, List.getD_cons_succ]
    refine segs_more ?_
    go_wp2_with fail
    refine (msg_calls 1).mono ?_
    rintro e wh ⟨rfl, bh⟩
    have dh := Hdf.out.step bh
    have xh := (bh.block g (Array.getElem?_eq_some_iff.1 Hxf.out).1).trans Hxf.out
    clear Hdf Hxf bh
    have Hdh := Lib.hid dh; clear dh
    have Hxh := Lib.hid xh; clear xh
    simp only [Msg.cells, Msg.kind, Msg.part, Msg.tx, Msg.what]
    go_wp2_with fail
    refine seg_end Hxh.out (segs_more ?_)
    have hq := fun w => msg_eql w (2, 0, 1, 0) (2, 0, 1, 0)
    have hg := fun x y w => msg_guard .eql x y (2, 0, 1, 0) (2, 0, 1, 0) w
    simp only [Msg.cells, Msg.kind, Msg.part, Msg.tx, Msg.what, decide_true] at hq hg
    go_wp2_with fail
    clear hq hg
    refine seg_end Hxh.out (segs_more ?_)
    go_wp2_with fail
    refine seg_end Hxh.out (segs_more ?_)
    go_wp2_with fail
    refine (Len_bx Hdh.out).mono ?_
    rintro e wi ⟨rfl, rfl⟩
    simp only [List.length_nil]
    go_wp2_with fail
    refine seg_end Hxh.out (segs_more ?_)
    go_wp2_with fail
    refine seg_end Hxh.out (segs_more ?_)
    go_wp2_with fail
    refine (Label_bx Hdh.out).mono ?_
    rintro e wi ⟨rfl, bi, di⟩
    have xi := (bi.block g (Array.getElem?_eq_some_iff.1 Hxh.out).1).trans Hxh.out
    have bw := Hdh.out.bel.trans (bi.mono Hdh.out.bel.size)
    clear Hdh Hxh bi di
    have Hxi := Lib.hid xi; clear xi
    have Hbw := Lib.hid bw; clear bw
    simp only [Label.cells]
    go_wp2_with fail
    refine seg_end Hxi.out (segs_more ?_)
    have hq := fun w => label_eql w (1, 0) (1, 0)
    have hg := fun x y w => label_guard .eql x y (1, 0) (1, 0) w
    simp only [Label.cells, decide_true] at hq hg
    go_wp2_with fail
    clear hq hg
    refine seg_end Hxi.out (segs_last ?_)
    go_wp2_with fail
    go_ret
    exact ⟨rfl, Hbw.out⟩
end Go.Proofs.Ytjmifnhpgedafaa
