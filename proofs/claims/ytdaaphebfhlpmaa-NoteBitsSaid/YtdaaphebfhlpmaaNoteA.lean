/- Helpers of the note's laws; alive. -/
import Derived.Test.YtdaaphebfhlpmaaNote5
namespace Go.Proofs.Ytdaaphebfhlpmaa
open Go.RowKit

theorem keepAt {w w' : World} {g : Nat} {o : Obj} (h : w.heap[g]? = some o) (b : Below w.heap.size w w') : w'.heap[g]? = some o := (b.block _ (Array.getElem?_eq_some_iff.1 h).1).trans h
theorem sealed_take {xs : List Int} {n : Nat} (h : xs.length = n) : (sealed xs).take n = xs := by
  unfold sealed; rw [← h]; exact List.take_left
theorem opened_of_sealed (xs : List Int) : opened (sealed xs) = true := by
  have hl := sealed_len xs
  have e : (sealed xs).length - 3 = xs.length := by omega
  unfold opened
  rw [e, sealed_take rfl, Bool.and_eq_true, decide_eq_true_iff, decide_eq_true_iff]
  refine ⟨by omega, ?_⟩
  unfold sealed; exact List.drop_left.symm
theorem sealed_zero (xs : List Int) (h : ∀ z ∈ xs, (Lit.int .u8 z).wf = true) : crc 11994318 (sealed xs) = 0 := by
  unfold sealed
  rw [crc_append]
  exact crc_three (crc_lt (by decide) fun z hz => (wf_u8 (h z hz)).2)
theorem noteE_yes {m : Msg} (h : rightOf m = true) : noteE m = sealed (bytesZ 4 (wordN m)) ∧ (noteE m).length = 7 := by
  have e : noteE m = sealed (bytesZ 4 (wordN m)) := by unfold noteE noteW; rw [if_pos h, if_pos h]
  exact ⟨e, by rw [e, sealed_len, bytes_len]⟩
theorem noteD_E {m : Msg} (h : rightOf m = true) : noteD (noteE m) = (m, true) := by
  obtain ⟨e, hl⟩ := noteE_yes h
  have ho : opened (noteE m) = true := by rw [e]; exact opened_of_sealed _
  unfold noteD
  rw [if_pos ⟨ho, hl⟩, e, sealed_take (bytes_len 4 _)]
  have hw := wordZ_nat h
  rw [(bytes_back (n := 4) (u := wordN m) (Nat.div_eq_of_lt (Nat.lt_of_lt_of_le hw.2.2 (by decide)))).1, (noteO_word h).1, (noteO_word h).2]
abbrev mm : Msg := (1, 2, 5, 1)
theorem mm_facts : rightOf mm = true ∧ noteW mm = 1361 ∧ noteB 1361 = true ∧ noteO 1361 = mm ∧ upOf mm = true ∧ upOf (4, 0, 1, 0) = false ∧ rightOf (0, 0, 0, 0) = false ∧ noteC mm (1, 2, 6, 0) = -1 := by decide
set_option maxHeartbeats 4000000 in
theorem alive_calls {w : World} : Calls Try.prog 8 #[] w fun e w' => e = .returned (.bool true) ∧ Below w.heap.size w w' := by
  obtain ⟨m1, m2, m3, m4, m5, m6, m7, m8⟩ := mm_facts
  have h1 := fun w : World => Word_calls (w := w) mm
  have h2 := fun w : World => Of_calls (w := w) (u := 1361) (by decide)
  have h3 := fun w : World => Encode_calls (w := w) mm
  have h4 := fun (w : World) a c (hi : Ints w .u8 a 7 c (noteE mm)) => Decode_calls hi (by decide)
  have h5 := fun w : World => Right_calls (w := w) mm
  have h6 := fun w : World => Up_calls (w := w) mm
  have h7 := fun w : World => Up_calls (w := w) (4, 0, 1, 0)
  have h8 := fun w : World => Right_calls (w := w) (0, 0, 0, 0)
  have h9 := fun w : World => Order_calls (w := w) mm (1, 2, 6, 0)
  have hq := fun w => msg_eql w mm mm
  have hg := fun x y w => msg_guard .eql x y mm mm w
  have hl := (noteE_yes m1).2
  rw [noteD_E m1] at h4
  rw [m1, m2] at h1
  rw [m3, m4] at h2
  rw [m1] at h3 h5
  rw [m5] at h6
  rw [m6] at h7
  rw [m7] at h8
  rw [m8] at h9
  simp only [Msg.cells, Msg.kind, Msg.part, Msg.tx, Msg.what, decide_true] at h1 h2 h3 h4 h5 h6 h7 h8 h9 hq hg
  generalize noteE mm = L at *
  clear m1 m2 m3 m4 m5 m6 m7 m8
  have n1 : ((1361 : Nat) : Int) = 1361 := rfl
  simp only [n1] at h1 h2
  clear n1
  have H1 := Lib.hid h1; clear h1
  have H2 := Lib.hid h2; clear h2
  have H3 := Lib.hid h3; clear h3
  have H4 := Lib.hid h4; clear h4
  have H5 := Lib.hid h5; clear h5
  have H6 := Lib.hid h6; clear h6
  have H7 := Lib.hid h7; clear h7
  have H8 := Lib.hid h8; clear h8
  have H9 := Lib.hid h9; clear h9
  have Hq := Lib.hid hq; clear hq
  have Hg := Lib.hid hg; clear hg
  have Hl := Lib.hid hl; clear hl
  have Hb := Lib.hid (Below.refl w.heap.size w)
  have bk := (Below.refl w.heap.size w).alloc (Nat.le_refl _) (.cells #[.int .i64 1, .int .i64 2, .int .i64 5, .int .i64 1] 23)
  have zM := heap_alloc_new w (.cells #[.int .i64 1, .int .i64 2, .int .i64 5, .int .i64 1] 23)
  have hb := Hb.out.trans (bk.mono Hb.out.size)
  clear Hb bk
  have Hb := Lib.hid hb; clear hb
  have XM := Lib.hid zM; clear zM
  have yM0 := cells_at XM.out 0
  have yM1 := cells_at XM.out 1
  have yM2 := cells_at XM.out 2
  have yM3 := cells_at XM.out 3
  go_enter Try.func8, Try.ntmps8
  go_wp2_with fail
  clear yM0 yM1 yM2 yM3
  generalize w.alloc (.cells #[.int .i64 1, .int .i64 2, .int .i64 5, .int .i64 1] 23) = w1 at *
  refine (H1.out _).mono ?_
  rintro e w2 ⟨rfl, bk⟩
  have xM := keepAt XM.out bk
  have hb := Hb.out.trans (bk.mono Hb.out.size)
  clear Hb bk
  clear XM
  have XM := Lib.hid xM; clear xM
  have Hb := Lib.hid hb; clear hb
  go_wp2_with fail
  refine (H2.out _).mono ?_
  rintro e w3 ⟨rfl, bk⟩
  have xM := keepAt XM.out bk
  have hb := Hb.out.trans (bk.mono Hb.out.size)
  clear Hb bk
  clear XM
  have XM := Lib.hid xM; clear xM
  have Hb := Lib.hid hb; clear hb
  have bk := (Below.refl w3.heap.size w3).alloc (Nat.le_refl _) (.cells #[.int .i64 1, .int .i64 2, .int .i64 5, .int .i64 1] 23)
  have zX := heap_alloc_new w3 (.cells #[.int .i64 1, .int .i64 2, .int .i64 5, .int .i64 1] 23)
  have xM := keepAt XM.out bk
  have hb := Hb.out.trans (bk.mono Hb.out.size)
  clear Hb bk
  clear XM
  have XM := Lib.hid xM; clear xM
  have Hb := Lib.hid hb; clear hb
  have XX := Lib.hid zX; clear zX
  have yM0 := cells_at XM.out 0
  have yM1 := cells_at XM.out 1
  have yM2 := cells_at XM.out 2
  have yM3 := cells_at XM.out 3
  go_wp2_with fail
  clear yM0 yM1 yM2 yM3
  generalize w3.heap.size = g3 at *
  generalize w3.alloc (.cells #[.int .i64 1, .int .i64 2, .int .i64 5, .int .i64 1] 23) = w4 at *
  refine (H3.out _).mono ?_
  rintro e w5 ⟨v, rfl, ov, bk⟩
  obtain ⟨va, vc, rfl, i5, -⟩ := ov.ints
  rw [Hl.out] at i5 ⊢
  clear ov
  have xM := keepAt XM.out bk
  have xX := keepAt XX.out bk
  have hb := Hb.out.trans (bk.mono Hb.out.size)
  clear Hb bk
  clear XM
  have XM := Lib.hid xM; clear xM
  clear XX
  have XX := Lib.hid xX; clear xX
  have Hb := Lib.hid hb; clear hb
  have I5 := Lib.hid i5; clear i5
  have h4 := H4.out _ _ _ I5.out
  clear H4
  have H4 := Lib.hid h4; clear h4
  go_wp2_with fail
  refine (H4.out).mono ?_
  rintro e w6 ⟨rfl, bk⟩
  have xM := keepAt XM.out bk
  have xX := keepAt XX.out bk
  have i5 := I5.out.keep bk
  have hb := Hb.out.trans (bk.mono Hb.out.size)
  clear Hb bk
  clear XM
  have XM := Lib.hid xM; clear xM
  clear XX
  have XX := Lib.hid xX; clear xX
  clear I5
  have I5 := Lib.hid i5; clear i5
  have Hb := Lib.hid hb; clear hb
  have bk := (Below.refl w6.heap.size w6).alloc (Nat.le_refl _) (.cells #[.int .i64 1, .int .i64 2, .int .i64 5, .int .i64 1] 23)
  have zY := heap_alloc_new w6 (.cells #[.int .i64 1, .int .i64 2, .int .i64 5, .int .i64 1] 23)
  have xM := keepAt XM.out bk
  have xX := keepAt XX.out bk
  have i5 := I5.out.keep bk
  have hb := Hb.out.trans (bk.mono Hb.out.size)
  clear Hb bk
  clear XM
  have XM := Lib.hid xM; clear xM
  clear XX
  have XX := Lib.hid xX; clear xX
  clear I5
  have I5 := Lib.hid i5; clear i5
  have Hb := Lib.hid hb; clear hb
  have XY := Lib.hid zY; clear zY
  have yM0 := cells_at XM.out 0
  have yM1 := cells_at XM.out 1
  have yM2 := cells_at XM.out 2
  have yM3 := cells_at XM.out 3
  have yX0 := cells_at XX.out 0
  have yX1 := cells_at XX.out 1
  have yX2 := cells_at XX.out 2
  have yX3 := cells_at XX.out 3
  have yY0 := cells_at XY.out 0
  have yY1 := cells_at XY.out 1
  have yY2 := cells_at XY.out 2
  have yY3 := cells_at XY.out 3
  have hq := Hq.out
  have hg := Hg.out
  go_wp2_with fail
  clear yM0 yM1 yM2 yM3 yX0 yX1 yX2 yX3 yY0 yY1 yY2 yY3
  clear hq hg Hq Hg
  generalize w6.heap.size = g6 at *
  generalize w6.alloc (.cells #[.int .i64 1, .int .i64 2, .int .i64 5, .int .i64 1] 23) = w7 at *
  clear XX
  clear XY
  clear I5
  refine (H5.out _).mono ?_
  rintro e w8 ⟨rfl, bk⟩
  have xM := keepAt XM.out bk
  have hb := Hb.out.trans (bk.mono Hb.out.size)
  clear Hb bk
  clear XM
  have XM := Lib.hid xM; clear xM
  have Hb := Lib.hid hb; clear hb
  have yM0 := cells_at XM.out 0
  have yM1 := cells_at XM.out 1
  have yM2 := cells_at XM.out 2
  have yM3 := cells_at XM.out 3
  go_wp2_with fail
  refine (H6.out _).mono ?_
  rintro e w9 ⟨rfl, bk⟩
  clear yM0 yM1 yM2 yM3
  have xM := keepAt XM.out bk
  have hb := Hb.out.trans (bk.mono Hb.out.size)
  clear Hb bk
  clear XM
  have XM := Lib.hid xM; clear xM
  have Hb := Lib.hid hb; clear hb
  go_wp2_with fail
  refine (H7.out _).mono ?_
  rintro e wa ⟨rfl, bk⟩
  have xM := keepAt XM.out bk
  have hb := Hb.out.trans (bk.mono Hb.out.size)
  clear Hb bk
  clear XM
  have XM := Lib.hid xM; clear xM
  have Hb := Lib.hid hb; clear hb
  go_wp2_with fail
  refine (H8.out _).mono ?_
  rintro e wb ⟨rfl, bk⟩
  have xM := keepAt XM.out bk
  have hb := Hb.out.trans (bk.mono Hb.out.size)
  clear Hb bk
  clear XM
  have XM := Lib.hid xM; clear xM
  have Hb := Lib.hid hb; clear hb
  have yM0 := cells_at XM.out 0
  have yM1 := cells_at XM.out 1
  have yM2 := cells_at XM.out 2
  have yM3 := cells_at XM.out 3
  go_wp2_with fail
  refine (H9.out _).mono ?_
  rintro e wc ⟨rfl, bk⟩
  clear yM0 yM1 yM2 yM3
  have xM := keepAt XM.out bk
  have hb := Hb.out.trans (bk.mono Hb.out.size)
  clear Hb bk
  clear XM
  have XM := Lib.hid xM; clear xM
  have Hb := Lib.hid hb; clear hb
  go_wp2
  go_ret
  exact ⟨rfl, Hb.out⟩
end Go.Proofs.Ytdaaphebfhlpmaa
