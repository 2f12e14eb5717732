/- The law KernTurns. -/
import Derived.Test.YtclgakdfeeefiaaDoorKernD
namespace Go.Proofs.YtclgakdfeeefiaaDoor
open Go.RowKit

theorem send_not {n : Nat} {p : Pl} {st : Sta} {who to : Int} {m : Msg} {now : Int} (ho : ¬ ownOf p now = who) : sendK n p st who to m now = (if thereB n who = true ∧ thereB n to = true ∧ ¬ who = to then 23 else 11, st) := by
  unfold sendK
  by_cases h : thereB n who = true ∧ thereB n to = true ∧ ¬ who = to
  · rw [if_pos h, if_neg ho, if_pos h]
  · rw [if_neg h, if_neg h]
theorem recv_not {n : Nat} {p : Pl} {st : Sta} {who q i now : Int} (ho : ¬ ownOf p now = who) : (recvK n p st who q i now).1.2 = 23 ∨ (recvK n p st who q i now).1.2 = 11 := by
  unfold recvK
  simp only [if_neg ho]
  split
  · exact .inl rfl
  · exact .inr rfl
theorem send_turn {n : Nat} {p : Pl} {st : Sta} {who to : Int} {m : Msg} {now : Int} (ho : ownOf p now = who) : (sendK n p st who to m now).1 ≠ 23 := by
  unfold sendK
  by_cases h : thereB n who = true ∧ thereB n to = true ∧ ¬ who = to
  · rw [if_pos h, if_pos ho]
    by_cases h2 : flowOf n who to = true
    · rw [if_pos h2]
      simp only
      split <;> split <;> simp
    · rw [if_neg h2]; simp
  · rw [if_neg h]; simp
theorem take_codes (l : Label) (ms : List Msg) (t : Label) (o i : Int) : (takeOf l ms t o i).2.1 ≠ 23 := by
  unfold takeOf
  split
  · split <;> simp
  · simp
theorem recv_turn {n : Nat} {p : Pl} {st : Sta} {who q i now : Int} (ho : ownOf p now = who) : (recvK n p st who q i now).1.2 ≠ 23 := by
  unfold recvK
  simp only [if_pos ho]
  split
  · exact take_codes _ _ _ _ _
  · simp
set_option maxHeartbeats 16000000 in
set_option maxRecDepth 100000 in
theorem lawKernTurns {w : World} {p who to : Int} {m : Msg} {now : Int} (hT : TabOk w) (_h1 : (Lit.int .i64 p).wf = true) (_h2 : (Lit.int .i64 who).wf = true) (_h3 : (Lit.int .i64 to).wf = true) (_h5 : m.ok) (_h4 : (Lit.int .i64 now).wf = true) :
    Calls Tryd.prog 4 #[.int .i64 p, .int .i64 who, .int .i64 to, .agg m.cells.toArray, .int .i64 now] w fun e w' => e = .returned (.bool true) ∧ Below w.heap.size w w' := by
  clear _h1 _h2 _h3 _h4 _h5
  obtain ⟨w1, hw1⟩ : ∃ w1, w1 = w.alloc (.cells m.cells.toArray 39) := ⟨_, rfl⟩
  have c1 : Below w.heap.size w w1 := by rw [hw1]; exact (Below.refl _ _).alloc (Nat.le_refl _) _
  have z1 : w1.heap[w.heap.size]? = some (.cells m.cells.toArray 39 (0, 0)) := by rw [hw1]; exact heap_alloc_new w _
  have ha := alive_calls (hT.below c1)
  have h0 : 0 < w.heap.size := World.block_lt_of_cell? _ _ (hT 0 (by decide))
  have HA := Lib.hid ha; clear ha
  have HT := Lib.hid hT; clear hT
  have H0 := Lib.hid h0; clear h0
  have C1 := Lib.hid c1; clear c1
  have Z1 := Lib.hid z1; clear z1
  by_cases h1 : p < 1
  · have d1 : decide (p < 1) = true := decide_eq_true h1
    clear HT H0 Z1 h1
    obtain ⟨k, pa, t, x⟩ := m
    simp only [Msg.cells, Msg.kind, Msg.part, Msg.tx, Msg.what] at hw1 ⊢
    go_enter Tryd.func4, Tryd.ntmps4
    go_wp2_with fail
    rw [← hw1]
    clear hw1
    refine HA.out.mono ?_
    rintro e w2 ⟨rfl, b2⟩
    have hb := C1.out.trans (b2.mono C1.out.size)
    clear b2 C1
    have HB := Lib.hid hb; clear hb
    go_wp2
    go_ret
    exact ⟨rfl, HB.out⟩
  have d1 : decide (p < 1) = false := decide_eq_false h1
  by_cases h2 : 6 < p
  · have d2 : decide (6 < p) = true := decide_eq_true h2
    clear HT H0 Z1 h1 h2
    obtain ⟨k, pa, t, x⟩ := m
    simp only [Msg.cells, Msg.kind, Msg.part, Msg.tx, Msg.what] at hw1 ⊢
    go_enter Tryd.func4, Tryd.ntmps4
    go_wp2_with fail
    rw [← hw1]
    clear hw1
    refine HA.out.mono ?_
    rintro e w2 ⟨rfl, b2⟩
    have hb := C1.out.trans (b2.mono C1.out.size)
    clear b2 C1
    have HB := Lib.hid hb; clear hb
    go_wp2
    go_ret
    exact ⟨rfl, HB.out⟩
  have d2 : decide (6 < p) = false := decide_eq_false h2
  by_cases h3 : now < 0
  · have d3 : decide (now < 0) = true := decide_eq_true h3
    clear HT H0 Z1 h1 h2 h3
    obtain ⟨k, pa, t, x⟩ := m
    simp only [Msg.cells, Msg.kind, Msg.part, Msg.tx, Msg.what] at hw1 ⊢
    go_enter Tryd.func4, Tryd.ntmps4
    go_wp2_with fail
    rw [← hw1]
    clear hw1
    refine HA.out.mono ?_
    rintro e w2 ⟨rfl, b2⟩
    have hb := C1.out.trans (b2.mono C1.out.size)
    clear b2 C1
    have HB := Lib.hid hb; clear hb
    go_wp2
    go_ret
    exact ⟨rfl, HB.out⟩
  have d3 : decide (now < 0) = false := decide_eq_false h3
  by_cases h4 : 1125899906842624 < now
  · have d4 : decide (1125899906842624 < now) = true := decide_eq_true h4
    clear HT H0 Z1 h1 h2 h3 h4
    obtain ⟨k, pa, t, x⟩ := m
    simp only [Msg.cells, Msg.kind, Msg.part, Msg.tx, Msg.what] at hw1 ⊢
    go_enter Tryd.func4, Tryd.ntmps4
    go_wp2_with fail
    rw [← hw1]
    clear hw1
    refine HA.out.mono ?_
    rintro e w2 ⟨rfl, b2⟩
    have hb := C1.out.trans (b2.mono C1.out.size)
    clear b2 C1
    have HB := Lib.hid hb; clear hb
    go_wp2
    go_ret
    exact ⟨rfl, HB.out⟩
  have d4 : decide (1125899906842624 < now) = false := decide_eq_false h4
  obtain ⟨n, rfl⟩ : ∃ n : Nat, p = n := ⟨p.toNat, by omega⟩
  have hg : Pl.good ((n : Int), 1, 2) := ⟨by show 1 ≤ (n : Int); omega, by show (n : Int) ≤ 6; omega, (by decide : (1 : Int) ≤ 1 ∧ (1 : Int) ≤ 100 ∧ (1 : Int) < 2 ∧ (2 : Int) ≤ 200)⟩
  have hown : ownOf ((n : Int), 1, 2) now = now % ((n : Int) + 1) := by unfold ownOf; rw [tick_of (by omega)]
  have htm : now.tmod ((n : Int) + 1) = ownOf ((n : Int), 1, 2) now := by rw [hown, tmod_pos _ (by omega)]
  have hge : 0 ≤ ownOf ((n : Int), 1, 2) now ∧ ownOf ((n : Int), 1, 2) now ≤ (n : Int) := by rw [hown]; exact ⟨Int.emod_nonneg _ (by omega), by have := Int.emod_lt_of_pos now (show (0 : Int) < (n : Int) + 1 by omega); omega⟩
  obtain ⟨SK, hSK⟩ : ∃ s, s = sendK n ((n : Int), 1, 2) st0 who to m now := ⟨_, rfl⟩
  obtain ⟨RK, hRK⟩ : ∃ r, r = recvK n ((n : Int), 1, 2) SK.2 who to 0 now := ⟨_, rfl⟩
  have hnx : (n : Int) + 1 ≠ 0 := by omega
  have hn6 : n ≤ 6 := by omega
  have hw64 : wrap64 ((n : Int) + 1) = (n : Int) + 1 := IntWalk.wrap64_in _ (by omega)
  have hw64' : wrap64 (ownOf ((n : Int), 1, 2) now) = ownOf ((n : Int), 1, 2) now := IntWalk.wrap64_in _ (by omega)
  clear hown h1 h2 h3 h4
  by_cases ho : ownOf ((n : Int), 1, 2) now = who
  · have sa : SK.1 ≠ 23 := by rw [hSK]; exact send_turn ho
    have rb : RK.1.2 ≠ 23 := by rw [hRK]; exact recv_turn ho
    have ne : (ownOf ((n : Int), 1, 2) now != who) = false := by simpa using ho
    have sa : (SK.1 != 23) = true := by simpa using sa
    have rb : (RK.1.2 != 23) = true := by simpa using rb
    clear ho
    obtain ⟨SA, SS⟩ := SK
    obtain ⟨⟨RM, RB⟩, RS⟩ := RK
    obtain ⟨r0, r1, r2, r3⟩ := RM
    simp only at hRK hSK sa rb
    generalize ownOf ((n : Int), 1, 2) now = O at *
    have HSK := Lib.hid hSK; clear hSK
    have HRK := Lib.hid hRK; clear hRK
    have HG := Lib.hid hg; clear hg
    have Hge := Lib.hid hge; clear hge
    obtain ⟨k, pa, t, x⟩ := m
    simp only [Msg.cells, Msg.kind, Msg.part, Msg.tx, Msg.what] at hw1 ⊢
    go_enter Tryd.func4, Tryd.ntmps4
    go_wp2_with fail
    rw [← hw1]
    clear hw1
    refine HA.out.mono ?_
    rintro e w2 ⟨rfl, b2⟩
    have hb := C1.out.trans (b2.mono C1.out.size)
    have z2 := (b2.block _ (Array.getElem?_eq_some_iff.1 Z1.out).1).trans Z1.out
    have T2 := Lib.hid (HT.out.below hb)
    have h02 : 0 < w2.heap.size := Nat.lt_of_lt_of_le H0.out hb.size
    clear b2 C1 Z1 HT H0 HA
    have HB := Lib.hid hb; clear hb
    have Z2 := Lib.hid z2; clear z2
    have H02 := Lib.hid h02; clear h02
    obtain ⟨w3, hw3⟩ : ∃ w3, w3 = w2.alloc (.cells #[.int .i64 (n : Int), .int .i64 1, .int .i64 2] 28) := ⟨_, rfl⟩
    have b3 : Below w2.heap.size w2 w3 := by rw [hw3]; exact (Below.refl _ _).alloc (Nat.le_refl _) _
    have z3 := (b3.block _ (Array.getElem?_eq_some_iff.1 Z2.out).1).trans Z2.out
    have p3 : w3.heap[w2.heap.size]? = some (.cells #[.int .i64 (n : Int), .int .i64 1, .int .i64 2] 28 (0, 0)) := by rw [hw3]; exact heap_alloc_new w2 _
    have hn := New_kl (w0 := w) (HB.out.trans (b3.mono HB.out.size)) (T2.out.below b3) (Nat.lt_of_lt_of_le H02.out b3.size) ((n : Int), 1, 2) HG.out (n := n) rfl (L := [(w.heap.size, .cells #[.int .i64 k, .int .i64 pa, .int .i64 t, .int .i64 x] 39 (0, 0))]) (fun y hy => by rw [List.mem_singleton] at hy; subst hy; exact z3)
    simp only [Pl.cells, Pl.parts, Pl.window, Pl.delay] at hn
    have y0 := cells_at p3 0
    have y1 := cells_at p3 1
    have y2 := cells_at p3 2
    rw [hw3] at y0 y1 y2
    have Hn := Lib.hid hn; clear hn b3 z3 p3 HB T2 H02 Z2
    go_wp2_with fail
    rw [← hw3]
    clear hw3 y0 y1 y2
    refine Hn.out.mono ?_
    rintro e w4 ⟨kb, rfl, hk, -⟩
    have zm := hk.at (.head _)
    have y0 := cells_at zm 0
    have y1 := cells_at zm 1
    have y2 := cells_at zm 2
    have y3 := cells_at zm 3
    have hs := Send_kl hk outs0 (by decide) who to (k, pa, t, x) now
    rw [← HSK.out] at hs
    simp only [Msg.cells, Msg.kind, Msg.part, Msg.tx, Msg.what] at hs
    have Hs := Lib.hid hs; clear hs hk zm Hn
    go_wp2_with fail
    clear y0 y1 y2 y3
    refine Hs.out.mono ?_
    rintro e w5 ⟨rfl, hk⟩
    have hr := Recv_kl hk who to 0 now
    rw [← HRK.out] at hr
    simp only [Msg.cells, Msg.kind, Msg.part, Msg.tx, Msg.what] at hr
    have Hr := Lib.hid hr; clear hr hk Hs
    go_wp2_with fail
    refine Hr.out.mono ?_
    rintro e w6 ⟨rfl, hk⟩
    have hb := hk.bel
    have hb := hb.trans (((Below.refl w6.heap.size w6).alloc (Nat.le_refl _) (.cells #[.int .i64 r0, .int .i64 r1, .int .i64 r2, .int .i64 r3] 39)).mono hb.size)
    have HB := Lib.hid hb; clear hb hk Hr
    go_wp2
    go_ret
    exact ⟨rfl, HB.out⟩
  have ne : (ownOf ((n : Int), 1, 2) now != who) = true := by simpa using ho
  have rb : (RK.1.2 != 0) = true := by
    rw [hRK]
    rcases recv_not (n := n) (p := ((n : Int), 1, 2)) (st := SK.2) (who := who) (q := to) (i := 0) (now := now) ho with h | h <;> rw [h] <;> rfl
  have hs1 := congrArg Prod.fst hSK
  rw [send_not ho] at hs1
  simp only at hs1
  by_cases h5 : who < 0
  · rw [if_neg (fun h => by have := of_decide_eq_true h.1; omega)] at hs1
    have sa : (SK.1 != 0) = true := by rw [hs1]; rfl
    have d5 : decide (who < 0) = true := decide_eq_true h5
    clear h5 ho hs1
    obtain ⟨SA, SS⟩ := SK
    obtain ⟨⟨RM, RB⟩, RS⟩ := RK
    obtain ⟨r0, r1, r2, r3⟩ := RM
    simp only at hRK hSK sa rb
    generalize ownOf ((n : Int), 1, 2) now = O at *
    have HSK := Lib.hid hSK; clear hSK
    have HRK := Lib.hid hRK; clear hRK
    have HG := Lib.hid hg; clear hg
    have Hge := Lib.hid hge; clear hge
    obtain ⟨k, pa, t, x⟩ := m
    simp only [Msg.cells, Msg.kind, Msg.part, Msg.tx, Msg.what] at hw1 ⊢
    go_enter Tryd.func4, Tryd.ntmps4
    go_wp2_with fail
    rw [← hw1]
    clear hw1
    refine HA.out.mono ?_
    rintro e w2 ⟨rfl, b2⟩
    have hb := C1.out.trans (b2.mono C1.out.size)
    have z2 := (b2.block _ (Array.getElem?_eq_some_iff.1 Z1.out).1).trans Z1.out
    have T2 := Lib.hid (HT.out.below hb)
    have h02 : 0 < w2.heap.size := Nat.lt_of_lt_of_le H0.out hb.size
    clear b2 C1 Z1 HT H0 HA
    have HB := Lib.hid hb; clear hb
    have Z2 := Lib.hid z2; clear z2
    have H02 := Lib.hid h02; clear h02
    obtain ⟨w3, hw3⟩ : ∃ w3, w3 = w2.alloc (.cells #[.int .i64 (n : Int), .int .i64 1, .int .i64 2] 28) := ⟨_, rfl⟩
    have b3 : Below w2.heap.size w2 w3 := by rw [hw3]; exact (Below.refl _ _).alloc (Nat.le_refl _) _
    have z3 := (b3.block _ (Array.getElem?_eq_some_iff.1 Z2.out).1).trans Z2.out
    have p3 : w3.heap[w2.heap.size]? = some (.cells #[.int .i64 (n : Int), .int .i64 1, .int .i64 2] 28 (0, 0)) := by rw [hw3]; exact heap_alloc_new w2 _
    have hn := New_kl (w0 := w) (HB.out.trans (b3.mono HB.out.size)) (T2.out.below b3) (Nat.lt_of_lt_of_le H02.out b3.size) ((n : Int), 1, 2) HG.out (n := n) rfl (L := [(w.heap.size, .cells #[.int .i64 k, .int .i64 pa, .int .i64 t, .int .i64 x] 39 (0, 0))]) (fun y hy => by rw [List.mem_singleton] at hy; subst hy; exact z3)
    simp only [Pl.cells, Pl.parts, Pl.window, Pl.delay] at hn
    have y0 := cells_at p3 0
    have y1 := cells_at p3 1
    have y2 := cells_at p3 2
    rw [hw3] at y0 y1 y2
    have Hn := Lib.hid hn; clear hn b3 z3 p3 HB T2 H02 Z2
    go_wp2_with fail
    rw [← hw3]
    clear hw3 y0 y1 y2
    refine Hn.out.mono ?_
    rintro e w4 ⟨kb, rfl, hk, -⟩
    have zm := hk.at (.head _)
    have y0 := cells_at zm 0
    have y1 := cells_at zm 1
    have y2 := cells_at zm 2
    have y3 := cells_at zm 3
    have hs := Send_kl hk outs0 (by decide) who to (k, pa, t, x) now
    rw [← HSK.out] at hs
    simp only [Msg.cells, Msg.kind, Msg.part, Msg.tx, Msg.what] at hs
    have Hs := Lib.hid hs; clear hs hk zm Hn
    go_wp2_with fail
    clear y0 y1 y2 y3
    refine Hs.out.mono ?_
    rintro e w5 ⟨rfl, hk⟩
    have hr := Recv_kl hk who to 0 now
    rw [← HRK.out] at hr
    simp only [Msg.cells, Msg.kind, Msg.part, Msg.tx, Msg.what] at hr
    have Hr := Lib.hid hr; clear hr hk Hs
    go_wp2_with fail
    refine Hr.out.mono ?_
    rintro e w6 ⟨rfl, hk⟩
    have hb := hk.bel
    have hb := hb.trans (((Below.refl w6.heap.size w6).alloc (Nat.le_refl _) (.cells #[.int .i64 r0, .int .i64 r1, .int .i64 r2, .int .i64 r3] 39)).mono hb.size)
    have HB := Lib.hid hb; clear hb hk Hr
    go_wp2
    go_ret
    exact ⟨rfl, HB.out⟩
  by_cases h6 : (n : Int) < who
  · rw [if_neg (fun h => by have := of_decide_eq_true h.1; omega)] at hs1
    have sa : (SK.1 != 0) = true := by rw [hs1]; rfl
    have d5 : decide (who < 0) = false := decide_eq_false (by omega)
    have d6 : decide ((n : Int) < who) = true := decide_eq_true h6
    clear h5 h6 ho hs1
    obtain ⟨SA, SS⟩ := SK
    obtain ⟨⟨RM, RB⟩, RS⟩ := RK
    obtain ⟨r0, r1, r2, r3⟩ := RM
    simp only at hRK hSK sa rb
    generalize ownOf ((n : Int), 1, 2) now = O at *
    have HSK := Lib.hid hSK; clear hSK
    have HRK := Lib.hid hRK; clear hRK
    have HG := Lib.hid hg; clear hg
    have Hge := Lib.hid hge; clear hge
    obtain ⟨k, pa, t, x⟩ := m
    simp only [Msg.cells, Msg.kind, Msg.part, Msg.tx, Msg.what] at hw1 ⊢
    go_enter Tryd.func4, Tryd.ntmps4
    go_wp2_with fail
    rw [← hw1]
    clear hw1
    refine HA.out.mono ?_
    rintro e w2 ⟨rfl, b2⟩
    have hb := C1.out.trans (b2.mono C1.out.size)
    have z2 := (b2.block _ (Array.getElem?_eq_some_iff.1 Z1.out).1).trans Z1.out
    have T2 := Lib.hid (HT.out.below hb)
    have h02 : 0 < w2.heap.size := Nat.lt_of_lt_of_le H0.out hb.size
    clear b2 C1 Z1 HT H0 HA
    have HB := Lib.hid hb; clear hb
    have Z2 := Lib.hid z2; clear z2
    have H02 := Lib.hid h02; clear h02
    obtain ⟨w3, hw3⟩ : ∃ w3, w3 = w2.alloc (.cells #[.int .i64 (n : Int), .int .i64 1, .int .i64 2] 28) := ⟨_, rfl⟩
    have b3 : Below w2.heap.size w2 w3 := by rw [hw3]; exact (Below.refl _ _).alloc (Nat.le_refl _) _
    have z3 := (b3.block _ (Array.getElem?_eq_some_iff.1 Z2.out).1).trans Z2.out
    have p3 : w3.heap[w2.heap.size]? = some (.cells #[.int .i64 (n : Int), .int .i64 1, .int .i64 2] 28 (0, 0)) := by rw [hw3]; exact heap_alloc_new w2 _
    have hn := New_kl (w0 := w) (HB.out.trans (b3.mono HB.out.size)) (T2.out.below b3) (Nat.lt_of_lt_of_le H02.out b3.size) ((n : Int), 1, 2) HG.out (n := n) rfl (L := [(w.heap.size, .cells #[.int .i64 k, .int .i64 pa, .int .i64 t, .int .i64 x] 39 (0, 0))]) (fun y hy => by rw [List.mem_singleton] at hy; subst hy; exact z3)
    simp only [Pl.cells, Pl.parts, Pl.window, Pl.delay] at hn
    have y0 := cells_at p3 0
    have y1 := cells_at p3 1
    have y2 := cells_at p3 2
    rw [hw3] at y0 y1 y2
    have Hn := Lib.hid hn; clear hn b3 z3 p3 HB T2 H02 Z2
    go_wp2_with fail
    rw [← hw3]
    clear hw3 y0 y1 y2
    refine Hn.out.mono ?_
    rintro e w4 ⟨kb, rfl, hk, -⟩
    have zm := hk.at (.head _)
    have y0 := cells_at zm 0
    have y1 := cells_at zm 1
    have y2 := cells_at zm 2
    have y3 := cells_at zm 3
    have hs := Send_kl hk outs0 (by decide) who to (k, pa, t, x) now
    rw [← HSK.out] at hs
    simp only [Msg.cells, Msg.kind, Msg.part, Msg.tx, Msg.what] at hs
    have Hs := Lib.hid hs; clear hs hk zm Hn
    go_wp2_with fail
    clear y0 y1 y2 y3
    refine Hs.out.mono ?_
    rintro e w5 ⟨rfl, hk⟩
    have hr := Recv_kl hk who to 0 now
    rw [← HRK.out] at hr
    simp only [Msg.cells, Msg.kind, Msg.part, Msg.tx, Msg.what] at hr
    have Hr := Lib.hid hr; clear hr hk Hs
    go_wp2_with fail
    refine Hr.out.mono ?_
    rintro e w6 ⟨rfl, hk⟩
    have hb := hk.bel
    have hb := hb.trans (((Below.refl w6.heap.size w6).alloc (Nat.le_refl _) (.cells #[.int .i64 r0, .int .i64 r1, .int .i64 r2, .int .i64 r3] 39)).mono hb.size)
    have HB := Lib.hid hb; clear hb hk Hr
    go_wp2
    go_ret
    exact ⟨rfl, HB.out⟩
  by_cases h7 : to < 0
  · rw [if_neg (fun h => by have := of_decide_eq_true h.2.1; omega)] at hs1
    have sa : (SK.1 != 0) = true := by rw [hs1]; rfl
    have d5 : decide (who < 0) = false := decide_eq_false (by omega)
    have d6 : decide ((n : Int) < who) = false := decide_eq_false (by omega)
    have d7 : decide (to < 0) = true := decide_eq_true h7
    clear h5 h6 h7 ho hs1
    obtain ⟨SA, SS⟩ := SK
    obtain ⟨⟨RM, RB⟩, RS⟩ := RK
    obtain ⟨r0, r1, r2, r3⟩ := RM
    simp only at hRK hSK sa rb
    generalize ownOf ((n : Int), 1, 2) now = O at *
    have HSK := Lib.hid hSK; clear hSK
    have HRK := Lib.hid hRK; clear hRK
    have HG := Lib.hid hg; clear hg
    have Hge := Lib.hid hge; clear hge
    obtain ⟨k, pa, t, x⟩ := m
    simp only [Msg.cells, Msg.kind, Msg.part, Msg.tx, Msg.what] at hw1 ⊢
    go_enter Tryd.func4, Tryd.ntmps4
    go_wp2_with fail
    rw [← hw1]
    clear hw1
    refine HA.out.mono ?_
    rintro e w2 ⟨rfl, b2⟩
    have hb := C1.out.trans (b2.mono C1.out.size)
    have z2 := (b2.block _ (Array.getElem?_eq_some_iff.1 Z1.out).1).trans Z1.out
    have T2 := Lib.hid (HT.out.below hb)
    have h02 : 0 < w2.heap.size := Nat.lt_of_lt_of_le H0.out hb.size
    clear b2 C1 Z1 HT H0 HA
    have HB := Lib.hid hb; clear hb
    have Z2 := Lib.hid z2; clear z2
    have H02 := Lib.hid h02; clear h02
    obtain ⟨w3, hw3⟩ : ∃ w3, w3 = w2.alloc (.cells #[.int .i64 (n : Int), .int .i64 1, .int .i64 2] 28) := ⟨_, rfl⟩
    have b3 : Below w2.heap.size w2 w3 := by rw [hw3]; exact (Below.refl _ _).alloc (Nat.le_refl _) _
    have z3 := (b3.block _ (Array.getElem?_eq_some_iff.1 Z2.out).1).trans Z2.out
    have p3 : w3.heap[w2.heap.size]? = some (.cells #[.int .i64 (n : Int), .int .i64 1, .int .i64 2] 28 (0, 0)) := by rw [hw3]; exact heap_alloc_new w2 _
    have hn := New_kl (w0 := w) (HB.out.trans (b3.mono HB.out.size)) (T2.out.below b3) (Nat.lt_of_lt_of_le H02.out b3.size) ((n : Int), 1, 2) HG.out (n := n) rfl (L := [(w.heap.size, .cells #[.int .i64 k, .int .i64 pa, .int .i64 t, .int .i64 x] 39 (0, 0))]) (fun y hy => by rw [List.mem_singleton] at hy; subst hy; exact z3)
    simp only [Pl.cells, Pl.parts, Pl.window, Pl.delay] at hn
    have y0 := cells_at p3 0
    have y1 := cells_at p3 1
    have y2 := cells_at p3 2
    rw [hw3] at y0 y1 y2
    have Hn := Lib.hid hn; clear hn b3 z3 p3 HB T2 H02 Z2
    go_wp2_with fail
    rw [← hw3]
    clear hw3 y0 y1 y2
    refine Hn.out.mono ?_
    rintro e w4 ⟨kb, rfl, hk, -⟩
    have zm := hk.at (.head _)
    have y0 := cells_at zm 0
    have y1 := cells_at zm 1
    have y2 := cells_at zm 2
    have y3 := cells_at zm 3
    have hs := Send_kl hk outs0 (by decide) who to (k, pa, t, x) now
    rw [← HSK.out] at hs
    simp only [Msg.cells, Msg.kind, Msg.part, Msg.tx, Msg.what] at hs
    have Hs := Lib.hid hs; clear hs hk zm Hn
    go_wp2_with fail
    clear y0 y1 y2 y3
    refine Hs.out.mono ?_
    rintro e w5 ⟨rfl, hk⟩
    have hr := Recv_kl hk who to 0 now
    rw [← HRK.out] at hr
    simp only [Msg.cells, Msg.kind, Msg.part, Msg.tx, Msg.what] at hr
    have Hr := Lib.hid hr; clear hr hk Hs
    go_wp2_with fail
    refine Hr.out.mono ?_
    rintro e w6 ⟨rfl, hk⟩
    have hb := hk.bel
    have hb := hb.trans (((Below.refl w6.heap.size w6).alloc (Nat.le_refl _) (.cells #[.int .i64 r0, .int .i64 r1, .int .i64 r2, .int .i64 r3] 39)).mono hb.size)
    have HB := Lib.hid hb; clear hb hk Hr
    go_wp2
    go_ret
    exact ⟨rfl, HB.out⟩
  by_cases h8 : (n : Int) < to
  · rw [if_neg (fun h => by have := of_decide_eq_true h.2.1; omega)] at hs1
    have sa : (SK.1 != 0) = true := by rw [hs1]; rfl
    have d5 : decide (who < 0) = false := decide_eq_false (by omega)
    have d6 : decide ((n : Int) < who) = false := decide_eq_false (by omega)
    have d7 : decide (to < 0) = false := decide_eq_false (by omega)
    have d8 : decide ((n : Int) < to) = true := decide_eq_true h8
    clear h5 h6 h7 h8 ho hs1
    obtain ⟨SA, SS⟩ := SK
    obtain ⟨⟨RM, RB⟩, RS⟩ := RK
    obtain ⟨r0, r1, r2, r3⟩ := RM
    simp only at hRK hSK sa rb
    generalize ownOf ((n : Int), 1, 2) now = O at *
    have HSK := Lib.hid hSK; clear hSK
    have HRK := Lib.hid hRK; clear hRK
    have HG := Lib.hid hg; clear hg
    have Hge := Lib.hid hge; clear hge
    obtain ⟨k, pa, t, x⟩ := m
    simp only [Msg.cells, Msg.kind, Msg.part, Msg.tx, Msg.what] at hw1 ⊢
    go_enter Tryd.func4, Tryd.ntmps4
    go_wp2_with fail
    rw [← hw1]
    clear hw1
    refine HA.out.mono ?_
    rintro e w2 ⟨rfl, b2⟩
    have hb := C1.out.trans (b2.mono C1.out.size)
    have z2 := (b2.block _ (Array.getElem?_eq_some_iff.1 Z1.out).1).trans Z1.out
    have T2 := Lib.hid (HT.out.below hb)
    have h02 : 0 < w2.heap.size := Nat.lt_of_lt_of_le H0.out hb.size
    clear b2 C1 Z1 HT H0 HA
    have HB := Lib.hid hb; clear hb
    have Z2 := Lib.hid z2; clear z2
    have H02 := Lib.hid h02; clear h02
    obtain ⟨w3, hw3⟩ : ∃ w3, w3 = w2.alloc (.cells #[.int .i64 (n : Int), .int .i64 1, .int .i64 2] 28) := ⟨_, rfl⟩
    have b3 : Below w2.heap.size w2 w3 := by rw [hw3]; exact (Below.refl _ _).alloc (Nat.le_refl _) _
    have z3 := (b3.block _ (Array.getElem?_eq_some_iff.1 Z2.out).1).trans Z2.out
    have p3 : w3.heap[w2.heap.size]? = some (.cells #[.int .i64 (n : Int), .int .i64 1, .int .i64 2] 28 (0, 0)) := by rw [hw3]; exact heap_alloc_new w2 _
    have hn := New_kl (w0 := w) (HB.out.trans (b3.mono HB.out.size)) (T2.out.below b3) (Nat.lt_of_lt_of_le H02.out b3.size) ((n : Int), 1, 2) HG.out (n := n) rfl (L := [(w.heap.size, .cells #[.int .i64 k, .int .i64 pa, .int .i64 t, .int .i64 x] 39 (0, 0))]) (fun y hy => by rw [List.mem_singleton] at hy; subst hy; exact z3)
    simp only [Pl.cells, Pl.parts, Pl.window, Pl.delay] at hn
    have y0 := cells_at p3 0
    have y1 := cells_at p3 1
    have y2 := cells_at p3 2
    rw [hw3] at y0 y1 y2
    have Hn := Lib.hid hn; clear hn b3 z3 p3 HB T2 H02 Z2
    go_wp2_with fail
    rw [← hw3]
    clear hw3 y0 y1 y2
    refine Hn.out.mono ?_
    rintro e w4 ⟨kb, rfl, hk, -⟩
    have zm := hk.at (.head _)
    have y0 := cells_at zm 0
    have y1 := cells_at zm 1
    have y2 := cells_at zm 2
    have y3 := cells_at zm 3
    have hs := Send_kl hk outs0 (by decide) who to (k, pa, t, x) now
    rw [← HSK.out] at hs
    simp only [Msg.cells, Msg.kind, Msg.part, Msg.tx, Msg.what] at hs
    have Hs := Lib.hid hs; clear hs hk zm Hn
    go_wp2_with fail
    clear y0 y1 y2 y3
    refine Hs.out.mono ?_
    rintro e w5 ⟨rfl, hk⟩
    have hr := Recv_kl hk who to 0 now
    rw [← HRK.out] at hr
    simp only [Msg.cells, Msg.kind, Msg.part, Msg.tx, Msg.what] at hr
    have Hr := Lib.hid hr; clear hr hk Hs
    go_wp2_with fail
    refine Hr.out.mono ?_
    rintro e w6 ⟨rfl, hk⟩
    have hb := hk.bel
    have hb := hb.trans (((Below.refl w6.heap.size w6).alloc (Nat.le_refl _) (.cells #[.int .i64 r0, .int .i64 r1, .int .i64 r2, .int .i64 r3] 39)).mono hb.size)
    have HB := Lib.hid hb; clear hb hk Hr
    go_wp2
    go_ret
    exact ⟨rfl, HB.out⟩
  by_cases h9 : who = to
  · rw [if_neg (fun h => h.2.2 h9)] at hs1
    have sa : (SK.1 != 0) = true := by rw [hs1]; rfl
    have d5 : decide (who < 0) = false := decide_eq_false (by omega)
    have d6 : decide ((n : Int) < who) = false := decide_eq_false (by omega)
    have d7 : decide (to < 0) = false := decide_eq_false (by omega)
    have d8 : decide ((n : Int) < to) = false := decide_eq_false (by omega)
    have d9 : (who == to) = true := by simpa using h9
    clear h5 h6 h7 h8 h9 ho hs1
    obtain ⟨SA, SS⟩ := SK
    obtain ⟨⟨RM, RB⟩, RS⟩ := RK
    obtain ⟨r0, r1, r2, r3⟩ := RM
    simp only at hRK hSK sa rb
    generalize ownOf ((n : Int), 1, 2) now = O at *
    have HSK := Lib.hid hSK; clear hSK
    have HRK := Lib.hid hRK; clear hRK
    have HG := Lib.hid hg; clear hg
    have Hge := Lib.hid hge; clear hge
    obtain ⟨k, pa, t, x⟩ := m
    simp only [Msg.cells, Msg.kind, Msg.part, Msg.tx, Msg.what] at hw1 ⊢
    go_enter Tryd.func4, Tryd.ntmps4
    go_wp2_with fail
    rw [← hw1]
    clear hw1
    refine HA.out.mono ?_
    rintro e w2 ⟨rfl, b2⟩
    have hb := C1.out.trans (b2.mono C1.out.size)
    have z2 := (b2.block _ (Array.getElem?_eq_some_iff.1 Z1.out).1).trans Z1.out
    have T2 := Lib.hid (HT.out.below hb)
    have h02 : 0 < w2.heap.size := Nat.lt_of_lt_of_le H0.out hb.size
    clear b2 C1 Z1 HT H0 HA
    have HB := Lib.hid hb; clear hb
    have Z2 := Lib.hid z2; clear z2
    have H02 := Lib.hid h02; clear h02
    obtain ⟨w3, hw3⟩ : ∃ w3, w3 = w2.alloc (.cells #[.int .i64 (n : Int), .int .i64 1, .int .i64 2] 28) := ⟨_, rfl⟩
    have b3 : Below w2.heap.size w2 w3 := by rw [hw3]; exact (Below.refl _ _).alloc (Nat.le_refl _) _
    have z3 := (b3.block _ (Array.getElem?_eq_some_iff.1 Z2.out).1).trans Z2.out
    have p3 : w3.heap[w2.heap.size]? = some (.cells #[.int .i64 (n : Int), .int .i64 1, .int .i64 2] 28 (0, 0)) := by rw [hw3]; exact heap_alloc_new w2 _
    have hn := New_kl (w0 := w) (HB.out.trans (b3.mono HB.out.size)) (T2.out.below b3) (Nat.lt_of_lt_of_le H02.out b3.size) ((n : Int), 1, 2) HG.out (n := n) rfl (L := [(w.heap.size, .cells #[.int .i64 k, .int .i64 pa, .int .i64 t, .int .i64 x] 39 (0, 0))]) (fun y hy => by rw [List.mem_singleton] at hy; subst hy; exact z3)
    simp only [Pl.cells, Pl.parts, Pl.window, Pl.delay] at hn
    have y0 := cells_at p3 0
    have y1 := cells_at p3 1
    have y2 := cells_at p3 2
    rw [hw3] at y0 y1 y2
    have Hn := Lib.hid hn; clear hn b3 z3 p3 HB T2 H02 Z2
    go_wp2_with fail
    rw [← hw3]
    clear hw3 y0 y1 y2
    refine Hn.out.mono ?_
    rintro e w4 ⟨kb, rfl, hk, -⟩
    have zm := hk.at (.head _)
    have y0 := cells_at zm 0
    have y1 := cells_at zm 1
    have y2 := cells_at zm 2
    have y3 := cells_at zm 3
    have hs := Send_kl hk outs0 (by decide) who to (k, pa, t, x) now
    rw [← HSK.out] at hs
    simp only [Msg.cells, Msg.kind, Msg.part, Msg.tx, Msg.what] at hs
    have Hs := Lib.hid hs; clear hs hk zm Hn
    go_wp2_with fail
    clear y0 y1 y2 y3
    refine Hs.out.mono ?_
    rintro e w5 ⟨rfl, hk⟩
    have hr := Recv_kl hk who to 0 now
    rw [← HRK.out] at hr
    simp only [Msg.cells, Msg.kind, Msg.part, Msg.tx, Msg.what] at hr
    have Hr := Lib.hid hr; clear hr hk Hs
    go_wp2_with fail
    refine Hr.out.mono ?_
    rintro e w6 ⟨rfl, hk⟩
    have hb := hk.bel
    have hb := hb.trans (((Below.refl w6.heap.size w6).alloc (Nat.le_refl _) (.cells #[.int .i64 r0, .int .i64 r1, .int .i64 r2, .int .i64 r3] 39)).mono hb.size)
    have HB := Lib.hid hb; clear hb hk Hr
    go_wp2
    go_ret
    exact ⟨rfl, HB.out⟩
  rw [if_pos ⟨decide_eq_true (by omega), decide_eq_true (by omega), h9⟩] at hs1
  have sa : (SK.1 != 0) = true := by rw [hs1]; rfl
  have sb : (SK.1 == 23) = true := by rw [hs1]; rfl
  have d5 : decide (who < 0) = false := decide_eq_false (by omega)
  have d6 : decide ((n : Int) < who) = false := decide_eq_false (by omega)
  have d7 : decide (to < 0) = false := decide_eq_false (by omega)
  have d8 : decide ((n : Int) < to) = false := decide_eq_false (by omega)
  have d9 : (who == to) = false := by simpa using h9
  clear h5 h6 h7 h8 h9 ho hs1
  obtain ⟨SA, SS⟩ := SK
  obtain ⟨⟨RM, RB⟩, RS⟩ := RK
  obtain ⟨r0, r1, r2, r3⟩ := RM
  simp only at hRK hSK sa sb rb
  generalize ownOf ((n : Int), 1, 2) now = O at *
  have HSK := Lib.hid hSK; clear hSK
  have HRK := Lib.hid hRK; clear hRK
  have HG := Lib.hid hg; clear hg
  have Hge := Lib.hid hge; clear hge
  obtain ⟨k, pa, t, x⟩ := m
  simp only [Msg.cells, Msg.kind, Msg.part, Msg.tx, Msg.what] at hw1 ⊢
  go_enter Tryd.func4, Tryd.ntmps4
  go_wp2_with fail
  rw [← hw1]
  clear hw1
  refine HA.out.mono ?_
  rintro e w2 ⟨rfl, b2⟩
  have hb := C1.out.trans (b2.mono C1.out.size)
  have z2 := (b2.block _ (Array.getElem?_eq_some_iff.1 Z1.out).1).trans Z1.out
  have T2 := Lib.hid (HT.out.below hb)
  have h02 : 0 < w2.heap.size := Nat.lt_of_lt_of_le H0.out hb.size
  clear b2 C1 Z1 HT H0 HA
  have HB := Lib.hid hb; clear hb
  have Z2 := Lib.hid z2; clear z2
  have H02 := Lib.hid h02; clear h02
  obtain ⟨w3, hw3⟩ : ∃ w3, w3 = w2.alloc (.cells #[.int .i64 (n : Int), .int .i64 1, .int .i64 2] 28) := ⟨_, rfl⟩
  have b3 : Below w2.heap.size w2 w3 := by rw [hw3]; exact (Below.refl _ _).alloc (Nat.le_refl _) _
  have z3 := (b3.block _ (Array.getElem?_eq_some_iff.1 Z2.out).1).trans Z2.out
  have p3 : w3.heap[w2.heap.size]? = some (.cells #[.int .i64 (n : Int), .int .i64 1, .int .i64 2] 28 (0, 0)) := by rw [hw3]; exact heap_alloc_new w2 _
  have hn := New_kl (w0 := w) (HB.out.trans (b3.mono HB.out.size)) (T2.out.below b3) (Nat.lt_of_lt_of_le H02.out b3.size) ((n : Int), 1, 2) HG.out (n := n) rfl (L := [(w.heap.size, .cells #[.int .i64 k, .int .i64 pa, .int .i64 t, .int .i64 x] 39 (0, 0))]) (fun y hy => by rw [List.mem_singleton] at hy; subst hy; exact z3)
  simp only [Pl.cells, Pl.parts, Pl.window, Pl.delay] at hn
  have y0 := cells_at p3 0
  have y1 := cells_at p3 1
  have y2 := cells_at p3 2
  rw [hw3] at y0 y1 y2
  have Hn := Lib.hid hn; clear hn b3 z3 p3 HB T2 H02 Z2
  go_wp2_with fail
  rw [← hw3]
  clear hw3 y0 y1 y2
  refine Hn.out.mono ?_
  rintro e w4 ⟨kb, rfl, hk, -⟩
  have zm := hk.at (.head _)
  have y0 := cells_at zm 0
  have y1 := cells_at zm 1
  have y2 := cells_at zm 2
  have y3 := cells_at zm 3
  have hs := Send_kl hk outs0 (by decide) who to (k, pa, t, x) now
  rw [← HSK.out] at hs
  simp only [Msg.cells, Msg.kind, Msg.part, Msg.tx, Msg.what] at hs
  have Hs := Lib.hid hs; clear hs hk zm Hn
  go_wp2_with fail
  clear y0 y1 y2 y3
  refine Hs.out.mono ?_
  rintro e w5 ⟨rfl, hk⟩
  have hr := Recv_kl hk who to 0 now
  rw [← HRK.out] at hr
  simp only [Msg.cells, Msg.kind, Msg.part, Msg.tx, Msg.what] at hr
  have Hr := Lib.hid hr; clear hr hk Hs
  go_wp2_with fail
  refine Hr.out.mono ?_
  rintro e w6 ⟨rfl, hk⟩
  have hb := hk.bel
  have hb := hb.trans (((Below.refl w6.heap.size w6).alloc (Nat.le_refl _) (.cells #[.int .i64 r0, .int .i64 r1, .int .i64 r2, .int .i64 r3] 39)).mono hb.size)
  have HB := Lib.hid hb; clear hb hk Hr
  go_wp2
  go_ret
  exact ⟨rfl, HB.out⟩
end Go.Proofs.YtclgakdfeeefiaaDoor
