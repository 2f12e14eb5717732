/- Kernels: a way's box turned, what is out turned; Carry. -/
import Derived.Test.YtclgakdfeeefiaaDoorKern6
namespace Go.Proofs.YtclgakdfeeefiaaDoor
open Go.RowKit

section
variable {w0 w w' : World} {b : Nat} {F : Nat → Prop} {l : Label} {os ms : List Msg}
theorem Way.boxed (h : Way w0 w b F l os ms) : ∃ ov xb Fb, w.heap[b]? = some (.cells #[ov, .pointer (some ⟨xb, 0, none⟩)] 82 (0, 0)) ∧ Bx w0 w xb Fb l 8 ms ∧ (∀ k, Fb k → F k) ∧
    (∀ wd w' ms', Below w.heap.size w wd → Bx w0 w' xb (grownF Fb wd w') l 8 ms' → Mod Fb wd w' → Way w0 w' b (grownF F wd w') l os ms' ∧ Mod F wd w') := by
  obtain ⟨ov, xb, Fb, h1, h2, h3, h4, h5, h6, h7⟩ := h.is
  refine ⟨ov, xb, Fb, h1, h3, h4, fun wd w' ms' hd hb hm => ?_⟩
  have h := h.step hd
  have h1 := (hd.block _ (Array.getElem?_eq_some_iff.1 h1).1).trans h1
  have h2 : MOwn wd w0.heap.size ov os := h2.keep fun g _ hl => hd.block g hl
  have h3 := h3.step hd
  have hm' : Mod F wd w' := hm.mono h4
  refine ⟨⟨⟨ov, xb, _, (hm.block _ (Array.getElem?_eq_some_iff.1 h1).1 h7).trans h1, h2.keep fun g hg hl => hm.block g hl (h6 g hg).2.1, hb, ?_, .inl h5, ?_, ?_⟩, ?_⟩, hm'⟩
  · rintro k (hk | hk)
    · exact .inl (h4 k hk)
    · exact .inr hk
  · intro g hg
    refine ⟨.inl (h6 g hg).1, ?_, (h6 g hg).2.2⟩
    rintro (hk | hk)
    · exact (h6 g hg).2.1 hk
    · have := (h.low g (h6 g hg).1).2; omega
  · rintro (hk | hk)
    · exact h7 hk
    · have := (h.low b h5).2; omega
  · rintro k (hk | hk)
    · exact ⟨(h.low k hk).1, Nat.lt_of_lt_of_le (h.low k hk).2 hm.size⟩
    · exact ⟨Nat.le_trans h3.bel.size hk.1, hk.2⟩
theorem Way.sent (h : Way w0 w b F l os ms) : ∃ ov xb, w.heap[b]? = some (.cells #[ov, .pointer (some ⟨xb, 0, none⟩)] 82 (0, 0)) ∧ MOwn w w0.heap.size ov os ∧ (∀ g, ov.ownBlock = some g → F g ∧ g ≠ b) ∧ F b ∧
    (∀ w' ov' os', w'.heap[b]? = some (.cells #[ov', .pointer (some ⟨xb, 0, none⟩)] 82 (0, 0)) → MOwn w' w0.heap.size ov' os' → Mod (fun k => k = b ∨ ov.ownBlock = some k) w w' → (∀ g, ov'.ownBlock = some g → ov.ownBlock = some g ∨ w.heap.size ≤ g) →
      Way w0 w' b (grownF F w w') l os' ms ∧ Mod F w w') := by
  obtain ⟨ov, xb, Fb, h1, h2, h3, h4, h5, h6, h7⟩ := h.is
  refine ⟨ov, xb, h1, h2, fun g hg => ⟨(h6 g hg).1, (h6 g hg).2.2⟩, h5, fun w' ov' os' r1 r2 hm hg => ?_⟩
  have hF : ∀ k, (k = b ∨ ov.ownBlock = some k) → F k := fun k hk => hk.elim (fun e => by rw [e]; exact h5) fun e => (h6 k e).1
  have hm' : Mod F w w' := hm.mono hF
  have hb2 := (Array.getElem?_eq_some_iff.1 r1).1
  have hlt : ∀ g, ov'.ownBlock = some g → g < w'.heap.size := fun g e => (World.ownsRow.lt r2 g e).2
  refine ⟨⟨⟨ov', xb, Fb, r1, r2, h3.aside hm (fun k hk hk' => ?_) (fun k hk => (h.low k (hF k hk)).1), fun k hk => .inl (h4 k hk), .inl h5, fun g e => ?_, h7⟩, ?_⟩, hm'⟩
  · rcases hk' with rfl | e
    · exact h7 hk
    · exact (h6 k e).2.1 hk
  · rcases hg g e with e' | e'
    · exact ⟨.inl (h6 g e').1, (h6 g e').2.1, (h6 g e').2.2⟩
    · refine ⟨.inr ⟨e', hlt g e⟩, fun hk => ?_, fun hk => ?_⟩
      · have := (h.low g (h4 g hk)).2; omega
      · have := (h.low b h5).2; omega
  · rintro k (hk | hk)
    · exact ⟨(h.low k hk).1, Nat.lt_of_lt_of_le (h.low k hk).2 hm.size⟩
    · exact ⟨Nat.le_trans h3.bel.size hk.1, hk.2⟩
end
def carryOf (ms : List Msg) (m : Msg) : List Msg := if ms.length < 8 then ms ++ [m] else ms
theorem KnNext.after {w0 w w1 w' : World} {kb gb tb tc mb n : Nat} {ws : List (End × Nat)} {FW : End → Nat → Prop} {p : Pl} {st : End → List Msg × List Msg} (h : KnNext w0 w1 w' kb gb tb tc mb n ws FW p st) (hb : Below w.heap.size w w1) : KnNext w0 w w' kb gb tb tc mb n ws FW p st := by
  obtain ⟨FW', h1, h2, h3⟩ := h
  refine ⟨FW', h1, (Mod.of_below (F := KF FW) hb).trans h2 (fun _ h => h) (fun _ _ h => h), fun k hk => ?_⟩
  rcases h3 k hk with hk | hk
  · exact .inl hk
  · exact .inr ⟨Nat.le_trans hb.size hk.1, hk.2⟩
/-- What a carried message is answered, and what the ways are then. -/
def carryK (n : Nat) (st : End → List Msg × List Msg) (e : End) (m : Msg) : Bool × (End → List Msg × List Msg) :=
  if Inside n e ∧ fitsOf e m = true then (decide ((st e).2.length < 8), updE st e ((st e).1, carryOf (st e).2 m)) else (false, st)
section
variable {w0 w w' : World} {kb gb tb tc mb n : Nat} {ws : List (End × Nat)} {FW : End → Nat → Prop} {p : Pl} {st : End → List Msg × List Msg}
set_option maxHeartbeats 4000000 in
theorem Carry_calls (h : KnAt w0 w kb gb tb tc mb n ws FW p st) (q : Int) (u : Bool) (m : Msg) : Calls Tryd.prog 17 #[.pointer (some ⟨kb, 0, none⟩), .int .i64 q, .bool u, .agg m.cells.toArray] w fun e w' =>
    e = .returned (.bool (carryK n st (q, dirOf u) m).1) ∧ KnNext w0 w w' kb gb tb tc mb n ws FW p (carryK n st (q, dirOf u) m).2 := by
  have ht : ∀ w' : World, Calls Tryd.prog 47 #[.bool u] w' fun e w'' => e = .returned (.int .i64 (dirOf u)) ∧ w' = w'' := fun w' => to_calls u
  generalize dirOf u = d at *
  have hfi := fun w : World => fits_calls (w := w) (q, d) m
  obtain ⟨w1, hw1⟩ : ∃ w1, w1 = w.alloc (.cells m.cells.toArray 39) := ⟨_, rfl⟩
  have c1 : Below w.heap.size w w1 := by rw [hw1]; exact (Below.refl _ _).alloc (Nat.le_refl _) _
  have z1 : w1.heap[w.heap.size]? = some (.cells m.cells.toArray 39 (0, 0)) := by rw [hw1]; exact heap_alloc_new w _
  obtain ⟨w2, hw2⟩ : ∃ w2, w2 = w1.alloc (.cells #[.int .i64 q, .int .i64 d] 84) := ⟨_, rfl⟩
  have c2 : Below w1.heap.size w1 w2 := by rw [hw2]; exact (Below.refl _ _).alloc (Nat.le_refl _) _
  have z2 : w2.heap[w1.heap.size]? = some (.cells #[.int .i64 q, .int .i64 d] 84 (0, 0)) := by rw [hw2]; exact heap_alloc_new w1 _
  have c12 := c1.trans (c2.mono c1.size)
  have y1 := (c2.block _ (Array.getElem?_eq_some_iff.1 z1).1).trans z1
  have hk := h.step c12
  have r6 := cell_regrown (cells_at hk.root 6)
  have q0 := cell_regrown (cells_at z2 0)
  have q1 := cell_regrown (cells_at z2 1)
  clear c1 c2 z1
  by_cases hin : Inside n (q, d)
  · obtain ⟨b, he⟩ := (h.dom _).1 hin
    have hl := run_look_in hk he
    have Hh := Lib.hid h; clear h
    have C := Lib.hid c12; clear c12 hk
    have Ht := Lib.hid ht; clear ht
    cases hf : fitsOf (q, d) m with
    | false =>
      rw [show carryK n st (q, d) m = (false, st) from if_neg (by rw [hf]; rintro ⟨-, h⟩; cases h)]
      rw [hf] at hfi
      clear hf
      obtain ⟨k, pa, t, x⟩ := m
      simp only [Msg.cells, Msg.kind, Msg.part, Msg.tx, Msg.what] at hw1 y1 hfi ⊢
      have Hfi := Lib.hid hfi; clear hfi
      go_enter Tryd.func17, Tryd.ntmps17
      go_wp2_with fail
      rw [← hw1]
      clear hw1
      refine (Ht.out _).mono ?_
      rintro e w3 ⟨rfl, rfl⟩
      go_wp2_with fail
      rw [← hw2]
      clear hw2
      refine wp_region_quiet_below (by kernel_rfl) (by kernel_rfl) ?_
      repeat (go_big_quiet_step (fail))
      refine wpQuiet_nil ?_
      intro wq hwq
      have bk : Below w2.heap.size w2 wq := by obtain ⟨q, rfl⟩ := hwq; exact below_regrown _ _ _
      have z2 := (bk.block _ (Array.getElem?_eq_some_iff.1 z2).1).trans z2
      have y1 := (bk.block _ (Array.getElem?_eq_some_iff.1 y1).1).trans y1
      have a0 : wq.cell? ⟨w1.heap.size, 0, none⟩ = some (.int .i64 q) := cells_at z2 0
      have a1 : wq.cell? ⟨w1.heap.size, 1, none⟩ = some (.int .i64 d) := cells_at z2 1
      have a2 : wq.cell? ⟨w.heap.size, 0, none⟩ = some (.int .i64 k) := cells_at y1 0
      have a3 : wq.cell? ⟨w.heap.size, 1, none⟩ = some (.int .i64 pa) := cells_at y1 1
      have a4 : wq.cell? ⟨w.heap.size, 2, none⟩ = some (.int .i64 t) := cells_at y1 2
      have a5 : wq.cell? ⟨w.heap.size, 3, none⟩ = some (.int .i64 x) := cells_at y1 3
      clear hwq hl r6 q0 q1
      have Y1 := Lib.hid y1; clear y1 z2
      have hb := C.out.trans (bk.mono C.out.size)
      clear bk C
      have Hb := Lib.hid hb; clear hb
      go_wp2_with fail
      clear a0 a1 a2 a3 a4 a5
      refine (Hfi.out _).mono ?_
      rintro e w4 ⟨rfl, b4⟩
      have y1 := (b4.block _ (Array.getElem?_eq_some_iff.1 Y1.out).1).trans Y1.out
      have hb := Hb.out.trans (b4.mono Hb.out.size)
      clear b4 Hb Hfi Y1
      have Hb := Lib.hid hb; clear hb
      have hn := KnNext.below Hh.out Hb.out
      clear y1
      have Hn := Lib.hid hn; clear hn
      go_wp2
      go_ret
      exact ⟨rfl, Hn.out⟩
    | true =>
      rw [show carryK n st (q, d) m = (decide ((st (q, d)).2.length < 8), updE st (q, d) ((st (q, d)).1, carryOf (st (q, d)).2 m)) from if_pos ⟨hin, hf⟩]
      have hrm : rightOf m = true := by unfold fitsOf at hf; simp only [Bool.and_eq_true] at hf; exact hf.1.1
      obtain ⟨i1, i2, -⟩ := hin
      simp only at i1 i2
      obtain ⟨Q, rfl⟩ : ∃ Q : Nat, q = (Q : Int) := ⟨q.toNat, by omega⟩
      have hws := with_same n (by have := Hh.out.six; omega) Q (by have := Hh.out.six; omega)
      have hpo : ∀ ms : List Msg, putOf (labOf n (Q : Int)) 8 ms (labOf n (Q : Int)) 0 m = (decide (ms.length < 8), if ms.length < 8 then 0 else 15, carryOf ms m) := fun ms => by
        unfold putOf carryOf
        rw [hrm, hws]
        by_cases h8 : ms.length < 8 <;> simp [h8]
      rw [hf] at hfi
      have He := Lib.hid he; clear he
      clear hf hrm hws
      obtain ⟨l1, l2, hlab⟩ : ∃ x y, labOf n (Q : Int) = (x, y) := ⟨_, _, rfl⟩
      rw [hlab] at hpo
      have Hpo := Lib.hid hpo; clear hpo
      have Hlab := Lib.hid hlab; clear hlab
      obtain ⟨LL, hLL⟩ : ∃ LL, LL = decide ((st ((Q : Int), d)).2.length < 8) := ⟨_, rfl⟩
      rw [← hLL]
      have HLL := Lib.hid hLL; clear hLL
      obtain ⟨CM, hCM⟩ : ∃ C, C = carryOf (st ((Q : Int), d)).2 m := ⟨_, rfl⟩
      rw [← hCM]
      have HCM := Lib.hid hCM; clear hCM
      obtain ⟨k, pa, t, x⟩ := m
      simp only [Msg.cells, Msg.kind, Msg.part, Msg.tx, Msg.what] at hw1 y1 hfi Hpo HCM ⊢
      have Hfi := Lib.hid hfi; clear hfi
      go_enter Tryd.func17, Tryd.ntmps17
      go_wp2_with fail
      rw [← hw1]
      clear hw1
      refine (Ht.out _).mono ?_
      rintro e w3 ⟨rfl, rfl⟩
      go_wp2_with fail
      rw [← hw2]
      clear hw2
      refine wp_region_quiet_below (by kernel_rfl) (by kernel_rfl) ?_
      repeat (go_big_quiet_step (fail))
      refine wpQuiet_nil ?_
      intro wq hwq
      have bk : Below w2.heap.size w2 wq := by obtain ⟨q, rfl⟩ := hwq; exact below_regrown _ _ _
      have z2 := (bk.block _ (Array.getElem?_eq_some_iff.1 z2).1).trans z2
      have y1 := (bk.block _ (Array.getElem?_eq_some_iff.1 y1).1).trans y1
      have a0 : wq.cell? ⟨w1.heap.size, 0, none⟩ = some (.int .i64 (Q : Int)) := cells_at z2 0
      have a1 : wq.cell? ⟨w1.heap.size, 1, none⟩ = some (.int .i64 d) := cells_at z2 1
      have a2 : wq.cell? ⟨w.heap.size, 0, none⟩ = some (.int .i64 k) := cells_at y1 0
      have a3 : wq.cell? ⟨w.heap.size, 1, none⟩ = some (.int .i64 pa) := cells_at y1 1
      have a4 : wq.cell? ⟨w.heap.size, 2, none⟩ = some (.int .i64 t) := cells_at y1 2
      have a5 : wq.cell? ⟨w.heap.size, 3, none⟩ = some (.int .i64 x) := cells_at y1 3
      clear hwq hl r6 q0 q1
      have Y1 := Lib.hid y1; clear y1 z2
      have hb := C.out.trans (bk.mono C.out.size)
      clear bk C
      have Hb := Lib.hid hb; clear hb
      go_wp2_with fail
      clear a0 a1 a2 a3 a4 a5
      refine (Hfi.out _).mono ?_
      rintro e w4 ⟨rfl, b4⟩
      have y1 := (b4.block _ (Array.getElem?_eq_some_iff.1 Y1.out).1).trans Y1.out
      have hb := Hb.out.trans (b4.mono Hb.out.size)
      clear b4 Hb Hfi Y1
      have Hb := Lib.hid hb; clear hb
      have hk := Hh.out.step Hb.out
      obtain ⟨ov, xb, Fb, h1, h3, -, hnext⟩ := (hk.fit He.out).boxed
      have h3 : Bx w0 w4 xb Fb (labOf n (Q : Int)) 8 (st ((Q : Int), d)).2 := h3
      obtain ⟨t0, t1⟩ := tag_cells hk (q := Q) (by omega)
      rw [Hlab.out] at h3 t0 t1
      have z1 : w4.cell? ⟨b, 1, none⟩ = some (.pointer (some ⟨xb, 0, none⟩)) := cells_at h1 1
      have r4 : w4.cell? ⟨kb, 4, none⟩ = some (.slice (some ⟨tb, 0, none⟩) (n + 1) tc) := cells_at hk.root 4
      have a2 : w4.cell? ⟨w.heap.size, 0, none⟩ = some (.int .i64 k) := cells_at y1 0
      have a3 : w4.cell? ⟨w.heap.size, 1, none⟩ = some (.int .i64 pa) := cells_at y1 1
      have a4 : w4.cell? ⟨w.heap.size, 2, none⟩ = some (.int .i64 t) := cells_at y1 2
      have a5 : w4.cell? ⟨w.heap.size, 3, none⟩ = some (.int .i64 x) := cells_at y1 3
      have H3 := Lib.hid h3; clear h3
      have Hnext := Lib.hid hnext; clear hnext
      clear h1 y1
      have Hk := Lib.hid hk; clear hk
      have RR := Lib.hid (And.intro t0 (And.intro t1 (And.intro z1 (And.intro r4 (And.intro a2 (And.intro a3 (And.intro a4 a5))))))); clear t0 t1 z1 r4 a2 a3 a4 a5
      go_wp2_with fail
      have s0 := below_drew w4
      refine wp_region_held (fun w' : World => Below w4.heap.size w4 w') [0, 1, 2, 3, 4, 5, 6, 7, 8, 9, 10, 11] [[12, 13, 14, 15, 16, 17]] (by kernel_rfl) (by kernel_rfl) rfl (by kernel_rfl) (fun _ _ _ h => by obtain ⟨_, h, _⟩ := h; cases h) (fun _ _ h => by obtain ⟨h, _⟩ := h; cases h) s0 (by kernel_rfl) ?_
      generalize w4.drew = wd at s0 ⊢
      apply Exists.intro
      apply And.intro
      · intro w' s
        obtain ⟨t0, t1, z1, r4, a2, a3, a4, a5⟩ := RR.out
        have t0 := (s.cell (World.block_lt_of_cell? _ _ t0)).trans t0
        have t1 := (s.cell (World.block_lt_of_cell? _ _ t1)).trans t1
        have z1 := (s.cell (World.block_lt_of_cell? _ _ z1)).trans z1
        have r4 := (s.cell (World.block_lt_of_cell? _ _ r4)).trans r4
        have a2 := (s.cell (World.block_lt_of_cell? _ _ a2)).trans a2
        have a3 := (s.cell (World.block_lt_of_cell? _ _ a3)).trans a3
        have a4 := (s.cell (World.block_lt_of_cell? _ _ a4)).trans a4
        have a5 := (s.cell (World.block_lt_of_cell? _ _ a5)).trans a5
        have i3 : (Q : Int) < ((n + 1 : Nat) : Int) := by omega
        have i4 : Q < n + 1 := by omega
        clear s
        simp only [List.map_cons, List.map_nil, List.getD_cons_zero, List.getD_cons_succ]
        go_wp2_with fail
        exact pre_end
      have Hs0 := Lib.hid s0; clear s0
      simp only [List.map_cons, List.map_nil, List.getD_cons_zero, List.getD_cons_succ]
      refine segs_last ?_
      have hpu := Put_bx (H3.out.step Hs0.out) (l1, l2) 0 (k, pa, t, x)
      rw [Hpo.out, ← HCM.out] at hpu
      simp only [Label.cells, Msg.cells, Msg.kind, Msg.part, Msg.tx, Msg.what] at hpu
      rw [← HLL.out] at hpu
      generalize (if (st ((Q : Int), d)).2.length < 8 then (0 : Int) else 15) = EE at *
      have Hpu := Lib.hid hpu; clear hpu RR
      go_wp2_with fail
      refine Hpu.out.mono ?_
      rintro e w5 ⟨rfl, hb5, hm5⟩
      rw [← Hlab.out] at hb5
      obtain ⟨hway, hmod⟩ := Hnext.out wd w5 _ Hs0.out hb5 hm5
      have hn := KnNext.set (st := st) Hk.out Hs0.out He.out hway hmod
      clear hb5 hm5 hway hmod Hnext Hpu H3
      have Hn := Lib.hid hn; clear hn
      go_wp2
      go_ret
      exact ⟨rfl, Hn.out.after Hb.out⟩
  · rw [show carryK n st (q, d) m = (false, st) from if_neg (fun h => hin h.1)]
    have hl := run_look_out hk hin
    have Hk := Lib.hid hk; clear hk
    have Hh := Lib.hid h; clear h
    have C := Lib.hid c12; clear c12
    have Ht := Lib.hid ht; clear ht hfi z2 y1 hin
    obtain ⟨k, pa, t, x⟩ := m
    simp only [Msg.cells, Msg.kind, Msg.part, Msg.tx, Msg.what] at hw1 ⊢
    go_enter Tryd.func17, Tryd.ntmps17
    go_wp2_with fail
    rw [← hw1]
    clear hw1
    refine (Ht.out _).mono ?_
    rintro e w3 ⟨rfl, rfl⟩
    go_wp2_with fail
    rw [← hw2]
    clear hw2
    refine wp_region_quiet_below (by kernel_rfl) (by kernel_rfl) ?_
    repeat (go_big_quiet_step (fail))
    refine wpQuiet_nil ?_
    intro wq hwq
    have bk : Below w2.heap.size w2 wq := by obtain ⟨q, rfl⟩ := hwq; exact below_regrown _ _ _
    clear hwq hl r6 q0 q1
    have hn := KnNext.below Hh.out (C.out.trans (bk.mono C.out.size))
    clear bk
    have Hn := Lib.hid hn; clear hn
    go_wp2
    go_ret
    exact ⟨rfl, Hn.out⟩
end
end Go.Proofs.YtclgakdfeeefiaaDoor
