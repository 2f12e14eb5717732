/- Kernels: Box. -/
import Derived.Test.YtclgakdfeeefiaaDoorKern5
import Derived.Test.YtclgakdfeeefiaaDoorHeldB
namespace Go.Proofs.YtclgakdfeeefiaaDoor
open Go.RowKit

theorem with_same : ∀ n, n < 7 → ∀ q, q < 7 → withOf (labOf n (q : Nat)) (labOf n (q : Nat)) 0 = true := by decide +kernel
theorem with_lead : ∀ n, n < 7 → ∀ q, q < 7 → 1 ≤ n → q < n → withOf (labOf n (q : Nat)) (labOf n (n : Nat)) 0 = true := by decide +kernel
theorem with_two : ∀ n, n < 7 → ∀ q, q < 7 → ∀ r, r < 7 → (q < n ∧ r < n ∧ ¬ q = r) → withOf (labOf n (q : Nat)) (labOf n (r : Nat)) 0 = false := by decide +kernel
section
variable {w0 w w' : World} {kb gb tb tc mb n : Nat} {ws : List (End × Nat)} {FW : End → Nat → Prop} {p : Pl} {st : End → List Msg × List Msg}
theorem MOwn.mono {w : World} {B B' : Nat} {v : Value} {ms : List Msg} (h : MOwn w B v ms) (hB : B' ≤ B) : MOwn w B' v ms := by
  refine ⟨h.1, ?_⟩
  rcases h.2 with hn | ⟨g, cap, cur, e, hb, rest⟩
  · exact .inl hn
  · exact .inr ⟨g, cap, cur, e, by omega, rest⟩
set_option maxHeartbeats 4000000 in
theorem Box_no (h : KnAt w0 w kb gb tb tc mb n ws FW p st) (q : Int) (u : Bool) (he : ¬ Inside n (q, dirOf u)) : Calls Tryd.prog 19 #[.pointer (some ⟨kb, 0, none⟩), .int .i64 q, .bool u] w fun e w' => e = .returned (.slice none 0 0) ∧ Below w.heap.size w w' := by
  have hl := run_look_out h he
  have ht : ∀ w' : World, Calls Tryd.prog 47 #[.bool u] w' fun e w'' => e = .returned (.int .i64 (dirOf u)) ∧ Below w'.heap.size w' w'' := fun w' => (to_calls u).mono fun _ _ h => ⟨h.1, by rw [← h.2]; exact Below.refl _ _⟩
  generalize dirOf u = d at *
  have r6 := cell_regrown (cells_at h.root 6)
  have Ht := Lib.hid ht; clear ht h he
  go_enter Tryd.func19, Tryd.ntmps19
  go_wp2_with fail
  refine wp_region_quiet_below (by kernel_rfl) (by kernel_rfl) ?_
  repeat (go_big_quiet_step ((go_at_call 47; exact Calls.regrown_of (Ht.out _))))
  refine wpQuiet_nil ?_
  intro wq hwq
  have bk : Below w.heap.size w wq := by obtain ⟨q, rfl⟩ := hwq; exact below_regrown _ _ _
  clear hwq hl r6
  have Bk := Lib.hid bk; clear bk
  go_wp2
  go_ret
  exact ⟨rfl, Bk.out⟩
set_option maxHeartbeats 4000000 in
theorem Box_yes (h : KnAt w0 w kb gb tb tc mb n ws FW p st) {q : Int} {u : Bool} {b : Nat} (he : ((q, dirOf u), b) ∈ ws) : Calls Tryd.prog 19 #[.pointer (some ⟨kb, 0, none⟩), .int .i64 q, .bool u] w fun e w' =>
    ∃ v, e = .returned v ∧ MOwn w' w.heap.size v (st (q, dirOf u)).2 ∧ Below w.heap.size w w' := by
  have hl := run_look_in h he
  have ht : ∀ w' : World, Calls Tryd.prog 47 #[.bool u] w' fun e w'' => e = .returned (.int .i64 (dirOf u)) ∧ Below w'.heap.size w' w'' := fun w' => (to_calls u).mono fun _ _ h => ⟨h.1, by rw [← h.2]; exact Below.refl _ _⟩
  generalize dirOf u = d at *
  obtain ⟨i1, i2, -⟩ := (h.dom _).2 ⟨b, he⟩
  simp only at i1 i2
  obtain ⟨Q, rfl⟩ : ∃ Q : Nat, q = (Q : Int) := ⟨q.toNat, by omega⟩
  have hws := with_same n (by have := h.six; omega) Q (by have := h.six; omega)
  have r6 := cell_regrown (cells_at h.root 6)
  have Ht := Lib.hid ht; clear ht
  have Hh := Lib.hid h; clear h
  have He := Lib.hid he; clear he
  have Hws := Lib.hid hws; clear hws
  go_enter Tryd.func19, Tryd.ntmps19
  go_wp2_with fail
  refine wp_region_quiet_below (by kernel_rfl) (by kernel_rfl) ?_
  repeat (go_big_quiet_step ((go_at_call 47; exact Calls.regrown_of (Ht.out _))))
  refine wpQuiet_nil ?_
  intro wq hwq
  have bk : Below w.heap.size w wq := by obtain ⟨q, rfl⟩ := hwq; exact below_regrown _ _ _
  clear hwq hl r6
  have hk := Hh.out.step bk
  have Hk := Lib.hid hk; clear hk
  have Bk := Lib.hid bk; clear bk
  go_wp2_with fail
  obtain ⟨ov, xb, Fb, h1, -, h3, -⟩ := (Hk.out.fit He.out).is
  obtain ⟨l1, l2, hlab⟩ : ∃ x y, labOf n (Q : Int) = (x, y) := ⟨_, _, rfl⟩
  have h3 : Bx w0 wq xb Fb (labOf n (Q : Int)) 8 (st ((Q : Int), d)).2 := h3
  obtain ⟨t0, t1⟩ := tag_cells Hk.out (q := Q) (by omega)
  rw [hlab] at h3 t0 t1
  have hws := Hws.out
  rw [hlab] at hws
  have z1 : wq.cell? ⟨b, 1, none⟩ = some (.pointer (some ⟨xb, 0, none⟩)) := cells_at h1 1
  have r4 : wq.cell? ⟨kb, 4, none⟩ = some (.slice (some ⟨tb, 0, none⟩) (n + 1) tc) := cells_at Hk.out.root 4
  have H3 := Lib.hid h3; clear h3 h1
  have Hws2 := Lib.hid hws; clear hws hlab Hws
  have RR := Lib.hid (And.intro t0 (And.intro t1 (And.intro z1 r4))); clear t0 t1 z1 r4
  have s0 := below_drew wq
  refine wp_region_held (fun w' : World => Below wq.heap.size wq w') [0, 1, 2, 3, 4, 5, 6, 7, 8, 9, 10] [[11, 12, 13, 14, 15, 16]] (by kernel_rfl) (by kernel_rfl) rfl (by kernel_rfl) (fun _ _ _ h => by obtain ⟨_, _, h, _⟩ := h; cases h) (fun _ _ h => by obtain ⟨_, h, _⟩ := h; cases h) s0 (by kernel_rfl) ?_
  generalize wq.drew = wd at s0 ⊢
  apply Exists.intro
  apply And.intro
  · intro w' s
    obtain ⟨t0, t1, z1, r4⟩ := RR.out
    have t0 := (s.cell (World.block_lt_of_cell? _ _ t0)).trans t0
    have t1 := (s.cell (World.block_lt_of_cell? _ _ t1)).trans t1
    have z1 := (s.cell (World.block_lt_of_cell? _ _ z1)).trans z1
    have r4 := (s.cell (World.block_lt_of_cell? _ _ r4)).trans r4
    have i3 : (Q : Int) < ((n + 1 : Nat) : Int) := by omega
    have i4 : Q < n + 1 := by omega
    clear s
    simp only [List.map_cons, List.map_nil, List.getD_cons_zero, List.getD_cons_succ]
    go_wp2_with fail
    exact pre_end
  have Hs0 := Lib.hid s0; clear s0
  simp only [List.map_cons, List.map_nil, List.getD_cons_zero, List.getD_cons_succ]
  refine segs_last ?_
  have hli := List_bx (H3.out.step Hs0.out) (l1, l2) 0
  rw [Hws2.out] at hli
  simp only [Label.cells, if_true] at hli
  have hlen := H3.out.room.2
  have Hli := Lib.hid hli; clear hli
  have Hlen := Lib.hid hlen; clear hlen
  go_wp2_with fail
  refine Hli.out.mono ?_
  rintro e w3 ⟨v, rfl, ov3, b3, -⟩
  have b03 := Hs0.out.trans (b3.mono Hs0.out.size)
  have hcl := Clone_calls ov3 (Nat.le_trans Hlen.out (by decide))
  clear Hli Hs0 H3 b3 ov3 RR
  have B03 := Lib.hid b03; clear b03
  have Hcl := Lib.hid hcl; clear hcl
  go_wp2_with fail
  refine Hcl.out.mono ?_
  rintro e w4 ⟨v4, rfl, o4, b4⟩
  have hb := Bk.out.trans ((B03.out.trans (b4.mono B03.out.size)).mono Bk.out.size)
  have ho := MOwn.mono o4 (Nat.le_trans Bk.out.size B03.out.size)
  clear o4 b4 B03 Hcl
  have Hb := Lib.hid hb; clear hb
  have Ho := Lib.hid ho; clear ho
  go_wp2
  go_ret
  exact ⟨_, rfl, Ho.out, Hb.out⟩
end
end Go.Proofs.YtclgakdfeeefiaaDoor
