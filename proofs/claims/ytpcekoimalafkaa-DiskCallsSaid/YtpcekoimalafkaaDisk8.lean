/- The laws' helpers: do, begin. -/
import Derived.Test.YtpcekoimalafkaaDisk7
namespace Go.Proofs.Ytpcekoimalafkaa
open Go.RowKit

abbrev State := List (List Int) × List (Int × List Int)
def stepOf (s : State) (x : CallV) : State :=
  if x.what = 0 then (s.1, written s.1 s.2 x.place x.zs)
  else if x.what = 1 then (settled s.1 s.2, [])
  else if x.what = 2 then (crashed s.1 s.2 x.place x.tear, [])
  else s

/-- The device, with what it holds told in one. -/
structure DiskIs (w : World) (B b : Nat) (F : Nat → Prop) (s : State) : Prop where
  out : ∃ gs gm cv, DiskAt w B b gs gm cv s.1 s.2 ∧ F = foot b gs gm cv

theorem mod3_foot {w w' : World} {b gs gm : Nat} {cv : Value} (h : Mod (fun k => k = b ∨ k = gs ∨ k = gm) w w') : Mod (foot b gs gm cv) w w' :=
  h.mono fun _ hx => hx.elim .inl fun h => h.elim (fun h => .inr (.inl h)) fun h => .inr (.inr (.inl h))

set_option maxHeartbeats 2000000 in
theorem do_calls {w : World} {B b gs gm : Nat} {cv : Value} {S : List (List Int)} {C : List (Int × List Int)} (h : DiskAt w B b gs gm cv S C) {x : CallV} (hx : CallOk w x) (hC : C.length ≤ 1000000) (hd : x.dn ≤ 1000000) :
    Calls Try.prog 31 #[.pointer (some ⟨b, 0, none⟩), .agg x.cells.toArray] w fun e w' =>
      ∃ cv', e = .returned (.tuple #[]) ∧ DiskAt w' B b gs gm cv' (stepOf (S, C) x).1 (stepOf (S, C) x).2 ∧ Mod (foot b gs gm cv) w w' ∧ ∀ g, cv'.ownBlock = some g → cv.ownBlock = some g ∨ w.heap.size ≤ g := by
  obtain ⟨what, place, tear, da, dn, dc, zs⟩ := x
  simp only [CallV.cells] at *
  by_cases h0 : what = 0
  · subst h0
    have hst : stepOf (S, C) ⟨0, place, tear, da, dn, dc, zs⟩ = (S, written S C place zs) := by simp [stepOf]
    rw [hst]
    clear hst
    go_enter Try.func31, Try.ntmps31
    go_wp2_with fail
    obtain ⟨w1, hw1⟩ : ∃ w1, w1 = w.alloc (.cells #[.int .i64 0, .int .i64 place, .int .i64 tear, .slice da dn dc] 34) := ⟨_, rfl⟩
    have b1 : Below w.heap.size w w1 := by rw [hw1]; exact (Below.refl _ _).alloc (Nat.le_refl _) _
    have x1 : w1.heap[w.heap.size]? = some (.cells #[.int .i64 0, .int .i64 place, .int .i64 tear, .slice da dn dc] 34 (0, 0)) := by rw [hw1]; exact heap_alloc_new w _
    rw [← hw1]
    clear hw1
    refine wp_region_fork [0, 1, 3, 4] 2 [[2, 5, 6], [5, 2, 6]] (by kernel_rfl) (by kernel_rfl) rfl (by kernel_rfl) (fun _ _ _ h => by obtain ⟨_, _, h, _⟩ := h; cases h) (fun _ _ h => by obtain ⟨_, h, _⟩ := h; cases h) ?_
    have x2 : w1.drew.heap[w.heap.size]? = _ := x1
    have b2 : Below w.heap.size w w1.drew := b1.trans ⟨rfl, rfl, rfl, Nat.le_refl _, fun _ _ => rfl⟩
    clear x1 b1
    generalize w1.drew = w2 at x2 b2 ⊢
    have h2 := h.keep (w' := w2) fun k hk => b2.block k (h.lt k hk).2
    have d2 := hx.data.keep b2
    have c1 := cells_at x2 1
    have c3 := cells_at x2 3
    simp only [List.forall_mem_cons, List.not_mem_nil, false_imp_iff, implies_true, and_true]
    constructor
    all_goals simp only [List.cons_append, List.nil_append, List.map_cons, List.map_nil, List.getD_cons_zero, List.getD_cons_succ]
    all_goals go_wp2_with fail
    all_goals
      refine (CopyBytes_calls d2 (by omega)).mono ?_
      rintro e w3 ⟨v, rfl, hv, hvn, b3⟩
      have h3 := h2.keep (w' := w3) fun k hk => b3.block k (h2.lt k hk).2
      have x3 := (b3.block w.heap.size (Array.getElem?_eq_some_iff.1 x2).1).trans x2
      obtain ⟨av, cv2, rfl, iv, _⟩ := hv.ints
      have hwr := Write_calls h3 place iv hC
      have b03 : Below w.heap.size w w3 := b2.trans (b3.mono b2.size)
      have Hb03 := Lib.hid b03; clear b03
      clear c1 c3 hv hvn b3 b2 x2 d2 h2
      have c1 := cells_at x3 1
      go_wp2_with fail
      refine hwr.mono ?_
      rintro e w4 ⟨cv', rfl, h4, m4, o4⟩
      have Hm4 := Lib.hid m4; clear m4
      have Ho4 := Lib.hid o4; clear o4
      clear hwr iv
      go_wp2
      go_end0
      exact ⟨cv', rfl, h4, (Mod.of_below Hb03.out : Mod (foot b gs gm cv) w w3).trans Hm4.out (fun _ h => h) (fun _ _ h => h), fun g hg => (Ho4.out g hg).imp id fun hh => Nat.le_trans Hb03.out.size hh⟩
  · have e0 : ((what : Int) == 0) = false := by simpa using h0
    obtain ⟨w1, hw1⟩ : ∃ w1, w1 = w.alloc (.cells #[.int .i64 what, .int .i64 place, .int .i64 tear, .slice da dn dc] 34) := ⟨_, rfl⟩
    have b1 : Below w.heap.size w w1 := by rw [hw1]; exact (Below.refl _ _).alloc (Nat.le_refl _) _
    have x1 : w1.heap[w.heap.size]? = some (.cells #[.int .i64 what, .int .i64 place, .int .i64 tear, .slice da dn dc] 34 (0, 0)) := by rw [hw1]; exact heap_alloc_new w _
    have h1 := h.keep (w' := w1) fun k hk => b1.block k (h.lt k hk).2
    have Hb1 := Lib.hid b1; clear b1
    have Hw1 := Lib.hid hw1; clear hw1
    by_cases h1' : what = 1
    · subst h1'
      have hst : stepOf (S, C) ⟨1, place, tear, da, dn, dc, zs⟩ = (settled S C, []) := by simp [stepOf]
      rw [hst]
      clear hst
      have hfl := Flush_calls h1
      go_enter Try.func31, Try.ntmps31
      go_wp2_with fail
      rw [← Hw1.out]
      refine hfl.mono ?_
      rintro e w4 ⟨rfl, h4, m4⟩
      have Hm4 := Lib.hid m4; clear m4 hfl
      go_wp2
      go_end0
      exact ⟨_, rfl, h4, (Mod.of_below Hb1.out : Mod (foot b gs gm cv) w w1).trans (mod3_foot Hm4.out) (fun _ h => h) (fun _ _ h => h), fun g hg => by cases hg⟩
    · have e1 : ((what : Int) == 1) = false := by simpa using h1'
      by_cases h2' : what = 2
      · subst h2'
        have hst : stepOf (S, C) ⟨2, place, tear, da, dn, dc, zs⟩ = (crashed S C place tear, []) := by simp [stepOf]
        rw [hst]
        clear hst
        have hcr := Crash_calls h1 place tear
        go_enter Try.func31, Try.ntmps31
        go_wp2_with fail
        rw [← Hw1.out]
        refine hcr.mono ?_
        rintro e w4 ⟨rfl, h4, m4⟩
        have Hm4 := Lib.hid m4; clear m4 hcr
        go_wp2
        go_end0
        exact ⟨_, rfl, h4, (Mod.of_below Hb1.out : Mod (foot b gs gm cv) w w1).trans (mod3_foot Hm4.out) (fun _ h => h) (fun _ _ h => h), fun g hg => by cases hg⟩
      · have e2 : ((what : Int) == 2) = false := by simpa using h2'
        have hst : stepOf (S, C) ⟨what, place, tear, da, dn, dc, zs⟩ = (S, C) := by simp [stepOf, h0, h1', h2']
        rw [hst]
        clear hst
        have H0 := Lib.hid h0; clear h0
        have H1 := Lib.hid h1'; clear h1'
        have H2 := Lib.hid h2'; clear h2'
        go_enter Try.func31, Try.ntmps31
        go_wp2
        go_end0
        rw [← Hw1.out]
        exact ⟨cv, rfl, h1, Mod.of_below Hb1.out, fun g hg => .inl hg⟩
end Go.Proofs.Ytpcekoimalafkaa
