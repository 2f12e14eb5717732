/- The box: Put. -/
import Derived.Test.YtclgakdfeeefiaaDoorBox3
namespace Go.Proofs.YtclgakdfeeefiaaDoor
open Go.RowKit

def putOf (l : Label) (r : Nat) (ms : List Msg) (f : Label) (o : Int) (m : Msg) : Bool × Int × List Msg :=
  if rightOf m then (if withOf f l o then (if ms.length < r then (true, 0, ms ++ [m]) else if withOf l f o then (false, 15, ms) else (false, 0, ms)) else (false, 14, ms)) else (false, 10, ms)

theorem own_slice {w : World} {B : Nat} {e : TypeId} {size : Nat} {v : Value} {n : Nat} {xs : List Value} (h : w.ownsRow B e size v n xs) : ∃ a c, v = .slice a n c := by
  rcases h.2 with ⟨rfl, rfl⟩ | ⟨g, cap, cur, rfl, _⟩
  · exact ⟨_, _, rfl⟩
  · exact ⟨_, _, rfl⟩

section
variable {w w' : World} {B b : Nat} {mv : Value} {l : Label} {r : Nat} {ms : List Msg}
set_option maxHeartbeats 2000000 in
theorem Put_calls (h : BoxAt w B b mv l r ms) (f : Label) (o : Int) (m : Msg) :
    Calls Tryd.prog 49 #[.pointer (some ⟨b, 0, none⟩), .agg f.cells.toArray, .int .u64 o, .agg m.cells.toArray] w fun e w' =>
      e = .returned (.tuple #[.bool (putOf l r ms f o m).1, .int .i64 (putOf l r ms f o m).2.1]) ∧ ∃ mv', BoxAt w' B b mv' l r (putOf l r ms f o m).2.2 ∧
        (∀ g, mv'.ownBlock = some g → mv.ownBlock = some g ∨ w.heap.size ≤ g) ∧ Mod (foot b mv) w w' := by
  have hright := fun w : World => Right_calls (w := w) m
  have hwith := fun w : World => With_calls (w := w) f l o
  have hput : putOf l r ms f o m = if rightOf m then (if withOf f l o then (if ms.length < r then (true, 0, ms ++ [m]) else if withOf l f o then (false, 15, ms) else (false, 0, ms)) else (false, 14, ms)) else (false, 10, ms) := rfl
  obtain ⟨p, hp⟩ : ∃ p, p = putOf l r ms f o m := ⟨_, rfl⟩
  rw [← hp] at hput ⊢
  clear hp
  have hseen := fun (w : World) (h : BoxAt w B b mv l r ms) => seen_calls h f o
  obtain ⟨X1, hX1⟩ : ∃ X, X = rightOf m := ⟨_, rfl⟩
  obtain ⟨X2, hX2⟩ : ∃ X, X = withOf f l o := ⟨_, rfl⟩
  obtain ⟨X3, hX3⟩ : ∃ X, X = withOf l f o := ⟨_, rfl⟩
  rw [← hX1] at hput hright
  rw [← hX2] at hput hwith
  rw [← hX3] at hput hseen
  clear hX1 hX2 hX3
  obtain ⟨mp, hmp⟩ : ∃ mp, mp = m := ⟨_, rfl⟩
  rw [← hmp] at hput
  obtain ⟨lp, hlp⟩ : ∃ lp, lp = l := ⟨_, rfl⟩
  obtain ⟨k, pa, t, q⟩ := m
  obtain ⟨f1, f2⟩ := f
  obtain ⟨l1, l2⟩ := l
  simp only [Label.cells, Msg.cells, Msg.kind, Msg.part, Msg.tx, Msg.what] at hright hwith hseen ⊢
  have b0 : Below w.heap.size w ((w.alloc (.cells #[.int .u64 f1, .int .u64 f2] 32)).alloc (.cells #[.int .i64 k, .int .i64 pa, .int .i64 t, .int .i64 q] 39)) := ((Below.refl _ _).alloc (Nat.le_refl _) _).alloc (by simp) _
  have hxf : ((w.alloc (.cells #[.int .u64 f1, .int .u64 f2] 32)).alloc (.cells #[.int .i64 k, .int .i64 pa, .int .i64 t, .int .i64 q] 39)).heap[w.heap.size]? = some (.cells #[.int .u64 f1, .int .u64 f2] 32 (0, 0)) := by
    rw [heap_alloc_old _ _ (by simp)]; exact heap_alloc_new w _
  have hxm : ((w.alloc (.cells #[.int .u64 f1, .int .u64 f2] 32)).alloc (.cells #[.int .i64 k, .int .i64 pa, .int .i64 t, .int .i64 q] 39)).heap[w.heap.size + 1]? = some (.cells #[.int .i64 k, .int .i64 pa, .int .i64 t, .int .i64 q] 39 (0, 0)) := by
    have := heap_alloc_new (w.alloc (.cells #[.int .u64 f1, .int .u64 f2] 32)) (.cells #[.int .i64 k, .int .i64 pa, .int .i64 t, .int .i64 q] 39)
    simpa using this
  have Hr := Lib.hid hright; clear hright
  have Hw := Lib.hid hwith; clear hwith
  have Hs := Lib.hid hseen; clear hseen
  have Hp := Lib.hid hput; clear hput
  have Hh := Lib.hid h; clear h
  have Hb0 := Lib.hid b0; clear b0
  have Hxf := Lib.hid hxf; clear hxf
  have Hxm := Lib.hid hxm; clear hxm
  have Hmp := Lib.hid hmp; clear hmp
  have Hlp := Lib.hid hlp; clear hlp
  go_enter Tryd.func49, Tryd.ntmps49
  go_wp2_with fail
  generalize (w.alloc (.cells #[.int .u64 f1, .int .u64 f2] 32)).alloc (.cells #[.int .i64 k, .int .i64 pa, .int .i64 t, .int .i64 q] 39) = w0 at Hb0 Hxf Hxm ⊢
  refine (Hr.out _).mono ?_
  rintro e w1 ⟨rfl, b1⟩
  have b01 := Hb0.out.trans (b1.mono Hb0.out.size)
  have hxf1 := (b1.block w.heap.size (Array.getElem?_eq_some_iff.1 Hxf.out).1).trans Hxf.out
  have hxm1 := (b1.block (w.heap.size + 1) (Array.getElem?_eq_some_iff.1 Hxm.out).1).trans Hxm.out
  have h1 := Hh.out.below b01
  clear b1 Hb0 Hxf Hxm Hr
  have Hb1 := Lib.hid b01; clear b01
  cases X1 with
  | false =>
    have Hh1 := Lib.hid h1; clear h1 hxf1 hxm1
    go_wp2
    go_ret2
    rw [Hp.out]
    exact ⟨rfl, mv, by rw [← Hlp.out] at *; exact Hh1.out, fun g hg => .inl hg, Mod.of_below Hb1.out⟩
  | true =>
  have Hxf1 := Lib.hid hxf1; clear hxf1
  have Hxm1 := Lib.hid hxm1; clear hxm1
  have Hh1 := Lib.hid h1; clear h1
  go_wp2_with fail
  refine wp_region_free [0, 1, 2, 3, 4, 5, 6, 7, 8] (by kernel_rfl) (by kernel_rfl) rfl (by kernel_rfl) (fun _ _ _ h => by obtain ⟨_, h, _⟩ := h; cases h) (fun _ _ h => by obtain ⟨h, _⟩ := h; cases h) ?_
  simp only [List.map_cons, List.map_nil, List.getD_cons_zero, List.getD_cons_succ]
  have bd : Below w.heap.size w w1.drew := Hb1.out.trans ⟨rfl, rfl, rfl, Nat.le_refl _, fun _ _ => rfl⟩
  have hxf2 : w1.drew.heap[w.heap.size]? = _ := Hxf1.out
  have hxm2 : w1.drew.heap[w.heap.size + 1]? = _ := Hxm1.out
  have h2 := Hh1.out.below (below_drew w1)
  clear Hb1 Hxf1 Hxm1 Hh1
  generalize w1.drew = w2 at bd hxf2 hxm2 h2 ⊢
  have c0 : w2.cell? ⟨b, 0, none⟩ = some (.int .u64 l1) := cells_at h2.root 0
  have c1 : w2.cell? ⟨b, 1, none⟩ = some (.int .u64 l2) := cells_at h2.root 1
  have d0 : w2.cell? ⟨w.heap.size, 0, none⟩ = some (.int .u64 f1) := cells_at hxf2 0
  have d1 : w2.cell? ⟨w.heap.size, 1, none⟩ = some (.int .u64 f2) := cells_at hxf2 1
  have Hb2 := Lib.hid bd; clear bd
  have Hxf2 := Lib.hid hxf2; clear hxf2
  have Hxm2 := Lib.hid hxm2; clear hxm2
  have Hh2 := Lib.hid h2; clear h2
  go_wp2_with fail
  refine (Hw.out _).mono ?_
  rintro e w3 ⟨rfl, b3⟩
  have bf := Hb2.out.trans (b3.mono Hb2.out.size)
  have hxf3 := (b3.block w.heap.size (Array.getElem?_eq_some_iff.1 Hxf2.out).1).trans Hxf2.out
  have hxm3 := (b3.block (w.heap.size + 1) (Array.getElem?_eq_some_iff.1 Hxm2.out).1).trans Hxm2.out
  have h3 := Hh2.out.below b3
  clear b3 c0 c1 d0 d1 Hb2 Hxf2 Hxm2 Hh2 Hw
  have Hb3 := Lib.hid bf; clear bf
  cases X2 with
  | false =>
    have Hh3 := Lib.hid h3; clear h3 hxf3 hxm3
    go_wp2
    go_ret2
    rw [Hp.out]
    exact ⟨rfl, mv, Hh3.out, fun g hg => .inl hg, Mod.of_below Hb3.out⟩
  | true =>
  obtain ⟨ma, mc, hmv⟩ := h3.shape
  obtain ⟨L, hL⟩ : ∃ L, L = ms.length := ⟨_, rfl⟩
  rw [← hL] at hmv
  subst hmv
  have hlen := h3.len
  rw [← hL] at hlen
  have hroom := h3.room.2
  have HL := Lib.hid hL; clear hL
  have c2 := cells_at h3.root 2
  have c3 := cells_at h3.root 3
  have Hh3 := Lib.hid h3; clear h3
  have Hxf3 := Lib.hid hxf3; clear hxf3
  have Hxm3 := Lib.hid hxm3; clear hxm3
  by_cases hlt : L < r
  · have e1 : decide (L < r) = true := decide_eq_true hlt
    have e2 : decide ((L : Int) < (r : Int)) = true := decide_eq_true (by omega)
    go_wp2_with fail
    go_quiet (fail)
    have b4 : Below w3.heap.size w3 (w3.drewN nq) := below_drawn w3 nq
    have h4 := Hh3.out.below b4
    have hxm4 : (w3.drewN nq).heap[w.heap.size + 1]? = _ := Hxm3.out
    have bb4 := Hb3.out.trans (b4.mono Hb3.out.size)
    clear c2 c3 b4 Hh3 Hxf3 Hxm3 Hb3
    generalize w3.drewN nq = w4 at *
    have Hh4 := Lib.hid h4; clear h4
    have Hxm4 := Lib.hid hxm4; clear hxm4
    have Hb4 := Lib.hid bb4; clear bb4
    go_wp2_with fail
    refine wp_region_free [0, 1, 2, 3, 4, 5, 6, 7, 8, 9, 10] (by kernel_rfl) (by kernel_rfl) rfl (by kernel_rfl) (fun _ _ _ h => by obtain ⟨_, h, _⟩ := h; cases h) (fun _ _ h => by obtain ⟨h, _⟩ := h; cases h) ?_
    simp only [List.map_cons, List.map_nil, List.getD_cons_zero, List.getD_cons_succ]
    have bd : Below w.heap.size w w4.drew := Hb4.out.trans ⟨rfl, rfl, rfl, Nat.le_refl _, fun _ _ => rfl⟩
    have hxm5 : w4.drew.heap[w.heap.size + 1]? = _ := Hxm4.out
    have h5 := Hh4.out.below (below_drew w4)
    clear Hb4 Hxm4 Hh4
    generalize w4.drew = w5 at bd hxm5 h5 ⊢
    have c2 : w5.cell? ⟨b, 2, none⟩ = some (.slice ma L mc) := cells_at h5.root 2
    have d0 : w5.cell? ⟨w.heap.size + 1, 0, none⟩ = some (.int .i64 k) := cells_at hxm5 0
    have d1 : w5.cell? ⟨w.heap.size + 1, 1, none⟩ = some (.int .i64 pa) := cells_at hxm5 1
    have d2 : w5.cell? ⟨w.heap.size + 1, 2, none⟩ = some (.int .i64 t) := cells_at hxm5 2
    have d3 : w5.cell? ⟨w.heap.size + 1, 3, none⟩ = some (.int .i64 q) := cells_at hxm5 3
    have hrow := h5.row
    have hlt5 := h5.lt
    have Hb5 := Lib.hid bd; clear bd
    have Hh5 := Lib.hid h5; clear h5 hxm5
    obtain ⟨ti, hti, hz0, hz1, hz2⟩ := info_parts Tryd.infoMsg
    go_wp2_with (with_reducible refine stop_builtin .append ?_)
    have hx6 := heap_alloc_new w5 (.cells #[.int .i64 k, .int .i64 pa, .int .i64 t, .int .i64 q] 39)
    have b6 : Below w5.heap.size w5 (w5.alloc (.cells #[.int .i64 k, .int .i64 pa, .int .i64 t, .int .i64 q] 39)) := (Below.refl _ _).alloc (Nat.le_refl _) _
    have hz6 : (w5.alloc (.cells #[.int .i64 k, .int .i64 pa, .int .i64 t, .int .i64 q] 39)).heap.size = w5.heap.size + 1 := by simp
    generalize w5.alloc (.cells #[.int .i64 k, .int .i64 pa, .int .i64 t, .int .i64 q] 39) = w6 at hx6 b6 hz6 ⊢
    have hrow6 : MOwn w6 B (.slice ma L mc) ms := MOwn.keep hrow fun g _ hg => b6.block g hg
    have hB := Hh5.out.bb
    refine unpark ?_
    refine wpList_append_row _ rfl _ _ 44 (by rfl) B 39 ti (.agg #[.int .i64 0, .int .i64 0, .int .i64 0, .int .i64 0]) 4 32 Tryd.underlying44 hti hz0 hz1 hz2 rfl (by decide) (.slice ma L mc) ms.length (mrow ms) (by rfl) hrow6 w5.heap.size 0 1 1 (Msg.cells mp) (by rfl) rfl (by decide)
      (fun j' u hu => by rw [Nat.zero_add, cells_at hx6 j']; rw [Hmp.out] at hu; simpa [Msg.cells] using hu) (fun u hu => by simp [Msg.cells] at hu; rcases hu with rfl | rfl | rfl | rfl <;> rfl) (by have := HL.out; unfold maxLen; omega) (by have := HL.out; omega) (by have := (hlt5 b (.inl rfl)).2; omega) ?_
    intro v' w7 hown hg7 hv7
    have own7 : MOwn w7 B v' (ms ++ [mp]) := by
      have e : mrow (ms ++ [mp]) = mrow ms ++ mp.cells := by rw [mrow_append]; simp [mrow]
      unfold MOwn
      rw [e, List.length_append]
      exact hown
    have same7 : ∀ x, x < w5.heap.size → (Value.slice ma L mc).ownBlock ≠ some x → w7.heap[x]? = w5.heap[x]? := fun x hx hn => (hg7.block x (by omega) fun e => hn e.symm).trans (b6.block x hx)
    have hbl := (hlt5 b (.inl rfl)).2
    have r7 : w7.heap[b]? = some (.cells #[.int .u64 l1, .int .u64 l2, .slice ma L mc, .int .i64 (r : Int)] 118 (0, 0)) := (same7 b hbl fun e => Hh5.out.apart b e rfl).trans Hh5.out.root
    have vb : ∀ g, v'.ownBlock = some g → g ≠ b ∧ ((Value.slice ma L mc).ownBlock = some g ∨ w5.heap.size ≤ g) := fun g hg => by
      rcases hv7 with e | e
      · rw [e] at hg
        exact ⟨Hh5.out.apart g hg, .inl hg⟩
      · rw [e] at hg
        cases hg
        exact ⟨by omega, .inr (by omega)⟩
    have hn : BoxAt (w7.setCell ⟨b, 2, none⟩ v') B b v' (l1, l2) r (ms ++ [mp]) := ⟨heap_setCell_same w7 b 2 _ _ _ r7, own7.keep fun g hg _ => heap_setCell_other w7 _ g _ (vb g hg).1, fun g hg => (vb g hg).1, hB, Hh5.out.room, by rw [List.length_append, ← HL.out]; exact hlt⟩
    have hm : Mod (foot b (.slice ma L mc)) w (w7.setCell ⟨b, 2, none⟩ v') := by
      have m1 : Mod (foot b (.slice ma L mc)) w5 w7 := ⟨hg7.os.trans b6.os, hg7.tape.trans b6.tape, hg7.output.trans b6.output, Nat.le_trans b6.size hg7.size, fun x hx hn => same7 x hx fun e => hn (.inr e)⟩
      have m2 : Mod (foot b (.slice ma L mc)) w7 (w7.setCell ⟨b, 2, none⟩ v') := ⟨rfl, rfl, rfl, by simp, fun x _ hn => heap_setCell_other w7 _ x _ fun e => hn (.inl e)⟩
      exact ((Mod.of_below Hb5.out : Mod (foot b (.slice ma L mc)) w w5).trans m1 (fun _ h => h) (fun _ _ h => h)).trans m2 (fun _ h => h) (fun _ _ h => h)
    have hf : ∀ g, v'.ownBlock = some g → (Value.slice ma L mc).ownBlock = some g ∨ w.heap.size ≤ g := fun g hg => (vb g hg).2.imp id fun h => Nat.le_trans Hb5.out.size h
    have f2 := frozen_of_row w7 b 2 _ _ r7
    have cc2 := cells_at r7 2
    obtain ⟨va, vc, hve⟩ := own_slice own7
    obtain ⟨vn, hvn⟩ : ∃ vn, vn = (ms ++ [mp]).length := ⟨_, rfl⟩
    rw [← hvn] at hve
    subst hve
    have Hn := Lib.hid hn; clear hn
    have Hm := Lib.hid hm; clear hm
    have Hf := Lib.hid hf; clear hf
    have hlt' : ms.length < r := by rw [← HL.out]; exact hlt
    have Hlt := Lib.hid hlt'; clear hlt'
    clear hvn own7 same7 vb hown hg7 hv7 hrow hrow6 hlt5 hx6 b6 r7 c2 d0 d1 d2 d3 hti hz0 hz1 hz2 hbl
    go_wp2
    go_ret2
    have hpe : p = (true, 0, ms ++ [mp]) := by rw [Hp.out]; simp [Hlt.out]
    rw [hpe]
    exact ⟨rfl, _, Hn.out, Hf.out, Hm.out⟩
  · have e1 : decide (L < r) = false := decide_eq_false hlt
    have e2 : decide ((L : Int) < (r : Int)) = false := decide_eq_false (by omega)
    go_wp2_with fail
    go_quiet (fail)
    have b4 : Below w3.heap.size w3 (w3.drewN nq) := below_drawn w3 nq
    have h4 := Hh3.out.below b4
    have hxf4 : (w3.drewN nq).heap[w.heap.size]? = _ := Hxf3.out
    have bb4 := Hb3.out.trans (b4.mono Hb3.out.size)
    clear c2 c3 b4 Hh3 Hxf3 Hxm3 Hb3
    generalize w3.drewN nq = w4 at *
    have d0 : w4.cell? ⟨w.heap.size, 0, none⟩ = some (.int .u64 f1) := cells_at hxf4 0
    have d1 : w4.cell? ⟨w.heap.size, 1, none⟩ = some (.int .u64 f2) := cells_at hxf4 1
    have Hh4 := Lib.hid h4; clear h4
    have Hxf4 := Lib.hid hxf4; clear hxf4
    have Hb4 := Lib.hid bb4; clear bb4
    go_wp2_with fail
    refine (Hs.out _ Hh4.out).mono ?_
    rintro e w5 ⟨rfl, b5⟩
    have h5 := Hh4.out.below b5
    have bb5 := Hb4.out.trans (b5.mono Hb4.out.size)
    have hlt' : ¬ ms.length < r := by rw [← HL.out]; exact hlt
    have Hh5 := Lib.hid h5; clear h5
    have Hb5 := Lib.hid bb5; clear bb5 b5 Hb4 Hh4 d0 d1 Hxf4
    have Hlt := Lib.hid hlt'; clear hlt'
    cases X3 with
    | false =>
      go_wp2
      go_ret2
      have hpe : p = (false, 0, ms) := by rw [Hp.out]; simp [Hlt.out]
      rw [hpe]
      exact ⟨rfl, _, Hh5.out, fun g hg => .inl hg, Mod.of_below Hb5.out⟩
    | true =>
      go_wp2
      go_ret2
      have hpe : p = (false, 15, ms) := by rw [Hp.out]; simp [Hlt.out]
      rw [hpe]
      exact ⟨rfl, _, Hh5.out, fun g hg => .inl hg, Mod.of_below Hb5.out⟩
end
end Go.Proofs.YtclgakdfeeefiaaDoor
