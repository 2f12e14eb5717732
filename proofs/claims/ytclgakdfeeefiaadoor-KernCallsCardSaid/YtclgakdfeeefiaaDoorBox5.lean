/- The box: Take. -/
import Derived.Test.YtclgakdfeeefiaaDoorBox4
namespace Go.Proofs.YtclgakdfeeefiaaDoor
open Go.RowKit

def noMsg : Msg := (0, 0, 0, 0)
def takeOf (l : Label) (ms : List Msg) (t : Label) (o : Int) (i : Int) : Msg × Int × List Msg :=
  if withOf l t o then (if 0 ≤ i ∧ i < (ms.length : Int) then (ms.getD i.toNat noMsg, 0, ms.eraseIdx i.toNat) else (noMsg, 12, ms)) else (noMsg, 14, ms)

theorem Tryd.sizeMsg : (Tryd.prog.info? 39).map (·.size) = some 4 := by kernel_rfl

section
variable {w w' : World} {B b : Nat} {mv : Value} {l : Label} {r : Nat} {ms : List Msg}
set_option maxHeartbeats 4000000 in
theorem Take_calls (h : BoxAt w B b mv l r ms) (t : Label) (o : Int) (i : Int) :
    Calls Tryd.prog 48 #[.pointer (some ⟨b, 0, none⟩), .agg t.cells.toArray, .int .u64 o, .int .i64 i] w fun e w' =>
      e = .returned (.tuple #[.agg (takeOf l ms t o i).1.cells.toArray, .int .i64 (takeOf l ms t o i).2.1]) ∧ ∃ mv', BoxAt w' B b mv' l r (takeOf l ms t o i).2.2 ∧
        (∀ g, mv'.ownBlock = some g → mv.ownBlock = some g ∨ w.heap.size ≤ g) ∧ Mod (foot b mv) w w' := by
  have htake : takeOf l ms t o i = if withOf l t o then (if 0 ≤ i ∧ i < (ms.length : Int) then (ms.getD i.toNat noMsg, 0, ms.eraseIdx i.toNat) else (noMsg, 12, ms)) else (noMsg, 14, ms) := rfl
  obtain ⟨p, hp⟩ : ∃ p, p = takeOf l ms t o i := ⟨_, rfl⟩
  rw [← hp] at htake ⊢
  clear hp
  have hseen := fun (w : World) (h : BoxAt w B b mv l r ms) => seen_calls h t o
  obtain ⟨X, hX⟩ : ∃ X, X = withOf l t o := ⟨_, rfl⟩
  rw [← hX] at htake hseen
  clear hX
  obtain ⟨t1, t2⟩ := t
  simp only [Label.cells] at hseen ⊢
  have b0 : Below w.heap.size w ((w.alloc (.cells #[.int .u64 t1, .int .u64 t2] 32)).alloc (.cells #[.int .i64 0, .int .i64 0, .int .i64 0, .int .i64 0] 39)) := ((Below.refl _ _).alloc (Nat.le_refl _) _).alloc (by simp) _
  have hxt : ((w.alloc (.cells #[.int .u64 t1, .int .u64 t2] 32)).alloc (.cells #[.int .i64 0, .int .i64 0, .int .i64 0, .int .i64 0] 39)).heap[w.heap.size]? = some (.cells #[.int .u64 t1, .int .u64 t2] 32 (0, 0)) := by
    rw [heap_alloc_old _ _ (by simp)]; exact heap_alloc_new w _
  have hxr : ((w.alloc (.cells #[.int .u64 t1, .int .u64 t2] 32)).alloc (.cells #[.int .i64 0, .int .i64 0, .int .i64 0, .int .i64 0] 39)).heap[w.heap.size + 1]? = some (.cells #[.int .i64 0, .int .i64 0, .int .i64 0, .int .i64 0] 39 (0, 0)) := by
    have := heap_alloc_new (w.alloc (.cells #[.int .u64 t1, .int .u64 t2] 32)) (.cells #[.int .i64 0, .int .i64 0, .int .i64 0, .int .i64 0] 39)
    simpa using this
  have Hs := Lib.hid hseen; clear hseen
  have Hp := Lib.hid htake; clear htake
  have Hh := Lib.hid h; clear h
  have Hb0 := Lib.hid b0; clear b0
  have Hxt := Lib.hid hxt; clear hxt
  have Hxr := Lib.hid hxr; clear hxr
  go_enter Tryd.func48, Tryd.ntmps48
  go_wp2_with fail
  generalize (w.alloc (.cells #[.int .u64 t1, .int .u64 t2] 32)).alloc (.cells #[.int .i64 0, .int .i64 0, .int .i64 0, .int .i64 0] 39) = w0 at Hb0 Hxt Hxr ⊢
  refine (Hs.out _ (Hh.out.below Hb0.out)).mono ?_
  rintro e w1 ⟨rfl, b1⟩
  have b01 := Hb0.out.trans (b1.mono Hb0.out.size)
  have hxr1 := (b1.block (w.heap.size + 1) (Array.getElem?_eq_some_iff.1 Hxr.out).1).trans Hxr.out
  have h1 := Hh.out.below b01
  clear b1 Hb0 Hxt Hxr Hs
  have Hb1 := Lib.hid b01; clear b01
  have r0 : w1.cell? ⟨w.heap.size + 1, 0, none⟩ = some (.int .i64 0) := cells_at hxr1 0
  have r1 : w1.cell? ⟨w.heap.size + 1, 1, none⟩ = some (.int .i64 0) := cells_at hxr1 1
  have r2 : w1.cell? ⟨w.heap.size + 1, 2, none⟩ = some (.int .i64 0) := cells_at hxr1 2
  have r3 : w1.cell? ⟨w.heap.size + 1, 3, none⟩ = some (.int .i64 0) := cells_at hxr1 3
  have Hxr1 := Lib.hid hxr1; clear hxr1
  cases X with
  | false =>
    have hpe : p = (noMsg, 14, ms) := by rw [Hp.out]; simp
    have Hpe := Lib.hid hpe; clear hpe
    have Hh1 := Lib.hid h1; clear h1
    go_wp2_with (with_reducible refine stop_store 39 ?_)
    refine unpark ?_
    refine wpList_store_at rfl _ _ _ rfl (w.heap.size + 1) 0 rfl _ rfl noMsg.cells rfl _ _ Hxr1.out 4 rfl (by decide) (by simp [Msg.cells, Value.oneCell']) Tryd.sizeMsg ?_
    intro w2 hw2 hg2 hs2
    replace hw2 : w2.heap[w.heap.size + 1]? = some (.cells #[.int .i64 0, .int .i64 0, .int .i64 0, .int .i64 0] 39 (0, 0)) := hw2
    have q0 : w2.cell? ⟨w.heap.size + 1, 0, none⟩ = some (.int .i64 0) := cells_at hw2 0
    have q1 : w2.cell? ⟨w.heap.size + 1, 1, none⟩ = some (.int .i64 0) := cells_at hw2 1
    have q2 : w2.cell? ⟨w.heap.size + 1, 2, none⟩ = some (.int .i64 0) := cells_at hw2 2
    have q3 : w2.cell? ⟨w.heap.size + 1, 3, none⟩ = some (.int .i64 0) := cells_at hw2 3
    have bf : Below w.heap.size w w2 := Hb1.out.grown hg2 Hb1.out.size (fun k hk => by cases hk; omega)
    have hf : BoxAt w2 B b mv l r ms := Hh.out.below bf
    have Hf := Lib.hid hf; clear hf
    have Hbf := Lib.hid bf; clear bf hg2 hs2 hw2
    go_wp2_with fail
    refine bodyPost_ret (v := .tuple #[.agg #[.int .i64 0, .int .i64 0, .int .i64 0, .int .i64 0], .int .i64 14]) (by simp [results, Tryd.results48, go_sem, q0, q1, q2, q3]) rfl ?_
    rw [Hpe.out]
    exact ⟨rfl, mv, Hf.out, fun g hg => .inl hg, Mod.of_below Hbf.out⟩
  | true =>
    have c2 := cells_at h1.root 2
    obtain ⟨ma, mc, hmv⟩ := h1.shape
    obtain ⟨L, hL⟩ : ∃ L, L = ms.length := ⟨_, rfl⟩
    rw [← hL] at hmv
    subst hmv
    have hlen := h1.len
    rw [← hL] at hlen
    have hroom := h1.room.2
    have Hh1 := Lib.hid h1; clear h1
    by_cases hin : ¬ (0 ≤ i ∧ i < (ms.length : Int))
    · have hpe : p = (noMsg, 12, ms) := by rw [Hp.out]; simp only [if_true]; rw [if_neg hin]
      have Hpe := Lib.hid hpe; clear hpe
      rw [← hL] at hin
      have HL := Lib.hid hL; clear hL
      by_cases h0 : i < 0
      · have e1 : decide (i < 0) = true := decide_eq_true h0
        clear hin
        go_wp2_with (with_reducible refine stop_store 39 ?_)
        refine unpark ?_
        refine wpList_store_at rfl _ _ _ rfl (w.heap.size + 1) 0 rfl _ rfl noMsg.cells rfl _ _ Hxr1.out 4 rfl (by decide) (by simp [Msg.cells, Value.oneCell']) Tryd.sizeMsg ?_
        intro w2 hw2 hg2 hs2
        replace hw2 : w2.heap[w.heap.size + 1]? = some (.cells #[.int .i64 0, .int .i64 0, .int .i64 0, .int .i64 0] 39 (0, 0)) := hw2
        have q0 : w2.cell? ⟨w.heap.size + 1, 0, none⟩ = some (.int .i64 0) := cells_at hw2 0
        have q1 : w2.cell? ⟨w.heap.size + 1, 1, none⟩ = some (.int .i64 0) := cells_at hw2 1
        have q2 : w2.cell? ⟨w.heap.size + 1, 2, none⟩ = some (.int .i64 0) := cells_at hw2 2
        have q3 : w2.cell? ⟨w.heap.size + 1, 3, none⟩ = some (.int .i64 0) := cells_at hw2 3
        have bf : Below w.heap.size w w2 := Hb1.out.grown hg2 Hb1.out.size (fun k hk => by cases hk; omega)
        have hf : BoxAt w2 B b _ l r ms := Hh.out.below bf
        have Hf := Lib.hid hf; clear hf
        have Hbf := Lib.hid bf; clear bf hg2 hs2 hw2
        go_wp2_with fail
        refine bodyPost_ret (v := .tuple #[.agg #[.int .i64 0, .int .i64 0, .int .i64 0, .int .i64 0], .int .i64 12]) (by simp [results, Tryd.results48, go_sem, q0, q1, q2, q3]) rfl ?_
        rw [Hpe.out]
        exact ⟨rfl, _, Hf.out, fun g hg => .inl hg, Mod.of_below Hbf.out⟩
      · have e1 : decide (i < 0) = false := decide_eq_false h0
        have h2 : (L : Int) ≤ i := by omega
        have e2 : decide ((L : Int) ≤ i) = true := decide_eq_true h2
        clear hin
        go_wp2_with (with_reducible refine stop_store 39 ?_)
        refine unpark ?_
        refine wpList_store_at rfl _ _ _ rfl (w.heap.size + 1) 0 rfl _ rfl noMsg.cells rfl _ _ Hxr1.out 4 rfl (by decide) (by simp [Msg.cells, Value.oneCell']) Tryd.sizeMsg ?_
        intro w2 hw2 hg2 hs2
        replace hw2 : w2.heap[w.heap.size + 1]? = some (.cells #[.int .i64 0, .int .i64 0, .int .i64 0, .int .i64 0] 39 (0, 0)) := hw2
        have q0 : w2.cell? ⟨w.heap.size + 1, 0, none⟩ = some (.int .i64 0) := cells_at hw2 0
        have q1 : w2.cell? ⟨w.heap.size + 1, 1, none⟩ = some (.int .i64 0) := cells_at hw2 1
        have q2 : w2.cell? ⟨w.heap.size + 1, 2, none⟩ = some (.int .i64 0) := cells_at hw2 2
        have q3 : w2.cell? ⟨w.heap.size + 1, 3, none⟩ = some (.int .i64 0) := cells_at hw2 3
        have bf : Below w.heap.size w w2 := Hb1.out.grown hg2 Hb1.out.size (fun k hk => by cases hk; omega)
        have hf : BoxAt w2 B b _ l r ms := Hh.out.below bf
        have Hf := Lib.hid hf; clear hf
        have Hbf := Lib.hid bf; clear bf hg2 hs2 hw2
        go_wp2_with fail
        refine bodyPost_ret (v := .tuple #[.agg #[.int .i64 0, .int .i64 0, .int .i64 0, .int .i64 0], .int .i64 12]) (by simp [results, Tryd.results48, go_sem, q0, q1, q2, q3]) rfl ?_
        rw [Hpe.out]
        exact ⟨rfl, _, Hf.out, fun g hg => .inl hg, Mod.of_below Hbf.out⟩
    · have hin := Decidable.not_not.1 hin
      obtain ⟨I, rfl⟩ : ∃ I : Nat, i = I := ⟨i.toNat, by omega⟩
      have hIl : I < ms.length := by omega
      have hpe : p = (ms[I], 0, ms.eraseIdx I) := by
        rw [Hp.out]
        simp only [if_true]
        rw [if_pos hin]
        simp only [Int.toNat_natCast, List.getD_eq_getElem?_getD, List.getElem?_eq_getElem hIl, Option.getD_some]
      have Hpe := Lib.hid hpe; clear hpe hin
      obtain ⟨g, rfl⟩ : ∃ g, ma = some ⟨g, 0, none⟩ := by
        rcases Hh1.out.row.2 with ⟨_, h0⟩ | ⟨g, cap, cur, e, _⟩
        · omega
        · cases e; exact ⟨g, rfl⟩
      have hrow1 := Hh1.out.row
      have hcell : ∀ j u, (ms[I].cells)[j]? = some u → w1.cell? ⟨g, I * 4 + j, none⟩ = some u := fun j u hu => by
        have hj : j < 4 := (List.getElem?_eq_some_iff.1 hu).1
        have hrow1' := hrow1
        unfold MOwn at hrow1'
        rw [← hL] at hrow1'
        rw [World.ownsRow.cellAt hrow1' (I * 4 + j) (by omega), mrow_at ms hIl j hj, hu]
      have hmc : L ≤ mc ∧ mc ≤ 9223372036854775807 := by
        rcases hrow1.2 with ⟨_, h0⟩ | ⟨g', cap, cur, e, _, _, h1, h2, _⟩
        · omega
        · cases e; exact ⟨by rw [hL]; exact h1, by simpa [maxLen] using h2⟩
      have hmc1 := hmc.1
      have hmc2 := hmc.2
      obtain ⟨m, hm⟩ : ∃ m, m = ms[I] := ⟨_, rfl⟩
      rw [← hm] at hcell Hpe
      have hIL : I < L := by rw [hL]; exact hIl
      have HL := Lib.hid hL; clear hL hm hmc
      obtain ⟨k, pa, tx, q⟩ := m
      simp only [Msg.cells, Msg.kind, Msg.part, Msg.tx, Msg.what] at hcell
      have Hcell := Lib.hid hcell; clear hcell hrow1
      have e1 : decide ((I : Int) < 0) = false := decide_eq_false (by omega)
      have e2 : decide ((L : Int) ≤ (I : Int)) = false := decide_eq_false (by omega)
      have e2n : decide (L ≤ I) = false := decide_eq_false (by omega)
      have i1 : (0 : Int) ≤ (I : Int) := by omega
      have i2 : (I : Int) < (L : Int) := by omega
      go_wp2_with (with_reducible refine stop_load 39 ?_)
      refine unpark ?_
      refine wpList_load_cells rfl _ _ rfl g (I * 4) rfl [.int .i64 k, .int .i64 pa, .int .i64 tx, .int .i64 q] Hcell.out 4 rfl _ Tryd.underlying39 rfl Tryd.sizeMsg ?_
      go_wp2_with (with_reducible refine stop_store 39 ?_)
      refine unpark ?_
      refine wpList_store_at rfl _ _ _ rfl _ 0 rfl _ rfl [.int .i64 k, .int .i64 pa, .int .i64 tx, .int .i64 q] rfl _ _ (heap_alloc_new _ _) 4 rfl (by decide) (by simp [Value.oneCell']) Tryd.sizeMsg ?_
      intro w2 hw2 hg2 hs2
      clear hs2
      replace hw2 : w2.heap[w1.heap.size]? = some (.cells #[.int .i64 k, .int .i64 pa, .int .i64 tx, .int .i64 q] 39 (0, 0)) := hw2
      have b12 : Below w1.heap.size w1 w2 := ((Below.refl _ _).alloc (Nat.le_refl _) _).grown hg2 (by simp) (fun k hk => by cases hk; exact Nat.le_refl _)
      have h2 := Hh1.out.below b12
      have hxr2 := (b12.block (w.heap.size + 1) (Array.getElem?_eq_some_iff.1 Hxr1.out).1).trans Hxr1.out
      have bb2 := Hb1.out.trans (b12.mono Hb1.out.size)
      have hmb : w.heap.size + 1 < w1.heap.size := (Array.getElem?_eq_some_iff.1 Hxr1.out).1
      obtain ⟨mb, hmbe⟩ : ∃ mb, mb = w1.heap.size := ⟨_, rfl⟩
      rw [← hmbe] at hw2 hmb ⊢
      clear hmbe hg2 b12 Hh1 Hb1 Hxr1 Hcell c2 r0 r1 r2 r3
      have c2 : w2.cell? ⟨b, 2, none⟩ = some (.slice (some ⟨g, 0, none⟩) L mc) := cells_at h2.root 2
      have hrow2 : w2.ownsRow B 39 4 (.slice (some ⟨g, 0, none⟩) L mc) L (mrow ms) := by have := h2.row; unfold MOwn at this; rwa [← HL.out] at this
      have hdel := Delete_calls hrow2 (mrow_one ms) hIL
      have Hdel := Lib.hid hdel; clear hdel hrow2
      have Hh2 := Lib.hid h2; clear h2
      have Hb2 := Lib.hid bb2; clear bb2
      have Hxr2 := Lib.hid hxr2; clear hxr2
      have Hw2 := Lib.hid hw2; clear hw2
      go_wp2_with fail
      refine Hdel.out.mono ?_
      rintro e w3 ⟨rfl, hrow3, hg3⟩
      have hlt2 := Hh2.out.lt
      have hbl := (hlt2 b (.inl rfl)).2
      have hgb : g ≠ b := Hh2.out.apart g rfl
      have same3 : ∀ x, x < w2.heap.size → x ≠ g → w3.heap[x]? = w2.heap[x]? := fun x hx hn => hg3.block x hx fun e => hn (by cases e; rfl)
      have r3 := (same3 b hbl (fun e => hgb e.symm)).trans Hh2.out.root
      have hbw := (Hh.out.lt b (.inl rfl)).2
      have hgw := (Hh.out.lt g (.inr rfl)).2
      have hw3 := (same3 mb (Array.getElem?_eq_some_iff.1 Hw2.out).1 (by omega)).trans Hw2.out
      have hxr3 := (same3 (w.heap.size + 1) (Array.getElem?_eq_some_iff.1 Hxr2.out).1 (by omega)).trans Hxr2.out
      have her : mrow (ms.eraseIdx I) = (mrow ms).take (I * 4) ++ (mrow ms).drop ((I + 1) * 4) := by rw [List.eraseIdx_eq_take_drop_succ, mrow_append, mrow_take, mrow_drop]
      have hel : (ms.eraseIdx I).length = L - 1 := by rw [List.length_eraseIdx, if_pos hIl, ← HL.out]
      have hm3 : Mod (foot b (.slice (some ⟨g, 0, none⟩) L mc)) w w3 := (Mod.of_below Hb2.out : Mod (foot b (.slice (some ⟨g, 0, none⟩) L mc)) w w2).trans (Mod.of_grown hg3 (F := fun x => x = g) fun x e => by cases e; rfl) (fun _ h => h) (fun x _ e => .inr (by rw [e]; rfl))
      have f2 := frozen_of_row w3 b 2 _ _ r3
      have cc2 : w3.cell? ⟨b, 2, none⟩ = some (.slice (some ⟨g, 0, none⟩) L mc) := cells_at r3 2
      obtain ⟨w4, hw4⟩ : ∃ w4, w4 = w3.setCell ⟨b, 2, none⟩ (.slice (some ⟨g, 0, none⟩) (L - 1) mc) := ⟨_, rfl⟩
      have oth4 : ∀ x, x ≠ b → w4.heap[x]? = w3.heap[x]? := fun x hx => by rw [hw4]; exact heap_setCell_other w3 _ x _ hx
      have r4 : w4.heap[b]? = some (.cells #[.int .u64 l.1, .int .u64 l.2, .slice (some ⟨g, 0, none⟩) (L - 1) mc, .int .i64 (r : Int)] 118 (0, 0)) := by rw [hw4]; exact heap_setCell_same w3 b 2 _ _ _ r3
      have hn : BoxAt w4 B b (.slice (some ⟨g, 0, none⟩) (L - 1) mc) l r (ms.eraseIdx I) := by
        refine ⟨r4, ?_, fun x e => by cases e; exact hgb, Hh2.out.bb, Hh2.out.room, by rw [hel]; omega⟩
        have : MOwn w3 B (.slice (some ⟨g, 0, none⟩) (L - 1) mc) (ms.eraseIdx I) := by unfold MOwn; rw [hel, her]; exact hrow3
        exact this.keep fun x e _ => by cases e; exact oth4 g hgb
      have hm4 : Mod (foot b (.slice (some ⟨g, 0, none⟩) L mc)) w w4 := hm3.trans (⟨by rw [hw4]; rfl, by rw [hw4]; rfl, by rw [hw4]; rfl, by rw [hw4]; simp, fun x _ hx => oth4 x hx⟩ : Mod (fun x => x = b) w3 w4) (fun _ h => h) (fun _ _ h => .inl h)
      have hw4' := (oth4 mb (by omega)).trans hw3
      have hxr4 := (oth4 (w.heap.size + 1) (by omega)).trans hxr3
      have Hn := Lib.hid hn; clear hn
      have Hm4 := Lib.hid hm4; clear hm4
      have Hw4' := Lib.hid hw4'; clear hw4'
      have Hxr4 := Lib.hid hxr4; clear hxr4
      have Hw4 := Lib.hid hw4; clear hw4
      clear c2 hrow3 hg3 hm3 r3 same3 hw3 hxr3 her hel oth4 r4 Hdel Hh2 Hb2 Hxr2 Hw2
      go_wp2_with (with_reducible refine stop_load 39 ?_)
      rw [← Hw4.out]
      clear Hw4 f2 cc2
      refine unpark ?_
      refine wpList_load_at rfl _ _ rfl mb 0 rfl _ _ _ Hw4'.out 4 [.int .i64 k, .int .i64 pa, .int .i64 tx, .int .i64 q] rfl rfl _ Tryd.underlying39 rfl Tryd.sizeMsg ?_
      go_wp2_with (with_reducible refine stop_store 39 ?_)
      refine unpark ?_
      refine wpList_store_at rfl _ _ _ rfl (w.heap.size + 1) 0 rfl _ rfl [.int .i64 k, .int .i64 pa, .int .i64 tx, .int .i64 q] rfl _ _ Hxr4.out 4 rfl (by decide) (by simp [Value.oneCell']) Tryd.sizeMsg ?_
      intro w5 hw5 hg5 hs5
      replace hw5 : w5.heap[w.heap.size + 1]? = some (.cells #[.int .i64 k, .int .i64 pa, .int .i64 tx, .int .i64 q] 39 (0, 0)) := hw5
      have q0 : w5.cell? ⟨w.heap.size + 1, 0, none⟩ = some (.int .i64 k) := cells_at hw5 0
      have q1 : w5.cell? ⟨w.heap.size + 1, 1, none⟩ = some (.int .i64 pa) := cells_at hw5 1
      have q2 : w5.cell? ⟨w.heap.size + 1, 2, none⟩ = some (.int .i64 tx) := cells_at hw5 2
      have q3 : w5.cell? ⟨w.heap.size + 1, 3, none⟩ = some (.int .i64 q) := cells_at hw5 3
      have oth5 : ∀ x, x < w4.heap.size → x ≠ w.heap.size + 1 → w5.heap[x]? = w4.heap[x]? := fun x hx hn => hg5.block x hx fun e => hn (by cases e; rfl)
      have h5 : BoxAt w5 B b (.slice (some ⟨g, 0, none⟩) (L - 1) mc) l r (ms.eraseIdx I) := Hn.out.keep fun x hx => oth5 x (Hn.out.lt x hx).2 (hx.elim (fun e => by omega) fun e => by have e' : g = x := (by simpa [Value.ownBlock] using e); omega)
      have hm5 : Mod (foot b (.slice (some ⟨g, 0, none⟩) L mc)) w w5 := Hm4.out.trans (Mod.of_grown hg5 (F := fun x => x = w.heap.size + 1) fun x e => by cases e; rfl) (fun _ h => h) (fun x hx e => by omega)
      have H5 := Lib.hid h5; clear h5
      have Hm5 := Lib.hid hm5; clear hm5
      clear hw5 hg5 hs5 oth5 Hn Hm4 Hw4' Hxr4
      go_wp2_with fail
      refine bodyPost_ret (v := .tuple #[.agg #[.int .i64 k, .int .i64 pa, .int .i64 tx, .int .i64 q], .int .i64 0]) (by simp [results, Tryd.results48, go_sem, q0, q1, q2, q3]) rfl ?_
      rw [Hpe.out]
      exact ⟨rfl, _, H5.out, fun x e => .inl (by cases e; rfl), Hm5.out⟩
end
end Go.Proofs.YtclgakdfeeefiaaDoor
