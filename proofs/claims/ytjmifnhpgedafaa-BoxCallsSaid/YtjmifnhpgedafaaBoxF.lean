/- The document's box: Take. -/
import Derived.Test.YtjmifnhpgedafaaBoxE
namespace Go.Proofs.Ytjmifnhpgedafaa
open Go.RowKit

section
variable {w w' : World} {B b : Nat} {mv : Value} {l : Label} {r : Nat} {ms : List Msg}
set_option maxHeartbeats 4000000 in
theorem RTake_calls (h : RAt w B b mv l r ms) (hl : l.ok) {t : Label} (ht : t.ok) {o : Int} (ho : (Lit.int .u64 o).wf = true) (i : Int) :
    Calls Try.prog 18 #[.pointer (some ⟨b, 0, none⟩), .agg t.cells.toArray, .int .u64 o, .int .i64 i] w fun e w' =>
      e = .returned (.tuple #[.agg (takeOf l ms t o i).1.cells.toArray, .int .i64 (takeOf l ms t o i).2.1]) ∧ ∃ mv', RAt w' B b mv' l r (takeOf l ms t o i).2.2 ∧
        (∀ g, mv'.ownBlock = some g → mv.ownBlock = some g ∨ w.heap.size ≤ g) ∧ Mod (foot b mv) w w' := by
  have hroomB := h.bb
  have htake : takeOf l ms t o i = if withOf l t o then (if 0 ≤ i ∧ i < (ms.length : Int) then (ms.getD i.toNat noMsg, 0, ms.eraseIdx i.toNat) else (noMsg, 12, ms)) else (noMsg, 14, ms) := rfl
  obtain ⟨p, hp⟩ : ∃ p, p = takeOf l ms t o i := ⟨_, rfl⟩
  rw [← hp] at htake ⊢
  clear hp
  have hseen := fun (w : World) => RWith_calls (w := w) hl ht ho
  obtain ⟨X, hX⟩ : ∃ X, X = withOf l t o := ⟨_, rfl⟩
  rw [← hX] at htake hseen
  clear hX
  obtain ⟨t1, t2⟩ := t
  simp only [Label.cells] at hseen ⊢
  have b0 : Below w.heap.size w ((w.alloc (.cells #[.int .u64 t1, .int .u64 t2] 24)).alloc (.cells #[.int .i64 0, .int .i64 0, .int .i64 0, .int .i64 0] 34)) := ((Below.refl _ _).alloc (Nat.le_refl _) _).alloc (by simp) _
  have hxt : ((w.alloc (.cells #[.int .u64 t1, .int .u64 t2] 24)).alloc (.cells #[.int .i64 0, .int .i64 0, .int .i64 0, .int .i64 0] 34)).heap[w.heap.size]? = some (.cells #[.int .u64 t1, .int .u64 t2] 24 (0, 0)) := by
    rw [heap_alloc_old _ _ (by simp)]; exact heap_alloc_new w _
  have hxr : ((w.alloc (.cells #[.int .u64 t1, .int .u64 t2] 24)).alloc (.cells #[.int .i64 0, .int .i64 0, .int .i64 0, .int .i64 0] 34)).heap[w.heap.size + 1]? = some (.cells #[.int .i64 0, .int .i64 0, .int .i64 0, .int .i64 0] 34 (0, 0)) := by
    have := heap_alloc_new (w.alloc (.cells #[.int .u64 t1, .int .u64 t2] 24)) (.cells #[.int .i64 0, .int .i64 0, .int .i64 0, .int .i64 0] 34)
    simpa using this
  have Hs := Lib.hid hseen; clear hseen
  have Hp := Lib.hid htake; clear htake
  have Hh := Lib.hid h; clear h
  have Hb0 := Lib.hid b0; clear b0
  have Hxt := Lib.hid hxt; clear hxt
  have Hxr := Lib.hid hxr; clear hxr
  go_enter Try.func18, Try.ntmps18
  go_wp2_with fail
  generalize (w.alloc (.cells #[.int .u64 t1, .int .u64 t2] 24)).alloc (.cells #[.int .i64 0, .int .i64 0, .int .i64 0, .int .i64 0] 34) = w0 at Hb0 Hxt Hxr ⊢
  refine wp_region_free [0, 1, 2, 3, 4, 5, 6, 7] (by kernel_rfl) (by kernel_rfl) rfl (by kernel_rfl) (fun _ _ _ h => by obtain ⟨_, h, _⟩ := h; cases h) (fun _ _ h => by obtain ⟨h, _⟩ := h; cases h) ?_
  simp only [List.map_cons, List.map_nil, List.getD_cons_zero, List.getD_cons_succ]
  have b0' : Below w.heap.size w w0.drew := Hb0.out.trans ⟨rfl, rfl, rfl, Nat.le_refl _, fun _ _ => rfl⟩
  have hxt' : w0.drew.heap[w.heap.size]? = _ := Hxt.out
  have hxr' : w0.drew.heap[w.heap.size + 1]? = _ := Hxr.out
  clear Hb0 Hxt Hxr
  generalize w0.drew = w0' at b0' hxt' hxr' ⊢
  have h0' := Hh.out.below b0'
  have c0 : w0'.cell? ⟨b, 0, none⟩ = some (.int .u64 l.1) := cells_at h0'.root 0
  have c1 : w0'.cell? ⟨b, 1, none⟩ = some (.int .u64 l.2) := cells_at h0'.root 1
  have d0 : w0'.cell? ⟨w.heap.size, 0, none⟩ = some (.int .u64 t1) := cells_at hxt' 0
  have d1 : w0'.cell? ⟨w.heap.size, 1, none⟩ = some (.int .u64 t2) := cells_at hxt' 1
  have Hb0 := Lib.hid b0'; clear b0' h0'
  have Hxt := Lib.hid hxt'; clear hxt'
  have Hxr := Lib.hid hxr'; clear hxr'
  go_wp2_with fail
  refine (Hs.out _).mono ?_
  clear c0 c1 d0 d1
  rintro e w1 ⟨rfl, b1⟩
  have b01 := Hb0.out.trans (b1.mono Hb0.out.size)
  have hxr1 := (b1.block (w.heap.size + 1) (Array.getElem?_eq_some_iff.1 Hxr.out).1).trans Hxr.out
  have h1 := Hh.out.below b01
  clear b1 Hb0 Hxt Hxr Hs
  have Hb1 := Lib.hid b01; clear b01
  have r0 : w1.cell? ⟨w.heap.size + 1, 0, none⟩ = some (.int .i64 0) := cells_at hxr1 0
  have r1 : w1.cell? ⟨w.heap.size + 1, 1, none⟩ = some (.int .i64 0) := cells_at hxr1 1
  have r2 : w1.cell? ⟨w.heap.size + 1, 2, none⟩ = some (.int .i64 0) := cells_at hxr1 2
  have r3 : w1.cell? ⟨w.heap.size + 1, 3, none⟩ = some (.int .i64 0) := cells_at hxr1 3
  have Hxr1 := Lib.hid hxr1; clear hxr1
  cases X with
  | false =>
    have hpe : p = (noMsg, 14, ms) := by rw [Hp.out]; simp
    have Hpe := Lib.hid hpe; clear hpe
    have Hh1 := Lib.hid h1; clear h1
    go_wp2_with (with_reducible refine stop_store 34 ?_)
    refine unpark ?_
    refine wpList_store_at rfl _ _ _ rfl (w.heap.size + 1) 0 rfl _ rfl noMsg.cells rfl _ _ Hxr1.out 4 rfl (by decide) (by simp [Msg.cells, Value.oneCell']) Try.sizeMsg ?_
    intro w2 hw2 hg2 hs2
    replace hw2 : w2.heap[w.heap.size + 1]? = some (.cells #[.int .i64 0, .int .i64 0, .int .i64 0, .int .i64 0] 34 (0, 0)) := hw2
    have q0 : w2.cell? ⟨w.heap.size + 1, 0, none⟩ = some (.int .i64 0) := cells_at hw2 0
    have q1 : w2.cell? ⟨w.heap.size + 1, 1, none⟩ = some (.int .i64 0) := cells_at hw2 1
    have q2 : w2.cell? ⟨w.heap.size + 1, 2, none⟩ = some (.int .i64 0) := cells_at hw2 2
    have q3 : w2.cell? ⟨w.heap.size + 1, 3, none⟩ = some (.int .i64 0) := cells_at hw2 3
    have bf : Below w.heap.size w w2 := Hb1.out.grown hg2 Hb1.out.size (fun k hk => by cases hk; omega)
    have hf : RAt w2 B b mv l r ms := Hh.out.below bf
    have Hf := Lib.hid hf; clear hf
    have Hbf := Lib.hid bf; clear bf hg2 hs2 hw2
    go_wp2_with fail
    refine bodyPost_ret (v := .tuple #[.agg #[.int .i64 0, .int .i64 0, .int .i64 0, .int .i64 0], .int .i64 14]) (by simp [results, Try.results18, go_sem, q0, q1, q2, q3]) rfl ?_
    rw [Hpe.out]
    exact ⟨rfl, mv, Hf.out, fun g hg => .inl hg, Mod.of_below Hbf.out⟩
  | true =>
    have c2 := cells_at h1.root 3
    obtain ⟨ma, mc, hmv⟩ := h1.shape
    obtain ⟨L, hL⟩ : ∃ L, L = ms.length := ⟨_, rfl⟩
    rw [← hL] at hmv
    subst hmv
    have hlen := h1.len
    rw [← hL] at hlen
    have hroom := h1.room.2
    have Hh1 := Lib.hid h1; clear h1
    by_cases hin : ¬ (0 ≤ i ∧ i < (ms.length : Int))
    · have hpe : p = (noMsg, 12, ms) := by rw [Hp.out]; simp only [if_true]; rw [if_neg hin]
      have Hpe := Lib.hid hpe; clear hpe
      rw [← hL] at hin
      have HL := Lib.hid hL; clear hL
      by_cases h0 : i < 0
      · have e1 : decide (i < 0) = true := decide_eq_true h0
        clear hin
        go_wp2_with (with_reducible refine stop_store 34 ?_)
        refine unpark ?_
        refine wpList_store_at rfl _ _ _ rfl (w.heap.size + 1) 0 rfl _ rfl noMsg.cells rfl _ _ Hxr1.out 4 rfl (by decide) (by simp [Msg.cells, Value.oneCell']) Try.sizeMsg ?_
        intro w2 hw2 hg2 hs2
        replace hw2 : w2.heap[w.heap.size + 1]? = some (.cells #[.int .i64 0, .int .i64 0, .int .i64 0, .int .i64 0] 34 (0, 0)) := hw2
        have q0 : w2.cell? ⟨w.heap.size + 1, 0, none⟩ = some (.int .i64 0) := cells_at hw2 0
        have q1 : w2.cell? ⟨w.heap.size + 1, 1, none⟩ = some (.int .i64 0) := cells_at hw2 1
        have q2 : w2.cell? ⟨w.heap.size + 1, 2, none⟩ = some (.int .i64 0) := cells_at hw2 2
        have q3 : w2.cell? ⟨w.heap.size + 1, 3, none⟩ = some (.int .i64 0) := cells_at hw2 3
        have bf : Below w.heap.size w w2 := Hb1.out.grown hg2 Hb1.out.size (fun k hk => by cases hk; omega)
        have hf : RAt w2 B b _ l r ms := Hh.out.below bf
        have Hf := Lib.hid hf; clear hf
        have Hbf := Lib.hid bf; clear bf hg2 hs2 hw2
        go_wp2_with fail
        refine bodyPost_ret (v := .tuple #[.agg #[.int .i64 0, .int .i64 0, .int .i64 0, .int .i64 0], .int .i64 12]) (by simp [results, Try.results18, go_sem, q0, q1, q2, q3]) rfl ?_
        rw [Hpe.out]
        exact ⟨rfl, _, Hf.out, fun g hg => .inl hg, Mod.of_below Hbf.out⟩
      · have e1 : decide (i < 0) = false := decide_eq_false h0
        have h2 : (L : Int) ≤ i := by omega
        have e2 : decide ((L : Int) ≤ i) = true := decide_eq_true h2
        clear hin
        go_wp2_with (with_reducible refine stop_store 34 ?_)
        refine unpark ?_
        refine wpList_store_at rfl _ _ _ rfl (w.heap.size + 1) 0 rfl _ rfl noMsg.cells rfl _ _ Hxr1.out 4 rfl (by decide) (by simp [Msg.cells, Value.oneCell']) Try.sizeMsg ?_
        intro w2 hw2 hg2 hs2
        replace hw2 : w2.heap[w.heap.size + 1]? = some (.cells #[.int .i64 0, .int .i64 0, .int .i64 0, .int .i64 0] 34 (0, 0)) := hw2
        have q0 : w2.cell? ⟨w.heap.size + 1, 0, none⟩ = some (.int .i64 0) := cells_at hw2 0
        have q1 : w2.cell? ⟨w.heap.size + 1, 1, none⟩ = some (.int .i64 0) := cells_at hw2 1
        have q2 : w2.cell? ⟨w.heap.size + 1, 2, none⟩ = some (.int .i64 0) := cells_at hw2 2
        have q3 : w2.cell? ⟨w.heap.size + 1, 3, none⟩ = some (.int .i64 0) := cells_at hw2 3
        have bf : Below w.heap.size w w2 := Hb1.out.grown hg2 Hb1.out.size (fun k hk => by cases hk; omega)
        have hf : RAt w2 B b _ l r ms := Hh.out.below bf
        have Hf := Lib.hid hf; clear hf
        have Hbf := Lib.hid bf; clear bf hg2 hs2 hw2
        go_wp2_with fail
        refine bodyPost_ret (v := .tuple #[.agg #[.int .i64 0, .int .i64 0, .int .i64 0, .int .i64 0], .int .i64 12]) (by simp [results, Try.results18, go_sem, q0, q1, q2, q3]) rfl ?_
        rw [Hpe.out]
        exact ⟨rfl, _, Hf.out, fun g hg => .inl hg, Mod.of_below Hbf.out⟩
    · have hin := Decidable.not_not.1 hin
      obtain ⟨I, rfl⟩ : ∃ I : Nat, i = I := ⟨i.toNat, by omega⟩
      have hIl : I < ms.length := by omega
      have hpe : p = (ms[I], 0, ms.eraseIdx I) := by
        rw [Hp.out]
        simp only [if_true]
        rw [if_pos hin]
        simp [hIl]
      have Hpe := Lib.hid hpe; clear hpe Hp
      have hI : I < L := by omega
      obtain ⟨g1, hg1, hLc⟩ : ∃ g1, ma = some ⟨g1, 0, none⟩ ∧ L ≤ mc := by
        rcases Hh1.out.row.2 with ⟨e, h0⟩ | ⟨g, cap, cur, e, _, _, hnc, _⟩
        · omega
        · cases e; exact ⟨g, rfl, by omega⟩
      subst hg1
      have hrow1 : MOwn w1 B (.slice (some ⟨g1, 0, none⟩) L mc) ms := Hh1.out.row
      obtain ⟨m, hm⟩ : ∃ m, m = ms[I] := ⟨_, rfl⟩
      rw [← hm] at Hpe
      have hat : ∀ k u, (m.cells)[k]? = some u → w1.cell? ⟨g1, I * 4 + k, none⟩ = some u := by
        obtain ⟨a1, n1, c1, e1, X1, -⟩ := MOwn.msgs hrow1
        cases e1
        have h1 := X1.at hIl
        rw [← hm] at h1
        simpa only [Nat.zero_add] using h1
      obtain ⟨m', hm'⟩ : ∃ m', m' = m := ⟨_, rfl⟩
      rw [← hm'] at Hpe
      obtain ⟨m1, m2, m3, m4⟩ := m
      have Hm := Lib.hid hm'; clear hm' hm
      simp only [Msg.cells, Msg.kind, Msg.part, Msg.tx, Msg.what] at hat
      have x0 := hat 0 _ rfl
      have x1 := hat 1 _ rfl
      have x2 := hat 2 _ rfl
      have x3 := hat 3 _ rfl
      simp only [Nat.add_zero] at x0
      clear hat
      have HL := Lib.hid hL; clear hL
      have i1 : (0 : Int) ≤ (I : Int) := by omega
      have i2 : (I : Int) < (L : Int) := by omega
      have e1 : decide ((I : Int) < 0) = false := decide_eq_false (by omega)
      have e2 : decide ((L : Int) ≤ (I : Int)) = false := decide_eq_false (by omega)
      have e2n : decide (L ≤ I) = false := decide_eq_false (by omega)
      have i3 : (I : Int) ≤ (mc : Int) := by omega
      have i5 : mc ≠ 0 := by omega
      have i6 : (0 : Int) ≤ (I : Int) + 1 := by omega
      have i7 : (I : Int) + 1 ≤ (L : Int) := by omega
      clear hin
      have Hrow1 := Lib.hid hrow1; clear hrow1
      go_wp2_with (with_reducible refine stop_buildSlice 40 ?_)
      refine unpark ?_
      clear r0 r1 r2 r3 c2 x0 x1 x2 x3
      have b2 : Below w1.heap.size w1 (w1.alloc (.cells #[.int .i64 m1, .int .i64 m2, .int .i64 m3, .int .i64 m4] 34)) := (Below.refl _ _).alloc (Nat.le_refl _) _
      have hm2 := heap_alloc_new w1 (.cells #[.int .i64 m1, .int .i64 m2, .int .i64 m3, .int .i64 m4] 34)
      have s2 : (w1.alloc (.cells #[.int .i64 m1, .int .i64 m2, .int .i64 m3, .int .i64 m4] 34)).heap.size = w1.heap.size + 1 := by simp
      generalize w1.alloc (.cells #[.int .i64 m1, .int .i64 m2, .int .i64 m3, .int .i64 m4] 34) = w2 at b2 hm2 s2 ⊢
      have Hb2 := Lib.hid b2; clear b2
      have Hm2 := Lib.hid hm2; clear hm2
      have Hs2 := Lib.hid s2; clear s2
      go_wp2_with (with_reducible refine stop_load 40 ?_)
      refine unpark ?_
      have b3 : Below w2.heap.size w2 (w2.alloc (.cells #[] 34)) := (Below.refl _ _).alloc (Nat.le_refl _) _
      have own3 : MOwn (w2.alloc (.cells #[] 34)) w2.heap.size (.slice (some ⟨w2.heap.size, 0, none⟩) 0 0) [] := World.ownsRow_made w2 #[] 0 (Nat.le_refl _) (by unfold maxLen; omega) rfl
      have hs12 := Hb2.out.size
      generalize w2.alloc (.cells #[] 34) = w3 at b3 own3 ⊢
      obtain ⟨q2, hq2⟩ : ∃ q2, q2 = w2.heap.size := ⟨_, rfl⟩
      have b13 : Below w1.heap.size w1 w3 := Hb2.out.trans (b3.mono hs12)
      have h3 := Hh1.out.below b13
      have row3 : MOwn w3 B (.slice (some ⟨g1, 0, none⟩) L mc) ms := h3.row
      obtain ⟨a1', n1', cc1, e1', X1, -⟩ := MOwn.msgs row3
      cases e1'
      have U := X1.upto (i := I) (by have := HL.out; omega)
      have c3 : w3.cell? ⟨b, 3, none⟩ = some (.slice (some ⟨g1, 0, none⟩) L mc) := cells_at h3.root 3
      have Hb3 := Lib.hid b3; clear b3
      have Hown3 := Lib.hid own3; clear own3
      have Hh3 := Lib.hid h3; clear h3
      have HU := Lib.hid U; clear U X1 row3 b13
      go_wp2_with (with_reducible refine stop_builtin .append ?_)
      refine unpark ?_
      refine wpList_append_any _ rfl _ _ rfl w2.heap.size (.slice (some ⟨w2.heap.size, 0, none⟩) 0 0) [] rfl Hown3.out (some ⟨g1, 0, none⟩) I mc (ms.take I) rfl HU.out (by rw [List.length_nil]; omega) Hb3.out.size ?_
      intro v4 w4 own4 g4 _
      rw [List.nil_append] at own4
      have b4 : Below w2.heap.size w2 w4 := Hb3.out.grown g4 Hb3.out.size (fun k hk => (World.ownsRow.lt Hown3.out k hk).1)
      have b14 : Below w1.heap.size w1 w4 := Hb2.out.trans (b4.mono hs12)
      have h4 := Hh1.out.below b14
      have c3' : w4.cell? ⟨b, 3, none⟩ = some (.slice (some ⟨g1, 0, none⟩) L mc) := cells_at h4.root 3
      obtain ⟨a1', n1', cc1, e1', X1, -⟩ := MOwn.msgs h4.row
      cases e1'
      have hmc := X1.max
      clear c3 g4 Hb3 Hown3 Hh3 HU
      have Hb4 := Lib.hid b4; clear b4
      have Hb14 := Lib.hid b14; clear b14
      have Hown4 := Lib.hid own4; clear own4
      have Hh4 := Lib.hid h4; clear h4
      have HX1 := Lib.hid X1; clear X1
      by_cases hc : mc = I + 1
      · obtain rfl : L = I + 1 := by omega
        subst hc
        have V : Msgs w4 (some ⟨g1, 0, none⟩) 0 0 [] := Msgs.none0 (by omega)
        have HV := Lib.hid V; clear V
        go_wp2_with (with_reducible refine stop_builtin .append ?_)
        refine unpark ?_
        refine wpList_append_any _ rfl _ _ rfl w2.heap.size _ (ms.take I) rfl Hown4.out _ _ _ [] rfl HV.out (by rw [List.length_take]; omega) Hb4.out.size ?_
        intro v5 w5 own5 g5 _
        have b5 : Below w2.heap.size w2 w5 := Hb4.out.grown g5 Hb4.out.size (fun k hk => (World.ownsRow.lt Hown4.out k hk).1)
        have hcat : ms.take I ++ [] = ms.eraseIdx I := by rw [List.eraseIdx_eq_take_drop_succ, List.drop_of_length_le (by rw [← HL.out]; exact Nat.le_refl _)]
        rw [hcat] at own5
        have b15 : Below w1.heap.size w1 w5 := Hb2.out.trans (b5.mono hs12)
        have h5 := Hh1.out.below b15
        have hlt5 := World.ownsRow.lt own5
        have bb1 : b < w1.heap.size := (Hh1.out.lt b (.inl rfl)).2
        have sz1 : w.heap.size + 1 < w1.heap.size := (Array.getElem?_eq_some_iff.1 Hxr1.out).1
        have hn : RAt (w5.setCell ⟨b, 3, none⟩ v5) B b v5 l r (ms.eraseIdx I) := ⟨heap_setCell_same w5 b 3 _ _ _ h5.root, (MOwn.keep (B := B) ⟨own5.1, own5.2.imp id fun ⟨g, cap, cur, e, hB, rest⟩ => ⟨g, cap, cur, e, by have := h5.bb; omega, rest⟩⟩ fun g hg _ => heap_setCell_other w5 _ g _ (show g ≠ b by have := (hlt5 g hg).1; omega)),
          fun g hg => by (have := (hlt5 g hg).1; omega), hroomB, h5.room, by rw [List.length_eraseIdx]; have := h5.len; split <;> omega⟩
        have m15 : Mod (foot b (.slice (some ⟨g1, 0, none⟩) (I + 1) (I + 1))) w1 (w5.setCell ⟨b, 3, none⟩ v5) := (Mod.of_below b15 : Mod (foot b (.slice (some ⟨g1, 0, none⟩) (I + 1) (I + 1))) w1 w5).trans (⟨rfl, rfl, rfl, by simp, fun x _ hx => heap_setCell_other w5 _ x _ fun e => hx e⟩ : Mod (fun x => x = b) w5 (w5.setCell ⟨b, 3, none⟩ v5)) (fun _ h => h) (fun _ _ h => .inl h)
        have mblk : (w5.setCell ⟨b, 3, none⟩ v5).heap[w1.heap.size]? = some (.cells #[.int .i64 m1, .int .i64 m2, .int .i64 m3, .int .i64 m4] 34 (0, 0)) := by
          rw [heap_setCell_other w5 _ _ _ (show w1.heap.size ≠ b by omega)]
          exact (b5.block w1.heap.size (by have := Hs2.out; omega)).trans Hm2.out
        have rblk : (w5.setCell ⟨b, 3, none⟩ v5).heap[w.heap.size + 1]? = some (.cells #[.int .i64 0, .int .i64 0, .int .i64 0, .int .i64 0] 34 (0, 0)) := by
          have hb : b < w.heap.size := (Hh.out.lt b (.inl rfl)).2
          rw [heap_setCell_other w5 _ _ _ (show w.heap.size + 1 ≠ b by omega)]
          exact (b15.block _ sz1).trans Hxr1.out
        have hfr : ∀ g, v5.ownBlock = some g → w2.heap.size ≤ g := fun g hg => (hlt5 g hg).1
        have f3 := frozen_of_row w5 b 3 _ _ h5.root
        have cc3 := cells_at h5.root 3
        have hf : ∀ g, v5.ownBlock = some g → (Value.slice (some ⟨g1, 0, none⟩) (I + 1) (I + 1)).ownBlock = some g ∨ w.heap.size ≤ g := fun g hg => .inr (by have := (hlt5 g hg).1; have := Hb1.out.size; omega)
        obtain ⟨va, vc, hve⟩ := own_slice own5
        obtain ⟨vn, hvn⟩ : ∃ vn, vn = (ms.eraseIdx I).length := ⟨_, rfl⟩
        rw [← hvn] at hve
        subst hve
        clear hvn own5 g5 hlt5 hcat h5 b5 b15 HV Hown4 Hb4 Hb14 Hh4 HX1 c3'
        have Hn := Lib.hid hn; clear hn
        have Hm15 := Lib.hid m15; clear m15
        have Hmb := Lib.hid mblk; clear mblk
        have Hrb := Lib.hid rblk; clear rblk
        have Hf := Lib.hid hf; clear hf
        have Hfr := Lib.hid hfr; clear hfr
        go_wp2_with (with_reducible refine stop_load 34 ?_)
        refine unpark ?_
        generalize w5.setCell ⟨b, 3, none⟩ (.slice va vn vc) = w6 at Hn Hm15 Hmb Hrb ⊢
        clear f3 cc3
        refine wpList_load_at rfl _ _ rfl w1.heap.size 0 rfl _ _ _ Hmb.out 4 [.int .i64 m1, .int .i64 m2, .int .i64 m3, .int .i64 m4] rfl rfl _ Try.underlying34 rfl Try.sizeMsg ?_
        go_wp2_with (with_reducible refine stop_store 34 ?_)
        refine unpark ?_
        refine wpList_store_at rfl _ _ _ rfl (w.heap.size + 1) 0 rfl _ rfl [.int .i64 m1, .int .i64 m2, .int .i64 m3, .int .i64 m4] rfl _ _ Hrb.out 4 rfl (by decide) (by simp [Value.oneCell']) Try.sizeMsg ?_
        intro w7 hw7 hg7 hs7
        replace hw7 : w7.heap[w.heap.size + 1]? = some (.cells #[.int .i64 m1, .int .i64 m2, .int .i64 m3, .int .i64 m4] 34 (0, 0)) := hw7
        have q0 : w7.cell? ⟨w.heap.size + 1, 0, none⟩ = some (.int .i64 m1) := cells_at hw7 0
        have q1 : w7.cell? ⟨w.heap.size + 1, 1, none⟩ = some (.int .i64 m2) := cells_at hw7 1
        have q2' : w7.cell? ⟨w.heap.size + 1, 2, none⟩ = some (.int .i64 m3) := cells_at hw7 2
        have q3 : w7.cell? ⟨w.heap.size + 1, 3, none⟩ = some (.int .i64 m4) := cells_at hw7 3
        have oth7 : ∀ x, x < w6.heap.size → x ≠ w.heap.size + 1 → w7.heap[x]? = w6.heap[x]? := fun x hx hn => hg7.block x hx fun e => hn (by cases e; rfl)
        have hbw : b < w.heap.size := (Hh.out.lt b (.inl rfl)).2
        have h7 : RAt w7 B b (.slice va vn vc) l r (ms.eraseIdx I) := Hn.out.keep fun x hx => oth7 x (Hn.out.lt x hx).2 (hx.elim (fun e => by omega) fun e => by
          rintro rfl
          have := Hfr.out _ e; omega)
        have hm7 : Mod (foot b (.slice (some ⟨g1, 0, none⟩) (I + 1) (I + 1))) w w7 := ((Mod.of_below Hb1.out : Mod (foot b (.slice (some ⟨g1, 0, none⟩) (I + 1) (I + 1))) w w1).trans Hm15.out (fun _ h => h) (fun _ _ h => h)).trans (Mod.of_grown hg7 (F := fun x => x = w.heap.size + 1) fun x e => by cases e; rfl) (fun _ h => h) (fun x hx e => by omega)
        have H7 := Lib.hid h7; clear h7
        have Hm7 := Lib.hid hm7; clear hm7
        clear hw7 hg7 hs7 oth7 Hn Hm15 Hmb Hrb
        go_wp2_with fail
        refine bodyPost_ret (v := .tuple #[.agg #[.int .i64 m1, .int .i64 m2, .int .i64 m3, .int .i64 m4], .int .i64 0]) (by simp [results, Try.results18, go_sem, q0, q1, q2', q3]) rfl ?_
        have hmm := Hm.out
        subst hmm
        rw [Hpe.out]
        exact ⟨rfl, _, H7.out, Hf.out, Hm7.out⟩
      · have V := HX1.out.from (i := I + 1) (by have := HL.out; omega)
        rw [Nat.zero_add] at V
        have HV := Lib.hid V; clear V
        go_wp2_with (with_reducible refine stop_builtin .append ?_)
        refine unpark ?_
        refine wpList_append_any _ rfl _ _ rfl w2.heap.size _ (ms.take I) rfl Hown4.out _ _ _ (ms.drop (I + 1)) rfl HV.out (by rw [List.length_take]; omega) Hb4.out.size ?_
        intro v5 w5 own5 g5 _
        have b5 : Below w2.heap.size w2 w5 := Hb4.out.grown g5 Hb4.out.size (fun k hk => (World.ownsRow.lt Hown4.out k hk).1)
        have hcat : ms.take I ++ ms.drop (I + 1) = ms.eraseIdx I := (List.eraseIdx_eq_take_drop_succ ..).symm
        rw [hcat] at own5
        have b15 : Below w1.heap.size w1 w5 := Hb2.out.trans (b5.mono hs12)
        have h5 := Hh1.out.below b15
        have hlt5 := World.ownsRow.lt own5
        have bb1 : b < w1.heap.size := (Hh1.out.lt b (.inl rfl)).2
        have sz1 : w.heap.size + 1 < w1.heap.size := (Array.getElem?_eq_some_iff.1 Hxr1.out).1
        have hn : RAt (w5.setCell ⟨b, 3, none⟩ v5) B b v5 l r (ms.eraseIdx I) := ⟨heap_setCell_same w5 b 3 _ _ _ h5.root, (MOwn.keep (B := B) ⟨own5.1, own5.2.imp id fun ⟨g, cap, cur, e, hB, rest⟩ => ⟨g, cap, cur, e, by have := h5.bb; omega, rest⟩⟩ fun g hg _ => heap_setCell_other w5 _ g _ (show g ≠ b by have := (hlt5 g hg).1; omega)),
          fun g hg => by (have := (hlt5 g hg).1; omega), hroomB, h5.room, by rw [List.length_eraseIdx]; have := h5.len; split <;> omega⟩
        have m15 : Mod (foot b (.slice (some ⟨g1, 0, none⟩) L mc)) w1 (w5.setCell ⟨b, 3, none⟩ v5) := (Mod.of_below b15 : Mod (foot b (.slice (some ⟨g1, 0, none⟩) L mc)) w1 w5).trans (⟨rfl, rfl, rfl, by simp, fun x _ hx => heap_setCell_other w5 _ x _ fun e => hx e⟩ : Mod (fun x => x = b) w5 (w5.setCell ⟨b, 3, none⟩ v5)) (fun _ h => h) (fun _ _ h => .inl h)
        have mblk : (w5.setCell ⟨b, 3, none⟩ v5).heap[w1.heap.size]? = some (.cells #[.int .i64 m1, .int .i64 m2, .int .i64 m3, .int .i64 m4] 34 (0, 0)) := by
          rw [heap_setCell_other w5 _ _ _ (show w1.heap.size ≠ b by omega)]
          exact (b5.block w1.heap.size (by have := Hs2.out; omega)).trans Hm2.out
        have rblk : (w5.setCell ⟨b, 3, none⟩ v5).heap[w.heap.size + 1]? = some (.cells #[.int .i64 0, .int .i64 0, .int .i64 0, .int .i64 0] 34 (0, 0)) := by
          have hb : b < w.heap.size := (Hh.out.lt b (.inl rfl)).2
          rw [heap_setCell_other w5 _ _ _ (show w.heap.size + 1 ≠ b by omega)]
          exact (b15.block _ sz1).trans Hxr1.out
        have hfr : ∀ g, v5.ownBlock = some g → w2.heap.size ≤ g := fun g hg => (hlt5 g hg).1
        have f3 := frozen_of_row w5 b 3 _ _ h5.root
        have cc3 := cells_at h5.root 3
        have hf : ∀ g, v5.ownBlock = some g → (Value.slice (some ⟨g1, 0, none⟩) L mc).ownBlock = some g ∨ w.heap.size ≤ g := fun g hg => .inr (by have := (hlt5 g hg).1; have := Hb1.out.size; omega)
        obtain ⟨va, vc, hve⟩ := own_slice own5
        obtain ⟨vn, hvn⟩ : ∃ vn, vn = (ms.eraseIdx I).length := ⟨_, rfl⟩
        rw [← hvn] at hve
        subst hve
        clear hvn own5 g5 hlt5 hcat h5 b5 b15 HV Hown4 Hb4 Hb14 Hh4 HX1 c3'
        have Hn := Lib.hid hn; clear hn
        have Hm15 := Lib.hid m15; clear m15
        have Hmb := Lib.hid mblk; clear mblk
        have Hrb := Lib.hid rblk; clear rblk
        have Hf := Lib.hid hf; clear hf
        have Hfr := Lib.hid hfr; clear hfr
        go_wp2_with (with_reducible refine stop_load 34 ?_)
        refine unpark ?_
        generalize w5.setCell ⟨b, 3, none⟩ (.slice va vn vc) = w6 at Hn Hm15 Hmb Hrb ⊢
        clear f3 cc3
        refine wpList_load_at rfl _ _ rfl w1.heap.size 0 rfl _ _ _ Hmb.out 4 [.int .i64 m1, .int .i64 m2, .int .i64 m3, .int .i64 m4] rfl rfl _ Try.underlying34 rfl Try.sizeMsg ?_
        go_wp2_with (with_reducible refine stop_store 34 ?_)
        refine unpark ?_
        refine wpList_store_at rfl _ _ _ rfl (w.heap.size + 1) 0 rfl _ rfl [.int .i64 m1, .int .i64 m2, .int .i64 m3, .int .i64 m4] rfl _ _ Hrb.out 4 rfl (by decide) (by simp [Value.oneCell']) Try.sizeMsg ?_
        intro w7 hw7 hg7 hs7
        replace hw7 : w7.heap[w.heap.size + 1]? = some (.cells #[.int .i64 m1, .int .i64 m2, .int .i64 m3, .int .i64 m4] 34 (0, 0)) := hw7
        have q0 : w7.cell? ⟨w.heap.size + 1, 0, none⟩ = some (.int .i64 m1) := cells_at hw7 0
        have q1 : w7.cell? ⟨w.heap.size + 1, 1, none⟩ = some (.int .i64 m2) := cells_at hw7 1
        have q2' : w7.cell? ⟨w.heap.size + 1, 2, none⟩ = some (.int .i64 m3) := cells_at hw7 2
        have q3 : w7.cell? ⟨w.heap.size + 1, 3, none⟩ = some (.int .i64 m4) := cells_at hw7 3
        have oth7 : ∀ x, x < w6.heap.size → x ≠ w.heap.size + 1 → w7.heap[x]? = w6.heap[x]? := fun x hx hn => hg7.block x hx fun e => hn (by cases e; rfl)
        have hbw : b < w.heap.size := (Hh.out.lt b (.inl rfl)).2
        have h7 : RAt w7 B b (.slice va vn vc) l r (ms.eraseIdx I) := Hn.out.keep fun x hx => oth7 x (Hn.out.lt x hx).2 (hx.elim (fun e => by omega) fun e => by
          rintro rfl
          have := Hfr.out _ e; omega)
        have hm7 : Mod (foot b (.slice (some ⟨g1, 0, none⟩) L mc)) w w7 := ((Mod.of_below Hb1.out : Mod (foot b (.slice (some ⟨g1, 0, none⟩) L mc)) w w1).trans Hm15.out (fun _ h => h) (fun _ _ h => h)).trans (Mod.of_grown hg7 (F := fun x => x = w.heap.size + 1) fun x e => by cases e; rfl) (fun _ h => h) (fun x hx e => by omega)
        have H7 := Lib.hid h7; clear h7
        have Hm7 := Lib.hid hm7; clear hm7
        clear hw7 hg7 hs7 oth7 Hn Hm15 Hmb Hrb
        go_wp2_with fail
        refine bodyPost_ret (v := .tuple #[.agg #[.int .i64 m1, .int .i64 m2, .int .i64 m3, .int .i64 m4], .int .i64 0]) (by simp [results, Try.results18, go_sem, q0, q1, q2', q3]) rfl ?_
        have hmm := Hm.out
        subst hmm
        rw [Hpe.out]
        exact ⟨rfl, _, H7.out, Hf.out, Hm7.out⟩
end
end Go.Proofs.Ytjmifnhpgedafaa
