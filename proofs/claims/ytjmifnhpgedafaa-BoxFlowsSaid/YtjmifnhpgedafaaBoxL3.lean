/- The law BoxFlows. -/
import Derived.Test.YtjmifnhpgedafaaBoxA
import Derived.Test.YtjmifnhpgedafaaBoxO
namespace Go.Proofs.Ytjmifnhpgedafaa
open Go.RowKit

theorem with_self {l : Label} (hl : l.ok) : withOf l l 0 = true := by
  rw [withOf_iff hl hl (by decide)]
  intro c _
  unfold bars
  simp

set_option maxHeartbeats 4000000 in
set_option maxRecDepth 100000 in
theorem lawBoxFlows {w : World} {l who : Label} {o : Int} {m : Msg} (hl : l.ok) (hwho : who.ok) (ho : (Lit.int .u64 o).wf = true) (_hm : m.ok) :
    Calls Try.prog 5 #[.agg l.cells.toArray, .agg who.cells.toArray, .int .u64 o, .agg m.cells.toArray] w fun e w' => e = .returned (.bool true) ∧ Below w.heap.size w w' := by
  have hself := with_self hl
  have hn := fun (w : World) => New_bx (w0 := w) (Below.refl w.heap.size w) l (n := 3) (by decide) (by decide)
  have hp1 := fun (w0 w : World) b F (h : Bx w0 w b F l 3 []) => Put_bx h l 0 m
  have hp2 := fun (w0 w : World) b F (h : Bx w0 w b F l 3 [m]) => Put_bx h who o m
  have ht1 := fun (w0 w : World) b F (h : Bx w0 w b F l 3 [m]) => Take_bx h who o 0
  have ht2 := fun (w0 w : World) b F (h : Bx w0 w b F l 3 [m, m]) => Take_bx h who o 0
  have hw1 := fun (w : World) => RWith_calls (w := w) hwho hl ho
  have hw2 := fun (w : World) => RWith_calls (w := w) hl hwho ho
  have hq := fun w => msg_eql w m m
  have hg := fun x y w => msg_guard .eql x y m m w
  have hq0 := fun w => msg_eql w noMsg noMsg
  have hg0 := fun x y w => msg_guard .eql x y noMsg noMsg w
  simp only [putOf, takeOf, hself, if_true, List.length_nil, List.length_cons, List.nil_append, List.cons_append, Nat.zero_add, show (0 : Nat) < 3 by decide, show (1 : Nat) < 3 by decide] at hp1 hp2 ht1 ht2
  simp only [Int.toNat_zero, List.getD_cons_zero, List.eraseIdx_cons_zero, show ((0 : Int) ≤ 0 ∧ (0 : Int) < ((1 : Nat) : Int)) by decide, show ((0 : Int) ≤ 0 ∧ (0 : Int) < ((1 + 1 : Nat) : Int)) by decide, and_self, if_true] at ht1 ht2
  generalize withOf who l o = W1 at *
  generalize withOf l who o = W2 at *
  generalize rightOf m = R at *
  obtain ⟨m', hm'⟩ : ∃ m', m' = m := ⟨_, rfl⟩
  simp only [← hm'] at hn hp1 hp2 ht1 ht2 hq hg
  have hmc : m'.cells = m.cells := by rw [hm']
  obtain ⟨l', hl'⟩ : ∃ l', l' = l := ⟨_, rfl⟩
  have hlc : l'.cells = l.cells := by rw [hl']
  rw [← hl'] at hn hp1 hp2 ht1 ht2 hw1 hw2
  have hwc : who.cells = [.int .u64 who.1, .int .u64 who.2] := rfl
  obtain ⟨l1, l2⟩ := l
  obtain ⟨u1, u2⟩ := who
  obtain ⟨m1, m2, m3, m4⟩ := m
  simp only [hmc, hlc, hwc] at hn hp1 hp2 ht1 ht2 hw1 hw2 hq hg
  simp only [Label.cells, Msg.cells, Msg.kind, Msg.part, Msg.tx, Msg.what, noMsg, decide_true] at *
  clear hself hmc hlc hwc hl' hl hwho ho _hm
  have Hm := Lib.hid hm'; clear hm'
  have HN := Lib.hid hn; clear hn
  have HP1 := Lib.hid hp1; clear hp1
  have HP2 := Lib.hid hp2; clear hp2
  have HT1 := Lib.hid ht1; clear ht1
  have HT2 := Lib.hid ht2; clear ht2
  have HW1 := Lib.hid hw1; clear hw1
  have HW2 := Lib.hid hw2; clear hw2
  have HQ := Lib.hid hq; clear hq
  have HG := Lib.hid hg; clear hg
  have HQ0 := Lib.hid hq0; clear hq0
  have HG0 := Lib.hid hg0; clear hg0
  go_enter Try.func5, Try.ntmps5
  go_wp2_with fail
  have hxa := heap_alloc_new w (.cells #[.int .u64 l1, .int .u64 l2] 24)
  have ba : Below w.heap.size w (w.alloc (.cells #[.int .u64 l1, .int .u64 l2] 24)) := (Below.refl _ _).alloc (Nat.le_refl _) _
  have sa : (w.alloc (.cells #[.int .u64 l1, .int .u64 l2] 24)).heap.size = w.heap.size + 1 := by simp
  generalize w.alloc (.cells #[.int .u64 l1, .int .u64 l2] 24) = wa at hxa ba sa ⊢
  have hxb := heap_alloc_new wa (.cells #[.int .u64 u1, .int .u64 u2] 24)
  have bb : Below wa.heap.size wa (wa.alloc (.cells #[.int .u64 u1, .int .u64 u2] 24)) := (Below.refl _ _).alloc (Nat.le_refl _) _
  have sb : (wa.alloc (.cells #[.int .u64 u1, .int .u64 u2] 24)).heap.size = w.heap.size + 2 := by simp [sa]
  rw [sa] at hxb
  generalize wa.alloc (.cells #[.int .u64 u1, .int .u64 u2] 24) = wb at hxb bb sb ⊢
  have hxc := heap_alloc_new wb (.cells #[.int .i64 m1, .int .i64 m2, .int .i64 m3, .int .i64 m4] 34)
  have bc : Below wb.heap.size wb (wb.alloc (.cells #[.int .i64 m1, .int .i64 m2, .int .i64 m3, .int .i64 m4] 34)) := (Below.refl _ _).alloc (Nat.le_refl _) _
  have sc : (wb.alloc (.cells #[.int .i64 m1, .int .i64 m2, .int .i64 m3, .int .i64 m4] 34)).heap.size = w.heap.size + 3 := by simp [sb]
  rw [sb] at hxc
  generalize wb.alloc (.cells #[.int .i64 m1, .int .i64 m2, .int .i64 m3, .int .i64 m4] 34) = wc at hxc bc sc ⊢
  have hxb' := (bc.block (w.heap.size + 1) (by omega)).trans hxb
  have hxa' := (bc.block w.heap.size (by omega)).trans ((bb.block w.heap.size (by omega)).trans hxa)
  have bw : Below w.heap.size w wc := (ba.trans (bb.mono ba.size)).trans (bc.mono (by omega))
  have hk : ∀ w', Below wc.heap.size wc w' → w'.cell? ⟨w.heap.size, 0, none⟩ = some (.int .u64 l1) ∧ w'.cell? ⟨w.heap.size, 1, none⟩ = some (.int .u64 l2) ∧ w'.cell? ⟨w.heap.size + 1, 0, none⟩ = some (.int .u64 u1) ∧ w'.cell? ⟨w.heap.size + 1, 1, none⟩ = some (.int .u64 u2) ∧
      w'.cell? ⟨w.heap.size + 2, 0, none⟩ = some (.int .i64 m1) ∧ w'.cell? ⟨w.heap.size + 2, 1, none⟩ = some (.int .i64 m2) ∧ w'.cell? ⟨w.heap.size + 2, 2, none⟩ = some (.int .i64 m3) ∧ w'.cell? ⟨w.heap.size + 2, 3, none⟩ = some (.int .i64 m4) := fun w' hb => by
    have xa := (hb.block w.heap.size (by omega)).trans hxa'
    have xb := (hb.block (w.heap.size + 1) (by omega)).trans hxb'
    have xc := (hb.block (w.heap.size + 2) (by omega)).trans hxc
    exact ⟨cells_at xa 0, cells_at xa 1, cells_at xb 0, cells_at xb 1, cells_at xc 0, cells_at xc 1, cells_at xc 2, cells_at xc 3⟩
  have hfin : ∀ w', Below wc.heap.size wc w' → Below w.heap.size w w' := fun w' hb => bw.trans (hb.mono (by omega))
  have Hk := Lib.hid hk; clear hk
  have Hfin := Lib.hid hfin; clear hfin
  clear hxa ba sa hxb bb sb hxc bc sc hxb' hxa' bw
  refine alive_calls.mono ?_
  rintro e w1 ⟨rfl, b1⟩
  have Hb1 := Lib.hid b1; clear b1
  obtain ⟨a0, a1, b0, b1, q0, q1, q2, q3⟩ := Hk.out _ Hb1.out
  go_wp2_with fail
  refine (HN.out w1).mono ?_
  rintro e w2 ⟨b, F, rfl, d2, -, -⟩
  have D2 : Bx wc w2 b F l' 3 [] := by
    obtain ⟨mv, hd, hf⟩ := d2.box
    exact ⟨⟨mv, hd.mono Hb1.out.size, hf⟩, fun k hk => ⟨Nat.le_trans Hb1.out.size (d2.low k hk).1, (d2.low k hk).2⟩, Hb1.out.trans (d2.bel.mono Hb1.out.size)⟩
  clear d2 HN Hb1 a0 a1 b0 b1 q0 q1 q2 q3
  have Hd2 := Lib.hid D2; clear D2
  obtain ⟨a0, a1, b0, b1, q0, q1, q2, q3⟩ := Hk.out _ Hd2.out.bel
  go_wp2_with fail
  refine (HP1.out _ _ _ _ Hd2.out).mono ?_
  cases R with
  | false =>
    rintro e w3 ⟨rfl, d3, -⟩
    simp only [Bool.false_eq_true, if_false] at d3 ⊢
    clear a0 a1 b0 b1 q0 q1 q2 q3 HP1 HP2 HT1 HT2 HW1 HW2 Hd2
    have Hd3 := Lib.hid d3; clear d3
    go_wp2_with fail
    refine (Len_bx Hd3.out).mono ?_
    rintro e w4 ⟨rfl, rfl⟩
    simp only [List.length_nil]
    have bel := Hfin.out _ Hd3.out.bel
    have Hbel := Lib.hid bel; clear bel
    go_wp2_with fail
    go_ret
    exact ⟨rfl, Hbel.out⟩
  | true =>
    rintro e w3 ⟨rfl, d3, -⟩
    simp only [if_true] at d3 ⊢
    clear a0 a1 b0 b1 q0 q1 q2 q3 HP1 Hd2
    have Hd3 := Lib.hid d3; clear d3
    obtain ⟨a0, a1, b0, b1, q0, q1, q2, q3⟩ := Hk.out _ Hd3.out.bel
    go_wp2_with fail
    refine (HP2.out _ _ _ _ Hd3.out).mono ?_
    clear HP2 Hd3
    cases W1 with
    | true =>
      rintro e w4 ⟨rfl, d4, -⟩
      simp only [if_true] at d4 ⊢
      clear a0 a1 b0 b1 q0 q1 q2 q3
      have Hd4 := Lib.hid d4; clear d4
      obtain ⟨a0, a1, b0, b1, q0, q1, q2, q3⟩ := Hk.out _ Hd4.out.bel
      go_wp2_with fail
      refine (HW1.out _).mono ?_
      rintro e w5 ⟨rfl, b5⟩
      have d5 := Hd4.out.step b5
      clear b5 a0 a1 b0 b1 q0 q1 q2 q3 Hd4 HW1
      have Hd5 := Lib.hid d5; clear d5
      obtain ⟨a0, a1, b0, b1, q0, q1, q2, q3⟩ := Hk.out _ Hd5.out.bel
      go_wp2_with fail
      refine (Len_bx Hd5.out).mono ?_
      rintro e w6 ⟨rfl, rfl⟩
      simp only [List.length_cons, List.length_nil]
      go_wp2_with fail
      refine (HT2.out _ _ _ _ Hd5.out).mono ?_
      clear a0 a1 b0 b1 q0 q1 q2 q3 HT1 HT2 Hd5
      have hm := Hm.out
      subst hm
      cases W2 with
      | true =>
        rintro e w7 ⟨rfl, d7, -⟩
        simp only [if_true] at d7 ⊢
        have Hd7 := Lib.hid d7; clear d7
        go_wp2_with (with_reducible refine stop_load 24 ?_)
        refine unpark ?_
        have b8 : Below w7.heap.size w7 (w7.alloc (.cells #[.int .i64 m1, .int .i64 m2, .int .i64 m3, .int .i64 m4] 34)) := (Below.refl _ _).alloc (Nat.le_refl _) _
        have x8 := heap_alloc_new w7 (.cells #[.int .i64 m1, .int .i64 m2, .int .i64 m3, .int .i64 m4] 34)
        generalize w7.alloc (.cells #[.int .i64 m1, .int .i64 m2, .int .i64 m3, .int .i64 m4] 34) = w8 at b8 x8 ⊢
        have d8 := Hd7.out.step b8
        generalize w7.heap.size = g8 at x8 ⊢
        clear b8 Hd7
        have Hd8 := Lib.hid d8; clear d8
        have Hx8 := Lib.hid x8; clear x8
        obtain ⟨a0, a1, b0, b1, q0, q1, q2, q3⟩ := Hk.out _ Hd8.out.bel
        go_wp2_with fail
        refine (HW2.out _).mono ?_
        rintro e w9 ⟨rfl, b9⟩
        have d9 := Hd8.out.step b9
        have x9 := (b9.block g8 (Array.getElem?_eq_some_iff.1 Hx8.out).1).trans Hx8.out
        clear b9 a0 a1 b0 b1 q0 q1 q2 q3 Hd8 Hx8 HW2
        have Hd9 := Lib.hid d9; clear d9
        obtain ⟨a0, a1, b0, b1, q0, q1, q2, q3⟩ := Hk.out _ Hd9.out.bel
        have z0 := cells_at x9 0
        have z1 := cells_at x9 1
        have z2 := cells_at x9 2
        have z3 := cells_at x9 3
        have hq := HQ.out
        have hg := HG.out
        have hq0 := HQ0.out
        have hg0 := HG0.out
        have Hx9 := Lib.hid x9; clear x9
        go_wp2_with fail
        refine (Len_bx Hd9.out).mono ?_
        rintro e wz ⟨rfl, rfl⟩
        simp only [List.length_cons, List.length_nil]
        have bel := Hfin.out _ Hd9.out.bel
        have Hbel := Lib.hid bel; clear bel
        go_wp2_with fail
        go_ret
        exact ⟨rfl, Hbel.out⟩
      | false =>
        rintro e w7 ⟨rfl, d7, -⟩
        simp only [Bool.false_eq_true, if_false] at d7 ⊢
        have Hd7 := Lib.hid d7; clear d7
        go_wp2_with (with_reducible refine stop_load 24 ?_)
        refine unpark ?_
        have b8 : Below w7.heap.size w7 (w7.alloc (.cells #[.int .i64 0, .int .i64 0, .int .i64 0, .int .i64 0] 34)) := (Below.refl _ _).alloc (Nat.le_refl _) _
        have x8 := heap_alloc_new w7 (.cells #[.int .i64 0, .int .i64 0, .int .i64 0, .int .i64 0] 34)
        generalize w7.alloc (.cells #[.int .i64 0, .int .i64 0, .int .i64 0, .int .i64 0] 34) = w8 at b8 x8 ⊢
        have d8 := Hd7.out.step b8
        generalize w7.heap.size = g8 at x8 ⊢
        clear b8 Hd7
        have Hd8 := Lib.hid d8; clear d8
        have Hx8 := Lib.hid x8; clear x8
        obtain ⟨a0, a1, b0, b1, q0, q1, q2, q3⟩ := Hk.out _ Hd8.out.bel
        go_wp2_with fail
        refine (HW2.out _).mono ?_
        rintro e w9 ⟨rfl, b9⟩
        have d9 := Hd8.out.step b9
        have x9 := (b9.block g8 (Array.getElem?_eq_some_iff.1 Hx8.out).1).trans Hx8.out
        clear b9 a0 a1 b0 b1 q0 q1 q2 q3 Hd8 Hx8 HW2
        have Hd9 := Lib.hid d9; clear d9
        obtain ⟨a0, a1, b0, b1, q0, q1, q2, q3⟩ := Hk.out _ Hd9.out.bel
        have z0 := cells_at x9 0
        have z1 := cells_at x9 1
        have z2 := cells_at x9 2
        have z3 := cells_at x9 3
        have hq := HQ.out
        have hg := HG.out
        have hq0 := HQ0.out
        have hg0 := HG0.out
        have Hx9 := Lib.hid x9; clear x9
        go_wp2_with fail
        refine (Len_bx Hd9.out).mono ?_
        rintro e wz ⟨rfl, rfl⟩
        simp only [List.length_cons, List.length_nil]
        have bel := Hfin.out _ Hd9.out.bel
        have Hbel := Lib.hid bel; clear bel
        go_wp2_with fail
        go_ret
        exact ⟨rfl, Hbel.out⟩
    | false =>
      rintro e w4 ⟨rfl, d4, -⟩
      simp only [if_true, Bool.false_eq_true, if_false] at d4 ⊢
      clear a0 a1 b0 b1 q0 q1 q2 q3
      have Hd4 := Lib.hid d4; clear d4
      obtain ⟨a0, a1, b0, b1, q0, q1, q2, q3⟩ := Hk.out _ Hd4.out.bel
      go_wp2_with fail
      refine (HW1.out _).mono ?_
      rintro e w5 ⟨rfl, b5⟩
      have d5 := Hd4.out.step b5
      clear b5 a0 a1 b0 b1 q0 q1 q2 q3 Hd4 HW1
      have Hd5 := Lib.hid d5; clear d5
      obtain ⟨a0, a1, b0, b1, q0, q1, q2, q3⟩ := Hk.out _ Hd5.out.bel
      go_wp2_with fail
      refine (Len_bx Hd5.out).mono ?_
      rintro e w6 ⟨rfl, rfl⟩
      simp only [List.length_cons, List.length_nil]
      go_wp2_with fail
      refine (HT1.out _ _ _ _ Hd5.out).mono ?_
      clear a0 a1 b0 b1 q0 q1 q2 q3 HT1 HT2 Hd5
      have hm := Hm.out
      subst hm
      cases W2 with
      | true =>
        rintro e w7 ⟨rfl, d7, -⟩
        simp only [if_true] at d7 ⊢
        have Hd7 := Lib.hid d7; clear d7
        go_wp2_with (with_reducible refine stop_load 24 ?_)
        refine unpark ?_
        have b8 : Below w7.heap.size w7 (w7.alloc (.cells #[.int .i64 m1, .int .i64 m2, .int .i64 m3, .int .i64 m4] 34)) := (Below.refl _ _).alloc (Nat.le_refl _) _
        have x8 := heap_alloc_new w7 (.cells #[.int .i64 m1, .int .i64 m2, .int .i64 m3, .int .i64 m4] 34)
        generalize w7.alloc (.cells #[.int .i64 m1, .int .i64 m2, .int .i64 m3, .int .i64 m4] 34) = w8 at b8 x8 ⊢
        have d8 := Hd7.out.step b8
        generalize w7.heap.size = g8 at x8 ⊢
        clear b8 Hd7
        have Hd8 := Lib.hid d8; clear d8
        have Hx8 := Lib.hid x8; clear x8
        obtain ⟨a0, a1, b0, b1, q0, q1, q2, q3⟩ := Hk.out _ Hd8.out.bel
        go_wp2_with fail
        refine (HW2.out _).mono ?_
        rintro e w9 ⟨rfl, b9⟩
        have d9 := Hd8.out.step b9
        have x9 := (b9.block g8 (Array.getElem?_eq_some_iff.1 Hx8.out).1).trans Hx8.out
        clear b9 a0 a1 b0 b1 q0 q1 q2 q3 Hd8 Hx8 HW2
        have Hd9 := Lib.hid d9; clear d9
        obtain ⟨a0, a1, b0, b1, q0, q1, q2, q3⟩ := Hk.out _ Hd9.out.bel
        have z0 := cells_at x9 0
        have z1 := cells_at x9 1
        have z2 := cells_at x9 2
        have z3 := cells_at x9 3
        have hq := HQ.out
        have hg := HG.out
        have hq0 := HQ0.out
        have hg0 := HG0.out
        have Hx9 := Lib.hid x9; clear x9
        go_wp2_with fail
        refine (Len_bx Hd9.out).mono ?_
        rintro e wz ⟨rfl, rfl⟩
        simp only [List.length_nil]
        have bel := Hfin.out _ Hd9.out.bel
        have Hbel := Lib.hid bel; clear bel
        go_wp2_with fail
        go_ret
        exact ⟨rfl, Hbel.out⟩
      | false =>
        rintro e w7 ⟨rfl, d7, -⟩
        simp only [Bool.false_eq_true, if_false] at d7 ⊢
        have Hd7 := Lib.hid d7; clear d7
        go_wp2_with (with_reducible refine stop_load 24 ?_)
        refine unpark ?_
        have b8 : Below w7.heap.size w7 (w7.alloc (.cells #[.int .i64 0, .int .i64 0, .int .i64 0, .int .i64 0] 34)) := (Below.refl _ _).alloc (Nat.le_refl _) _
        have x8 := heap_alloc_new w7 (.cells #[.int .i64 0, .int .i64 0, .int .i64 0, .int .i64 0] 34)
        generalize w7.alloc (.cells #[.int .i64 0, .int .i64 0, .int .i64 0, .int .i64 0] 34) = w8 at b8 x8 ⊢
        have d8 := Hd7.out.step b8
        generalize w7.heap.size = g8 at x8 ⊢
        clear b8 Hd7
        have Hd8 := Lib.hid d8; clear d8
        have Hx8 := Lib.hid x8; clear x8
        obtain ⟨a0, a1, b0, b1, q0, q1, q2, q3⟩ := Hk.out _ Hd8.out.bel
        go_wp2_with fail
        refine (HW2.out _).mono ?_
        rintro e w9 ⟨rfl, b9⟩
        have d9 := Hd8.out.step b9
        have x9 := (b9.block g8 (Array.getElem?_eq_some_iff.1 Hx8.out).1).trans Hx8.out
        clear b9 a0 a1 b0 b1 q0 q1 q2 q3 Hd8 Hx8 HW2
        have Hd9 := Lib.hid d9; clear d9
        obtain ⟨a0, a1, b0, b1, q0, q1, q2, q3⟩ := Hk.out _ Hd9.out.bel
        have z0 := cells_at x9 0
        have z1 := cells_at x9 1
        have z2 := cells_at x9 2
        have z3 := cells_at x9 3
        have hq := HQ.out
        have hg := HG.out
        have hq0 := HQ0.out
        have hg0 := HG0.out
        have Hx9 := Lib.hid x9; clear x9
        go_wp2_with fail
        refine (Len_bx Hd9.out).mono ?_
        rintro e wz ⟨rfl, rfl⟩
        simp only [List.length_cons, List.length_nil]
        have bel := Hfin.out _ Hd9.out.bel
        have Hbel := Lib.hid bel; clear bel
        go_wp2_with fail
        go_ret
        exact ⟨rfl, Hbel.out⟩
end Go.Proofs.Ytjmifnhpgedafaa
