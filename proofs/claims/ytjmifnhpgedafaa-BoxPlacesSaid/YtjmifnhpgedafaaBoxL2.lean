/- The law BoxPlaces. -/
import Derived.Test.YtjmifnhpgedafaaBox9
import Derived.Test.YtjmifnhpgedafaaBoxO
import Derived.Test.YtjmifnhpgedafaaYield
namespace Go.Proofs.Ytjmifnhpgedafaa
open Go.RowKit

set_option maxHeartbeats 4000000 in
set_option maxRecDepth 100000 in
theorem lawBoxPlaces {w : World} {r : Int} {a : Option Addr} {n c : Nat} {xs : List Msg} {q : Int} (hr : (Lit.int .i64 r).wf = true) (hx : Msgs w a n c xs) (_hq : (Lit.int .i64 q).wf = true) :
    Calls Try.prog 6 #[.int .i64 r, .slice a n c, .int .i64 q] w fun e w' => e = .returned (.bool true) ∧ Below w.heap.size w w' := by
  have hl := hx.len
  have hle := hx.le
  have hmx := hx.max
  have Hx := Lib.hid hx; clear hx
  have Hl := Lib.hid hl; clear hl
  go_enter Try.func6, Try.ntmps6
  go_wp2_with fail
  refine alive_calls.mono ?_
  rintro e w1 ⟨rfl, b1⟩
  by_cases h1 : r < 1
  · have e1 : decide (r < 1) = true := decide_eq_true h1
    have Hb := Lib.hid b1; clear b1
    go_wp2
    go_ret
    exact ⟨rfl, Hb.out⟩
  by_cases h2 : 8 < r
  · have e1 : decide (r < 1) = false := decide_eq_false h1
    have e2 : decide (8 < r) = true := decide_eq_true h2
    have Hb := Lib.hid b1; clear b1
    go_wp2
    go_ret
    exact ⟨rfl, Hb.out⟩
  by_cases h3 : 60 < n
  · have e1 : decide (r < 1) = false := decide_eq_false h1
    have e2 : decide (8 < r) = false := decide_eq_false h2
    have e3 : decide ((60 : Int) < (n : Int)) = true := decide_eq_true (by omega)
    have Hb := Lib.hid b1; clear b1
    go_wp2
    go_ret
    exact ⟨rfl, Hb.out⟩
  have e1 : decide (r < 1) = false := decide_eq_false h1
  have e2 : decide (8 < r) = false := decide_eq_false h2
  have e3 : decide ((60 : Int) < (n : Int)) = false := decide_eq_false (by omega)
  obtain ⟨R, rfl⟩ : ∃ R : Nat, r = R := ⟨r.toNat, by omega⟩
  have hR1 : 1 ≤ R := by omega
  have hR8 : R ≤ 8 := by omega
  have hn : n ≤ 60 := by omega
  clear h1 h2 h3 hr
  have Hb1 := Lib.hid b1; clear b1
  have en := New_bx Hb1.out (0, 0) hR1 hR8
  simp only [Label.cells] at en
  have EN := Lib.hid en; clear en
  go_wp2_with fail
  refine EN.out.mono ?_
  rintro e w2 ⟨b, F0, rfl, d2, -, -⟩
  clear EN Hb1 e1 e2 e3
  have Hd2 := Lib.hid d2; clear d2
  go_wp2_with fail
  go_loopw [9] (fun i wr => ∃ (j : Nat) (ms : List Msg) (F : Nat → Prop), j ≤ n ∧ i = .int .i64 j ∧ Bx w wr b F (0, 0) R ms) (fun i _ => n - (intOf i).toNat)
  case atStart => exact ⟨0, [], F0, by omega, rfl, Hd2.out⟩
  case round =>
    obtain ⟨j, ms, F, hj, rfl, hd⟩ := hrel
    clear Hd2
    have hxr := Hx.out.keep (hd.bel)
    have Hd := Lib.hid hd; clear hd
    by_cases hlt : j < n
    · obtain ⟨bx, ox, rfl⟩ := hxr.addr (by omega)
      have hjx : j < xs.length := by rw [Hl.out]; exact hlt
      have hcx := hxr.at hjx
      obtain ⟨m', hm'⟩ : ∃ m', m' = xs[j] := ⟨_, rfl⟩
      rw [← hm'] at hcx
      clear hm'
      have hp := Put_bx Hd.out (0, 0) 0 m'
      obtain ⟨P, hP⟩ : ∃ P, P = putOf (0, 0) R ms (0, 0) 0 m' := ⟨_, rfl⟩
      rw [← hP] at hp
      clear hP
      obtain ⟨P1, P2, P3⟩ := P
      obtain ⟨m1, m2, m3, m4⟩ := m'
      simp only [Msg.cells, Msg.kind, Msg.part, Msg.tx, Msg.what] at hcx hp
      have x0 := hcx 0 _ rfl
      have x1 := hcx 1 _ rfl
      have x2 := hcx 2 _ rfl
      have x3 := hcx 3 _ rfl
      simp only [Nat.add_zero] at x0
      clear hcx hxr
      have Hp := Lib.hid hp; clear hp
      have i1 : (0 : Int) ≤ (j : Int) := by omega
      have i2 : (j : Int) < (n : Int) := by omega
      go_wp2_with fail
      refine Hp.out.mono ?_
      rintro e w3 ⟨rfl, d3, -⟩
      have Hd3 := Lib.hid d3; clear d3
      clear x0 x1 x2 x3 Hp Hd
      go_wp2_with fail
      go_roundw
      case rel => exact ⟨j + 1, P3, _, by omega, by go_num, Hd3.out⟩
      case measure => simp [intOf]; omega
    · obtain rfl : j = n := by omega
      clear hxr
      have hroom := Hd.out.room
      have hls := List_bx Hd.out (0, 0) 0
      rw [show withOf (0, 0) (0, 0) 0 = true by decide] at hls
      simp only [if_true, Label.cells] at hls
      have Hls := Lib.hid hls; clear hls
      go_wp2_with fail
      refine Hls.out.mono ?_
      rintro e w3 ⟨v1, rfl, own1, b3, d3⟩
      have hwr := Hd.out.bel.size
      have hwr := Hd.out.bel.size
      obtain ⟨va1, vc1, rfl⟩ := own_slice own1
      obtain ⟨L, hL⟩ : ∃ L, L = ms.length := ⟨_, rfl⟩
      rw [← hL] at own1 hroom ⊢
      have HL := Lib.hid hL; clear hL
      have hF3 : ∀ g, (Value.slice va1 L vc1).ownBlock = some g → ¬ F g := fun g hg hF => by
        have h1 := (World.ownsRow.lt own1 g hg).1
        have h2 := (Hd.out.low g hF).2
        omega
      clear Hls b3 Hd
      have ht := Take_bx d3 (0, 0) 0 q
      rw [takeOf_open] at ht
      have Hd3 := Lib.hid d3; clear d3
      have Hown1 := Lib.hid own1; clear own1
      have HF3 := Lib.hid hF3; clear hF3
      by_cases hin : 0 ≤ q ∧ q < (L : Int)
      · rw [if_pos (by rw [← HL.out]; exact hin)] at ht
        obtain ⟨I, rfl⟩ : ∃ I : Nat, q = I := ⟨q.toNat, by omega⟩
        rw [Int.toNat_natCast] at ht
        have hI : I < L := by omega
        clear hin
        obtain ⟨m, hm⟩ : ∃ m, m = ms.getD I noMsg := ⟨_, rfl⟩
        rw [← hm] at ht
        obtain ⟨m', hm'⟩ : ∃ m', m' = m := ⟨_, rfl⟩
        obtain ⟨m1, m2, m3, m4⟩ := m
        rw [← hm'] at hm
        have Hmi := Lib.hid hm; clear hm
        simp only [Msg.cells, Msg.kind, Msg.part, Msg.tx, Msg.what, Label.cells] at ht
        have Hm := Lib.hid hm'; clear hm'
        have Ht := Lib.hid ht; clear ht
        go_wp2_with fail
        refine Ht.out.mono ?_
        rintro e w4 ⟨rfl, d4, m4⟩
        have own4 := Hown1.out.grown m4 HF3.out
        clear Ht Hd3 Hown1 HF3 m4
        have Hd4 := Lib.hid d4; clear d4
        have Hown4 := Lib.hid own4; clear own4
        go_wp2_with fail
        have b5 : Below w4.heap.size w4 (w4.alloc (.cells #[.int .i64 m1, .int .i64 m2, .int .i64 m3, .int .i64 m4] 34)) := (Below.refl _ _).alloc (Nat.le_refl _) _
        have x5 := heap_alloc_new w4 (.cells #[.int .i64 m1, .int .i64 m2, .int .i64 m3, .int .i64 m4] 34)
        generalize w4.alloc (.cells #[.int .i64 m1, .int .i64 m2, .int .i64 m3, .int .i64 m4] 34) = w5 at b5 x5 ⊢
        generalize w4.heap.size = g5 at x5 ⊢
        have own5 := Hown4.out.keep fun g _ hg => b5.block g hg
        have d5 := Hd4.out.step b5
        have hls := List_bx d5 (0, 0) 0
        rw [show withOf (0, 0) (0, 0) 0 = true by decide] at hls
        simp only [if_true, Label.cells] at hls
        refine hls.mono ?_
        rintro e w6 ⟨v2, rfl, own6, b6, d6⟩
        have own61 := own5.keep fun g _ hg => b6.block g hg
        have x6 := (b6.block g5 (Array.getElem?_eq_some_iff.1 x5).1).trans x5
        obtain ⟨va2, vc2, rfl⟩ := own_slice own6
        clear hls d5 own5 Hown4 Hd4 b5 b6 x5
        have Hd6 := Lib.hid d6; clear d6
        have Hown6 := Lib.hid own6; clear own6
        have Hx6 := Lib.hid x6; clear x6
        have Hown61 := Lib.hid own61; clear own61
        have e1 : decide ((I : Int) < 0) = false := decide_eq_false (by omega)
        have e2 : decide ((L : Int) ≤ (I : Int)) = false := decide_eq_false (by omega)
        have e2n : decide (L ≤ I) = false := decide_eq_false (by omega)
        go_wp2_with fail
        obtain ⟨g1, hg1, hLc⟩ : ∃ g1, va1 = some ⟨g1, 0, none⟩ ∧ L ≤ vc1 := by
          rcases Hown61.out.2 with ⟨e, h0⟩ | ⟨g, cap, cur, e, _, _, hnc, _⟩
          · have := HL.out; omega
          · cases e; exact ⟨g, rfl, by have := HL.out; omega⟩
        subst hg1
        obtain ⟨M, hM⟩ : ∃ M, M = (ms.eraseIdx I).length := ⟨_, rfl⟩
        rw [← hM] at Hown6 ⊢
        have d7 := Hd6.out.drawn 1
        have x7 : w6.drew.heap[g5]? = _ := Hx6.out
        have own1 : MOwn w6.drew w.heap.size (.slice (some ⟨g1, 0, none⟩) L vc1) ms := by
          have h := Hown61.out
          exact ⟨h.1, h.2.imp id fun ⟨g, cap, cur, e, hB, rest⟩ => ⟨g, cap, cur, e, Nat.le_trans (by assumption) hB, rest⟩⟩
        have own2 : MOwn w6.drew w5.heap.size (.slice va2 M vc2) (ms.eraseIdx I) := Hown6.out
        replace d7 : Bx w w6.drew b _ (0, 0) R (ms.eraseIdx I) := d7
        clear Hown61 Hown6 Hd6 Hx6
        have HM := Lib.hid hM; clear hM
        have Hd7 := Lib.hid d7; clear d7
        have Hx7 := Lib.hid x7; clear x7
        have Hown1 := Lib.hid own1; clear own1
        have Hown2 := Lib.hid own2; clear own2
        refine wp_region_yield [0, 1, 2, 3, 4, 5, 6, 7, 8, 9, 10, 12, 13, 14, 16, 17] 18 [19, 21, 11, 15, 20, 22, 23, 24] (by kernel_rfl) (by kernel_rfl) rfl (by kernel_rfl)
          (fun _ _ _ h => by obtain ⟨_, h, _⟩ := h; cases h) (fun _ _ h => by obtain ⟨h, _⟩ := h; cases h) ?_
        simp only [List.map_cons, List.map_nil, List.getD_cons_zero, List.getD_cons_succ]
        generalize w6.drew = w7 at Hd7 Hx7 Hown1 Hown2 ⊢
        have c0 : w7.cell? ⟨g5, 0, none⟩ = some (.int .i64 m1) := cells_at Hx7.out 0
        have c1 : w7.cell? ⟨g5, 1, none⟩ = some (.int .i64 m2) := cells_at Hx7.out 1
        have c2 : w7.cell? ⟨g5, 2, none⟩ = some (.int .i64 m3) := cells_at Hx7.out 2
        have c3 : w7.cell? ⟨g5, 3, none⟩ = some (.int .i64 m4) := cells_at Hx7.out 3
        have hat : ∀ k u, (Msg.cells (m1, m2, m3, m4))[k]? = some u → w7.cell? ⟨g1, I * 4 + k, none⟩ = some u := by
          obtain ⟨a1, n1, c1, e1, X1, -⟩ := MOwn.msgs Hown1.out
          cases e1
          have hIl : I < ms.length := by rw [← HL.out]; exact hI
          have h1 := X1.at hIl
          have h2 : ms[I] = (m1, m2, m3, m4) := by rw [← Hm.out, Hmi.out, List.getD_eq_getElem?_getD, List.getElem?_eq_getElem hIl]; rfl
          rw [h2] at h1
          simpa only [Nat.zero_add] using h1
        simp only [Msg.cells, Msg.kind, Msg.part, Msg.tx, Msg.what] at hat
        have x0 := hat 0 _ rfl
        have x1 := hat 1 _ rfl
        have x2 := hat 2 _ rfl
        have x3 := hat 3 _ rfl
        simp only [Nat.add_zero] at x0
        clear hat
        have hq := fun w => msg_eql w (m1, m2, m3, m4) (m1, m2, m3, m4)
        have hg := fun x y w => msg_guard .eql x y (m1, m2, m3, m4) (m1, m2, m3, m4) w
        simp only [Msg.cells, Msg.kind, Msg.part, Msg.tx, Msg.what, decide_true] at hq hg
        have i1 : (0 : Int) ≤ (I : Int) := by omega
        have i2 : (I : Int) < (L : Int) := by omega
        have i3 : (I : Int) ≤ (vc1 : Int) := by omega
        have i4 : (vc1 == 0) = false := by simp; omega
        have i5 : vc1 ≠ 0 := by omega
        go_wp2_with fail
        refine yield_at (.int .i64 ((I : Int) + 1)) rfl (fun w2 => (congrArg (fun z => Result.ok (Next.value (.int .i64 z)) w2) (IntWalk.i64_in ((I : Int) + 1) (by omega)))) ?_
        simp only [List.map_cons, List.map_nil, List.getD_cons_zero, List.getD_cons_succ]
        clear c0 c1 c2 c3 x0 x1 x2 x3 hq hg
        have i6 : (0 : Int) ≤ (I : Int) + 1 := by omega
        have i7 : (I : Int) + 1 ≤ (L : Int) := by omega
        by_cases hc : vc1 = I + 1
        · obtain rfl : L = I + 1 := by omega
          subst hc
          go_wp2_with (with_reducible refine stop_builtin .append ?_)
          refine unpark ?_
          have b8 : Below w7.heap.size w7 (w7.alloc (.cells #[] 34)) := (Below.refl _ _).alloc (Nat.le_refl _) _
          have own8 : MOwn (w7.alloc (.cells #[] 34)) w7.heap.size (.slice (some ⟨w7.heap.size, 0, none⟩) 0 0) [] := World.ownsRow_made w7 #[] 0 (Nat.le_refl _) (by unfold maxLen; omega) rfl
          have own18 := Hown1.out.keep fun g _ hg => b8.block g hg
          have own28 := Hown2.out.keep fun g _ hg => b8.block g hg
          have d8 := Hd7.out.bel.trans (b8.mono Hd7.out.bel.size)
          have ho7 : (Value.slice (some ⟨w7.heap.size, 0, none⟩) 0 0).ownBlock = some w7.heap.size := by simp [Value.ownBlock]
          have lt1 : g1 < w7.heap.size := (World.ownsRow.lt Hown1.out g1 (by simp [Value.ownBlock])).2
          have lt2 := fun g hg => (World.ownsRow.lt Hown2.out g hg).2
          have lw := Hd7.out.bel.size
          obtain ⟨a1, n1, cc1, e1', X1, -⟩ := MOwn.msgs own18
          cases e1'
          have U := X1.upto (i := I) (by omega)
          have V : Msgs w7 (some ⟨g1, 0, none⟩) 0 0 [] := Msgs.none0 (by omega)
          generalize w7.alloc (.cells #[] 34) = w8 at b8 own8 own18 own28 d8 X1 U ⊢
          refine wpList_append_any _ rfl _ _ rfl w7.heap.size (.slice (some ⟨w7.heap.size, 0, none⟩) 0 0) [] rfl own8 (some ⟨g1, 0, none⟩) I (I + 1) (ms.take I) rfl U (by rw [List.length_nil]; omega) b8.size ?_
          intro v9 w9 own9 gr9 hv9
          rw [List.nil_append] at own9
          have b9 : Below w7.heap.size w7 w9 := b8.grown gr9 b8.size (fun k hk => (World.ownsRow.lt own8 k hk).1)
          have V9 : Msgs w9 (some ⟨g1, 0, none⟩) 0 0 [] := Msgs.none0 (by omega)
          clear b8 own8 U V hv9 X1 own18
          go_wp2_with (with_reducible refine stop_builtin .append ?_)
          refine unpark ?_
          refine wpList_append_any _ rfl _ _ rfl w7.heap.size _ (ms.take I) rfl own9 _ _ _ [] rfl V9 (by rw [List.length_take]; omega) b9.size ?_
          intro v10 w10 own10 gr10 hv10
          have b10 : Below w7.heap.size w7 w10 := b9.grown gr10 b9.size (fun k hk => (World.ownsRow.lt own9 k hk).1)
          have hcat : ms.take I ++ [] = ms.eraseIdx I := by rw [List.eraseIdx_eq_take_drop_succ, List.drop_of_length_le (by rw [← HL.out]; exact Nat.le_refl _)]
          rw [hcat] at own10
          have own210 := Hown2.out.keep fun g _ hg => b10.block g hg
          have bel10 := Hd7.out.bel.trans (b10.mono Hd7.out.bel.size)
          obtain ⟨a2, n2, cc2, e2', X2, -⟩ := MOwn.msgs own10
          subst e2'
          obtain ⟨a3, n3, cc3, e3', X3, -⟩ := MOwn.msgs own210
          cases e3'
          clear own9 gr9 own10 gr10 own210 own28 V9 b9 b10 hcat Hd7 Hown1 Hown2 d8 hv10
          have Hx2 := Lib.hid X2; clear X2
          have Hx3 := Lib.hid X3; clear X3
          have Hbel := Lib.hid bel10; clear bel10
          go_wp2_with fail
          refine (SameMsgs_calls Hx2.out Hx3.out rfl).mono ?_
          rintro e wz ⟨rfl, nd, rfl⟩
          have belz := Hbel.out.trans (below_drawn w10 nd |>.mono Hbel.out.size)
          have Hbz := Lib.hid belz; clear belz
          go_wp2_with fail
          go_ret
          exact ⟨rfl, Hbz.out⟩
        · go_wp2_with (with_reducible refine stop_builtin .append ?_)
          refine unpark ?_
          have b8 : Below w7.heap.size w7 (w7.alloc (.cells #[] 34)) := (Below.refl _ _).alloc (Nat.le_refl _) _
          have own8 : MOwn (w7.alloc (.cells #[] 34)) w7.heap.size (.slice (some ⟨w7.heap.size, 0, none⟩) 0 0) [] := World.ownsRow_made w7 #[] 0 (Nat.le_refl _) (by unfold maxLen; omega) rfl
          have own18 := Hown1.out.keep fun g _ hg => b8.block g hg
          have own28 := Hown2.out.keep fun g _ hg => b8.block g hg
          have d8 := Hd7.out.bel.trans (b8.mono Hd7.out.bel.size)
          have ho7 : (Value.slice (some ⟨w7.heap.size, 0, none⟩) 0 0).ownBlock = some w7.heap.size := by simp [Value.ownBlock]
          have lt1 : g1 < w7.heap.size := (World.ownsRow.lt Hown1.out g1 (by simp [Value.ownBlock])).2
          have lt2 := fun g hg => (World.ownsRow.lt Hown2.out g hg).2
          have lw := Hd7.out.bel.size
          obtain ⟨a1, n1, cc1, e1', X1, -⟩ := MOwn.msgs own18
          cases e1'
          have U := X1.upto (i := I) (by omega)
          have V := X1.from (i := I + 1) (by omega)
          rw [Nat.zero_add] at V
          generalize w7.alloc (.cells #[] 34) = w8 at b8 own8 own18 own28 d8 X1 U V ⊢
          refine wpList_append_any _ rfl _ _ rfl w7.heap.size (.slice (some ⟨w7.heap.size, 0, none⟩) 0 0) [] rfl own8 (some ⟨g1, 0, none⟩) I vc1 (ms.take I) rfl U (by rw [List.length_nil]; omega) b8.size ?_
          intro v9 w9 own9 gr9 hv9
          rw [List.nil_append] at own9
          have b9 : Below w7.heap.size w7 w9 := b8.grown gr9 b8.size (fun k hk => (World.ownsRow.lt own8 k hk).1)
          have V9 := V.keepPos (w' := w9) fun bb oo _ e _ => by cases e; exact (b9.block g1 lt1).trans (b8.block g1 lt1).symm
          clear b8 own8 U V hv9 X1 own18
          go_wp2_with (with_reducible refine stop_builtin .append ?_)
          refine unpark ?_
          refine wpList_append_any _ rfl _ _ rfl w7.heap.size _ (ms.take I) rfl own9 _ _ _ (ms.drop (I + 1)) rfl V9 (by rw [List.length_take]; omega) b9.size ?_
          intro v10 w10 own10 gr10 hv10
          have b10 : Below w7.heap.size w7 w10 := b9.grown gr10 b9.size (fun k hk => (World.ownsRow.lt own9 k hk).1)
          have hcat : ms.take I ++ ms.drop (I + 1) = ms.eraseIdx I := (List.eraseIdx_eq_take_drop_succ ..).symm
          rw [hcat] at own10
          have own210 := Hown2.out.keep fun g _ hg => b10.block g hg
          have bel10 := Hd7.out.bel.trans (b10.mono Hd7.out.bel.size)
          obtain ⟨a2, n2, cc2, e2', X2, -⟩ := MOwn.msgs own10
          subst e2'
          obtain ⟨a3, n3, cc3, e3', X3, -⟩ := MOwn.msgs own210
          cases e3'
          clear own9 gr9 own10 gr10 own210 own28 V9 b9 b10 hcat Hd7 Hown1 Hown2 d8 hv10
          have Hx2 := Lib.hid X2; clear X2
          have Hx3 := Lib.hid X3; clear X3
          have Hbel := Lib.hid bel10; clear bel10
          go_wp2_with fail
          refine (SameMsgs_calls Hx2.out Hx3.out rfl).mono ?_
          rintro e wz ⟨rfl, nd, rfl⟩
          have belz := Hbel.out.trans (below_drawn w10 nd |>.mono Hbel.out.size)
          have Hbz := Lib.hid belz; clear belz
          go_wp2_with fail
          go_ret
          exact ⟨rfl, Hbz.out⟩
      · rw [if_neg (by rw [← HL.out]; exact hin)] at ht
        simp only [noMsg, Msg.cells, Msg.kind, Msg.part, Msg.tx, Msg.what, Label.cells] at ht
        have Ht := Lib.hid ht; clear ht
        go_wp2_with fail
        refine Ht.out.mono ?_
        rintro e w4 ⟨rfl, d4, m4⟩
        have own4 := Hown1.out.grown m4 HF3.out
        clear Ht Hd3 Hown1 HF3 m4
        have Hd4 := Lib.hid d4; clear d4
        have Hown4 := Lib.hid own4; clear own4
        go_wp2_with fail
        have b5 : Below w4.heap.size w4 (w4.alloc (.cells #[.int .i64 0, .int .i64 0, .int .i64 0, .int .i64 0] 34)) := (Below.refl _ _).alloc (Nat.le_refl _) _
        generalize w4.alloc (.cells #[.int .i64 0, .int .i64 0, .int .i64 0, .int .i64 0] 34) = w5 at b5 ⊢
        have own5 := Hown4.out.keep fun g _ hg => b5.block g hg
        have d5 := Hd4.out.step b5
        have hls := List_bx d5 (0, 0) 0
        rw [show withOf (0, 0) (0, 0) 0 = true by decide] at hls
        simp only [if_true, Label.cells] at hls
        refine hls.mono ?_
        rintro e w6 ⟨v2, rfl, own6, b6, d6⟩
        have own61 := own5.keep fun g _ hg => b6.block g hg
        obtain ⟨va2, vc2, rfl⟩ := own_slice own6
        rw [← HL.out] at own6 ⊢
        clear hls d5 own5 Hown4 Hd4 b5 b6
        have Hd6 := Lib.hid d6; clear d6
        obtain ⟨a2, n2, c2, e2, x2, -⟩ := MOwn.msgs own6
        cases e2
        obtain ⟨a1, n1, c1, e1, x1, -⟩ := MOwn.msgs own61
        cases e1
        have X1 := Lib.hid x1; clear x1 own61
        have X2 := Lib.hid x2; clear x2 own6
        by_cases hq0 : q < 0
        · have e1 : decide (q < 0) = true := decide_eq_true hq0
          clear hin
          go_wp2_with fail
          refine (SameMsgs_calls X1.out X2.out rfl).mono ?_
          rintro e w7 ⟨rfl, nd, rfl⟩
          have bel := (Hd6.out.drawn nd).bel
          have Hbel := Lib.hid bel; clear bel
          go_wp2
          go_ret
          exact ⟨rfl, Hbel.out⟩
        · have e1 : decide (q < 0) = false := decide_eq_false hq0
          have e2 : decide ((L : Int) ≤ q) = true := decide_eq_true (by omega)
          clear hin
          go_wp2_with fail
          refine (SameMsgs_calls X1.out X2.out rfl).mono ?_
          rintro e w7 ⟨rfl, nd, rfl⟩
          have bel := (Hd6.out.drawn nd).bel
          have Hbel := Lib.hid bel; clear bel
          go_wp2
          go_ret
          exact ⟨rfl, Hbel.out⟩
end Go.Proofs.Ytjmifnhpgedafaa
