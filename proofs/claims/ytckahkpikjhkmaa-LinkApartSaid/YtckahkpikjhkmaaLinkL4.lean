/- The law LinkApart. -/
import Derived.Test.YtckahkpikjhkmaaLinkE
namespace Go.Proofs.Ytckahkpikjhkmaa
open Go.RowKit

set_option maxHeartbeats 16000000 in
set_option maxRecDepth 100000 in
theorem lawLinkApart {w : World} {P : Int} {a : Option Addr} {n c : Nat} {xs : List CallL} {pt : Int} {u : Bool} (_hP : (Lit.int .i64 P).wf = true) (hx : LRow w a n c xs) (_hpt : (Lit.int .i64 pt).wf = true) :
    Calls Try.prog 4 #[.int .i64 P, .slice a n c, .int .i64 pt, .bool u] w fun e w' => e = .returned (.bool true) ∧ Below w.heap.size w w' := by
  have hl := hx.recs.len
  have Hx := Lib.hid hx; clear hx
  have Hl := Lib.hid hl; clear hl
  clear _hP _hpt
  go_enter Try.func4, Try.ntmps4
  go_wp2_with fail
  refine alive_calls.mono ?_
  rintro e w1 ⟨rfl, b1⟩
  have Hb1 := Lib.hid b1; clear b1
  go_wp2_with fail
  refine (great_calls (Hx.out.keep Hb1.out)).mono ?_
  rintro e w1 ⟨G, rfl, rfl, hG⟩
  cases G with
  | true =>
    clear hG
    go_wp2
    go_ret
    exact ⟨rfl, Hb1.out⟩
  | false =>
  obtain ⟨hn, h60⟩ := hG rfl
  clear hG
  have H60 := Lib.hid h60; clear h60
  by_cases h1 : P < 1
  · have e1 : decide (P < 1) = true := decide_eq_true h1
    go_wp2
    go_ret
    exact ⟨rfl, Hb1.out⟩
  have e1 : decide (P < 1) = false := decide_eq_false h1
  by_cases h2 : 6 < P
  · have e2 : decide (6 < P) = true := decide_eq_true h2
    go_wp2
    go_ret
    exact ⟨rfl, Hb1.out⟩
  have e2 : decide (6 < P) = false := decide_eq_false h2
  obtain ⟨n1, rfl⟩ : ∃ p : Nat, P = p := ⟨P.toNat, by omega⟩
  have hp1 : 1 ≤ n1 := by omega
  have hp6 : n1 ≤ 6 := by omega
  clear h1 h2
  have hnew := New_lk (w0 := w) (n := n1) Hb1.out hp1 hp6
  have Hnew := Lib.hid hnew; clear hnew
  go_wp2_with fail
  refine Hnew.out.mono ?_
  rintro e w2 ⟨b1, F1, rfl, l2, -, -⟩
  have hnew := New_lk (w0 := w) (n := n1) l2.bel hp1 hp6
  have Hl2 := Lib.hid l2; clear l2 Hnew Hb1 e1 e2
  have Hnew := Lib.hid hnew; clear hnew
  go_wp2_with fail
  refine Hnew.out.mono ?_
  rintro e w3 ⟨b2, F2, rfl, l3, hF2, b3⟩
  have hT : Duo w w3 b1 b2 F1 F2 n1 ls0 ls0 := ⟨Hl2.out.step b3, l3, fun k h1 h2 => by have := (Hl2.out.low k h1).2; have := hF2 k h2; omega⟩
  clear Hnew Hl2 l3 hF2 b3
  have Ht := Lib.hid hT; clear hT
  go_wp2_with fail
  go_loopw [13] (fun i wr => ∃ (j : Nat) (F1 F2 : Nat → Prop) (lsa lsb : Pla → List Msg), j ≤ n ∧ i = .int .i64 j ∧ Duo w wr b1 b2 F1 F2 n1 lsa lsb ∧ lsa (pt, u) = lsb (pt, u)) (fun i _ => n - (intOf i).toNat)
  case atStart => exact ⟨0, F1, F2, ls0, ls0, by omega, rfl, Ht.out, rfl⟩
  case round =>
    clear Ht
    obtain ⟨j, F1, F2, lsa, lsb, hj, rfl, hT, heq⟩ := hrel
    by_cases hlt : j < n
    · have hxr := (Hx.out.keep hT.a.bel).recs
      obtain ⟨bx, ox, rfl⟩ := hxr.addr (by omega)
      have hjx : j < xs.length := by rw [Hl.out]; exact hlt
      have hcx := hxr.at hjx
      have hok := Hx.out.ok _ (List.getElem_mem hjx)
      have h60 := H60.out _ (List.getElem_mem hjx)
      obtain ⟨x, hxx⟩ : ∃ x, x = xs[j] := ⟨_, rfl⟩
      rw [← hxx] at hcx hok h60
      clear hxx hxr
      obtain ⟨k0, kp, ki, ku, ks, la, ln, lc, ms⟩ := x
      have hlist := hok.list
      simp only at hlist h60
      clear hok
      have x0 : wr.cell? ⟨bx, ox + j * 6, none⟩ = some (.int .i64 k0) := hcx 0 _ rfl
      have x1 : wr.cell? ⟨bx, ox + j * 6 + 1, none⟩ = some (.int .i64 kp) := hcx 1 _ rfl
      have x2 : wr.cell? ⟨bx, ox + j * 6 + 2, none⟩ = some (.int .i64 ki) := hcx 2 _ rfl
      have x3 : wr.cell? ⟨bx, ox + j * 6 + 3, none⟩ = some (.bool ku) := hcx 3 _ rfl
      have x4 : wr.cell? ⟨bx, ox + j * 6 + 4, none⟩ = some (.bool ks) := hcx 4 _ rfl
      have x5 : wr.cell? ⟨bx, ox + j * 6 + 5, none⟩ = some (.slice la ln lc) := hcx 5 _ rfl
      clear hcx
      have i1 : (0 : Int) ≤ (j : Int) := by omega
      have i2 : (j : Int) < (n : Int) := by omega
      have b5 := (Below.refl wr.heap.size wr).alloc (Nat.le_refl _) (.cells #[.int .i64 k0, .int .i64 kp, .int .i64 ki, .bool ku, .bool ks, .slice la ln lc] 34)
      have y5 := heap_alloc_new wr (.cells #[.int .i64 k0, .int .i64 kp, .int .i64 ki, .bool ku, .bool ks, .slice la ln lc] 34)
      have hT5 := hT.step b5
      have hS : Aside2 (wr.alloc (.cells #[.int .i64 k0, .int .i64 kp, .int .i64 ki, .bool ku, .bool ks, .slice la ln lc] 34)) wr.heap.size (.cells #[.int .i64 k0, .int .i64 kp, .int .i64 ki, .bool ku, .bool ks, .slice la ln lc] 34) F1 F2 :=
        ⟨y5, fun hf => by have := (hT.a.low _ hf).2; omega, fun hf => by have := (hT.b.low _ hf).2; omega⟩
      clear b5 y5 hT
      have hT := hT5
      clear hT5
      go_wp2_with (with_reducible refine stop_load 3 ?_)
      refine unpark ?_
      clear x0 x1 x2 x3 x4 x5
      generalize wr.heap.size = g9 at *
      generalize wr.alloc (.cells #[.int .i64 k0, .int .i64 kp, .int .i64 ki, .bool ku, .bool ks, .slice la ln lc] 34) = w5 at *
      have y0 := cells_at hS.is 0
      have y1 := cells_at hS.is 1
      have y2 := cells_at hS.is 2
      have y3 := cells_at hS.is 3
      have y4 := cells_at hS.is 4
      have y5 := cells_at hS.is 5
      have Hs := Lib.hid hS; clear hS
      have Ht := Lib.hid hT; clear hT
      have Hlist := Lib.hid hlist
      by_cases hown : kp = pt ∧ ku = u
      · obtain ⟨rfl, rfl⟩ := hown
        have e1 : (kp == kp) = true := by simp
        have e2 : (ku == ku) = true := by cases ku <;> rfl
        by_cases w0 : k0 = 0
        · subst w0
          as_aux_lemma =>
            have hown := put_own (n := n1) heq ms
            have hc := Put_lk Ht.out.a (kp, ku) (hlist.keep Ht.out.a.bel) (by omega)
            generalize putN n1 lsa (kp, ku) ms = Ra at hc hown
            have hc2 := fun (w' : World) (ls : Pla → List Msg) => ()
            clear hc2
            obtain ⟨aN, aE, aL⟩ := Ra
            simp only at hc
            simp only at hown
            have Hc := Lib.hid hc; clear hc
            have Hx2 := Lib.hid hown; clear hown
            go_wp2_with fail
            refine Hc.out.mono ?_
            rintro e w6 ⟨rfl, l6, m6⟩
            have hT := Ht.out.left l6 m6
            have hS := Hs.out.left m6
            clear Ht Hs l6 m6 y1 y2 y3 y4 y5 Hc
            generalize grownF F1 _ w6 = F6 at hT hS
            have y1 := cells_at hS.is 1
            have y2 := cells_at hS.is 2
            have y3 := cells_at hS.is 3
            have y4 := cells_at hS.is 4
            have y5 := cells_at hS.is 5
            have Hs := Lib.hid hS; clear hS
            have Ht := Lib.hid hT; clear hT
            have hc := Put_lk Ht.out.b (kp, ku) (hlist.keep Ht.out.b.bel) (by omega)
            have hown := Hx2.out
            generalize putN n1 lsb (kp, ku) ms = Rb at hc hown
            obtain ⟨bN, bE, bL⟩ := Rb
            obtain ⟨h1, h2, heq2⟩ := hown
            simp only at h1 h2 heq2 hc
            subst h1 h2
            have Hc := Lib.hid hc; clear hc Hx2
            go_wp2_with fail
            refine Hc.out.mono ?_
            rintro e w8 ⟨rfl, l8, m8⟩
            have hT := Ht.out.right l8 m8
            have hS := Hs.out.right m8
            clear Ht Hs l8 m8 y1 y2 y3 y4 y5 Hc
            generalize grownF F2 _ w8 = F8 at hT hS
            have y1 := cells_at hS.is 1
            have y2 := cells_at hS.is 2
            have y3 := cells_at hS.is 3
            have y4 := cells_at hS.is 4
            have y5 := cells_at hS.is 5
            have Hs := Lib.hid hS; clear hS
            have Ht := Lib.hid hT; clear hT
            have hc := Bag_lk Ht.out.a (kp, ku)
            rw [heq2] at hc
            obtain ⟨BB, hBB⟩ : ∃ BB, BB = if ((kp, ku) : Pla) ∈ keysOf n1 then bL (kp, ku) else [] := ⟨_, rfl⟩
            rw [← hBB] at hc
            have HBB := Lib.hid hBB; clear hBB
            have Hc := Lib.hid hc; clear hc
            go_wp2_with fail
            refine Hc.out.mono ?_
            rintro e wA ⟨v1', rfl, ov1, bA⟩
            obtain ⟨a1', c1', rfl, rec1, -⟩ := ov1.recs
            have hT := Ht.out.step bA
            clear Ht Hs y1 y2 y3 y4 y5 Hc ov1 bA
            have Ht := Lib.hid hT; clear hT
            have hc := Bag_lk Ht.out.b (kp, ku)
            rw [← HBB.out] at hc
            have Hc := Lib.hid hc; clear hc HBB
            have Rec1 := Lib.hid rec1; clear rec1
            go_wp2_with fail
            refine Hc.out.mono ?_
            rintro e wB ⟨v2', rfl, ov2, bB⟩
            obtain ⟨a2', c2', rfl, rec2, -⟩ := ov2.recs
            have hcmp := SameMsgs_calls (Rec1.out.keep bB) rec2
            have hT := Ht.out.step bB
            clear Ht Hc Rec1 rec2 ov2 bB
            have Ht := Lib.hid hT; clear hT
            have Hcmp := Lib.hid hcmp; clear hcmp
            go_wp2_with fail
            refine Hcmp.out.mono ?_
            rintro e wC ⟨rfl, nd, rfl⟩
            have hT := Ht.out.step (below_drawn _ nd)
            clear Ht Hcmp
            have Ht := Lib.hid hT; clear hT
            go_wp2_with fail
            go_roundw
            case rel => exact ⟨j + 1, F6, F8, aL, bL, by omega, by go_num, Ht.out, heq2⟩
            case measure => simp [intOf]; omega
        by_cases w1 : k0 = 1
        · subst w1
          as_aux_lemma =>
            have hown := take_own (n := n1) heq ki ks
            have hc := Take_lk Ht.out.a (kp, ku) ki ks
            generalize takeN n1 lsa (kp, ku) ki ks = Ra at hc hown
            have hc2 := fun (w' : World) (ls : Pla → List Msg) => ()
            clear hc2
            obtain ⟨⟨a1, a2, a3, a4⟩, aE, aL⟩ := Ra
            simp only [Msg.cells, Msg.kind, Msg.part, Msg.tx, Msg.what] at hc
            simp only at hown
            have Hc := Lib.hid hc; clear hc
            have Hx2 := Lib.hid hown; clear hown
            go_wp2_with fail
            refine Hc.out.mono ?_
            rintro e w6 ⟨rfl, l6, m6⟩
            have hT := Ht.out.left l6 m6
            have hS := Hs.out.left m6
            clear Ht Hs l6 m6 y1 y2 y3 y4 y5 Hc
            generalize grownF F1 _ w6 = F6 at hT hS
            have b7 := (Below.refl w6.heap.size w6).alloc (Nat.le_refl _) (.cells #[.int .i64 a1, .int .i64 a2, .int .i64 a3, .int .i64 a4] 38)
            have x7 := heap_alloc_new w6 (.cells #[.int .i64 a1, .int .i64 a2, .int .i64 a3, .int .i64 a4] 38)
            have hT2 := hT.step b7
            have hS2 := hS.step b7
            have n7 : ¬ F2 w6.heap.size := fun hf => by have := (hT.b.low _ hf).2; omega
            clear hT hS
            have hT := hT2
            have hS := hS2
            clear hT2 hS2 b7
            have y1 := cells_at hS.is 1
            have y2 := cells_at hS.is 2
            have y3 := cells_at hS.is 3
            have y4 := cells_at hS.is 4
            have y5 := cells_at hS.is 5
            have Hs := Lib.hid hS; clear hS
            have Ht := Lib.hid hT; clear hT
            have X7 := Lib.hid x7; clear x7
            have hc := Take_lk Ht.out.b (kp, ku) ki ks
            have hown := Hx2.out
            generalize takeN n1 lsb (kp, ku) ki ks = Rb at hc hown
            obtain ⟨⟨b1', b2', b3', b4'⟩, bE, bL⟩ := Rb
            obtain ⟨h1, rfl, heq2⟩ := hown
            cases h1
            simp only [Msg.cells, Msg.kind, Msg.part, Msg.tx, Msg.what] at hc
            simp only at heq2
            have hq := fun w => msg_neq w (a1, a2, a3, a4) (a1, a2, a3, a4)
            have hg := fun x y w => msg_guard .neq x y (a1, a2, a3, a4) (a1, a2, a3, a4) w
            simp only [Msg.cells, Msg.kind, Msg.part, Msg.tx, Msg.what, decide_true, Bool.not_true] at hq hg
            have Hc := Lib.hid hc; clear hc Hx2
            have Hq := Lib.hid hq; clear hq
            have Hg := Lib.hid hg; clear hg
            go_wp2_with fail
            generalize w6.heap.size = g7 at *
            generalize w6.alloc (.cells #[.int .i64 a1, .int .i64 a2, .int .i64 a3, .int .i64 a4] 38) = w7 at *
            refine Hc.out.mono ?_
            rintro e w8 ⟨rfl, l8, m8⟩
            have hT := Ht.out.right l8 m8
            have hS := Hs.out.right m8
            have x8 := (m8.block g7 (Array.getElem?_eq_some_iff.1 X7.out).1 n7).trans X7.out
            clear Ht Hs l8 m8 y1 y2 y3 y4 y5 Hc
            generalize grownF F2 _ w8 = F8 at hT hS
            have b9 := (Below.refl w8.heap.size w8).alloc (Nat.le_refl _) (.cells #[.int .i64 a1, .int .i64 a2, .int .i64 a3, .int .i64 a4] 38)
            have x9 := heap_alloc_new w8 (.cells #[.int .i64 a1, .int .i64 a2, .int .i64 a3, .int .i64 a4] 38)
            have z9 := (b9.block g7 (Array.getElem?_eq_some_iff.1 x8).1).trans x8
            have hT2 := hT.step b9
            have hS2 := hS.step b9
            clear hT hS x8 X7
            have hT := hT2
            have hS := hS2
            clear hT2 hS2 b9
            have u0 := cells_at z9 0
            have u1 := cells_at z9 1
            have u2' := cells_at z9 2
            have u3' := cells_at z9 3
            have v0 := cells_at x9 0
            have v1 := cells_at x9 1
            have v2 := cells_at x9 2
            have v3 := cells_at x9 3
            clear z9 x9
            have hq := Hq.out
            have hg := Hg.out
            have y1 := cells_at hS.is 1
            have y2 := cells_at hS.is 2
            have y3 := cells_at hS.is 3
            have y4 := cells_at hS.is 4
            have y5 := cells_at hS.is 5
            have Hs := Lib.hid hS; clear hS
            have Ht := Lib.hid hT; clear hT
            have hc := Bag_lk Ht.out.a (kp, ku)
            rw [heq2] at hc
            obtain ⟨BB, hBB⟩ : ∃ BB, BB = if ((kp, ku) : Pla) ∈ keysOf n1 then bL (kp, ku) else [] := ⟨_, rfl⟩
            rw [← hBB] at hc
            have HBB := Lib.hid hBB; clear hBB
            have Hc := Lib.hid hc; clear hc
            go_wp2_with fail
            refine Hc.out.mono ?_
            rintro e wA ⟨v1', rfl, ov1, bA⟩
            obtain ⟨a1', c1', rfl, rec1, -⟩ := ov1.recs
            have hT := Ht.out.step bA
            clear Ht Hs y1 y2 y3 y4 y5 Hc ov1 bA
            have Ht := Lib.hid hT; clear hT
            have hc := Bag_lk Ht.out.b (kp, ku)
            rw [← HBB.out] at hc
            have Hc := Lib.hid hc; clear hc HBB
            have Rec1 := Lib.hid rec1; clear rec1
            go_wp2_with fail
            refine Hc.out.mono ?_
            rintro e wB ⟨v2', rfl, ov2, bB⟩
            obtain ⟨a2', c2', rfl, rec2, -⟩ := ov2.recs
            have hcmp := SameMsgs_calls (Rec1.out.keep bB) rec2
            have hT := Ht.out.step bB
            clear Ht Hc Rec1 rec2 ov2 bB
            have Ht := Lib.hid hT; clear hT
            have Hcmp := Lib.hid hcmp; clear hcmp
            go_wp2_with fail
            refine Hcmp.out.mono ?_
            rintro e wC ⟨rfl, nd, rfl⟩
            have hT := Ht.out.step (below_drawn _ nd)
            clear Ht Hcmp
            have Ht := Lib.hid hT; clear hT
            go_wp2_with fail
            go_roundw
            case rel => exact ⟨j + 1, F6, F8, aL, bL, by omega, by go_num, Ht.out, heq2⟩
            case measure => simp [intOf]; omega
        by_cases w2 : k0 = 2
        · subst w2
          as_aux_lemma =>
            have hown := take_own (n := n1) heq ki false
            have hc := Drop_lk Ht.out.a (kp, ku) ki
            generalize takeN n1 lsa (kp, ku) ki false = Ra at hc hown
            have hc2 := fun (w' : World) (ls : Pla → List Msg) => ()
            clear hc2
            obtain ⟨aM, aE, aL⟩ := Ra
            simp only at hc
            simp only at hown
            have Hc := Lib.hid hc; clear hc
            have Hx2 := Lib.hid hown; clear hown
            go_wp2_with fail
            refine Hc.out.mono ?_
            rintro e w6 ⟨rfl, l6, m6⟩
            have hT := Ht.out.left l6 m6
            have hS := Hs.out.left m6
            clear Ht Hs l6 m6 y1 y2 y3 y4 y5 Hc
            generalize grownF F1 _ w6 = F6 at hT hS
            have y1 := cells_at hS.is 1
            have y2 := cells_at hS.is 2
            have y3 := cells_at hS.is 3
            have y4 := cells_at hS.is 4
            have y5 := cells_at hS.is 5
            have Hs := Lib.hid hS; clear hS
            have Ht := Lib.hid hT; clear hT
            have hc := Drop_lk Ht.out.b (kp, ku) ki
            have hown := Hx2.out
            generalize takeN n1 lsb (kp, ku) ki false = Rb at hc hown
            obtain ⟨bM, bE, bL⟩ := Rb
            obtain ⟨-, h2, heq2⟩ := hown
            simp only at h2 heq2 hc
            subst h2
            have Hc := Lib.hid hc; clear hc Hx2
            go_wp2_with fail
            refine Hc.out.mono ?_
            rintro e w8 ⟨rfl, l8, m8⟩
            have hT := Ht.out.right l8 m8
            have hS := Hs.out.right m8
            clear Ht Hs l8 m8 y1 y2 y3 y4 y5 Hc
            generalize grownF F2 _ w8 = F8 at hT hS
            have y1 := cells_at hS.is 1
            have y2 := cells_at hS.is 2
            have y3 := cells_at hS.is 3
            have y4 := cells_at hS.is 4
            have y5 := cells_at hS.is 5
            have Hs := Lib.hid hS; clear hS
            have Ht := Lib.hid hT; clear hT
            have hc := Bag_lk Ht.out.a (kp, ku)
            rw [heq2] at hc
            obtain ⟨BB, hBB⟩ : ∃ BB, BB = if ((kp, ku) : Pla) ∈ keysOf n1 then bL (kp, ku) else [] := ⟨_, rfl⟩
            rw [← hBB] at hc
            have HBB := Lib.hid hBB; clear hBB
            have Hc := Lib.hid hc; clear hc
            go_wp2_with fail
            refine Hc.out.mono ?_
            rintro e wA ⟨v1', rfl, ov1, bA⟩
            obtain ⟨a1', c1', rfl, rec1, -⟩ := ov1.recs
            have hT := Ht.out.step bA
            clear Ht Hs y1 y2 y3 y4 y5 Hc ov1 bA
            have Ht := Lib.hid hT; clear hT
            have hc := Bag_lk Ht.out.b (kp, ku)
            rw [← HBB.out] at hc
            have Hc := Lib.hid hc; clear hc HBB
            have Rec1 := Lib.hid rec1; clear rec1
            go_wp2_with fail
            refine Hc.out.mono ?_
            rintro e wB ⟨v2', rfl, ov2, bB⟩
            obtain ⟨a2', c2', rfl, rec2, -⟩ := ov2.recs
            have hcmp := SameMsgs_calls (Rec1.out.keep bB) rec2
            have hT := Ht.out.step bB
            clear Ht Hc Rec1 rec2 ov2 bB
            have Ht := Lib.hid hT; clear hT
            have Hcmp := Lib.hid hcmp; clear hcmp
            go_wp2_with fail
            refine Hcmp.out.mono ?_
            rintro e wC ⟨rfl, nd, rfl⟩
            have hT := Ht.out.step (below_drawn _ nd)
            clear Ht Hcmp
            have Ht := Lib.hid hT; clear hT
            go_wp2_with fail
            go_roundw
            case rel => exact ⟨j + 1, F6, F8, aL, bL, by omega, by go_num, Ht.out, heq2⟩
            case measure => simp [intOf]; omega
        by_cases w3 : k0 = 3
        · subst w3
          as_aux_lemma =>
            have hown := clear_own (n := n1) heq
            have hc := Clear_lk Ht.out.a (kp, ku) 
            generalize clearN n1 lsa (kp, ku) = Ra at hc hown
            have hc2 := fun (w' : World) (ls : Pla → List Msg) => ()
            clear hc2
            obtain ⟨aN, aL⟩ := Ra
            simp only at hc
            simp only at hown
            have Hc := Lib.hid hc; clear hc
            have Hx2 := Lib.hid hown; clear hown
            go_wp2_with fail
            refine Hc.out.mono ?_
            rintro e w6 ⟨rfl, l6, m6⟩
            have hT := Ht.out.left l6 m6
            have hS := Hs.out.left m6
            clear Ht Hs l6 m6 y1 y2 y3 y4 y5 Hc
            generalize grownF F1 _ w6 = F6 at hT hS
            have y1 := cells_at hS.is 1
            have y2 := cells_at hS.is 2
            have y3 := cells_at hS.is 3
            have y4 := cells_at hS.is 4
            have y5 := cells_at hS.is 5
            have Hs := Lib.hid hS; clear hS
            have Ht := Lib.hid hT; clear hT
            have hc := Clear_lk Ht.out.b (kp, ku) 
            have hown := Hx2.out
            generalize clearN n1 lsb (kp, ku) = Rb at hc hown
            obtain ⟨bN, bL⟩ := Rb
            obtain ⟨h1, heq2⟩ := hown
            simp only at h1 heq2 hc
            subst h1
            have Hc := Lib.hid hc; clear hc Hx2
            go_wp2_with fail
            refine Hc.out.mono ?_
            rintro e w8 ⟨rfl, l8, m8⟩
            have hT := Ht.out.right l8 m8
            have hS := Hs.out.right m8
            clear Ht Hs l8 m8 y1 y2 y3 y4 y5 Hc
            generalize grownF F2 _ w8 = F8 at hT hS
            have y1 := cells_at hS.is 1
            have y2 := cells_at hS.is 2
            have y3 := cells_at hS.is 3
            have y4 := cells_at hS.is 4
            have y5 := cells_at hS.is 5
            have Hs := Lib.hid hS; clear hS
            have Ht := Lib.hid hT; clear hT
            have hc := Bag_lk Ht.out.a (kp, ku)
            rw [heq2] at hc
            obtain ⟨BB, hBB⟩ : ∃ BB, BB = if ((kp, ku) : Pla) ∈ keysOf n1 then bL (kp, ku) else [] := ⟨_, rfl⟩
            rw [← hBB] at hc
            have HBB := Lib.hid hBB; clear hBB
            have Hc := Lib.hid hc; clear hc
            go_wp2_with fail
            refine Hc.out.mono ?_
            rintro e wA ⟨v1', rfl, ov1, bA⟩
            obtain ⟨a1', c1', rfl, rec1, -⟩ := ov1.recs
            have hT := Ht.out.step bA
            clear Ht Hs y1 y2 y3 y4 y5 Hc ov1 bA
            have Ht := Lib.hid hT; clear hT
            have hc := Bag_lk Ht.out.b (kp, ku)
            rw [← HBB.out] at hc
            have Hc := Lib.hid hc; clear hc HBB
            have Rec1 := Lib.hid rec1; clear rec1
            go_wp2_with fail
            refine Hc.out.mono ?_
            rintro e wB ⟨v2', rfl, ov2, bB⟩
            obtain ⟨a2', c2', rfl, rec2, -⟩ := ov2.recs
            have hcmp := SameMsgs_calls (Rec1.out.keep bB) rec2
            have hT := Ht.out.step bB
            clear Ht Hc Rec1 rec2 ov2 bB
            have Ht := Lib.hid hT; clear hT
            have Hcmp := Lib.hid hcmp; clear hcmp
            go_wp2_with fail
            refine Hcmp.out.mono ?_
            rintro e wC ⟨rfl, nd, rfl⟩
            have hT := Ht.out.step (below_drawn _ nd)
            clear Ht Hcmp
            have Ht := Lib.hid hT; clear hT
            go_wp2_with fail
            go_roundw
            case rel => exact ⟨j + 1, F6, F8, aL, bL, by omega, by go_num, Ht.out, heq2⟩
            case measure => simp [intOf]; omega
        have z0 : (k0 == 0) = false := by simpa using w0
        have z1 : (k0 == 1) = false := by simpa using w1
        have z2 : (k0 == 2) = false := by simpa using w2
        have z3 : (k0 == 3) = false := by simpa using w3
        clear w0 w1 w2 w3
        have hc := Bag_lk Ht.out.a (kp, ku)
        rw [heq] at hc
        obtain ⟨BB, hBB⟩ : ∃ BB, BB = if ((kp, ku) : Pla) ∈ keysOf n1 then lsb (kp, ku) else [] := ⟨_, rfl⟩
        rw [← hBB] at hc
        have HBB := Lib.hid hBB; clear hBB
        have Hc := Lib.hid hc; clear hc
        go_wp2_with fail
        refine Hc.out.mono ?_
        rintro e wA ⟨v1', rfl, ov1, bA⟩
        obtain ⟨a1', c1', rfl, rec1, -⟩ := ov1.recs
        have hT := Ht.out.step bA
        clear Ht Hs y1 y2 y3 y4 y5 Hc ov1 bA
        have Ht := Lib.hid hT; clear hT
        have hc := Bag_lk Ht.out.b (kp, ku)
        rw [← HBB.out] at hc
        have Hc := Lib.hid hc; clear hc HBB
        have Rec1 := Lib.hid rec1; clear rec1
        go_wp2_with fail
        refine Hc.out.mono ?_
        rintro e wB ⟨v2', rfl, ov2, bB⟩
        obtain ⟨a2', c2', rfl, rec2, -⟩ := ov2.recs
        have hcmp := SameMsgs_calls (Rec1.out.keep bB) rec2
        have hT := Ht.out.step bB
        clear Ht Hc Rec1 rec2 ov2 bB
        have Ht := Lib.hid hT; clear hT
        have Hcmp := Lib.hid hcmp; clear hcmp
        go_wp2_with fail
        refine Hcmp.out.mono ?_
        rintro e wC ⟨rfl, nd, rfl⟩
        have hT := Ht.out.step (below_drawn _ nd)
        clear Ht Hcmp
        have Ht := Lib.hid hT; clear hT
        go_wp2_with fail
        go_roundw
        case rel => exact ⟨j + 1, F1, F2, lsa, lsb, by omega, by go_num, Ht.out, heq⟩
        case measure => simp [intOf]; omega
      · have hne : ((kp, ku) : Pla) ≠ (pt, u) := fun e => hown ⟨(Prod.mk.inj e).1, (Prod.mk.inj e).2⟩
        have hd : (kp == pt) = false ∨ ((kp == pt) = true ∧ (ku == u) = false) := by
          by_cases h1 : kp = pt
          · exact .inr ⟨by simpa using h1, by simpa using fun h2 => hown ⟨h1, h2⟩⟩
          · exact .inl (by simpa using h1)
        clear hown
        rcases hd with e1 | ⟨e1, e2⟩
        all_goals
          by_cases w0 : k0 = 0
          · subst w0
            as_aux_lemma =>
              have hoth := put_other (n := n1) (ls := lsa) hne ms
              have hc := Put_lk Ht.out.a (kp, ku) (hlist.keep Ht.out.a.bel) (by omega)
              generalize putN n1 lsa (kp, ku) ms = Ra at hc hoth
              obtain ⟨aN, aE, aL⟩ := Ra
              simp only at hc
              simp only at hoth
              have Hc := Lib.hid hc; clear hc
              have Hx2 := Lib.hid hoth; clear hoth
              go_wp2_with fail
              refine Hc.out.mono ?_
              rintro e w6 ⟨rfl, l6, m6⟩
              have hT := Ht.out.left l6 m6
              have hS := Hs.out.left m6
              clear Ht Hs l6 m6 y1 y2 y3 y4 y5 Hc
              generalize grownF F1 _ w6 = F6 at hT hS
              have y1 := cells_at hS.is 1
              have y2 := cells_at hS.is 2
              have y3 := cells_at hS.is 3
              have y4 := cells_at hS.is 4
              have y5 := cells_at hS.is 5
              have Hs := Lib.hid hS; clear hS
              have Ht := Lib.hid hT; clear hT
              have heq2 := Hx2.out.trans heq
              clear Hx2
              have hc := Bag_lk Ht.out.a (pt, u)
              rw [heq2] at hc
              obtain ⟨BB, hBB⟩ : ∃ BB, BB = if ((pt, u) : Pla) ∈ keysOf n1 then lsb (pt, u) else [] := ⟨_, rfl⟩
              rw [← hBB] at hc
              have HBB := Lib.hid hBB; clear hBB
              have Hc := Lib.hid hc; clear hc
              go_wp2_with fail
              refine Hc.out.mono ?_
              rintro e wA ⟨v1', rfl, ov1, bA⟩
              obtain ⟨a1', c1', rfl, rec1, -⟩ := ov1.recs
              have hT := Ht.out.step bA
              clear Ht Hs y1 y2 y3 y4 y5 Hc ov1 bA
              have Ht := Lib.hid hT; clear hT
              have hc := Bag_lk Ht.out.b (pt, u)
              rw [← HBB.out] at hc
              have Hc := Lib.hid hc; clear hc HBB
              have Rec1 := Lib.hid rec1; clear rec1
              go_wp2_with fail
              refine Hc.out.mono ?_
              rintro e wB ⟨v2', rfl, ov2, bB⟩
              obtain ⟨a2', c2', rfl, rec2, -⟩ := ov2.recs
              have hcmp := SameMsgs_calls (Rec1.out.keep bB) rec2
              have hT := Ht.out.step bB
              clear Ht Hc Rec1 rec2 ov2 bB
              have Ht := Lib.hid hT; clear hT
              have Hcmp := Lib.hid hcmp; clear hcmp
              go_wp2_with fail
              refine Hcmp.out.mono ?_
              rintro e wC ⟨rfl, nd, rfl⟩
              have hT := Ht.out.step (below_drawn _ nd)
              clear Ht Hcmp
              have Ht := Lib.hid hT; clear hT
              go_wp2_with fail
              go_roundw
              case rel => exact ⟨j + 1, F6, F2, aL, lsb, by omega, by go_num, Ht.out, heq2⟩
              case measure => simp [intOf]; omega
          by_cases w1 : k0 = 1
          · subst w1
            as_aux_lemma =>
              have hoth := take_other (n := n1) (ls := lsa) hne ki ks
              have hc := Take_lk Ht.out.a (kp, ku) ki ks
              generalize takeN n1 lsa (kp, ku) ki ks = Ra at hc hoth
              obtain ⟨⟨a1, a2, a3, a4⟩, aE, aL⟩ := Ra
              simp only [Msg.cells, Msg.kind, Msg.part, Msg.tx, Msg.what] at hc
              simp only at hoth
              have Hc := Lib.hid hc; clear hc
              have Hx2 := Lib.hid hoth; clear hoth
              go_wp2_with fail
              refine Hc.out.mono ?_
              rintro e w6 ⟨rfl, l6, m6⟩
              have hT := Ht.out.left l6 m6
              have hS := Hs.out.left m6
              clear Ht Hs l6 m6 y1 y2 y3 y4 y5 Hc
              generalize grownF F1 _ w6 = F6 at hT hS
              have b7 := (Below.refl w6.heap.size w6).alloc (Nat.le_refl _) (.cells #[.int .i64 a1, .int .i64 a2, .int .i64 a3, .int .i64 a4] 38)
              have x7 := heap_alloc_new w6 (.cells #[.int .i64 a1, .int .i64 a2, .int .i64 a3, .int .i64 a4] 38)
              have hT2 := hT.step b7
              have hS2 := hS.step b7
              have n7 : ¬ F2 w6.heap.size := fun hf => by have := (hT.b.low _ hf).2; omega
              clear hT hS
              have hT := hT2
              have hS := hS2
              clear hT2 hS2 b7
              have y1 := cells_at hS.is 1
              have y2 := cells_at hS.is 2
              have y3 := cells_at hS.is 3
              have y4 := cells_at hS.is 4
              have y5 := cells_at hS.is 5
              have Hs := Lib.hid hS; clear hS
              have Ht := Lib.hid hT; clear hT
              have X7 := Lib.hid x7; clear x7
              have heq2 := Hx2.out.trans heq
              clear Hx2
              have hc := Bag_lk Ht.out.a (pt, u)
              rw [heq2] at hc
              obtain ⟨BB, hBB⟩ : ∃ BB, BB = if ((pt, u) : Pla) ∈ keysOf n1 then lsb (pt, u) else [] := ⟨_, rfl⟩
              rw [← hBB] at hc
              have HBB := Lib.hid hBB; clear hBB
              have Hc := Lib.hid hc; clear hc
              go_wp2_with fail
              refine Hc.out.mono ?_
              rintro e wA ⟨v1', rfl, ov1, bA⟩
              obtain ⟨a1', c1', rfl, rec1, -⟩ := ov1.recs
              have hT := Ht.out.step bA
              clear Ht Hs y1 y2 y3 y4 y5 Hc ov1 bA
              have Ht := Lib.hid hT; clear hT
              have hc := Bag_lk Ht.out.b (pt, u)
              rw [← HBB.out] at hc
              have Hc := Lib.hid hc; clear hc HBB
              have Rec1 := Lib.hid rec1; clear rec1
              go_wp2_with fail
              refine Hc.out.mono ?_
              rintro e wB ⟨v2', rfl, ov2, bB⟩
              obtain ⟨a2', c2', rfl, rec2, -⟩ := ov2.recs
              have hcmp := SameMsgs_calls (Rec1.out.keep bB) rec2
              have hT := Ht.out.step bB
              clear Ht Hc Rec1 rec2 ov2 bB
              have Ht := Lib.hid hT; clear hT
              have Hcmp := Lib.hid hcmp; clear hcmp
              go_wp2_with fail
              refine Hcmp.out.mono ?_
              rintro e wC ⟨rfl, nd, rfl⟩
              have hT := Ht.out.step (below_drawn _ nd)
              clear Ht Hcmp
              have Ht := Lib.hid hT; clear hT
              go_wp2_with fail
              go_roundw
              case rel => exact ⟨j + 1, F6, F2, aL, lsb, by omega, by go_num, Ht.out, heq2⟩
              case measure => simp [intOf]; omega
          by_cases w2 : k0 = 2
          · subst w2
            as_aux_lemma =>
              have hoth := take_other (n := n1) (ls := lsa) hne ki false
              have hc := Drop_lk Ht.out.a (kp, ku) ki
              generalize takeN n1 lsa (kp, ku) ki false = Ra at hc hoth
              obtain ⟨aM, aE, aL⟩ := Ra
              simp only at hc
              simp only at hoth
              have Hc := Lib.hid hc; clear hc
              have Hx2 := Lib.hid hoth; clear hoth
              go_wp2_with fail
              refine Hc.out.mono ?_
              rintro e w6 ⟨rfl, l6, m6⟩
              have hT := Ht.out.left l6 m6
              have hS := Hs.out.left m6
              clear Ht Hs l6 m6 y1 y2 y3 y4 y5 Hc
              generalize grownF F1 _ w6 = F6 at hT hS
              have y1 := cells_at hS.is 1
              have y2 := cells_at hS.is 2
              have y3 := cells_at hS.is 3
              have y4 := cells_at hS.is 4
              have y5 := cells_at hS.is 5
              have Hs := Lib.hid hS; clear hS
              have Ht := Lib.hid hT; clear hT
              have heq2 := Hx2.out.trans heq
              clear Hx2
              have hc := Bag_lk Ht.out.a (pt, u)
              rw [heq2] at hc
              obtain ⟨BB, hBB⟩ : ∃ BB, BB = if ((pt, u) : Pla) ∈ keysOf n1 then lsb (pt, u) else [] := ⟨_, rfl⟩
              rw [← hBB] at hc
              have HBB := Lib.hid hBB; clear hBB
              have Hc := Lib.hid hc; clear hc
              go_wp2_with fail
              refine Hc.out.mono ?_
              rintro e wA ⟨v1', rfl, ov1, bA⟩
              obtain ⟨a1', c1', rfl, rec1, -⟩ := ov1.recs
              have hT := Ht.out.step bA
              clear Ht Hs y1 y2 y3 y4 y5 Hc ov1 bA
              have Ht := Lib.hid hT; clear hT
              have hc := Bag_lk Ht.out.b (pt, u)
              rw [← HBB.out] at hc
              have Hc := Lib.hid hc; clear hc HBB
              have Rec1 := Lib.hid rec1; clear rec1
              go_wp2_with fail
              refine Hc.out.mono ?_
              rintro e wB ⟨v2', rfl, ov2, bB⟩
              obtain ⟨a2', c2', rfl, rec2, -⟩ := ov2.recs
              have hcmp := SameMsgs_calls (Rec1.out.keep bB) rec2
              have hT := Ht.out.step bB
              clear Ht Hc Rec1 rec2 ov2 bB
              have Ht := Lib.hid hT; clear hT
              have Hcmp := Lib.hid hcmp; clear hcmp
              go_wp2_with fail
              refine Hcmp.out.mono ?_
              rintro e wC ⟨rfl, nd, rfl⟩
              have hT := Ht.out.step (below_drawn _ nd)
              clear Ht Hcmp
              have Ht := Lib.hid hT; clear hT
              go_wp2_with fail
              go_roundw
              case rel => exact ⟨j + 1, F6, F2, aL, lsb, by omega, by go_num, Ht.out, heq2⟩
              case measure => simp [intOf]; omega
          by_cases w3 : k0 = 3
          · subst w3
            as_aux_lemma =>
              have hoth := clear_other (n := n1) (ls := lsa) hne
              have hc := Clear_lk Ht.out.a (kp, ku) 
              generalize clearN n1 lsa (kp, ku) = Ra at hc hoth
              obtain ⟨aN, aL⟩ := Ra
              simp only at hc
              simp only at hoth
              have Hc := Lib.hid hc; clear hc
              have Hx2 := Lib.hid hoth; clear hoth
              go_wp2_with fail
              refine Hc.out.mono ?_
              rintro e w6 ⟨rfl, l6, m6⟩
              have hT := Ht.out.left l6 m6
              have hS := Hs.out.left m6
              clear Ht Hs l6 m6 y1 y2 y3 y4 y5 Hc
              generalize grownF F1 _ w6 = F6 at hT hS
              have y1 := cells_at hS.is 1
              have y2 := cells_at hS.is 2
              have y3 := cells_at hS.is 3
              have y4 := cells_at hS.is 4
              have y5 := cells_at hS.is 5
              have Hs := Lib.hid hS; clear hS
              have Ht := Lib.hid hT; clear hT
              have heq2 := Hx2.out.trans heq
              clear Hx2
              have hc := Bag_lk Ht.out.a (pt, u)
              rw [heq2] at hc
              obtain ⟨BB, hBB⟩ : ∃ BB, BB = if ((pt, u) : Pla) ∈ keysOf n1 then lsb (pt, u) else [] := ⟨_, rfl⟩
              rw [← hBB] at hc
              have HBB := Lib.hid hBB; clear hBB
              have Hc := Lib.hid hc; clear hc
              go_wp2_with fail
              refine Hc.out.mono ?_
              rintro e wA ⟨v1', rfl, ov1, bA⟩
              obtain ⟨a1', c1', rfl, rec1, -⟩ := ov1.recs
              have hT := Ht.out.step bA
              clear Ht Hs y1 y2 y3 y4 y5 Hc ov1 bA
              have Ht := Lib.hid hT; clear hT
              have hc := Bag_lk Ht.out.b (pt, u)
              rw [← HBB.out] at hc
              have Hc := Lib.hid hc; clear hc HBB
              have Rec1 := Lib.hid rec1; clear rec1
              go_wp2_with fail
              refine Hc.out.mono ?_
              rintro e wB ⟨v2', rfl, ov2, bB⟩
              obtain ⟨a2', c2', rfl, rec2, -⟩ := ov2.recs
              have hcmp := SameMsgs_calls (Rec1.out.keep bB) rec2
              have hT := Ht.out.step bB
              clear Ht Hc Rec1 rec2 ov2 bB
              have Ht := Lib.hid hT; clear hT
              have Hcmp := Lib.hid hcmp; clear hcmp
              go_wp2_with fail
              refine Hcmp.out.mono ?_
              rintro e wC ⟨rfl, nd, rfl⟩
              have hT := Ht.out.step (below_drawn _ nd)
              clear Ht Hcmp
              have Ht := Lib.hid hT; clear hT
              go_wp2_with fail
              go_roundw
              case rel => exact ⟨j + 1, F6, F2, aL, lsb, by omega, by go_num, Ht.out, heq2⟩
              case measure => simp [intOf]; omega
          have z0 : (k0 == 0) = false := by simpa using w0
          have z1 : (k0 == 1) = false := by simpa using w1
          have z2 : (k0 == 2) = false := by simpa using w2
          have z3 : (k0 == 3) = false := by simpa using w3
          clear w0 w1 w2 w3
          have hc := Bag_lk Ht.out.a (pt, u)
          rw [heq] at hc
          obtain ⟨BB, hBB⟩ : ∃ BB, BB = if ((pt, u) : Pla) ∈ keysOf n1 then lsb (pt, u) else [] := ⟨_, rfl⟩
          rw [← hBB] at hc
          have HBB := Lib.hid hBB; clear hBB
          have Hc := Lib.hid hc; clear hc
          go_wp2_with fail
          refine Hc.out.mono ?_
          rintro e wA ⟨v1', rfl, ov1, bA⟩
          obtain ⟨a1', c1', rfl, rec1, -⟩ := ov1.recs
          have hT := Ht.out.step bA
          clear Ht Hs y1 y2 y3 y4 y5 Hc ov1 bA
          have Ht := Lib.hid hT; clear hT
          have hc := Bag_lk Ht.out.b (pt, u)
          rw [← HBB.out] at hc
          have Hc := Lib.hid hc; clear hc HBB
          have Rec1 := Lib.hid rec1; clear rec1
          go_wp2_with fail
          refine Hc.out.mono ?_
          rintro e wB ⟨v2', rfl, ov2, bB⟩
          obtain ⟨a2', c2', rfl, rec2, -⟩ := ov2.recs
          have hcmp := SameMsgs_calls (Rec1.out.keep bB) rec2
          have hT := Ht.out.step bB
          clear Ht Hc Rec1 rec2 ov2 bB
          have Ht := Lib.hid hT; clear hT
          have Hcmp := Lib.hid hcmp; clear hcmp
          go_wp2_with fail
          refine Hcmp.out.mono ?_
          rintro e wC ⟨rfl, nd, rfl⟩
          have hT := Ht.out.step (below_drawn _ nd)
          clear Ht Hcmp
          have Ht := Lib.hid hT; clear hT
          go_wp2_with fail
          go_roundw
          case rel => exact ⟨j + 1, F1, F2, lsa, lsb, by omega, by go_num, Ht.out, heq⟩
          case measure => simp [intOf]; omega
    · obtain rfl : j = n := by omega
      have Ht := Lib.hid hT; clear hT
      go_wp2
      go_ret
      exact ⟨rfl, Ht.out.a.bel⟩
end Go.Proofs.Ytckahkpikjhkmaa
