/- The law LinkCalls. -/
import Derived.Test.YtckahkpikjhkmaaLinkI
import Derived.Deep.CutRange
import Derived.Deep.CutBlock
namespace Go.Proofs.Ytckahkpikjhkmaa
open Go.RowKit

set_option maxHeartbeats 16000000 in
set_option maxRecDepth 100000 in
theorem lawLinkCalls {w : World} {P : Int} {a : Option Addr} {n c : Nat} {xs : List CallL} (_hP : (Lit.int .i64 P).wf = true) (hx : LRow w a n c xs) :
    Calls Try.prog 3 #[.int .i64 P, .slice a n c] w fun e w' => e = .returned (.bool true) ∧ Below w.heap.size w w' := by
  have hl := hx.recs.len
  have Hx := Lib.hid hx; clear hx
  have Hl := Lib.hid hl; clear hl
  clear _hP
  go_enter Try.func3, Try.ntmps3
  go_wp2_with fail
  refine alive_calls.mono ?_
  rintro e w1 ⟨rfl, b1⟩
  have Hb1 := Lib.hid b1; clear b1
  go_wp2_with fail
  refine (great_calls (Hx.out.keep Hb1.out)).mono ?_
  rintro e w1 ⟨G, rfl, rfl, hG⟩
  cases G with
  | true =>
    clear hG
    go_wp2
    go_ret
    exact ⟨rfl, Hb1.out⟩
  | false =>
  obtain ⟨hn, h60⟩ := hG rfl
  clear hG
  have H60 := Lib.hid h60; clear h60
  by_cases hP : ¬ (1 ≤ P ∧ P ≤ 6)
  · have hc := fun w => New_bad (w := w) hP
    have hc2 := fun w => RNew_bad (w := w) hP
    have Hc := Lib.hid hc; clear hc hP
    have Hc2 := Lib.hid hc2; clear hc2
    go_wp2_with fail
    refine (Hc.out _).mono ?_
    rintro e w2 ⟨rfl, rfl⟩
    go_wp2_with fail
    refine (Hc2.out _).mono ?_
    rintro e w3 ⟨rfl, rfl⟩
    clear Hc Hc2
    go_wp2_with fail
    go_loopw [9] (fun i wr => i = .int .i64 0 ∧ Below w.heap.size w wr) (fun _ _ => 0)
    case atStart => exact ⟨rfl, Hb1.out⟩
    case round =>
      obtain ⟨rfl, hb⟩ := hrel
      have Hb := Lib.hid hb; clear hb
      by_cases h0 : 0 < n
      · have d1 : decide ((0 : Int) < (n : Int)) = true := decide_eq_true (by omega)
        have d2 : decide (0 < n) = true := decide_eq_true h0
        go_wp2
        go_ret
        exact ⟨rfl, Hb.out⟩
      · have d1 : decide ((0 : Int) < (n : Int)) = false := decide_eq_false (by omega)
        have d2 : decide (0 < n) = false := decide_eq_false h0
        go_wp2
        go_ret
        exact ⟨rfl, Hb.out⟩
  have hP := Decidable.not_not.1 hP
  obtain ⟨n1, rfl⟩ : ∃ p : Nat, P = p := ⟨P.toNat, by omega⟩
  have hp1 : 1 ≤ n1 := by omega
  have hp6 : n1 ≤ 6 := by omega
  clear hP
  have hnew := New_lk (w0 := w) (n := n1) Hb1.out hp1 hp6
  have Hnew := Lib.hid hnew; clear hnew
  go_wp2_with fail
  refine Hnew.out.mono ?_
  rintro e w2 ⟨b1, F1, rfl, l2, -, -⟩
  have hnew := RNew_rk (w0 := w) (n := n1) l2.bel hp1 hp6
  have Hl2 := Lib.hid l2; clear l2 Hnew Hb1
  have Hnew := Lib.hid hnew; clear hnew
  go_wp2_with fail
  refine Hnew.out.mono ?_
  rintro e w3 ⟨b2, F2, rfl, l3, hF2, b3⟩
  have hT : Trio w w3 b1 b2 F1 F2 n1 ls0 ls0 := ⟨Hl2.out.step b3, l3, fun k h1 h2 => by have := (Hl2.out.low k h1).2; have := hF2 k h2; omega⟩
  clear Hnew Hl2 l3 hF2 b3
  have Ht := Lib.hid hT; clear hT
  go_wp2_with fail
  go_loopw [9] (fun i wr => ∃ (j : Nat) (F1 F2 : Nat → Prop) (ls : Pla → List Msg), j ≤ n ∧ i = .int .i64 j ∧ Trio w wr b1 b2 F1 F2 n1 ls ls) (fun i _ => n - (intOf i).toNat)
  case atStart => exact ⟨0, F1, F2, ls0, by omega, rfl, Ht.out⟩
  case round =>
    clear Ht
    obtain ⟨j, F1, F2, ls, hj, rfl, hT⟩ := hrel
    by_cases hlt : j < n
    · have hxr := (Hx.out.keep hT.a.bel).recs
      obtain ⟨bx, ox, rfl⟩ := hxr.addr (by omega)
      have hjx : j < xs.length := by rw [Hl.out]; exact hlt
      have hcx := hxr.at hjx
      have hok := Hx.out.ok _ (List.getElem_mem hjx)
      have h60 := H60.out _ (List.getElem_mem hjx)
      obtain ⟨x, hxx⟩ : ∃ x, x = xs[j] := ⟨_, rfl⟩
      rw [← hxx] at hcx hok h60
      clear hxx hxr
      obtain ⟨k0, kp, ki, ku, ks, la, ln, lc, ms⟩ := x
      have hlist := hok.list
      simp only at hlist h60
      clear hok
      have x0 : wr.cell? ⟨bx, ox + j * 6, none⟩ = some (.int .i64 k0) := hcx 0 _ rfl
      have x1 : wr.cell? ⟨bx, ox + j * 6 + 1, none⟩ = some (.int .i64 kp) := hcx 1 _ rfl
      have x2 : wr.cell? ⟨bx, ox + j * 6 + 2, none⟩ = some (.int .i64 ki) := hcx 2 _ rfl
      have x3 : wr.cell? ⟨bx, ox + j * 6 + 3, none⟩ = some (.bool ku) := hcx 3 _ rfl
      have x4 : wr.cell? ⟨bx, ox + j * 6 + 4, none⟩ = some (.bool ks) := hcx 4 _ rfl
      have x5 : wr.cell? ⟨bx, ox + j * 6 + 5, none⟩ = some (.slice la ln lc) := hcx 5 _ rfl
      clear hcx
      have i1 : (0 : Int) ≤ (j : Int) := by omega
      have i2 : (j : Int) < (n : Int) := by omega
      have b5 := (Below.refl wr.heap.size wr).alloc (Nat.le_refl _) (.cells #[.int .i64 k0, .int .i64 kp, .int .i64 ki, .bool ku, .bool ks, .slice la ln lc] 34)
      have y5 := heap_alloc_new wr (.cells #[.int .i64 k0, .int .i64 kp, .int .i64 ki, .bool ku, .bool ks, .slice la ln lc] 34)
      have hT5 := hT.step b5
      have hS : Aside2 (wr.alloc (.cells #[.int .i64 k0, .int .i64 kp, .int .i64 ki, .bool ku, .bool ks, .slice la ln lc] 34)) wr.heap.size (.cells #[.int .i64 k0, .int .i64 kp, .int .i64 ki, .bool ku, .bool ks, .slice la ln lc] 34) F1 F2 :=
        ⟨y5, fun hf => by have := (hT.a.low _ hf).2; omega, fun hf => by have := (hT.b.low _ hf).2; omega⟩
      clear b5 y5 hT
      have hT := hT5
      clear hT5
      go_upto_region 13 with fail
      clear x0 x1 x2 x3 x4 x5
      generalize wr.heap.size = gc at *
      generalize wr.alloc (.cells #[.int .i64 k0, .int .i64 kp, .int .i64 ki, .bool ku, .bool ks, .slice la ln lc] 34) = w5 at *
      have y0 := cells_at hS.is 0
      have y1 := cells_at hS.is 1
      have y2 := cells_at hS.is 2
      have y3 := cells_at hS.is 3
      have y4 := cells_at hS.is 4
      have y5 := cells_at hS.is 5
      have Hs := Lib.hid hS; clear hS
      have Ht := Lib.hid hT; clear hT
      have Hlist := Lib.hid hlist; clear hlist
      go_upto_block 2 with fail
      go_cut [11, 12, 13, 14, 15, 16, 17, 18, 19, 20, 21] from 46 to 208 (fun _ _ _ _ _ _ _ _ _ _ _ wx => ∃ (F6 F7 : Nat → Prop) (lx : Pla → List Msg), Trio w wx b1 b2 F6 F7 n1 lx lx ∧ Aside2 wx gc (.cells #[.int .i64 k0, .int .i64 kp, .int .i64 ki, .bool ku, .bool ks, .slice la ln lc] 34) F6 F7)
      case first => as_aux_lemma =>
        by_cases w0 : k0 = 0
        · subst w0
          as_aux_lemma =>
            obtain ⟨aN, aE, lx, hR⟩ : ∃ aN aE lx, putN n1 ls (kp, ku) ms = (aN, aE, lx) := ⟨_, _, _, rfl⟩
            have HR := Lib.hid hR; clear hR
            have z1 : ((aN : Int) != (aN : Int)) = false := by simp
            have z2 : (aE != aE) = false := by simp
            have hc := Put_lk Ht.out.a (kp, ku) (Hlist.out.keep Ht.out.a.bel) (by omega)
            rw [HR.out] at hc
            simp only at hc
            have Hc := Lib.hid hc; clear hc
            go_wp2_with fail
            refine Hc.out.mono ?_
            rintro e w6 ⟨rfl, l6, m6⟩
            have hT := Ht.out.left l6 m6
            have hS := Hs.out.left m6
            clear Ht Hs y0 y1 y2 y3 y4 y5
            clear l6 m6 Hc
            generalize grownF F1 _ w6 = F6 at hT hS
            have y0 := cells_at hS.is 0
            have y1 := cells_at hS.is 1
            have y2 := cells_at hS.is 2
            have y3 := cells_at hS.is 3
            have y4 := cells_at hS.is 4
            have y5 := cells_at hS.is 5
            have Hs := Lib.hid hS; clear hS
            have Ht := Lib.hid hT; clear hT
            have hc := RPut_rk Ht.out.b (kp, ku) (Hlist.out.keep Ht.out.a.bel) (by omega)
            rw [HR.out] at hc
            simp only at hc
            have Hc := Lib.hid hc; clear hc
            go_wp2_with fail
            refine Hc.out.mono ?_
            rintro e w7 ⟨rfl, l7, m7⟩
            have hT := Ht.out.right l7 m7
            have hS := Hs.out.right m7
            clear Ht Hs y0 y1 y2 y3 y4 y5
            clear l7 m7 Hc
            generalize grownF F2 _ w7 = F7 at hT hS
            have y0 := cells_at hS.is 0
            have y1 := cells_at hS.is 1
            have y2 := cells_at hS.is 2
            have y3 := cells_at hS.is 3
            have y4 := cells_at hS.is 4
            have y5 := cells_at hS.is 5
            have Hs := Lib.hid hS; clear hS
            have Ht := Lib.hid hT; clear hT
            go_wp2_with fail
            go_meet
            case rel => exact ⟨F6, F7, lx, Ht.out, Hs.out⟩
        by_cases w1 : k0 = 1
        · subst w1
          as_aux_lemma =>
            obtain ⟨⟨a1, a2, a3, a4⟩, aE, lx, hR⟩ : ∃ aM aE lx, takeN n1 ls (kp, ku) ki ks = (aM, aE, lx) := ⟨_, _, _, rfl⟩
            have HR := Lib.hid hR; clear hR
            have z2 : (aE != aE) = false := by simp
            have hq := fun w => msg_neq w (a1, a2, a3, a4) (a1, a2, a3, a4)
            have hg := fun x y w => msg_guard .neq x y (a1, a2, a3, a4) (a1, a2, a3, a4) w
            simp only [Msg.cells, Msg.kind, Msg.part, Msg.tx, Msg.what, decide_true, Bool.not_true] at hq hg
            have Hq := Lib.hid hq; clear hq
            have Hg := Lib.hid hg; clear hg
            have hc := Take_lk Ht.out.a (kp, ku) ki ks
            rw [HR.out] at hc
            simp only [Msg.cells, Msg.kind, Msg.part, Msg.tx, Msg.what] at hc
            have Hc := Lib.hid hc; clear hc
            go_wp2_with fail
            refine Hc.out.mono ?_
            rintro e w6 ⟨rfl, l6, m6⟩
            have hT := Ht.out.left l6 m6
            have hS := Hs.out.left m6
            clear Ht Hs y0 y1 y2 y3 y4 y5
            clear l6 m6 Hc
            generalize grownF F1 _ w6 = F6 at hT hS
            have b7 := (Below.refl w6.heap.size w6).alloc (Nat.le_refl _) (.cells #[.int .i64 a1, .int .i64 a2, .int .i64 a3, .int .i64 a4] 38)
            have x7 := heap_alloc_new w6 (.cells #[.int .i64 a1, .int .i64 a2, .int .i64 a3, .int .i64 a4] 38)
            have hT2 := hT.step b7
            have hS2 := hS.step b7
            have n7 : ¬ F2 w6.heap.size := fun hf => by have := (hT.b.low _ hf).2; omega
            clear hT hS
            have hT := hT2
            have hS := hS2
            clear hT2 hS2 b7
            have X7 := Lib.hid x7; clear x7
            have y0 := cells_at hS.is 0
            have y1 := cells_at hS.is 1
            have y2 := cells_at hS.is 2
            have y3 := cells_at hS.is 3
            have y4 := cells_at hS.is 4
            have y5 := cells_at hS.is 5
            have Hs := Lib.hid hS; clear hS
            have Ht := Lib.hid hT; clear hT
            have hc := RTake_rk Ht.out.b (kp, ku) ki ks
            rw [HR.out] at hc
            simp only [Msg.cells, Msg.kind, Msg.part, Msg.tx, Msg.what] at hc
            have Hc := Lib.hid hc; clear hc
            go_wp2_with fail
            generalize w6.heap.size = g7 at *
            generalize w6.alloc (.cells #[.int .i64 a1, .int .i64 a2, .int .i64 a3, .int .i64 a4] 38) = w7 at *
            refine Hc.out.mono ?_
            rintro e w8 ⟨rfl, l8, m8⟩
            have x8 := (m8.block g7 (Array.getElem?_eq_some_iff.1 X7.out).1 n7).trans X7.out
            have hT := Ht.out.right l8 m8
            have hS := Hs.out.right m8
            clear Ht Hs y0 y1 y2 y3 y4 y5
            clear l8 m8 Hc
            generalize grownF F2 _ w8 = F7 at hT hS
            have b9 := (Below.refl w8.heap.size w8).alloc (Nat.le_refl _) (.cells #[.int .i64 a1, .int .i64 a2, .int .i64 a3, .int .i64 a4] 38)
            have x9 := heap_alloc_new w8 (.cells #[.int .i64 a1, .int .i64 a2, .int .i64 a3, .int .i64 a4] 38)
            have z9 := (b9.block g7 (Array.getElem?_eq_some_iff.1 x8).1).trans x8
            have hT2 := hT.step b9
            have hS2 := hS.step b9
            clear hT hS x8 X7
            have hT := hT2
            have hS := hS2
            clear hT2 hS2 b9
            have u0 := cells_at z9 0
            have u1 := cells_at z9 1
            have u2' := cells_at z9 2
            have u3' := cells_at z9 3
            have v0 := cells_at x9 0
            have v1 := cells_at x9 1
            have v2 := cells_at x9 2
            have v3 := cells_at x9 3
            clear z9 x9
            have hq := Hq.out
            have hg := Hg.out
            have y0 := cells_at hS.is 0
            have y1 := cells_at hS.is 1
            have y2 := cells_at hS.is 2
            have y3 := cells_at hS.is 3
            have y4 := cells_at hS.is 4
            have y5 := cells_at hS.is 5
            have Hs := Lib.hid hS; clear hS
            have Ht := Lib.hid hT; clear hT
            go_wp2_with fail
            go_meet
            case rel => exact ⟨F6, F7, lx, Ht.out, Hs.out⟩
        by_cases w2 : k0 = 2
        · subst w2
          as_aux_lemma =>
            obtain ⟨⟨a1, a2, a3, a4⟩, aE, lx, hR⟩ : ∃ aM aE lx, takeN n1 ls (kp, ku) ki false = (aM, aE, lx) := ⟨_, _, _, rfl⟩
            have HR := Lib.hid hR; clear hR
            have z2 : (aE != aE) = false := by simp
            have hc := RTake_rk Ht.out.b (kp, ku) ki false
            rw [HR.out] at hc
            simp only [Msg.cells, Msg.kind, Msg.part, Msg.tx, Msg.what] at hc
            have Hc := Lib.hid hc; clear hc
            go_wp2_with fail
            refine Hc.out.mono ?_
            rintro e w6 ⟨rfl, l6, m6⟩
            have hT := Ht.out.right l6 m6
            have hS := Hs.out.right m6
            clear Ht Hs y0 y1 y2 y3 y4 y5
            clear l6 m6 Hc
            generalize grownF F2 _ w6 = F7 at hT hS
            have b7 := (Below.refl w6.heap.size w6).alloc (Nat.le_refl _) (.cells #[.int .i64 a1, .int .i64 a2, .int .i64 a3, .int .i64 a4] 38)
            have hT2 := hT.step b7
            have hS2 := hS.step b7
            clear hT hS b7
            have hT := hT2
            have hS := hS2
            clear hT2 hS2
            have y0 := cells_at hS.is 0
            have y1 := cells_at hS.is 1
            have y2 := cells_at hS.is 2
            have y3 := cells_at hS.is 3
            have y4 := cells_at hS.is 4
            have y5 := cells_at hS.is 5
            have Hs := Lib.hid hS; clear hS
            have Ht := Lib.hid hT; clear hT
            have hc := Drop_lk Ht.out.a (kp, ku) ki
            rw [HR.out] at hc
            simp only at hc
            have Hc := Lib.hid hc; clear hc
            go_wp2_with fail
            generalize w6.heap.size = g7 at *
            generalize w6.alloc (.cells #[.int .i64 a1, .int .i64 a2, .int .i64 a3, .int .i64 a4] 38) = w7 at *
            refine Hc.out.mono ?_
            rintro e w8 ⟨rfl, l8, m8⟩
            have hT := Ht.out.left l8 m8
            have hS := Hs.out.left m8
            clear Ht Hs y0 y1 y2 y3 y4 y5
            clear l8 m8 Hc
            generalize grownF F1 _ w8 = F6 at hT hS
            have y0 := cells_at hS.is 0
            have y1 := cells_at hS.is 1
            have y2 := cells_at hS.is 2
            have y3 := cells_at hS.is 3
            have y4 := cells_at hS.is 4
            have y5 := cells_at hS.is 5
            have Hs := Lib.hid hS; clear hS
            have Ht := Lib.hid hT; clear hT
            go_wp2_with fail
            go_meet
            case rel => exact ⟨F6, F7, lx, Ht.out, Hs.out⟩
        by_cases w3 : k0 = 3
        · subst w3
          as_aux_lemma =>
            obtain ⟨L, hL⟩ : ∃ L, L = (bagN n1 ls (kp, ku)).length := ⟨_, rfl⟩
            have hL16 : L ≤ 16 := by
              rw [hL]
              unfold bagN
              split
              · exact Ht.out.a.small (by assumption)
              · exact Nat.zero_le _
            have hall := drop_all (n := n1) (ls := ls) (k := (kp, ku))
            rw [← hL] at hall
            have HL := Lib.hid hL; clear hL
            have Hall := Lib.hid hall; clear hall
            have hc := RBag_rk Ht.out.b (kp, ku)
            rw [← HL.out] at hc
            have Hc := Lib.hid hc; clear hc
            go_wp2_with fail
            refine Hc.out.mono ?_
            rintro e w6 ⟨sa, sc, rfl, rfl, -⟩
            clear Hc
            go_wp2_with fail
            go_loopw [172] (fun _ wr => ∃ (q : Nat) (F7 : Nat → Prop), q ≤ L ∧ Trio w wr b1 b2 F1 F7 n1 ls (dropN n1 ls (kp, ku) q) ∧ Aside2 wr gc (.cells #[.int .i64 3, .int .i64 kp, .int .i64 ki, .bool ku, .bool ks, .slice la ln lc] 34) F1 F7) (fun _ wr => bagLen wr b2 (kp, ku))
            case atStart => exact ⟨0, F2, by omega, by rw [drop_zero']; exact Ht.out, Hs.out⟩
            case round =>
              clear Ht Hs y0 y1 y2 y3 y4 y5
              obtain ⟨q, F7, hq, hT, hS⟩ := hrel
              have hlen := hT.b.len (kp, ku)
              rw [drop_bag, List.length_drop, ← HL.out] at hlen
              have y0 := cells_at hS.is 0
              have y1 := cells_at hS.is 1
              have y2 := cells_at hS.is 2
              have y3 := cells_at hS.is 3
              have y4 := cells_at hS.is 4
              have y5 := cells_at hS.is 5
              have Hs := Lib.hid hS; clear hS
              have Ht := Lib.hid hT; clear hT
              have hc := RBag_rk Ht.out.b (kp, ku)
              rw [drop_bag, List.length_drop, ← HL.out] at hc
              obtain ⟨D, hD⟩ : ∃ D, D = L - q := ⟨_, rfl⟩
              rw [← hD] at hc hlen
              have Hc := Lib.hid hc; clear hc
              have Hlen := Lib.hid hlen; clear hlen
              have HD := Lib.hid hD; clear hD
              by_cases hlt : q < L
              · have d1 : decide ((0 : Int) < (D : Int)) = true := decide_eq_true (by have := HD.out; omega)
                have d1n : decide (0 < D) = true := decide_eq_true (by have := HD.out; omega)
                go_wp2_with fail
                refine Hc.out.mono ?_
                rintro e w7 ⟨sa, sc, rfl, rfl, -⟩
                clear Hc
                have hnx := drop_next (n := n1) (ls := ls) (k := (kp, ku)) (q := q) (by rw [← HL.out]; exact hlt)
                have hc := RTake_rk Ht.out.b (kp, ku) 0 false
                rw [hnx] at hc
                generalize takeN n1 (dropN n1 ls (kp, ku) q) (kp, ku) 0 false = TT at hc
                clear hnx
                obtain ⟨⟨a1, a2, a3, a4⟩, aE, lx⟩ := TT
                simp only [Msg.cells, Msg.kind, Msg.part, Msg.tx, Msg.what] at hc
                have Hc := Lib.hid hc; clear hc
                go_wp2_with fail
                refine Hc.out.mono ?_
                rintro e w8 ⟨rfl, l8, m8⟩
                have hT := Ht.out.right l8 m8
                have hS := Hs.out.right m8
                clear Ht Hs y0 y1 y2 y3 y4 y5
                clear l8 m8 Hc
                generalize grownF F7 _ w8 = F8 at hT hS
                have hlen := hT.b.len (kp, ku)
                rw [drop_bag, List.length_drop, ← HL.out] at hlen
                have Hlen2 := Lib.hid hlen; clear hlen
                have Hs := Lib.hid hS; clear hS
                have Ht := Lib.hid hT; clear hT
                go_wp2_with fail
                go_roundw
                case rel => exact ⟨q + 1, F8, by omega, Ht.out, Hs.out⟩
                case measure => rw [Hlen2.out, Hlen.out]; have := HD.out; omega
              · have d1 : decide ((0 : Int) < (D : Int)) = false := decide_eq_false (by have := HD.out; omega)
                have d1n : decide (0 < D) = false := decide_eq_false (by have := HD.out; omega)
                obtain rfl : q = L := by omega
                have z1 : ((q : Int) != (q : Int)) = false := by simp
                go_wp2_with fail
                refine Hc.out.mono ?_
                rintro e w7 ⟨sa, sc, rfl, rfl, -⟩
                clear Hc
                have hc := Clear_lk Ht.out.a (kp, ku)
                rw [Hall.out.2, ← Hall.out.1] at hc
                have Hc := Lib.hid hc; clear hc
                go_wp2_with fail
                refine Hc.out.mono ?_
                rintro e w8 ⟨rfl, l8, m8⟩
                have hT := Ht.out.left l8 m8
                have hS := Hs.out.left m8
                clear Ht Hs y0 y1 y2 y3 y4 y5
                clear l8 m8 Hc
                generalize grownF F1 _ w8 = F6 at hT hS
                have y0 := cells_at hS.is 0
                have y1 := cells_at hS.is 1
                have y2 := cells_at hS.is 2
                have y3 := cells_at hS.is 3
                have y4 := cells_at hS.is 4
                have y5 := cells_at hS.is 5
                have Hs := Lib.hid hS; clear hS
                have Ht := Lib.hid hT; clear hT
                go_wp2_with fail
                go_meet
                case rel => exact ⟨F6, F7, _, Ht.out, Hs.out⟩
        have z0 : (k0 == 0) = false := by simpa using w0
        have z1 : (k0 == 1) = false := by simpa using w1
        have z2 : (k0 == 2) = false := by simpa using w2
        have z3 : (k0 == 3) = false := by simpa using w3
        clear w0 w1 w2 w3
        go_wp2_with fail
        go_meet
        case rel => exact ⟨F1, F2, ls, Ht.out, Hs.out⟩
      case rest =>
        obtain ⟨F6, F7, lx, hT, hS⟩ := hcut
        clear Ht Hs y0 y1 y2 y3 y4 y5
        generalize wc = wS at hT hS ⊢
        have y0 := cells_at hS.is 0
        have y1 := cells_at hS.is 1
        have y2 := cells_at hS.is 2
        have y3 := cells_at hS.is 3
        have y4 := cells_at hS.is 4
        have y5 := cells_at hS.is 5
        have Hs := Lib.hid hS; clear hS
        have Ht := Lib.hid hT; clear hT
        go_wp2_with fail
        have ly := Hs.out.lt
        clear y0 y1 y2 y3 y4 y5
        have s0 := below_drew wS
        refine wp_region_phases (fun w' : World => Below wS.heap.size wS w') 209 [([0, 1, 2, 3, 4, 6, 7, 8, 9, 10], [[5], [11], [12], [13, 14]]), ([15, 17], [[16], [18], [19], [20]])] (by kernel_rfl) (by kernel_rfl) rfl (by kernel_rfl) (fun _ _ _ h => by obtain ⟨_, h, _⟩ := h; cases h) s0 ?_
        generalize wS.drew = wA at s0 ⊢
        have Hs0 := Lib.hid s0; clear s0
        refine ph_more rfl ?_
        apply Exists.intro
        apply And.intro
        · intro w' s
          have y1 := cells_at (Hs.out.step s).is 1
          have y3 := cells_at (Hs.out.step s).is 3
          clear s
          simp only [List.map_cons, List.map_nil, List.getD_cons_zero, List.getD_cons_succ]
          go_wp2_with fail
          exact pre_end
        simp only [List.map_cons, List.map_nil, List.getD_cons_zero, List.getD_cons_succ]
        refine segsK_more ?_
        go_wp2_with fail
        refine (Bag_lk (Ht.out.a.step Hs0.out) (kp, ku)).mono ?_
        rintro e wB ⟨v1, rfl, ow1, bB⟩
        obtain ⟨a1, c1, rfl, rec1, -⟩ := ow1.recs
        have sB := Hs0.out.trans (bB.mono Hs0.out.size)
        clear Hs0 bB ow1
        have HsB := Lib.hid sB; clear sB
        have rec1 : Recs msgF wB a1 (bagN n1 lx (kp, ku)).length c1 (bagN n1 lx (kp, ku)) := rec1
        have Hrec1 := Lib.hid rec1; clear rec1
        obtain ⟨L1, hL1⟩ : ∃ L1, L1 = (bagN n1 lx (kp, ku)).length := ⟨_, rfl⟩
        rw [← hL1] at Hrec1
        have e1 : (if (kp, ku) ∈ keysOf n1 then lx (kp, ku) else []).length = L1 := hL1.symm
        rw [e1]
        clear e1
        have HL1 := Lib.hid hL1; clear hL1
        go_wp2_with fail
        refine seg_end HsB.out (segsK_more ?_)
        go_wp2_with fail
        refine (RBag_rk (Ht.out.b.step HsB.out) (kp, ku)).mono ?_
        rintro e wC ⟨a2, c2, rfl, rfl, rec2⟩
        rw [← HL1.out] at rec2 ⊢
        have hcmp := SameMsgs_calls Hrec1.out rec2
        clear rec2 Hrec1
        have Hcmp := Lib.hid hcmp; clear hcmp
        go_wp2_with fail
        refine seg_end HsB.out (segsK_more ?_)
        go_wp2_with fail
        refine Hcmp.out.mono ?_
        rintro e wD ⟨rfl, nd, rfl⟩
        clear Hcmp
        have sD := HsB.out.trans ((below_drawn _ nd).mono HsB.out.size)
        clear HsB
        have Hs0 := Lib.hid sD; clear sD
        generalize World.drewN _ nd = wA at Hs0 ⊢
        go_wp2_with fail
        refine seg_end Hs0.out (segsK_more ?_)
        go_wp2_with fail
        refine seg_end Hs0.out (segsK_end (ph_more rfl ?_))
        apply Exists.intro
        apply And.intro
        · intro w' s
          clear s
          simp only [List.map_cons, List.map_nil, List.getD_cons_zero, List.getD_cons_succ]
          go_wp2_with fail
          exact pre_end
        simp only [List.map_cons, List.map_nil, List.getD_cons_zero, List.getD_cons_succ]
        have z1 : ((sumOf lx (keysOf n1) : Int) != (sumOf lx (keysOf n1) : Int)) = false := by simp
        have ht1 := fun w h => Total_lk (w := w) (Ht.out.a.step h)
        have ht2 := fun w h => RTotal_rk (w := w) (Ht.out.b.step h)
        generalize sumOf lx (keysOf n1) = S at z1 ht1 ht2
        have Ht1 := Lib.hid ht1; clear ht1
        have Ht2 := Lib.hid ht2; clear ht2
        refine segsK_more ?_
        go_wp2_with fail
        refine (Ht1.out _ Hs0.out).mono ?_
        rintro e wB ⟨rfl, bB⟩
        have sB := Hs0.out.trans (bB.mono Hs0.out.size)
        clear Hs0 bB
        have Hs0 := Lib.hid sB; clear sB
        go_wp2_with fail
        refine seg_end Hs0.out (segsK_more ?_)
        go_wp2_with fail
        refine (Ht2.out _ Hs0.out).mono ?_
        rintro e wC ⟨rfl, bB⟩
        have sB := Hs0.out.trans (bB.mono Hs0.out.size)
        clear Hs0 bB
        have Hs0 := Lib.hid sB; clear sB
        go_wp2_with fail
        refine seg_end Hs0.out (segsK_more ?_)
        go_wp2_with fail
        refine seg_end Hs0.out (segsK_more ?_)
        go_wp2_with fail
        refine seg_end Hs0.out (segsK_end (ph_end ?_))
        have hT := Ht.out.step Hs0.out
        clear Ht Hs Hs0 Ht1 Ht2
        have Ht := Lib.hid hT; clear hT
        go_wp2_with fail
        go_roundw
        case rel => exact ⟨j + 1, _, _, _, by omega, by go_num, Ht.out⟩
        case measure => simp [intOf]; omega
    · obtain rfl : j = n := by omega
      have Ht := Lib.hid hT; clear hT
      go_wp2
      go_ret
      exact ⟨rfl, Ht.out.a.bel⟩
end Go.Proofs.Ytckahkpikjhkmaa
