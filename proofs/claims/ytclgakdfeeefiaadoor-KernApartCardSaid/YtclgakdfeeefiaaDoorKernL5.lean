/- The law KernApart. -/
import Derived.Test.YtclgakdfeeefiaaDoorKernF
namespace Go.Proofs.YtclgakdfeeefiaaDoor
open Go.RowKit

set_option maxHeartbeats 64000000 in
set_option maxRecDepth 100000 in
theorem lawKernApart {w : World} {P : Int} {a : Option Addr} {n c : Nat} {xs : List CallK} {q : Int} (hT : TabOk w) (_h : (Lit.int .i64 P).wf = true) (hx : KRow w a n c xs) (_h2 : (Lit.int .i64 q).wf = true) :
    Calls Tryd.prog 7 #[.int .i64 P, .slice a n c, .int .i64 q] w fun e w' => e = .returned (.bool true) ∧ Below w.heap.size w w' := by
  have hl := hx.len
  have ha := alive_calls hT
  have h0 : 0 < w.heap.size := World.block_lt_of_cell? _ _ (hT 0 (by decide))
  have HA := Lib.hid ha; clear ha
  have HT := Lib.hid hT; clear hT
  have H0 := Lib.hid h0; clear h0
  have Hx := Lib.hid hx; clear hx _h _h2
  have Hl := Lib.hid hl; clear hl
  go_enter Tryd.func7, Tryd.ntmps7
  go_wp2_with fail
  refine HA.out.mono ?_
  rintro e w1 ⟨rfl, b1⟩
  clear HA
  have Hb1 := Lib.hid b1; clear b1
  by_cases h1 : 100 < n
  · have e0 : decide ((100 : Int) < (n : Int)) = true := decide_eq_true (by omega)
    go_wp2
    go_ret
    exact ⟨rfl, Hb1.out⟩
  have e0 : decide ((100 : Int) < (n : Int)) = false := decide_eq_false (by omega)
  by_cases g0 : P < 1
  · have e1 : decide (P < 1) = true := decide_eq_true g0
    go_wp2
    go_ret
    exact ⟨rfl, Hb1.out⟩
  have e1 : decide (P < 1) = false := decide_eq_false g0
  by_cases g1 : 6 < P
  · have e2 : decide (6 < P) = true := decide_eq_true g1
    go_wp2
    go_ret
    exact ⟨rfl, Hb1.out⟩
  have e2 : decide (6 < P) = false := decide_eq_false g1
  by_cases g2 : q < 0
  · have e3 : decide (q < 0) = true := decide_eq_true g2
    go_wp2
    go_ret
    exact ⟨rfl, Hb1.out⟩
  have e3 : decide (q < 0) = false := decide_eq_false g2
  by_cases g3 : P ≤ q
  · have e4 : decide (P ≤ q) = true := decide_eq_true g3
    go_wp2
    go_ret
    exact ⟨rfl, Hb1.out⟩
  have e4 : decide (P ≤ q) = false := decide_eq_false g3
  obtain ⟨N, rfl⟩ : ∃ N : Nat, P = N := ⟨P.toNat, by omega⟩
  have hg : Pl.good ((N : Int), 1, 2) := ⟨by show 1 ≤ (N : Int); omega, by show (N : Int) ≤ 6; omega, (by decide : (1 : Int) ≤ 1 ∧ (1 : Int) ≤ 100 ∧ (1 : Int) < 2 ∧ (2 : Int) ≤ 200)⟩
  have hq : 0 ≤ q ∧ q < (N : Int) := by omega
  have hn6 : N ≤ 6 := by omega
  have hn100 : n ≤ 100 := by omega
  have HG := Lib.hid hg; clear hg
  have HQ := Lib.hid hq; clear hq
  clear h1 g0 g1 g2 g3
  obtain ⟨w2, hw2⟩ : ∃ w2, w2 = w1.alloc (.cells #[.int .i64 (N : Int), .int .i64 1, .int .i64 2] 28) := ⟨_, rfl⟩
  have b2 : Below w1.heap.size w1 w2 := by rw [hw2]; exact (Below.refl _ _).alloc (Nat.le_refl _) _
  have z2 : w2.heap[w1.heap.size]? = some (.cells #[.int .i64 (N : Int), .int .i64 1, .int .i64 2] 28 (0, 0)) := by rw [hw2]; exact heap_alloc_new w1 _
  have b12 := Hb1.out.trans (b2.mono Hb1.out.size)
  have y0 := cells_at z2 0
  have y1 := cells_at z2 1
  have y2 := cells_at z2 2
  rw [hw2] at y0 y1 y2
  have hn := New_kl (w0 := w) b12 (HT.out.below b12) (Nat.lt_of_lt_of_le H0.out b12.size) ((N : Int), 1, 2) HG.out (n := N) rfl (L := [(w1.heap.size, .cells #[.int .i64 (N : Int), .int .i64 1, .int .i64 2] 28 (0, 0))]) (fun x hx => by rw [List.mem_singleton] at hx; subst hx; exact z2)
  simp only [Pl.cells, Pl.parts, Pl.window, Pl.delay] at hn
  have Hn := Lib.hid hn; clear hn b2 z2 b12
  go_wp2_with fail
  rw [← hw2]
  clear hw2 y0 y1 y2 e0 e1 e2 e3 e4
  generalize w1.heap.size = gp at *
  refine Hn.out.mono ?_
  rintro e w3 ⟨k1, rfl, hk, -⟩
  clear Hn
  have zp := hk.at (.head _)
  have y0 := cells_at zp 0
  have y1 := cells_at zp 1
  have y2 := cells_at zp 2
  have hn := hk.second (HT.out.below hk.bel) (Nat.lt_of_lt_of_le H0.out hk.bel.size)
  simp only [Pl.cells, Pl.parts, Pl.window, Pl.delay] at hn
  have Hn := Lib.hid hn; clear hn hk zp Hb1
  go_wp2_with fail
  clear y0 y1 y2
  refine Hn.out.mono ?_
  rintro e w4 ⟨k2, rfl, h2⟩
  have HK := Lib.hid h2.drop; clear h2 Hn HT H0
  go_wp2_with fail
  go_loopw [12] (fun i wr => ∃ (j : Nat) (s1 s2 : Sta), j ≤ n ∧ i = .int .i64 j ∧ Kn2 w wr k1 k2 N ((N : Int), 1, 2) s1 s2 [] ∧ Agree q s1 s2 ∧ Outs j s1 ∧ Outs j s2) (fun i _ => n - (intOf i).toNat)
  case atStart => exact ⟨0, st0, st0, by omega, rfl, HK.out, Agree.refl, outs0, outs0⟩
  case round =>
    clear HK
    obtain ⟨j, s1, s2, hj, rfl, hk, hag, ho1, ho2⟩ := hrel
    have HK := Lib.hid hk; clear hk
    have HAg := Lib.hid hag; clear hag
    have HO1 := Lib.hid ho1; clear ho1
    have HO2 := Lib.hid ho2; clear ho2
    by_cases hlt : j < n
    case neg =>
      obtain rfl : j = n := by omega
      have HB := Lib.hid HK.out.bel
      go_wp2
      go_ret
      exact ⟨rfl, HB.out⟩
    case pos =>
    have hxr := Hx.out.keep HK.out.bel
    obtain ⟨bx, ox, rfl⟩ := hxr.addr (by omega)
    have hqx : j < xs.length := by rw [Hl.out]; exact hlt
    have hcx := hxr.at hqx
    obtain ⟨x, hx⟩ : ∃ x, x = xs[j] := ⟨_, rfl⟩
    rw [← hx] at hcx
    clear hx hxr
    have x0 := hcx 0 _ rfl
    have x1 := hcx 1 _ rfl
    have x2 := hcx 2 _ rfl
    have x3 := hcx 3 _ rfl
    have x4 := hcx 4 _ rfl
    have x5 := hcx 5 _ rfl
    have x6 := hcx 6 _ rfl
    have x7 := hcx 7 _ rfl
    have x8 := hcx 8 _ rfl
    have x9 := hcx 9 _ rfl
    clear hcx
    obtain ⟨what, who, to, pos, now, up, m0, m1, m2, m3⟩ := x
    simp only [callKF, Nat.add_zero] at x0 x1 x2 x3 x4 x5 x6 x7 x8 x9
    have i1 : (0 : Int) ≤ (j : Int) := by omega
    have i2 : (j : Int) < (n : Int) := by omega
    have hj100 : j ≤ 100 := by omega
    obtain ⟨C, hC⟩ : ∃ C, C = Obj.cells #[.int .i64 what, .int .i64 who, .int .i64 to, .int .i64 pos, .int .i64 now, .bool up, .int .i64 m0, .int .i64 m1, .int .i64 m2, .int .i64 m3] 54 (0, 0) := ⟨_, rfl⟩
    obtain ⟨w5, hw5⟩ : ∃ w5, w5 = wr.alloc (.cells #[.int .i64 what, .int .i64 who, .int .i64 to, .int .i64 pos, .int .i64 now, .bool up, .int .i64 m0, .int .i64 m1, .int .i64 m2, .int .i64 m3] 54) := ⟨_, rfl⟩
    have hk5 := HK.out.made (.cells #[.int .i64 what, .int .i64 who, .int .i64 to, .int .i64 pos, .int .i64 now, .bool up, .int .i64 m0, .int .i64 m1, .int .i64 m2, .int .i64 m3] 54)
    rw [← hw5, ← hC] at hk5
    clear HK
    generalize hgm : wr.heap.size = gm at hk5
    have HC := Lib.hid hC; clear hC
    have HK := Lib.hid hk5; clear hk5
    have z5 := HK.out.at (.head _)
    rw [HC.out] at z5
    have y0 := cells_at z5 0
    have y1 := cells_at z5 1
    have y2 := cells_at z5 2
    have y3 := cells_at z5 3
    have y4 := cells_at z5 4
    have y5 := cells_at z5 5
    have y6 := cells_at z5 6
    have y7 := cells_at z5 7
    have y8 := cells_at z5 8
    have y9 := cells_at z5 9
    have hmc := mine_calls (w := w5) ⟨what, who, to, pos, now, up, m0, m1, m2, m3⟩ (N : Int) q
    obtain ⟨M, hM⟩ : ∃ M, M = mineOf ⟨what, who, to, pos, now, up, m0, m1, m2, m3⟩ (N : Int) q := ⟨_, rfl⟩
    rw [← hM] at hmc
    simp only [CallK.cells] at hmc
    have HM := Lib.hid hM; clear hM
    have Hmc := Lib.hid hmc; clear hmc z5
    have Hgm := Lib.hid hgm; clear hgm
    rw [hw5] at y0 y1 y2 y3 y4 y5 y6 y7 y8 y9
    go_wp2_with fail
    rw [← hw5, Hgm.out]
    clear hw5 y0 y1 y2 y3 y4 y5 y6 y7 y8 y9 x0 x1 x2 x3 x4 x5 x6 x7 x8 x9 Hgm
    refine Hmc.out.mono ?_
    rintro e w6 ⟨rfl, b6⟩
    have hk6 := HK.out.step b6
    clear b6 HK Hmc
    have z6 := hk6.at (.head _)
    rw [HC.out] at z6
    have y0 := cells_at z6 0
    have y1 := cells_at z6 1
    have y2 := cells_at z6 2
    have y3 := cells_at z6 3
    have y4 := cells_at z6 4
    have y5 := cells_at z6 5
    have y6 := cells_at z6 6
    have y7 := cells_at z6 7
    have y8 := cells_at z6 8
    have y9 := cells_at z6 9
    have HK := Lib.hid hk6; clear hk6 z6
    have HM1 : M = true → mineOf ⟨what, who, to, pos, now, up, m0, m1, m2, m3⟩ (N : Int) q = true := fun h => HM.out.symm.trans h
    have HM2 : M = false → mineOf ⟨what, who, to, pos, now, up, m0, m1, m2, m3⟩ (N : Int) q = false := fun h => HM.out.symm.trans h
    have HM3 := Lib.hid (And.intro HM1 HM2); clear HM1 HM2 HM
    by_cases q0 : what = 0
    · subst q0
      cases M with
      | true => as_aux_lemma =>
        have hown : who = q ∨ (who = (N : Int) ∧ to = q) := by simpa [mineOf] using HM3.out.1 rfl
        clear HM3
        have hag2 : Agree q (sendK N ((N : Int), 1, 2) s1 who to (m0, m1, m2, m3) now).2 (sendK N ((N : Int), 1, 2) s2 who to (m0, m1, m2, m3) now).2 := (send_both HAg.out who to (m0, m1, m2, m3) now).2
        have hsame : (sendK N ((N : Int), 1, 2) s1 who to (m0, m1, m2, m3) now).1 = (sendK N ((N : Int), 1, 2) s2 who to (m0, m1, m2, m3) now).1 := (send_both HAg.out who to (m0, m1, m2, m3) now).1
        have HO4 := Lib.hid ((HO2.out.send who to (m0, m1, m2, m3) now : Outs (j + 1) (sendK N ((N : Int), 1, 2) s2 who to (m0, m1, m2, m3) now).2))
        have HO3 := Lib.hid ((HO1.out.send who to (m0, m1, m2, m3) now : Outs (j + 1) (sendK N ((N : Int), 1, 2) s1 who to (m0, m1, m2, m3) now).2))
        have HAg2 := Lib.hid hag2; clear hag2
        obtain ⟨R1, hR1⟩ : ∃ R, R = (sendK N ((N : Int), 1, 2) s1 who to (m0, m1, m2, m3) now) := ⟨_, rfl⟩
        rw [← hR1] at HAg2 HO3 hsame
        have HR1 := Lib.hid hR1; clear hR1
        obtain ⟨R2, hR2⟩ : ∃ R, R = (sendK N ((N : Int), 1, 2) s2 who to (m0, m1, m2, m3) now) := ⟨_, rfl⟩
        rw [← hR2] at HAg2 HO4 hsame
        have HR2 := Lib.hid hR2; clear hR2
        have hc := HK.out.fst (fun F h => Send_kn h (fun e => Nat.le_trans (HO1.out e) (by omega)) who to (m0, m1, m2, m3) now)
        rw [← HR1.out] at hc
        clear HR1
        simp only [Msg.cells, Msg.kind, Msg.part, Msg.tx, Msg.what] at hc
        have Hc := Lib.hid hc; clear hc
        have Hsame := Lib.hid hsame; clear hsame
        go_wp2_with fail
        refine Hc.out.mono ?_
        rintro e w7 ⟨rfl, hk7⟩
        clear y0 y1 y2 y3 y4 y5 y6 y7 y8 y9
        clear Hc HK
        have HK := Lib.hid hk7; clear hk7
        have zz := HK.out.at (.head _)
        rw [HC.out] at zz
        have y0 := cells_at zz 0
        have y1 := cells_at zz 1
        have y2 := cells_at zz 2
        have y3 := cells_at zz 3
        have y4 := cells_at zz 4
        have y5 := cells_at zz 5
        have y6 := cells_at zz 6
        have y7 := cells_at zz 7
        have y8 := cells_at zz 8
        have y9 := cells_at zz 9
        clear zz
        have hc := HK.out.snd (fun F h => Send_kn h (fun e => Nat.le_trans (HO2.out e) (by omega)) who to (m0, m1, m2, m3) now)
        rw [← HR2.out] at hc
        clear HR2
        simp only [Msg.cells, Msg.kind, Msg.part, Msg.tx, Msg.what] at hc
        rw [← Hsame.out] at hc
        clear HK
        have Hc := Lib.hid hc; clear hc
        go_wp2_with fail
        refine Hc.out.mono ?_
        rintro e w8 ⟨rfl, hk8⟩
        clear y0 y1 y2 y3 y4 y5 y6 y7 y8 y9
        clear Hc
        have HK := Lib.hid hk8; clear hk8
        have ne : (R1.1 != R1.1) = false := by simp
        have HKd := Lib.hid HK.out.drop
        have hb1 := HKd.out.ask1 fun F h => Box_kn h q true
        have hbs := box_same (n := N) HAg2.out (dirOf true)
        have Hb1 := Lib.hid hb1; clear hb1
        have Hbs := Lib.hid hbs; clear hbs
        go_wp2_with fail
        refine Hb1.out.mono ?_
        rintro e wa ⟨v1, rfl, own1, b1⟩
        obtain ⟨a1, k1', c1, rfl, hm1, -⟩ := own1.msgs
        have hka := HKd.out.step b1
        clear own1 b1 Hb1 HKd
        have HKd := Lib.hid hka; clear hka
        have Hm1 := Lib.hid hm1; clear hm1
        have hb2 := HKd.out.ask2 fun F h => Box_kn h q true
        have Hb2 := Lib.hid hb2; clear hb2
        go_wp2_with fail
        refine Hb2.out.mono ?_
        rintro e wb ⟨v2, rfl, own2, b2⟩
        obtain ⟨a2, k2', c2, rfl, hm2, -⟩ := own2.msgs
        have hka := HKd.out.step b2
        have hm1 := Hm1.out.keep b2
        have hsm := SameMsgs_calls hm1 hm2 Hbs.out
        clear own2 b2 Hb2 HKd Hm1 hm1 hm2 Hbs
        have HKd := Lib.hid hka; clear hka
        have Hsm := Lib.hid hsm; clear hsm
        go_wp2_with fail
        refine Hsm.out.mono ?_
        rintro e wc ⟨rfl, nd, rfl⟩
        have hka := HKd.out.step (below_drawn wb nd)
        generalize wb.drewN nd = wc at hka ⊢
        clear Hsm HKd
        have HKd := Lib.hid hka; clear hka
        have hb1 := HKd.out.ask1 fun F h => Box_kn h q false
        have hbs := box_same (n := N) HAg2.out (dirOf false)
        have Hb1 := Lib.hid hb1; clear hb1
        have Hbs := Lib.hid hbs; clear hbs
        go_wp2_with fail
        refine Hb1.out.mono ?_
        rintro e wa ⟨v1, rfl, own1, b1⟩
        obtain ⟨a1, k1', c1, rfl, hm1, -⟩ := own1.msgs
        have hka := HKd.out.step b1
        clear own1 b1 Hb1 HKd
        have HKd := Lib.hid hka; clear hka
        have Hm1 := Lib.hid hm1; clear hm1
        have hb2 := HKd.out.ask2 fun F h => Box_kn h q false
        have Hb2 := Lib.hid hb2; clear hb2
        go_wp2_with fail
        refine Hb2.out.mono ?_
        rintro e wb ⟨v2, rfl, own2, b2⟩
        obtain ⟨a2, k2', c2, rfl, hm2, -⟩ := own2.msgs
        have hka := HKd.out.step b2
        have hm1 := Hm1.out.keep b2
        have hsm := SameMsgs_calls hm1 hm2 Hbs.out
        clear own2 b2 Hb2 HKd Hm1 hm1 hm2 Hbs
        have HKd := Lib.hid hka; clear hka
        have Hsm := Lib.hid hsm; clear hsm
        go_wp2_with fail
        refine Hsm.out.mono ?_
        rintro e wc ⟨rfl, nd, rfl⟩
        have hka := HKd.out.step (below_drawn wb nd)
        generalize wb.drewN nd = wc at hka ⊢
        clear Hsm HKd
        have HKd := Lib.hid hka; clear hka
        go_wp2_with fail
        go_roundw
        case rel => exact ⟨j + 1, _, _, by omega, by go_num, HKd.out, HAg2.out, HO3.out, HO4.out⟩
        case measure => simp [intOf]; omega
      | false => as_aux_lemma =>
        have hno : ¬ who = q ∧ (who = (N : Int) → ¬ to = q) := by simpa [mineOf] using HM3.out.2 rfl
        have hn1 := hno.1
        have hn2 : ¬ (who = (N : Int) ∧ to = q) := fun h => hno.2 h.1 h.2
        clear HM3
        have hag2 : Agree q (sendK N ((N : Int), 1, 2) s1 who to (m0, m1, m2, m3) now).2 s2 := (send_other who to (m0, m1, m2, m3) now hn1 hn2).trans HAg.out
        have HO4 := Lib.hid (HO2.out.mono (Nat.le_succ j))
        have HO3 := Lib.hid ((HO1.out.send who to (m0, m1, m2, m3) now : Outs (j + 1) (sendK N ((N : Int), 1, 2) s1 who to (m0, m1, m2, m3) now).2))
        have HAg2 := Lib.hid hag2; clear hag2
        obtain ⟨R1, hR1⟩ : ∃ R, R = (sendK N ((N : Int), 1, 2) s1 who to (m0, m1, m2, m3) now) := ⟨_, rfl⟩
        rw [← hR1] at HAg2 HO3
        have HR1 := Lib.hid hR1; clear hR1
        have hc := HK.out.fst (fun F h => Send_kn h (fun e => Nat.le_trans (HO1.out e) (by omega)) who to (m0, m1, m2, m3) now)
        rw [← HR1.out] at hc
        clear HR1
        simp only [Msg.cells, Msg.kind, Msg.part, Msg.tx, Msg.what] at hc
        have Hc := Lib.hid hc; clear hc
        go_wp2_with fail
        refine Hc.out.mono ?_
        rintro e w7 ⟨rfl, hk7⟩
        clear y0 y1 y2 y3 y4 y5 y6 y7 y8 y9
        clear Hc HK
        have HK := Lib.hid hk7; clear hk7
        have HKd := Lib.hid HK.out.drop
        have hb1 := HKd.out.ask1 fun F h => Box_kn h q true
        have hbs := box_same (n := N) HAg2.out (dirOf true)
        have Hb1 := Lib.hid hb1; clear hb1
        have Hbs := Lib.hid hbs; clear hbs
        go_wp2_with fail
        refine Hb1.out.mono ?_
        rintro e wa ⟨v1, rfl, own1, b1⟩
        obtain ⟨a1, k1', c1, rfl, hm1, -⟩ := own1.msgs
        have hka := HKd.out.step b1
        clear own1 b1 Hb1 HKd
        have HKd := Lib.hid hka; clear hka
        have Hm1 := Lib.hid hm1; clear hm1
        have hb2 := HKd.out.ask2 fun F h => Box_kn h q true
        have Hb2 := Lib.hid hb2; clear hb2
        go_wp2_with fail
        refine Hb2.out.mono ?_
        rintro e wb ⟨v2, rfl, own2, b2⟩
        obtain ⟨a2, k2', c2, rfl, hm2, -⟩ := own2.msgs
        have hka := HKd.out.step b2
        have hm1 := Hm1.out.keep b2
        have hsm := SameMsgs_calls hm1 hm2 Hbs.out
        clear own2 b2 Hb2 HKd Hm1 hm1 hm2 Hbs
        have HKd := Lib.hid hka; clear hka
        have Hsm := Lib.hid hsm; clear hsm
        go_wp2_with fail
        refine Hsm.out.mono ?_
        rintro e wc ⟨rfl, nd, rfl⟩
        have hka := HKd.out.step (below_drawn wb nd)
        generalize wb.drewN nd = wc at hka ⊢
        clear Hsm HKd
        have HKd := Lib.hid hka; clear hka
        have hb1 := HKd.out.ask1 fun F h => Box_kn h q false
        have hbs := box_same (n := N) HAg2.out (dirOf false)
        have Hb1 := Lib.hid hb1; clear hb1
        have Hbs := Lib.hid hbs; clear hbs
        go_wp2_with fail
        refine Hb1.out.mono ?_
        rintro e wa ⟨v1, rfl, own1, b1⟩
        obtain ⟨a1, k1', c1, rfl, hm1, -⟩ := own1.msgs
        have hka := HKd.out.step b1
        clear own1 b1 Hb1 HKd
        have HKd := Lib.hid hka; clear hka
        have Hm1 := Lib.hid hm1; clear hm1
        have hb2 := HKd.out.ask2 fun F h => Box_kn h q false
        have Hb2 := Lib.hid hb2; clear hb2
        go_wp2_with fail
        refine Hb2.out.mono ?_
        rintro e wb ⟨v2, rfl, own2, b2⟩
        obtain ⟨a2, k2', c2, rfl, hm2, -⟩ := own2.msgs
        have hka := HKd.out.step b2
        have hm1 := Hm1.out.keep b2
        have hsm := SameMsgs_calls hm1 hm2 Hbs.out
        clear own2 b2 Hb2 HKd Hm1 hm1 hm2 Hbs
        have HKd := Lib.hid hka; clear hka
        have Hsm := Lib.hid hsm; clear hsm
        go_wp2_with fail
        refine Hsm.out.mono ?_
        rintro e wc ⟨rfl, nd, rfl⟩
        have hka := HKd.out.step (below_drawn wb nd)
        generalize wb.drewN nd = wc at hka ⊢
        clear Hsm HKd
        have HKd := Lib.hid hka; clear hka
        go_wp2_with fail
        go_roundw
        case rel => exact ⟨j + 1, _, _, by omega, by go_num, HKd.out, HAg2.out, HO3.out, HO4.out⟩
        case measure => simp [intOf]; omega
    have n0 : (what == 0) = false := by simpa using q0
    by_cases q1 : what = 1
    · subst q1
      cases M with
      | true => as_aux_lemma =>
        have hown : who = q := by simpa [mineOf] using HM3.out.1 rfl
        subst hown
        clear HM3
        have hag2 : Agree who (outK N s1 (who, dirOf up)).2 (outK N s2 (who, dirOf up)).2 := out_both HAg.out _
        have hsame : (outK N s1 (who, dirOf up)).1 = (outK N s2 (who, dirOf up)).1 := out_same HAg.out _
        have HO4 := Lib.hid (((HO2.out.out _).mono (Nat.le_succ _) : Outs (j + 1) (outK N s2 (who, dirOf up)).2))
        have HO3 := Lib.hid (((HO1.out.out _).mono (Nat.le_succ _) : Outs (j + 1) (outK N s1 (who, dirOf up)).2))
        have HAg2 := Lib.hid hag2; clear hag2
        obtain ⟨R1, hR1⟩ : ∃ R, R = (outK N s1 (who, dirOf up)) := ⟨_, rfl⟩
        rw [← hR1] at HAg2 HO3 hsame
        have HR1 := Lib.hid hR1; clear hR1
        obtain ⟨R2, hR2⟩ : ∃ R, R = (outK N s2 (who, dirOf up)) := ⟨_, rfl⟩
        rw [← hR2] at HAg2 HO4 hsame
        have HR2 := Lib.hid hR2; clear hR2
        have hc := HK.out.out1 who up
        rw [← HR1.out] at hc
        clear HR1
        have Hc := Lib.hid hc; clear hc
        have Hsame := Lib.hid hsame; clear hsame
        go_wp2_with fail
        refine Hc.out.mono ?_
        rintro e w7 ⟨oa, oc, rfl, hk7⟩
        clear y0 y1 y2 y3 y4 y5 y6 y7 y8 y9
        clear Hc HK
        have HKM := Lib.hid hk7; clear hk7
        have HK := Lib.hid HKM.out.two
        have zz := HK.out.at (.head _)
        rw [HC.out] at zz
        have y0 := cells_at zz 0
        have y1 := cells_at zz 1
        have y2 := cells_at zz 2
        have y3 := cells_at zz 3
        have y4 := cells_at zz 4
        have y5 := cells_at zz 5
        have y6 := cells_at zz 6
        have y7 := cells_at zz 7
        have y8 := cells_at zz 8
        have y9 := cells_at zz 9
        clear zz
        have hc := HKM.out.out2 who up
        rw [← HR2.out] at hc
        clear HR2
        clear HK
        have Hc := Lib.hid hc; clear hc
        go_wp2_with fail
        refine Hc.out.mono ?_
        rintro e w8 ⟨ob, oc2, rfl, hm2, hm1, hk8⟩
        clear y0 y1 y2 y3 y4 y5 y6 y7 y8 y9
        have hsm := SameMsgs_calls hm2 hm1 Hsame.out.symm
        clear Hc HKM hm1 hm2
        have HK := Lib.hid hk8; clear hk8
        have Hsm := Lib.hid hsm; clear hsm
        go_wp2_with fail
        refine Hsm.out.mono ?_
        rintro e w9 ⟨rfl, nd, rfl⟩
        have hk9 := HK.out.step (below_drawn w8 nd)
        generalize w8.drewN nd = w9 at hk9 ⊢
        clear Hsm HK
        have HK := Lib.hid hk9; clear hk9
        have HKd := Lib.hid HK.out.drop
        have hb1 := HKd.out.ask1 fun F h => Box_kn h who true
        have hbs := box_same (n := N) HAg2.out (dirOf true)
        have Hb1 := Lib.hid hb1; clear hb1
        have Hbs := Lib.hid hbs; clear hbs
        go_wp2_with fail
        refine Hb1.out.mono ?_
        rintro e wa ⟨v1, rfl, own1, b1⟩
        obtain ⟨a1, k1', c1, rfl, hm1, -⟩ := own1.msgs
        have hka := HKd.out.step b1
        clear own1 b1 Hb1 HKd
        have HKd := Lib.hid hka; clear hka
        have Hm1 := Lib.hid hm1; clear hm1
        have hb2 := HKd.out.ask2 fun F h => Box_kn h who true
        have Hb2 := Lib.hid hb2; clear hb2
        go_wp2_with fail
        refine Hb2.out.mono ?_
        rintro e wb ⟨v2, rfl, own2, b2⟩
        obtain ⟨a2, k2', c2, rfl, hm2, -⟩ := own2.msgs
        have hka := HKd.out.step b2
        have hm1 := Hm1.out.keep b2
        have hsm := SameMsgs_calls hm1 hm2 Hbs.out
        clear own2 b2 Hb2 HKd Hm1 hm1 hm2 Hbs
        have HKd := Lib.hid hka; clear hka
        have Hsm := Lib.hid hsm; clear hsm
        go_wp2_with fail
        refine Hsm.out.mono ?_
        rintro e wc ⟨rfl, nd, rfl⟩
        have hka := HKd.out.step (below_drawn wb nd)
        generalize wb.drewN nd = wc at hka ⊢
        clear Hsm HKd
        have HKd := Lib.hid hka; clear hka
        have hb1 := HKd.out.ask1 fun F h => Box_kn h who false
        have hbs := box_same (n := N) HAg2.out (dirOf false)
        have Hb1 := Lib.hid hb1; clear hb1
        have Hbs := Lib.hid hbs; clear hbs
        go_wp2_with fail
        refine Hb1.out.mono ?_
        rintro e wa ⟨v1, rfl, own1, b1⟩
        obtain ⟨a1, k1', c1, rfl, hm1, -⟩ := own1.msgs
        have hka := HKd.out.step b1
        clear own1 b1 Hb1 HKd
        have HKd := Lib.hid hka; clear hka
        have Hm1 := Lib.hid hm1; clear hm1
        have hb2 := HKd.out.ask2 fun F h => Box_kn h who false
        have Hb2 := Lib.hid hb2; clear hb2
        go_wp2_with fail
        refine Hb2.out.mono ?_
        rintro e wb ⟨v2, rfl, own2, b2⟩
        obtain ⟨a2, k2', c2, rfl, hm2, -⟩ := own2.msgs
        have hka := HKd.out.step b2
        have hm1 := Hm1.out.keep b2
        have hsm := SameMsgs_calls hm1 hm2 Hbs.out
        clear own2 b2 Hb2 HKd Hm1 hm1 hm2 Hbs
        have HKd := Lib.hid hka; clear hka
        have Hsm := Lib.hid hsm; clear hsm
        go_wp2_with fail
        refine Hsm.out.mono ?_
        rintro e wc ⟨rfl, nd, rfl⟩
        have hka := HKd.out.step (below_drawn wb nd)
        generalize wb.drewN nd = wc at hka ⊢
        clear Hsm HKd
        have HKd := Lib.hid hka; clear hka
        go_wp2_with fail
        go_roundw
        case rel => exact ⟨j + 1, _, _, by omega, by go_num, HKd.out, HAg2.out, HO3.out, HO4.out⟩
        case measure => simp [intOf]; omega
      | false => as_aux_lemma =>
        have hn1 : ¬ who = q := by simpa [mineOf] using HM3.out.2 rfl
        clear HM3
        have hag2 : Agree q (outK N s1 (who, dirOf up)).2 s2 := (out_other (who, dirOf up) hn1).trans HAg.out
        have HO4 := Lib.hid (HO2.out.mono (Nat.le_succ j))
        have HO3 := Lib.hid (((HO1.out.out _).mono (Nat.le_succ _) : Outs (j + 1) (outK N s1 (who, dirOf up)).2))
        have HAg2 := Lib.hid hag2; clear hag2
        obtain ⟨R1, hR1⟩ : ∃ R, R = (outK N s1 (who, dirOf up)) := ⟨_, rfl⟩
        rw [← hR1] at HAg2 HO3
        have HR1 := Lib.hid hR1; clear hR1
        have hc := HK.out.out1 who up
        rw [← HR1.out] at hc
        clear HR1
        have Hc := Lib.hid hc; clear hc
        go_wp2_with fail
        refine Hc.out.mono ?_
        rintro e w7 ⟨oa, oc, rfl, hk7⟩
        clear y0 y1 y2 y3 y4 y5 y6 y7 y8 y9
        clear Hc HK
        have HKM := Lib.hid hk7; clear hk7
        have HK := Lib.hid HKM.out.two
        have HKd := Lib.hid HK.out.drop
        have hb1 := HKd.out.ask1 fun F h => Box_kn h q true
        have hbs := box_same (n := N) HAg2.out (dirOf true)
        have Hb1 := Lib.hid hb1; clear hb1
        have Hbs := Lib.hid hbs; clear hbs
        go_wp2_with fail
        refine Hb1.out.mono ?_
        rintro e wa ⟨v1, rfl, own1, b1⟩
        obtain ⟨a1, k1', c1, rfl, hm1, -⟩ := own1.msgs
        have hka := HKd.out.step b1
        clear own1 b1 Hb1 HKd
        have HKd := Lib.hid hka; clear hka
        have Hm1 := Lib.hid hm1; clear hm1
        have hb2 := HKd.out.ask2 fun F h => Box_kn h q true
        have Hb2 := Lib.hid hb2; clear hb2
        go_wp2_with fail
        refine Hb2.out.mono ?_
        rintro e wb ⟨v2, rfl, own2, b2⟩
        obtain ⟨a2, k2', c2, rfl, hm2, -⟩ := own2.msgs
        have hka := HKd.out.step b2
        have hm1 := Hm1.out.keep b2
        have hsm := SameMsgs_calls hm1 hm2 Hbs.out
        clear own2 b2 Hb2 HKd Hm1 hm1 hm2 Hbs
        have HKd := Lib.hid hka; clear hka
        have Hsm := Lib.hid hsm; clear hsm
        go_wp2_with fail
        refine Hsm.out.mono ?_
        rintro e wc ⟨rfl, nd, rfl⟩
        have hka := HKd.out.step (below_drawn wb nd)
        generalize wb.drewN nd = wc at hka ⊢
        clear Hsm HKd
        have HKd := Lib.hid hka; clear hka
        have hb1 := HKd.out.ask1 fun F h => Box_kn h q false
        have hbs := box_same (n := N) HAg2.out (dirOf false)
        have Hb1 := Lib.hid hb1; clear hb1
        have Hbs := Lib.hid hbs; clear hbs
        go_wp2_with fail
        refine Hb1.out.mono ?_
        rintro e wa ⟨v1, rfl, own1, b1⟩
        obtain ⟨a1, k1', c1, rfl, hm1, -⟩ := own1.msgs
        have hka := HKd.out.step b1
        clear own1 b1 Hb1 HKd
        have HKd := Lib.hid hka; clear hka
        have Hm1 := Lib.hid hm1; clear hm1
        have hb2 := HKd.out.ask2 fun F h => Box_kn h q false
        have Hb2 := Lib.hid hb2; clear hb2
        go_wp2_with fail
        refine Hb2.out.mono ?_
        rintro e wb ⟨v2, rfl, own2, b2⟩
        obtain ⟨a2, k2', c2, rfl, hm2, -⟩ := own2.msgs
        have hka := HKd.out.step b2
        have hm1 := Hm1.out.keep b2
        have hsm := SameMsgs_calls hm1 hm2 Hbs.out
        clear own2 b2 Hb2 HKd Hm1 hm1 hm2 Hbs
        have HKd := Lib.hid hka; clear hka
        have Hsm := Lib.hid hsm; clear hsm
        go_wp2_with fail
        refine Hsm.out.mono ?_
        rintro e wc ⟨rfl, nd, rfl⟩
        have hka := HKd.out.step (below_drawn wb nd)
        generalize wb.drewN nd = wc at hka ⊢
        clear Hsm HKd
        have HKd := Lib.hid hka; clear hka
        go_wp2_with fail
        go_roundw
        case rel => exact ⟨j + 1, _, _, by omega, by go_num, HKd.out, HAg2.out, HO3.out, HO4.out⟩
        case measure => simp [intOf]; omega
    have n1 : (what == 1) = false := by simpa using q1
    by_cases q2 : what = 2
    · subst q2
      cases M with
      | true => as_aux_lemma =>
        have hown : who = q := by simpa [mineOf] using HM3.out.1 rfl
        subst hown
        clear HM3
        have hag2 : Agree who (carryK N s1 (who, dirOf up) (m0, m1, m2, m3)).2 (carryK N s2 (who, dirOf up) (m0, m1, m2, m3)).2 := carry_both HAg.out _ _
        have hsame : (carryK N s1 (who, dirOf up) (m0, m1, m2, m3)).1 = (carryK N s2 (who, dirOf up) (m0, m1, m2, m3)).1 := carry_same HAg.out _ _
        have HO4 := Lib.hid (((HO2.out.carry _ _).mono (Nat.le_succ _) : Outs (j + 1) (carryK N s2 (who, dirOf up) (m0, m1, m2, m3)).2))
        have HO3 := Lib.hid (((HO1.out.carry _ _).mono (Nat.le_succ _) : Outs (j + 1) (carryK N s1 (who, dirOf up) (m0, m1, m2, m3)).2))
        have HAg2 := Lib.hid hag2; clear hag2
        obtain ⟨R1, hR1⟩ : ∃ R, R = (carryK N s1 (who, dirOf up) (m0, m1, m2, m3)) := ⟨_, rfl⟩
        rw [← hR1] at HAg2 HO3 hsame
        have HR1 := Lib.hid hR1; clear hR1
        obtain ⟨R2, hR2⟩ : ∃ R, R = (carryK N s2 (who, dirOf up) (m0, m1, m2, m3)) := ⟨_, rfl⟩
        rw [← hR2] at HAg2 HO4 hsame
        have HR2 := Lib.hid hR2; clear hR2
        have hc := HK.out.fst (fun F h => Carry_kn h who up (m0, m1, m2, m3))
        rw [← HR1.out] at hc
        clear HR1
        simp only [Msg.cells, Msg.kind, Msg.part, Msg.tx, Msg.what] at hc
        have Hc := Lib.hid hc; clear hc
        have Hsame := Lib.hid hsame; clear hsame
        go_wp2_with fail
        refine Hc.out.mono ?_
        rintro e w7 ⟨rfl, hk7⟩
        clear y0 y1 y2 y3 y4 y5 y6 y7 y8 y9
        clear Hc HK
        have HK := Lib.hid hk7; clear hk7
        have zz := HK.out.at (.head _)
        rw [HC.out] at zz
        have y0 := cells_at zz 0
        have y1 := cells_at zz 1
        have y2 := cells_at zz 2
        have y3 := cells_at zz 3
        have y4 := cells_at zz 4
        have y5 := cells_at zz 5
        have y6 := cells_at zz 6
        have y7 := cells_at zz 7
        have y8 := cells_at zz 8
        have y9 := cells_at zz 9
        clear zz
        have hc := HK.out.snd (fun F h => Carry_kn h who up (m0, m1, m2, m3))
        rw [← HR2.out] at hc
        clear HR2
        simp only [Msg.cells, Msg.kind, Msg.part, Msg.tx, Msg.what] at hc
        rw [← Hsame.out] at hc
        clear HK
        have Hc := Lib.hid hc; clear hc
        go_wp2_with fail
        refine Hc.out.mono ?_
        rintro e w8 ⟨rfl, hk8⟩
        clear y0 y1 y2 y3 y4 y5 y6 y7 y8 y9
        clear Hc
        have HK := Lib.hid hk8; clear hk8
        have ne : (R1.1 != R1.1) = false := by simp
        have HKd := Lib.hid HK.out.drop
        have hb1 := HKd.out.ask1 fun F h => Box_kn h who true
        have hbs := box_same (n := N) HAg2.out (dirOf true)
        have Hb1 := Lib.hid hb1; clear hb1
        have Hbs := Lib.hid hbs; clear hbs
        go_wp2_with fail
        refine Hb1.out.mono ?_
        rintro e wa ⟨v1, rfl, own1, b1⟩
        obtain ⟨a1, k1', c1, rfl, hm1, -⟩ := own1.msgs
        have hka := HKd.out.step b1
        clear own1 b1 Hb1 HKd
        have HKd := Lib.hid hka; clear hka
        have Hm1 := Lib.hid hm1; clear hm1
        have hb2 := HKd.out.ask2 fun F h => Box_kn h who true
        have Hb2 := Lib.hid hb2; clear hb2
        go_wp2_with fail
        refine Hb2.out.mono ?_
        rintro e wb ⟨v2, rfl, own2, b2⟩
        obtain ⟨a2, k2', c2, rfl, hm2, -⟩ := own2.msgs
        have hka := HKd.out.step b2
        have hm1 := Hm1.out.keep b2
        have hsm := SameMsgs_calls hm1 hm2 Hbs.out
        clear own2 b2 Hb2 HKd Hm1 hm1 hm2 Hbs
        have HKd := Lib.hid hka; clear hka
        have Hsm := Lib.hid hsm; clear hsm
        go_wp2_with fail
        refine Hsm.out.mono ?_
        rintro e wc ⟨rfl, nd, rfl⟩
        have hka := HKd.out.step (below_drawn wb nd)
        generalize wb.drewN nd = wc at hka ⊢
        clear Hsm HKd
        have HKd := Lib.hid hka; clear hka
        have hb1 := HKd.out.ask1 fun F h => Box_kn h who false
        have hbs := box_same (n := N) HAg2.out (dirOf false)
        have Hb1 := Lib.hid hb1; clear hb1
        have Hbs := Lib.hid hbs; clear hbs
        go_wp2_with fail
        refine Hb1.out.mono ?_
        rintro e wa ⟨v1, rfl, own1, b1⟩
        obtain ⟨a1, k1', c1, rfl, hm1, -⟩ := own1.msgs
        have hka := HKd.out.step b1
        clear own1 b1 Hb1 HKd
        have HKd := Lib.hid hka; clear hka
        have Hm1 := Lib.hid hm1; clear hm1
        have hb2 := HKd.out.ask2 fun F h => Box_kn h who false
        have Hb2 := Lib.hid hb2; clear hb2
        go_wp2_with fail
        refine Hb2.out.mono ?_
        rintro e wb ⟨v2, rfl, own2, b2⟩
        obtain ⟨a2, k2', c2, rfl, hm2, -⟩ := own2.msgs
        have hka := HKd.out.step b2
        have hm1 := Hm1.out.keep b2
        have hsm := SameMsgs_calls hm1 hm2 Hbs.out
        clear own2 b2 Hb2 HKd Hm1 hm1 hm2 Hbs
        have HKd := Lib.hid hka; clear hka
        have Hsm := Lib.hid hsm; clear hsm
        go_wp2_with fail
        refine Hsm.out.mono ?_
        rintro e wc ⟨rfl, nd, rfl⟩
        have hka := HKd.out.step (below_drawn wb nd)
        generalize wb.drewN nd = wc at hka ⊢
        clear Hsm HKd
        have HKd := Lib.hid hka; clear hka
        go_wp2_with fail
        go_roundw
        case rel => exact ⟨j + 1, _, _, by omega, by go_num, HKd.out, HAg2.out, HO3.out, HO4.out⟩
        case measure => simp [intOf]; omega
      | false => as_aux_lemma =>
        have hn1 : ¬ who = q := by simpa [mineOf] using HM3.out.2 rfl
        clear HM3
        have hag2 : Agree q (carryK N s1 (who, dirOf up) (m0, m1, m2, m3)).2 s2 := (carry_other (who, dirOf up) _ hn1).trans HAg.out
        have HO4 := Lib.hid (HO2.out.mono (Nat.le_succ j))
        have HO3 := Lib.hid (((HO1.out.carry _ _).mono (Nat.le_succ _) : Outs (j + 1) (carryK N s1 (who, dirOf up) (m0, m1, m2, m3)).2))
        have HAg2 := Lib.hid hag2; clear hag2
        obtain ⟨R1, hR1⟩ : ∃ R, R = (carryK N s1 (who, dirOf up) (m0, m1, m2, m3)) := ⟨_, rfl⟩
        rw [← hR1] at HAg2 HO3
        have HR1 := Lib.hid hR1; clear hR1
        have hc := HK.out.fst (fun F h => Carry_kn h who up (m0, m1, m2, m3))
        rw [← HR1.out] at hc
        clear HR1
        simp only [Msg.cells, Msg.kind, Msg.part, Msg.tx, Msg.what] at hc
        have Hc := Lib.hid hc; clear hc
        go_wp2_with fail
        refine Hc.out.mono ?_
        rintro e w7 ⟨rfl, hk7⟩
        clear y0 y1 y2 y3 y4 y5 y6 y7 y8 y9
        clear Hc HK
        have HK := Lib.hid hk7; clear hk7
        have HKd := Lib.hid HK.out.drop
        have hb1 := HKd.out.ask1 fun F h => Box_kn h q true
        have hbs := box_same (n := N) HAg2.out (dirOf true)
        have Hb1 := Lib.hid hb1; clear hb1
        have Hbs := Lib.hid hbs; clear hbs
        go_wp2_with fail
        refine Hb1.out.mono ?_
        rintro e wa ⟨v1, rfl, own1, b1⟩
        obtain ⟨a1, k1', c1, rfl, hm1, -⟩ := own1.msgs
        have hka := HKd.out.step b1
        clear own1 b1 Hb1 HKd
        have HKd := Lib.hid hka; clear hka
        have Hm1 := Lib.hid hm1; clear hm1
        have hb2 := HKd.out.ask2 fun F h => Box_kn h q true
        have Hb2 := Lib.hid hb2; clear hb2
        go_wp2_with fail
        refine Hb2.out.mono ?_
        rintro e wb ⟨v2, rfl, own2, b2⟩
        obtain ⟨a2, k2', c2, rfl, hm2, -⟩ := own2.msgs
        have hka := HKd.out.step b2
        have hm1 := Hm1.out.keep b2
        have hsm := SameMsgs_calls hm1 hm2 Hbs.out
        clear own2 b2 Hb2 HKd Hm1 hm1 hm2 Hbs
        have HKd := Lib.hid hka; clear hka
        have Hsm := Lib.hid hsm; clear hsm
        go_wp2_with fail
        refine Hsm.out.mono ?_
        rintro e wc ⟨rfl, nd, rfl⟩
        have hka := HKd.out.step (below_drawn wb nd)
        generalize wb.drewN nd = wc at hka ⊢
        clear Hsm HKd
        have HKd := Lib.hid hka; clear hka
        have hb1 := HKd.out.ask1 fun F h => Box_kn h q false
        have hbs := box_same (n := N) HAg2.out (dirOf false)
        have Hb1 := Lib.hid hb1; clear hb1
        have Hbs := Lib.hid hbs; clear hbs
        go_wp2_with fail
        refine Hb1.out.mono ?_
        rintro e wa ⟨v1, rfl, own1, b1⟩
        obtain ⟨a1, k1', c1, rfl, hm1, -⟩ := own1.msgs
        have hka := HKd.out.step b1
        clear own1 b1 Hb1 HKd
        have HKd := Lib.hid hka; clear hka
        have Hm1 := Lib.hid hm1; clear hm1
        have hb2 := HKd.out.ask2 fun F h => Box_kn h q false
        have Hb2 := Lib.hid hb2; clear hb2
        go_wp2_with fail
        refine Hb2.out.mono ?_
        rintro e wb ⟨v2, rfl, own2, b2⟩
        obtain ⟨a2, k2', c2, rfl, hm2, -⟩ := own2.msgs
        have hka := HKd.out.step b2
        have hm1 := Hm1.out.keep b2
        have hsm := SameMsgs_calls hm1 hm2 Hbs.out
        clear own2 b2 Hb2 HKd Hm1 hm1 hm2 Hbs
        have HKd := Lib.hid hka; clear hka
        have Hsm := Lib.hid hsm; clear hsm
        go_wp2_with fail
        refine Hsm.out.mono ?_
        rintro e wc ⟨rfl, nd, rfl⟩
        have hka := HKd.out.step (below_drawn wb nd)
        generalize wb.drewN nd = wc at hka ⊢
        clear Hsm HKd
        have HKd := Lib.hid hka; clear hka
        go_wp2_with fail
        go_roundw
        case rel => exact ⟨j + 1, _, _, by omega, by go_num, HKd.out, HAg2.out, HO3.out, HO4.out⟩
        case measure => simp [intOf]; omega
    have n2 : (what == 2) = false := by simpa using q2
    by_cases q3 : what = 3
    · subst q3
      cases M with
      | true => as_aux_lemma =>
        have hown : who = q ∨ (who = (N : Int) ∧ to = q) := by simpa [mineOf] using HM3.out.1 rfl
        clear HM3
        have hag2 : Agree q (recvK N ((N : Int), 1, 2) s1 who to pos now).2 (recvK N ((N : Int), 1, 2) s2 who to pos now).2 := recv_both HAg.out who to pos now
        have hsame : (recvK N ((N : Int), 1, 2) s1 who to pos now).1 = (recvK N ((N : Int), 1, 2) s2 who to pos now).1 := recv_same hn6 HAg.out who to pos now HQ.out hown
        have HO4 := Lib.hid (((HO2.out.recv who to pos now).mono (Nat.le_succ _) : Outs (j + 1) (recvK N ((N : Int), 1, 2) s2 who to pos now).2))
        have HO3 := Lib.hid (((HO1.out.recv who to pos now).mono (Nat.le_succ _) : Outs (j + 1) (recvK N ((N : Int), 1, 2) s1 who to pos now).2))
        have HAg2 := Lib.hid hag2; clear hag2
        obtain ⟨R1, hR1⟩ : ∃ R, R = (recvK N ((N : Int), 1, 2) s1 who to pos now) := ⟨_, rfl⟩
        rw [← hR1] at HAg2 HO3 hsame
        have HR1 := Lib.hid hR1; clear hR1
        obtain ⟨R2, hR2⟩ : ∃ R, R = (recvK N ((N : Int), 1, 2) s2 who to pos now) := ⟨_, rfl⟩
        rw [← hR2] at HAg2 HO4 hsame
        have HR2 := Lib.hid hR2; clear hR2
        have hc := HK.out.fst (fun F h => Recv_kn h who to pos now)
        rw [← HR1.out] at hc
        clear HR1
        obtain ⟨⟨⟨r0, r1, r2, r3⟩, RE⟩, RS⟩ := R1
        try simp only at hsame hc HAg2 HO3
        simp only [Msg.cells, Msg.kind, Msg.part, Msg.tx, Msg.what] at hc
        have Hc := Lib.hid hc; clear hc
        have Hsame := Lib.hid hsame; clear hsame
        go_wp2_with fail
        refine Hc.out.mono ?_
        rintro e w7 ⟨rfl, hk7⟩
        clear y0 y1 y2 y3 y4 y5 y6 y7 y8 y9
        clear Hc HK
        have HK := Lib.hid hk7; clear hk7
        have hk8 := HK.out.made (.cells #[.int .i64 r0, .int .i64 r1, .int .i64 r2, .int .i64 r3] 39)
        obtain ⟨w8, hw8⟩ : ∃ w8, w8 = w7.alloc (.cells #[.int .i64 r0, .int .i64 r1, .int .i64 r2, .int .i64 r3] 39) := ⟨_, rfl⟩
        rw [← hw8] at hk8
        clear HK
        generalize hg8 : w7.heap.size = g8 at hk8
        have Hg8 := Lib.hid hg8; clear hg8
        have HK := Lib.hid hk8; clear hk8
        have zz := HK.out.at (.tail _ (.head _))
        rw [HC.out] at zz
        have y0 := cells_at zz 0
        have y1 := cells_at zz 1
        have y2 := cells_at zz 2
        have y3 := cells_at zz 3
        have y4 := cells_at zz 4
        have y5 := cells_at zz 5
        have y6 := cells_at zz 6
        have y7 := cells_at zz 7
        have y8 := cells_at zz 8
        have y9 := cells_at zz 9
        rw [hw8] at y0 y1 y2 y3 y4 y5 y6 y7 y8 y9
        clear zz
        have hc := HK.out.snd (fun F h => Recv_kn h who to pos now)
        rw [← HR2.out] at hc
        clear HR2
        obtain ⟨⟨⟨t0, t1, t2, t3⟩, TE⟩, TS⟩ := R2
        try simp only at Hsame hc HAg2 HO4
        obtain ⟨⟨e0, e1, e2, e3⟩, e4⟩ : (r0 = t0 ∧ r1 = t1 ∧ r2 = t2 ∧ r3 = t3) ∧ RE = TE := by simpa using Hsame.out
        subst e0 e1 e2 e3 e4
        simp only [Msg.cells, Msg.kind, Msg.part, Msg.tx, Msg.what] at hc
        clear HK
        have Hc := Lib.hid hc; clear hc
        go_wp2_with fail
        rw [← hw8, Hg8.out]
        clear hw8 Hg8
        refine Hc.out.mono ?_
        rintro e w9 ⟨rfl, hk9⟩
        clear y0 y1 y2 y3 y4 y5 y6 y7 y8 y9
        clear Hc
        have hka := hk9.made (.cells #[.int .i64 r0, .int .i64 r1, .int .i64 r2, .int .i64 r3] 39)
        obtain ⟨wx, hwx⟩ : ∃ wx, wx = w9.alloc (.cells #[.int .i64 r0, .int .i64 r1, .int .i64 r2, .int .i64 r3] 39) := ⟨_, rfl⟩
        rw [← hwx] at hka
        generalize hgx : w9.heap.size = gx at hka
        have za := hka.at (.head _)
        have zb := hka.at (.tail _ (.head _))
        have p0 := cells_at za 0
        have p1 := cells_at za 1
        have p2 := cells_at za 2
        have p3 := cells_at za 3
        have v0 := cells_at zb 0
        have v1 := cells_at zb 1
        have v2 := cells_at zb 2
        have v3 := cells_at zb 3
        rw [hwx] at p0 p1 p2 p3 v0 v1 v2 v3
        have HK2 := Lib.hid hka.drop; clear hka hk9 za zb
        have HK := Lib.hid HK2.out; clear HK2
        have Hgx := Lib.hid hgx; clear hgx
        have lq := fun w => msg_neq w (r0, r1, r2, r3) (r0, r1, r2, r3)
        have lg := fun x y w => msg_guard .neq x y (r0, r1, r2, r3) (r0, r1, r2, r3) w
        simp only [Msg.cells, Msg.kind, Msg.part, Msg.tx, Msg.what, decide_true, Bool.not_true] at lq lg
        have ne : (RE != RE) = false := by simp
        rw [← Hgx.out] at p0 p1 p2 p3
        have HKd := Lib.hid HK.out.drop.drop
        have hb1 := HKd.out.ask1 fun F h => Box_kn h q true
        have hbs := box_same (n := N) HAg2.out (dirOf true)
        have Hb1 := Lib.hid hb1; clear hb1
        have Hbs := Lib.hid hbs; clear hbs
        go_wp2_with fail
        rw [← hwx, Hgx.out]
        clear hwx Hgx p0 p1 p2 p3 v0 v1 v2 v3 lq lg ne
        refine Hb1.out.mono ?_
        rintro e wa ⟨v1, rfl, own1, b1⟩
        obtain ⟨a1, k1', c1, rfl, hm1, -⟩ := own1.msgs
        have hka := HKd.out.step b1
        clear own1 b1 Hb1 HKd
        have HKd := Lib.hid hka; clear hka
        have Hm1 := Lib.hid hm1; clear hm1
        have hb2 := HKd.out.ask2 fun F h => Box_kn h q true
        have Hb2 := Lib.hid hb2; clear hb2
        go_wp2_with fail
        refine Hb2.out.mono ?_
        rintro e wb ⟨v2, rfl, own2, b2⟩
        obtain ⟨a2, k2', c2, rfl, hm2, -⟩ := own2.msgs
        have hka := HKd.out.step b2
        have hm1 := Hm1.out.keep b2
        have hsm := SameMsgs_calls hm1 hm2 Hbs.out
        clear own2 b2 Hb2 HKd Hm1 hm1 hm2 Hbs
        have HKd := Lib.hid hka; clear hka
        have Hsm := Lib.hid hsm; clear hsm
        go_wp2_with fail
        refine Hsm.out.mono ?_
        rintro e wc ⟨rfl, nd, rfl⟩
        have hka := HKd.out.step (below_drawn wb nd)
        generalize wb.drewN nd = wc at hka ⊢
        clear Hsm HKd
        have HKd := Lib.hid hka; clear hka
        have hb1 := HKd.out.ask1 fun F h => Box_kn h q false
        have hbs := box_same (n := N) HAg2.out (dirOf false)
        have Hb1 := Lib.hid hb1; clear hb1
        have Hbs := Lib.hid hbs; clear hbs
        go_wp2_with fail
        refine Hb1.out.mono ?_
        rintro e wa ⟨v1, rfl, own1, b1⟩
        obtain ⟨a1, k1', c1, rfl, hm1, -⟩ := own1.msgs
        have hka := HKd.out.step b1
        clear own1 b1 Hb1 HKd
        have HKd := Lib.hid hka; clear hka
        have Hm1 := Lib.hid hm1; clear hm1
        have hb2 := HKd.out.ask2 fun F h => Box_kn h q false
        have Hb2 := Lib.hid hb2; clear hb2
        go_wp2_with fail
        refine Hb2.out.mono ?_
        rintro e wb ⟨v2, rfl, own2, b2⟩
        obtain ⟨a2, k2', c2, rfl, hm2, -⟩ := own2.msgs
        have hka := HKd.out.step b2
        have hm1 := Hm1.out.keep b2
        have hsm := SameMsgs_calls hm1 hm2 Hbs.out
        clear own2 b2 Hb2 HKd Hm1 hm1 hm2 Hbs
        have HKd := Lib.hid hka; clear hka
        have Hsm := Lib.hid hsm; clear hsm
        go_wp2_with fail
        refine Hsm.out.mono ?_
        rintro e wc ⟨rfl, nd, rfl⟩
        have hka := HKd.out.step (below_drawn wb nd)
        generalize wb.drewN nd = wc at hka ⊢
        clear Hsm HKd
        have HKd := Lib.hid hka; clear hka
        go_wp2_with fail
        go_roundw
        case rel => exact ⟨j + 1, _, _, by omega, by go_num, HKd.out, HAg2.out, HO3.out, HO4.out⟩
        case measure => simp [intOf]; omega
      | false => as_aux_lemma =>
        have hno : ¬ who = q ∧ (who = (N : Int) → ¬ to = q) := by simpa [mineOf] using HM3.out.2 rfl
        have hn1 := hno.1
        have hn2 : ¬ (who = (N : Int) ∧ to = q) := fun h => hno.2 h.1 h.2
        clear HM3
        have hag2 : Agree q (recvK N ((N : Int), 1, 2) s1 who to pos now).2 s2 := (recv_other hn6 who to pos now HQ.out hn1 hn2).trans HAg.out
        have HO4 := Lib.hid (HO2.out.mono (Nat.le_succ j))
        have HO3 := Lib.hid (((HO1.out.recv who to pos now).mono (Nat.le_succ _) : Outs (j + 1) (recvK N ((N : Int), 1, 2) s1 who to pos now).2))
        have HAg2 := Lib.hid hag2; clear hag2
        obtain ⟨R1, hR1⟩ : ∃ R, R = (recvK N ((N : Int), 1, 2) s1 who to pos now) := ⟨_, rfl⟩
        rw [← hR1] at HAg2 HO3
        have HR1 := Lib.hid hR1; clear hR1
        have hc := HK.out.fst (fun F h => Recv_kn h who to pos now)
        rw [← HR1.out] at hc
        clear HR1
        obtain ⟨⟨⟨r0, r1, r2, r3⟩, RE⟩, RS⟩ := R1
        try simp only at hc HAg2 HO3
        simp only [Msg.cells, Msg.kind, Msg.part, Msg.tx, Msg.what] at hc
        have Hc := Lib.hid hc; clear hc
        go_wp2_with fail
        refine Hc.out.mono ?_
        rintro e w7 ⟨rfl, hk7⟩
        clear y0 y1 y2 y3 y4 y5 y6 y7 y8 y9
        clear Hc HK
        have HK := Lib.hid hk7; clear hk7
        have hk8 := HK.out.made (.cells #[.int .i64 r0, .int .i64 r1, .int .i64 r2, .int .i64 r3] 39)
        obtain ⟨w8, hw8⟩ : ∃ w8, w8 = w7.alloc (.cells #[.int .i64 r0, .int .i64 r1, .int .i64 r2, .int .i64 r3] 39) := ⟨_, rfl⟩
        rw [← hw8] at hk8
        clear HK
        generalize hg8 : w7.heap.size = g8 at hk8
        have Hg8 := Lib.hid hg8; clear hg8
        have HK := Lib.hid hk8; clear hk8
        have zz := HK.out.at (.tail _ (.head _))
        rw [HC.out] at zz
        clear zz
        have HKd := Lib.hid HK.out.drop.drop
        have hb1 := HKd.out.ask1 fun F h => Box_kn h q true
        have hbs := box_same (n := N) HAg2.out (dirOf true)
        have Hb1 := Lib.hid hb1; clear hb1
        have Hbs := Lib.hid hbs; clear hbs
        go_wp2_with fail
        rw [← hw8, Hg8.out]
        clear hw8 Hg8
        refine Hb1.out.mono ?_
        rintro e wa ⟨v1, rfl, own1, b1⟩
        obtain ⟨a1, k1', c1, rfl, hm1, -⟩ := own1.msgs
        have hka := HKd.out.step b1
        clear own1 b1 Hb1 HKd
        have HKd := Lib.hid hka; clear hka
        have Hm1 := Lib.hid hm1; clear hm1
        have hb2 := HKd.out.ask2 fun F h => Box_kn h q true
        have Hb2 := Lib.hid hb2; clear hb2
        go_wp2_with fail
        refine Hb2.out.mono ?_
        rintro e wb ⟨v2, rfl, own2, b2⟩
        obtain ⟨a2, k2', c2, rfl, hm2, -⟩ := own2.msgs
        have hka := HKd.out.step b2
        have hm1 := Hm1.out.keep b2
        have hsm := SameMsgs_calls hm1 hm2 Hbs.out
        clear own2 b2 Hb2 HKd Hm1 hm1 hm2 Hbs
        have HKd := Lib.hid hka; clear hka
        have Hsm := Lib.hid hsm; clear hsm
        go_wp2_with fail
        refine Hsm.out.mono ?_
        rintro e wc ⟨rfl, nd, rfl⟩
        have hka := HKd.out.step (below_drawn wb nd)
        generalize wb.drewN nd = wc at hka ⊢
        clear Hsm HKd
        have HKd := Lib.hid hka; clear hka
        have hb1 := HKd.out.ask1 fun F h => Box_kn h q false
        have hbs := box_same (n := N) HAg2.out (dirOf false)
        have Hb1 := Lib.hid hb1; clear hb1
        have Hbs := Lib.hid hbs; clear hbs
        go_wp2_with fail
        refine Hb1.out.mono ?_
        rintro e wa ⟨v1, rfl, own1, b1⟩
        obtain ⟨a1, k1', c1, rfl, hm1, -⟩ := own1.msgs
        have hka := HKd.out.step b1
        clear own1 b1 Hb1 HKd
        have HKd := Lib.hid hka; clear hka
        have Hm1 := Lib.hid hm1; clear hm1
        have hb2 := HKd.out.ask2 fun F h => Box_kn h q false
        have Hb2 := Lib.hid hb2; clear hb2
        go_wp2_with fail
        refine Hb2.out.mono ?_
        rintro e wb ⟨v2, rfl, own2, b2⟩
        obtain ⟨a2, k2', c2, rfl, hm2, -⟩ := own2.msgs
        have hka := HKd.out.step b2
        have hm1 := Hm1.out.keep b2
        have hsm := SameMsgs_calls hm1 hm2 Hbs.out
        clear own2 b2 Hb2 HKd Hm1 hm1 hm2 Hbs
        have HKd := Lib.hid hka; clear hka
        have Hsm := Lib.hid hsm; clear hsm
        go_wp2_with fail
        refine Hsm.out.mono ?_
        rintro e wc ⟨rfl, nd, rfl⟩
        have hka := HKd.out.step (below_drawn wb nd)
        generalize wb.drewN nd = wc at hka ⊢
        clear Hsm HKd
        have HKd := Lib.hid hka; clear hka
        go_wp2_with fail
        go_roundw
        case rel => exact ⟨j + 1, _, _, by omega, by go_num, HKd.out, HAg2.out, HO3.out, HO4.out⟩
        case measure => simp [intOf]; omega
    have n3 : (what == 3) = false := by simpa using q3
    by_cases q4 : what = 4
    · subst q4
      cases M with
      | true => as_aux_lemma =>
        clear HM3
        have hag2 : Agree q (clearK N s1 who) (clearK N s2 who) := clear_both HAg.out who
        have HO4 := Lib.hid (((HO2.out.clear who).mono (Nat.le_succ _) : Outs (j + 1) (clearK N s2 who)))
        have HO3 := Lib.hid (((HO1.out.clear who).mono (Nat.le_succ _) : Outs (j + 1) (clearK N s1 who)))
        have HAg2 := Lib.hid hag2; clear hag2
        have hc := HK.out.fst (fun F h => Clear_kn h who)
        have Hc := Lib.hid hc; clear hc
        go_wp2_with fail
        refine Hc.out.mono ?_
        rintro e w7 ⟨rfl, hk7⟩
        clear y0 y1 y2 y3 y4 y5 y6 y7 y8 y9
        clear Hc HK
        have HK := Lib.hid hk7; clear hk7
        have zz := HK.out.at (.head _)
        rw [HC.out] at zz
        have y0 := cells_at zz 0
        have y1 := cells_at zz 1
        have y2 := cells_at zz 2
        have y3 := cells_at zz 3
        have y4 := cells_at zz 4
        have y5 := cells_at zz 5
        have y6 := cells_at zz 6
        have y7 := cells_at zz 7
        have y8 := cells_at zz 8
        have y9 := cells_at zz 9
        clear zz
        have hc := HK.out.snd (fun F h => Clear_kn h who)
        clear HK
        have Hc := Lib.hid hc; clear hc
        go_wp2_with fail
        refine Hc.out.mono ?_
        rintro e w8 ⟨rfl, hk8⟩
        clear y0 y1 y2 y3 y4 y5 y6 y7 y8 y9
        clear Hc
        have HK := Lib.hid hk8; clear hk8
        have HKd := Lib.hid HK.out.drop
        have hb1 := HKd.out.ask1 fun F h => Box_kn h q true
        have hbs := box_same (n := N) HAg2.out (dirOf true)
        have Hb1 := Lib.hid hb1; clear hb1
        have Hbs := Lib.hid hbs; clear hbs
        go_wp2_with fail
        refine Hb1.out.mono ?_
        rintro e wa ⟨v1, rfl, own1, b1⟩
        obtain ⟨a1, k1', c1, rfl, hm1, -⟩ := own1.msgs
        have hka := HKd.out.step b1
        clear own1 b1 Hb1 HKd
        have HKd := Lib.hid hka; clear hka
        have Hm1 := Lib.hid hm1; clear hm1
        have hb2 := HKd.out.ask2 fun F h => Box_kn h q true
        have Hb2 := Lib.hid hb2; clear hb2
        go_wp2_with fail
        refine Hb2.out.mono ?_
        rintro e wb ⟨v2, rfl, own2, b2⟩
        obtain ⟨a2, k2', c2, rfl, hm2, -⟩ := own2.msgs
        have hka := HKd.out.step b2
        have hm1 := Hm1.out.keep b2
        have hsm := SameMsgs_calls hm1 hm2 Hbs.out
        clear own2 b2 Hb2 HKd Hm1 hm1 hm2 Hbs
        have HKd := Lib.hid hka; clear hka
        have Hsm := Lib.hid hsm; clear hsm
        go_wp2_with fail
        refine Hsm.out.mono ?_
        rintro e wc ⟨rfl, nd, rfl⟩
        have hka := HKd.out.step (below_drawn wb nd)
        generalize wb.drewN nd = wc at hka ⊢
        clear Hsm HKd
        have HKd := Lib.hid hka; clear hka
        have hb1 := HKd.out.ask1 fun F h => Box_kn h q false
        have hbs := box_same (n := N) HAg2.out (dirOf false)
        have Hb1 := Lib.hid hb1; clear hb1
        have Hbs := Lib.hid hbs; clear hbs
        go_wp2_with fail
        refine Hb1.out.mono ?_
        rintro e wa ⟨v1, rfl, own1, b1⟩
        obtain ⟨a1, k1', c1, rfl, hm1, -⟩ := own1.msgs
        have hka := HKd.out.step b1
        clear own1 b1 Hb1 HKd
        have HKd := Lib.hid hka; clear hka
        have Hm1 := Lib.hid hm1; clear hm1
        have hb2 := HKd.out.ask2 fun F h => Box_kn h q false
        have Hb2 := Lib.hid hb2; clear hb2
        go_wp2_with fail
        refine Hb2.out.mono ?_
        rintro e wb ⟨v2, rfl, own2, b2⟩
        obtain ⟨a2, k2', c2, rfl, hm2, -⟩ := own2.msgs
        have hka := HKd.out.step b2
        have hm1 := Hm1.out.keep b2
        have hsm := SameMsgs_calls hm1 hm2 Hbs.out
        clear own2 b2 Hb2 HKd Hm1 hm1 hm2 Hbs
        have HKd := Lib.hid hka; clear hka
        have Hsm := Lib.hid hsm; clear hsm
        go_wp2_with fail
        refine Hsm.out.mono ?_
        rintro e wc ⟨rfl, nd, rfl⟩
        have hka := HKd.out.step (below_drawn wb nd)
        generalize wb.drewN nd = wc at hka ⊢
        clear Hsm HKd
        have HKd := Lib.hid hka; clear hka
        go_wp2_with fail
        go_roundw
        case rel => exact ⟨j + 1, _, _, by omega, by go_num, HKd.out, HAg2.out, HO3.out, HO4.out⟩
        case measure => simp [intOf]; omega
      | false => as_aux_lemma =>
        have hno : ¬ who = q ∧ ¬ who = (N : Int) := by simpa [mineOf] using HM3.out.2 rfl
        have hn1 := hno.1
        have hn2 := hno.2
        clear HM3
        have hag2 : Agree q (clearK N s1 who) s2 := (clear_other who hn1 hn2).trans HAg.out
        have HO4 := Lib.hid (HO2.out.mono (Nat.le_succ j))
        have HO3 := Lib.hid (((HO1.out.clear who).mono (Nat.le_succ _) : Outs (j + 1) (clearK N s1 who)))
        have HAg2 := Lib.hid hag2; clear hag2
        have hc := HK.out.fst (fun F h => Clear_kn h who)
        have Hc := Lib.hid hc; clear hc
        go_wp2_with fail
        refine Hc.out.mono ?_
        rintro e w7 ⟨rfl, hk7⟩
        clear y0 y1 y2 y3 y4 y5 y6 y7 y8 y9
        clear Hc HK
        have HK := Lib.hid hk7; clear hk7
        have HKd := Lib.hid HK.out.drop
        have hb1 := HKd.out.ask1 fun F h => Box_kn h q true
        have hbs := box_same (n := N) HAg2.out (dirOf true)
        have Hb1 := Lib.hid hb1; clear hb1
        have Hbs := Lib.hid hbs; clear hbs
        go_wp2_with fail
        refine Hb1.out.mono ?_
        rintro e wa ⟨v1, rfl, own1, b1⟩
        obtain ⟨a1, k1', c1, rfl, hm1, -⟩ := own1.msgs
        have hka := HKd.out.step b1
        clear own1 b1 Hb1 HKd
        have HKd := Lib.hid hka; clear hka
        have Hm1 := Lib.hid hm1; clear hm1
        have hb2 := HKd.out.ask2 fun F h => Box_kn h q true
        have Hb2 := Lib.hid hb2; clear hb2
        go_wp2_with fail
        refine Hb2.out.mono ?_
        rintro e wb ⟨v2, rfl, own2, b2⟩
        obtain ⟨a2, k2', c2, rfl, hm2, -⟩ := own2.msgs
        have hka := HKd.out.step b2
        have hm1 := Hm1.out.keep b2
        have hsm := SameMsgs_calls hm1 hm2 Hbs.out
        clear own2 b2 Hb2 HKd Hm1 hm1 hm2 Hbs
        have HKd := Lib.hid hka; clear hka
        have Hsm := Lib.hid hsm; clear hsm
        go_wp2_with fail
        refine Hsm.out.mono ?_
        rintro e wc ⟨rfl, nd, rfl⟩
        have hka := HKd.out.step (below_drawn wb nd)
        generalize wb.drewN nd = wc at hka ⊢
        clear Hsm HKd
        have HKd := Lib.hid hka; clear hka
        have hb1 := HKd.out.ask1 fun F h => Box_kn h q false
        have hbs := box_same (n := N) HAg2.out (dirOf false)
        have Hb1 := Lib.hid hb1; clear hb1
        have Hbs := Lib.hid hbs; clear hbs
        go_wp2_with fail
        refine Hb1.out.mono ?_
        rintro e wa ⟨v1, rfl, own1, b1⟩
        obtain ⟨a1, k1', c1, rfl, hm1, -⟩ := own1.msgs
        have hka := HKd.out.step b1
        clear own1 b1 Hb1 HKd
        have HKd := Lib.hid hka; clear hka
        have Hm1 := Lib.hid hm1; clear hm1
        have hb2 := HKd.out.ask2 fun F h => Box_kn h q false
        have Hb2 := Lib.hid hb2; clear hb2
        go_wp2_with fail
        refine Hb2.out.mono ?_
        rintro e wb ⟨v2, rfl, own2, b2⟩
        obtain ⟨a2, k2', c2, rfl, hm2, -⟩ := own2.msgs
        have hka := HKd.out.step b2
        have hm1 := Hm1.out.keep b2
        have hsm := SameMsgs_calls hm1 hm2 Hbs.out
        clear own2 b2 Hb2 HKd Hm1 hm1 hm2 Hbs
        have HKd := Lib.hid hka; clear hka
        have Hsm := Lib.hid hsm; clear hsm
        go_wp2_with fail
        refine Hsm.out.mono ?_
        rintro e wc ⟨rfl, nd, rfl⟩
        have hka := HKd.out.step (below_drawn wb nd)
        generalize wb.drewN nd = wc at hka ⊢
        clear Hsm HKd
        have HKd := Lib.hid hka; clear hka
        go_wp2_with fail
        go_roundw
        case rel => exact ⟨j + 1, _, _, by omega, by go_num, HKd.out, HAg2.out, HO3.out, HO4.out⟩
        case measure => simp [intOf]; omega
    have n4 : (what == 4) = false := by simpa using q4
    clear q0 q1 q2 q3 q4
    have HAg2 := Lib.hid HAg.out
    have HO3 := Lib.hid (HO1.out.mono (Nat.le_succ j))
    have HO4 := Lib.hid (HO2.out.mono (Nat.le_succ j))
    clear HM3
    have HKd := Lib.hid HK.out.drop
    have hb1 := HKd.out.ask1 fun F h => Box_kn h q true
    have hbs := box_same (n := N) HAg2.out (dirOf true)
    have Hb1 := Lib.hid hb1; clear hb1
    have Hbs := Lib.hid hbs; clear hbs
    go_wp2_with fail
    refine Hb1.out.mono ?_
    rintro e wa ⟨v1, rfl, own1, b1⟩
    obtain ⟨a1, k1', c1, rfl, hm1, -⟩ := own1.msgs
    have hka := HKd.out.step b1
    clear own1 b1 Hb1 HKd
    have HKd := Lib.hid hka; clear hka
    have Hm1 := Lib.hid hm1; clear hm1
    have hb2 := HKd.out.ask2 fun F h => Box_kn h q true
    have Hb2 := Lib.hid hb2; clear hb2
    go_wp2_with fail
    refine Hb2.out.mono ?_
    rintro e wb ⟨v2, rfl, own2, b2⟩
    obtain ⟨a2, k2', c2, rfl, hm2, -⟩ := own2.msgs
    have hka := HKd.out.step b2
    have hm1 := Hm1.out.keep b2
    have hsm := SameMsgs_calls hm1 hm2 Hbs.out
    clear own2 b2 Hb2 HKd Hm1 hm1 hm2 Hbs
    have HKd := Lib.hid hka; clear hka
    have Hsm := Lib.hid hsm; clear hsm
    go_wp2_with fail
    refine Hsm.out.mono ?_
    rintro e wc ⟨rfl, nd, rfl⟩
    have hka := HKd.out.step (below_drawn wb nd)
    generalize wb.drewN nd = wc at hka ⊢
    clear Hsm HKd
    have HKd := Lib.hid hka; clear hka
    have hb1 := HKd.out.ask1 fun F h => Box_kn h q false
    have hbs := box_same (n := N) HAg2.out (dirOf false)
    have Hb1 := Lib.hid hb1; clear hb1
    have Hbs := Lib.hid hbs; clear hbs
    go_wp2_with fail
    refine Hb1.out.mono ?_
    rintro e wa ⟨v1, rfl, own1, b1⟩
    obtain ⟨a1, k1', c1, rfl, hm1, -⟩ := own1.msgs
    have hka := HKd.out.step b1
    clear own1 b1 Hb1 HKd
    have HKd := Lib.hid hka; clear hka
    have Hm1 := Lib.hid hm1; clear hm1
    have hb2 := HKd.out.ask2 fun F h => Box_kn h q false
    have Hb2 := Lib.hid hb2; clear hb2
    go_wp2_with fail
    refine Hb2.out.mono ?_
    rintro e wb ⟨v2, rfl, own2, b2⟩
    obtain ⟨a2, k2', c2, rfl, hm2, -⟩ := own2.msgs
    have hka := HKd.out.step b2
    have hm1 := Hm1.out.keep b2
    have hsm := SameMsgs_calls hm1 hm2 Hbs.out
    clear own2 b2 Hb2 HKd Hm1 hm1 hm2 Hbs
    have HKd := Lib.hid hka; clear hka
    have Hsm := Lib.hid hsm; clear hsm
    go_wp2_with fail
    refine Hsm.out.mono ?_
    rintro e wc ⟨rfl, nd, rfl⟩
    have hka := HKd.out.step (below_drawn wb nd)
    generalize wb.drewN nd = wc at hka ⊢
    clear Hsm HKd
    have HKd := Lib.hid hka; clear hka
    go_wp2_with fail
    go_roundw
    case rel => exact ⟨j + 1, _, _, by omega, by go_num, HKd.out, HAg2.out, HO3.out, HO4.out⟩
    case measure => simp [intOf]; omega
end Go.Proofs.YtclgakdfeeefiaaDoor
