/- The law KernCalls. -/
import Derived.Test.YtclgakdfeeefiaaDoorKernX
namespace Go.Proofs.YtclgakdfeeefiaaDoor
open Go.RowKit

set_option maxHeartbeats 64000000 in
set_option maxRecDepth 100000 in
theorem lawKernCalls {w : World} {P W D : Int} {a : Option Addr} {n c : Nat} {xs : List CallK} (hT : TabOk w) (_h1 : (Lit.int .i64 P).wf = true) (_h2 : (Lit.int .i64 W).wf = true) (_h3 : (Lit.int .i64 D).wf = true) (hx : KRow w a n c xs) :
    Calls Tryd.prog 6 #[.int .i64 P, .int .i64 W, .int .i64 D, .slice a n c] w fun e w' => e = .returned (.bool true) ∧ Below w.heap.size w w' := by
  have hl := hx.len
  have ha := alive_calls hT
  have h0 : 0 < w.heap.size := World.block_lt_of_cell? _ _ (hT 0 (by decide))
  have HA := Lib.hid ha; clear ha
  have HT := Lib.hid hT; clear hT
  have H0 := Lib.hid h0; clear h0
  have Hx := Lib.hid hx; clear hx _h1 _h2 _h3
  have Hl := Lib.hid hl; clear hl
  go_enter Tryd.func6, Tryd.ntmps6
  go_wp2_with fail
  refine HA.out.mono ?_
  rintro e w1 ⟨rfl, b1⟩
  clear HA
  have Hb1 := Lib.hid b1; clear b1
  by_cases h1 : 150 < n
  · have e0 : decide ((150 : Int) < (n : Int)) = true := decide_eq_true (by omega)
    go_wp2
    go_ret
    exact ⟨rfl, Hb1.out⟩
  have e0 : decide ((150 : Int) < (n : Int)) = false := decide_eq_false (by omega)
  have hn150 : n ≤ 150 := by omega
  clear h1
  by_cases hg : Pl.good (P, W, D)
  case neg =>
    have hn := New_kbad (w := w1) (P, W, D) hg
    have hrn := fun w : World => RNew_bad (w := w) hg
    simp only [Pl.cells, Pl.parts, Pl.window, Pl.delay] at hn hrn
    have Hn := Lib.hid hn; clear hn hg
    have Hrn := Lib.hid hrn; clear hrn
    go_wp2_with fail
    refine Hn.out.mono ?_
    rintro e w2 ⟨rfl, b2⟩
    have hb2 := Hb1.out.trans (b2.mono Hb1.out.size)
    clear b2 Hb1
    have HB2 := Lib.hid hb2; clear hb2
    go_wp2_with fail
    refine (Hrn.out _).mono ?_
    rintro e w3 ⟨rfl, b3⟩
    have hb3 := HB2.out.trans (b3.mono HB2.out.size)
    clear b3 HB2
    have HB3 := Lib.hid hb3; clear hb3 Hn Hrn
    go_wp2_with fail
    refine wp_loop_rounds 1 ?_
    rw [rounds_succ]
    by_cases hz : 0 < n
    · have z1 : decide ((0 : Int) < (n : Int)) = true := decide_eq_true (by omega)
      have z2 : decide (0 < n) = true := decide_eq_true hz
      go_wp2
      go_ret
      exact ⟨rfl, HB3.out⟩
    · have z1 : decide ((0 : Int) < (n : Int)) = false := decide_eq_false (by omega)
      have z2 : decide (0 < n) = false := decide_eq_false hz
      go_wp2
      go_ret
      exact ⟨rfl, HB3.out⟩
  case pos =>
  obtain ⟨N, rfl⟩ : ∃ N : Nat, P = N := ⟨P.toNat, by have := hg.1; simp only [Pl.parts] at this; omega⟩
  have hn := New_kl (w0 := w) Hb1.out (HT.out.below Hb1.out) (Nat.lt_of_lt_of_le H0.out Hb1.out.size) ((N : Int), W, D) hg (n := N) rfl (L := []) (fun x hx => by cases hx)
  simp only [Pl.cells, Pl.parts, Pl.window, Pl.delay] at hn
  have Hn := Lib.hid hn; clear hn hg HT H0 Hb1
  go_wp2_with fail
  refine Hn.out.mono ?_
  rintro e w3 ⟨k1, rfl, hk, -⟩
  have hrn := hk.beside
  simp only [Pl.parts, Pl.window, Pl.delay] at hrn
  have Hrn := Lib.hid hrn; clear hrn hk Hn
  go_wp2_with fail
  refine Hrn.out.mono ?_
  rintro e w4 ⟨k2, rfl, hk⟩
  clear Hrn e0
  have HK := Lib.hid hk; clear hk
  go_wp2_with fail
  go_loopw [13] (fun i wr => ∃ (j : Nat) (st : Sta), j ≤ n ∧ i = .int .i64 j ∧ KR w wr k1 k2 N ((N : Int), W, D) st st [] ∧ Outs j st ∧ Boxs st) (fun i _ => n - (intOf i).toNat)
  case atStart => exact ⟨0, st0, by omega, rfl, HK.out, outs0, boxs0⟩
  case round =>
    clear HK
    obtain ⟨j, st, hj, rfl, hk, ho, hbx⟩ := hrel
    have HK := Lib.hid hk; clear hk
    have HO := Lib.hid ho; clear ho
    have HX := Lib.hid hbx; clear hbx
    by_cases hlt : j < n
    case neg =>
      obtain rfl : j = n := by omega
      have HB := Lib.hid HK.out.bel
      go_wp2
      go_ret
      exact ⟨rfl, HB.out⟩
    case pos =>
    have hxr := Hx.out.keep HK.out.bel
    obtain ⟨bx, ox, rfl⟩ := hxr.addr (by omega)
    have hqx : j < xs.length := by rw [Hl.out]; exact hlt
    have hcx := hxr.at hqx
    obtain ⟨x, hx⟩ : ∃ x, x = xs[j] := ⟨_, rfl⟩
    rw [← hx] at hcx
    clear hx hxr
    have x0 := hcx 0 _ rfl
    have x1 := hcx 1 _ rfl
    have x2 := hcx 2 _ rfl
    have x3 := hcx 3 _ rfl
    have x4 := hcx 4 _ rfl
    have x5 := hcx 5 _ rfl
    have x6 := hcx 6 _ rfl
    have x7 := hcx 7 _ rfl
    have x8 := hcx 8 _ rfl
    have x9 := hcx 9 _ rfl
    clear hcx
    obtain ⟨what, who, to, pos, now, up, m0, m1, m2, m3⟩ := x
    simp only [callKF, Nat.add_zero] at x0 x1 x2 x3 x4 x5 x6 x7 x8 x9
    have i1 : (0 : Int) ≤ (j : Int) := by omega
    have i2 : (j : Int) < (n : Int) := by omega
    have hj150 : j ≤ 150 := by omega
    obtain ⟨C, hC⟩ : ∃ C, C = Obj.cells #[.int .i64 what, .int .i64 who, .int .i64 to, .int .i64 pos, .int .i64 now, .bool up, .int .i64 m0, .int .i64 m1, .int .i64 m2, .int .i64 m3] 54 (0, 0) := ⟨_, rfl⟩
    obtain ⟨w5, hw5⟩ : ∃ w5, w5 = wr.alloc (.cells #[.int .i64 what, .int .i64 who, .int .i64 to, .int .i64 pos, .int .i64 now, .bool up, .int .i64 m0, .int .i64 m1, .int .i64 m2, .int .i64 m3] 54) := ⟨_, rfl⟩
    have hk5 := HK.out.made (.cells #[.int .i64 what, .int .i64 who, .int .i64 to, .int .i64 pos, .int .i64 now, .bool up, .int .i64 m0, .int .i64 m1, .int .i64 m2, .int .i64 m3] 54)
    rw [← hw5, ← hC] at hk5
    clear HK
    generalize hgm : wr.heap.size = gm at hk5
    have HC := Lib.hid hC; clear hC
    have HK := Lib.hid hk5; clear hk5
    have Hgm := Lib.hid hgm; clear hgm
    have XS := Lib.hid (And.intro x0 (And.intro x1 (And.intro x2 (And.intro x3 (And.intro x4 (And.intro x5 (And.intro x6 (And.intro x7 (And.intro x8 x9)))))))))
    clear x0 x1 x2 x3 x4 x5 x6 x7 x8 x9
    by_cases q0 : what = 0
    · subst q0
      as_aux_lemma =>
        have HO3 := Lib.hid ((HO.out.send who to (m0, m1, m2, m3) now : Outs (j + 1) (sendK N ((N : Int), W, D) st who to (m0, m1, m2, m3) now).2))
        have HX3 := Lib.hid ((HX.out.send who to (m0, m1, m2, m3) now : Boxs (sendK N ((N : Int), W, D) st who to (m0, m1, m2, m3) now).2))
        obtain ⟨R, hR⟩ : ∃ R, R = sendK N ((N : Int), W, D) st who to (m0, m1, m2, m3) now := ⟨_, rfl⟩
        rw [← hR] at HO3 HX3
        have HR := Lib.hid hR; clear hR
        obtain ⟨x0, x1, x2, x3, x4, x5, x6, x7, x8, x9⟩ := XS.out
        have zz := HK.out.at (.head _)
        rw [HC.out] at zz
        have y0 := cells_at zz 0
        have y1 := cells_at zz 1
        have y2 := cells_at zz 2
        have y3 := cells_at zz 3
        have y4 := cells_at zz 4
        have y5 := cells_at zz 5
        have y6 := cells_at zz 6
        have y7 := cells_at zz 7
        have y8 := cells_at zz 8
        have y9 := cells_at zz 9
        clear zz
        rw [hw5] at y0 y1 y2 y3 y4 y5 y6 y7 y8 y9
        rw [← Hgm.out] at y0 y1 y2 y3 y4 y5 y6 y7 y8 y9
        go_wp2_with fail
        rw [← hw5]
        try rw [Hgm.out]
        clear hw5 y0 y1 y2 y3 y4 y5 y6 y7 y8 y9 x0 x1 x2 x3 x4 x5 x6 x7 x8 x9 XS Hgm
        obtain ⟨S, hS⟩ : ∃ S : World → Prop, S = fun w' => w'.heap[gm]? = some C := ⟨_, rfl⟩
        have hk6 := HK.out.step (below_drew w5)
        have s0 : S w5.drew := by rw [hS]; exact hk6.at (.head _)
        refine wp_region_held S [0, 1, 2, 3, 4, 5, 6, 7, 8, 10, 11, 12, 13, 14, 15, 16, 17, 18] [[9], [19], [20]] (by kernel_rfl) (by kernel_rfl) rfl (by kernel_rfl) (fun _ _ _ h => by obtain ⟨_, h, _⟩ := h; cases h) (fun _ _ h => by obtain ⟨h, _⟩ := h; cases h) s0 (by kernel_rfl) ?_
        generalize w5.drew = w6 at s0 hk6 ⊢
        clear s0 HK
        have HK := Lib.hid hk6; clear hk6
        have HSd := Lib.hid hS; clear hS
        apply Exists.intro
        apply And.intro
        · intro w' s
          rw [HSd.out, HC.out] at s
          have y0 := cells_at s 0
          have y1 := cells_at s 1
          have y2 := cells_at s 2
          have y3 := cells_at s 3
          have y4 := cells_at s 4
          have y5 := cells_at s 5
          have y6 := cells_at s 6
          have y7 := cells_at s 7
          have y8 := cells_at s 8
          have y9 := cells_at s 9
          clear s
          simp only [List.map_cons, List.map_nil, List.getD_cons_zero, List.getD_cons_succ]
          go_wp2_with fail
          exact pre_end
        simp only [List.map_cons, List.map_nil, List.getD_cons_zero, List.getD_cons_succ]
        have hc := HK.out.fst fun F h => Send_kn h (fun e => Nat.le_trans (HO.out e) (by omega)) who to (m0, m1, m2, m3) now
        rw [← HR.out] at hc
        simp only [Msg.cells, Msg.kind, Msg.part, Msg.tx, Msg.what] at hc
        have Hc := Lib.hid hc; clear hc
        refine segs_more ?_
        go_wp2_with fail
        refine Hc.out.mono ?_
        rintro e w7 ⟨rfl, hk7⟩
        clear Hc HK
        have HK := Lib.hid hk7; clear hk7
        go_wp2_with fail
        have sq : S w7 := by rw [HSd.out]; exact HK.out.at (.head _)
        refine seg_end sq ?_
        clear sq
        have hc := HK.out.snd fun F h => Send_rn h (fun e => Nat.le_trans (HO.out e) (by omega)) who to (m0, m1, m2, m3) now
        rw [← HR.out] at hc
        simp only [Msg.cells, Msg.kind, Msg.part, Msg.tx, Msg.what] at hc
        have Hc := Lib.hid hc; clear hc
        refine segs_more ?_
        go_wp2_with fail
        refine Hc.out.mono ?_
        rintro e w8 ⟨rfl, hk8⟩
        clear Hc HK
        have HK := Lib.hid hk8; clear hk8
        go_wp2_with fail
        have sq : S w8 := by rw [HSd.out]; exact HK.out.at (.head _)
        refine seg_end sq (segs_last ?_)
        clear sq
        have ne : (R.1 != R.1) = false := by simp
        skip
        go_wp2_with fail
        clear HSd
        have HKd := Lib.hid HK.out; clear HK
        obtain ⟨LL, hLL⟩ : ∃ l, l = labelOf N who := ⟨_, rfl⟩
        obtain ⟨ll1, ll2⟩ := LL
        obtain ⟨FL, hFL⟩ : ∃ f, f = flowOf N who to := ⟨_, rfl⟩
        obtain ⟨BX, hBX⟩ : ∃ b, b = boxK N (R.2) (who, dirOf up) := ⟨_, rfl⟩
        have HLL := Lib.hid hLL; clear hLL
        have HFL := Lib.hid hFL; clear hFL
        have HBX := Lib.hid hBX; clear hBX
        have lq := fun w => label_neq w (ll1, ll2) (ll1, ll2)
        have lg := fun x y w => label_guard .neq x y (ll1, ll2) (ll1, ll2) w
        simp only [Label.cells, decide_true, Bool.not_true] at lq lg
        have fq : (FL != FL) = false := by simp
        have Lq := Lib.hid (And.intro lq (And.intro lg fq)); clear lq lg fq
        go_wp2_with fail
        have s0 := below_drew w8
        refine wp_region_phases (fun w' : World => Below w8.heap.size w8 w') 213 [([0, 1, 2, 4, 5, 6], [[3], [7], [8], [9]]), ([10, 11, 12, 13, 14, 16, 17, 18, 19, 20], [[15], [21], [22], [23, 24]]), ([25, 26, 27, 28, 29, 31, 32, 33, 34, 35], [[30], [36], [37], [38, 39]])] (by kernel_rfl) (by kernel_rfl) rfl (by kernel_rfl) (fun _ _ _ h => by obtain ⟨_, h, _⟩ := h; cases h) s0 ?_
        generalize w8.drew = wd at s0 ⊢
        have Hs0 := Lib.hid s0; clear s0
        refine ph_more rfl ?_
        apply Exists.intro
        apply And.intro
        · intro w' s
          have zz := (HKd.out.step s).at (.head _)
          rw [HC.out] at zz
          have y0 := cells_at zz 0
          have y1 := cells_at zz 1
          have y2 := cells_at zz 2
          have y3 := cells_at zz 3
          have y4 := cells_at zz 4
          have y5 := cells_at zz 5
          have y6 := cells_at zz 6
          have y7 := cells_at zz 7
          have y8 := cells_at zz 8
          have y9 := cells_at zz 9
          clear zz s
          simp only [List.map_cons, List.map_nil, List.getD_cons_zero, List.getD_cons_succ]
          go_wp2_with fail
          exact pre_end
        simp only [List.map_cons, List.map_nil, List.getD_cons_zero, List.getD_cons_succ]
        refine segsK_more ?_
        have hc := (HKd.out.step Hs0.out).ask1 fun F h => Label_kn h who
        rw [← HLL.out] at hc
        simp only [Label.cells] at hc
        have Hc := Lib.hid hc; clear hc
        go_wp2_with fail
        refine (Hc.out).mono ?_
        rintro e we1 ⟨rfl, be⟩
        have se := Hs0.out.trans (be.mono Hs0.out.size)
        clear Hs0 be
        have Hs0 := Lib.hid se; clear se
        go_wp2_with fail
        refine seg_end Hs0.out (segsK_more ?_)
        have hc := (HKd.out.step Hs0.out).ask2 fun F h => RLabel_rn h who
        rw [← HLL.out] at hc
        simp only [Label.cells] at hc
        have Hc := Lib.hid hc; clear hc
        go_wp2_with fail
        refine (Hc.out).mono ?_
        rintro e we2 ⟨rfl, be⟩
        have se := Hs0.out.trans (be.mono Hs0.out.size)
        clear Hs0 be
        have Hs0 := Lib.hid se; clear se
        go_wp2_with fail
        refine seg_end Hs0.out (segsK_more ?_)
        obtain ⟨lq, lg, fq⟩ := Lq.out
        go_wp2_with fail
        clear lq lg fq
        refine seg_end Hs0.out (segsK_more ?_)
        go_wp2_with fail
        refine seg_end Hs0.out (segsK_end (ph_more rfl ?_))
        apply Exists.intro
        apply And.intro
        · intro w' s
          have zz := (HKd.out.step s).at (.head _)
          rw [HC.out] at zz
          have y0 := cells_at zz 0
          have y1 := cells_at zz 1
          have y2 := cells_at zz 2
          have y3 := cells_at zz 3
          have y4 := cells_at zz 4
          have y5 := cells_at zz 5
          have y6 := cells_at zz 6
          have y7 := cells_at zz 7
          have y8 := cells_at zz 8
          have y9 := cells_at zz 9
          clear zz s
          simp only [List.map_cons, List.map_nil, List.getD_cons_zero, List.getD_cons_succ]
          go_wp2_with fail
          exact pre_end
        simp only [List.map_cons, List.map_nil, List.getD_cons_zero, List.getD_cons_succ]
        refine segsK_more ?_
        have hc := (HKd.out.step Hs0.out).ask1 fun F h => Flow_kn h who to
        rw [← HFL.out] at hc
        have Hc := Lib.hid hc; clear hc
        go_wp2_with fail
        refine (Hc.out).mono ?_
        rintro e we3 ⟨rfl, be⟩
        have se := Hs0.out.trans (be.mono Hs0.out.size)
        clear Hs0 be
        have Hs0 := Lib.hid se; clear se
        go_wp2_with fail
        refine seg_end Hs0.out (segsK_more ?_)
        have hc := (HKd.out.step Hs0.out).ask2 fun F h => RFlow_rn h who to
        rw [← HFL.out] at hc
        have Hc := Lib.hid hc; clear hc
        go_wp2_with fail
        refine (Hc.out).mono ?_
        rintro e we4 ⟨rfl, be⟩
        have se := Hs0.out.trans (be.mono Hs0.out.size)
        clear Hs0 be
        have Hs0 := Lib.hid se; clear se
        go_wp2_with fail
        refine seg_end Hs0.out (segsK_more ?_)
        obtain ⟨lq, lg, fq⟩ := Lq.out
        go_wp2_with fail
        clear lq lg fq
        refine seg_end Hs0.out (segsK_more ?_)
        go_wp2_with fail
        refine seg_end Hs0.out (segsK_end (ph_more rfl ?_))
        apply Exists.intro
        apply And.intro
        · intro w' s
          have zz := (HKd.out.step s).at (.head _)
          rw [HC.out] at zz
          have y0 := cells_at zz 0
          have y1 := cells_at zz 1
          have y2 := cells_at zz 2
          have y3 := cells_at zz 3
          have y4 := cells_at zz 4
          have y5 := cells_at zz 5
          have y6 := cells_at zz 6
          have y7 := cells_at zz 7
          have y8 := cells_at zz 8
          have y9 := cells_at zz 9
          clear zz s
          simp only [List.map_cons, List.map_nil, List.getD_cons_zero, List.getD_cons_succ]
          go_wp2_with fail
          exact pre_end
        simp only [List.map_cons, List.map_nil, List.getD_cons_zero, List.getD_cons_succ]
        refine segsK_more ?_
        have hc := (HKd.out.step Hs0.out).ask1 fun F h => Box_kn h who up
        rw [← HBX.out] at hc
        have Hc := Lib.hid hc; clear hc
        go_wp2_with fail
        refine (Hc.out).mono ?_
        rintro e we5 ⟨v1, rfl, own1, be⟩
        have se := Hs0.out.trans (be.mono Hs0.out.size)
        obtain ⟨a1, n1, c1, rfl, hm1, -⟩ := own1.msgs
        have Hm1 := Lib.hid hm1; clear hm1 own1
        clear Hs0 be
        have Hs0 := Lib.hid se; clear se
        go_wp2_with fail
        refine seg_end Hs0.out (segsK_more ?_)
        have hc := (HKd.out.step Hs0.out).ask2 fun F h => Box_rn h who up
        rw [← HBX.out] at hc
        have Hc := Lib.hid hc; clear hc
        go_wp2_with fail
        refine Hc.out.mono ?_
        rintro e we6 ⟨a2, c2, rfl, hm2, rfl⟩
        have Hm2 := Lib.hid hm2; clear hm2
        go_wp2_with fail
        refine seg_end Hs0.out (segsK_more ?_)
        have hsm := SameMsgs_calls Hm1.out Hm2.out rfl
        have Hsm := Lib.hid hsm; clear hsm
        go_wp2_with fail
        refine Hsm.out.mono ?_
        rintro e wz ⟨rfl, nd, rfl⟩
        have be := below_drawn we6 nd
        generalize we6.drewN nd = wz at be ⊢
        have se := Hs0.out.trans (be.mono Hs0.out.size)
        clear Hs0 be Hsm Hm1 Hm2
        have Hs0 := Lib.hid se; clear se
        go_wp2_with fail
        refine seg_end Hs0.out (segsK_more ?_)
        go_wp2_with fail
        refine seg_end Hs0.out (segsK_end (ph_end ?_))
        have hkz := (HKd.out.step Hs0.out).drop
        clear Hs0 HKd Hc HBX HFL HLL Lq
        have HKz := Lib.hid hkz; clear hkz
        go_wp2_with fail
        go_roundw
        case rel => exact ⟨j + 1, _, by omega, by go_num, HKz.out, HO3.out, HX3.out⟩
        case measure => simp [intOf]; omega
    have n0 : (what == 0) = false := by simpa using q0
    by_cases q1 : what = 1
    · subst q1
      as_aux_lemma =>
        have HO3 := Lib.hid (((HO.out.out _).mono (Nat.le_succ _) : Outs (j + 1) (outK N st (who, dirOf up)).2))
        have HX3 := Lib.hid ((HX.out.out _ : Boxs (outK N st (who, dirOf up)).2))
        obtain ⟨R, hR⟩ : ∃ R, R = outK N st (who, dirOf up) := ⟨_, rfl⟩
        rw [← hR] at HO3 HX3
        have HR := Lib.hid hR; clear hR
        obtain ⟨x0, x1, x2, x3, x4, x5, x6, x7, x8, x9⟩ := XS.out
        have zz := HK.out.at (.head _)
        rw [HC.out] at zz
        have y0 := cells_at zz 0
        have y1 := cells_at zz 1
        have y2 := cells_at zz 2
        have y3 := cells_at zz 3
        have y4 := cells_at zz 4
        have y5 := cells_at zz 5
        have y6 := cells_at zz 6
        have y7 := cells_at zz 7
        have y8 := cells_at zz 8
        have y9 := cells_at zz 9
        clear zz
        rw [hw5] at y0 y1 y2 y3 y4 y5 y6 y7 y8 y9
        rw [← Hgm.out] at y0 y1 y2 y3 y4 y5 y6 y7 y8 y9
        go_wp2_with fail
        rw [← hw5]
        try rw [Hgm.out]
        clear hw5 y0 y1 y2 y3 y4 y5 y6 y7 y8 y9 x0 x1 x2 x3 x4 x5 x6 x7 x8 x9 XS Hgm
        obtain ⟨S, hS⟩ : ∃ S : World → Prop, S = fun w' => w'.heap[gm]? = some C := ⟨_, rfl⟩
        have hk6 := HK.out.step (below_drew w5)
        have s0 : S w5.drew := by rw [hS]; exact hk6.at (.head _)
        refine wp_region_held S [0, 1, 2, 3, 4, 6, 7, 8, 9, 10] [[5], [11], [12, 13]] (by kernel_rfl) (by kernel_rfl) rfl (by kernel_rfl) (fun _ _ _ h => by obtain ⟨_, h, _⟩ := h; cases h) (fun _ _ h => by obtain ⟨h, _⟩ := h; cases h) s0 (by kernel_rfl) ?_
        generalize w5.drew = w6 at s0 hk6 ⊢
        clear s0 HK
        have HK := Lib.hid hk6; clear hk6
        have HSd := Lib.hid hS; clear hS
        apply Exists.intro
        apply And.intro
        · intro w' s
          rw [HSd.out, HC.out] at s
          have y0 := cells_at s 0
          have y1 := cells_at s 1
          have y2 := cells_at s 2
          have y3 := cells_at s 3
          have y4 := cells_at s 4
          have y5 := cells_at s 5
          have y6 := cells_at s 6
          have y7 := cells_at s 7
          have y8 := cells_at s 8
          have y9 := cells_at s 9
          clear s
          simp only [List.map_cons, List.map_nil, List.getD_cons_zero, List.getD_cons_succ]
          go_wp2_with fail
          exact pre_end
        simp only [List.map_cons, List.map_nil, List.getD_cons_zero, List.getD_cons_succ]
        have hc := HK.out.out1 who up
        rw [← HR.out] at hc
        have Hc := Lib.hid hc; clear hc
        refine segs_more ?_
        go_wp2_with fail
        refine Hc.out.mono ?_
        rintro e w7 ⟨oa, oc, rfl, hk7⟩
        clear Hc HK
        have HKM := Lib.hid hk7; clear hk7
        have HK := Lib.hid HKM.out.kr
        go_wp2_with fail
        have sq : S w7 := by rw [HSd.out]; exact HK.out.at (.head _)
        refine seg_end sq ?_
        clear sq
        have hc := HKM.out.out2 who up
        rw [← HR.out] at hc
        have Hc := Lib.hid hc; clear hc
        refine segs_more ?_
        go_wp2_with fail
        refine Hc.out.mono ?_
        rintro e w8 ⟨ob, oc2, rfl, hm2, hm1, hk8⟩
        have hsm := SameMsgs_calls hm1 hm2 rfl
        clear Hc HK HKM hm1 hm2
        have HK := Lib.hid hk8; clear hk8
        have Hsm := Lib.hid hsm; clear hsm
        go_wp2_with fail
        have sq : S w8 := by rw [HSd.out]; exact HK.out.at (.head _)
        refine seg_end sq (segs_last ?_)
        clear sq
        skip
        go_wp2_with fail
        refine Hsm.out.mono ?_
        rintro e w9 ⟨rfl, nd, rfl⟩
        have hk9 := HK.out.step (below_drawn w8 nd)
        generalize w8.drewN nd = w9 at hk9 ⊢
        clear Hsm HK
        have HK := Lib.hid hk9; clear hk9
        clear HSd
        have HKd := Lib.hid HK.out; clear HK
        obtain ⟨LL, hLL⟩ : ∃ l, l = labelOf N who := ⟨_, rfl⟩
        obtain ⟨ll1, ll2⟩ := LL
        obtain ⟨FL, hFL⟩ : ∃ f, f = flowOf N who to := ⟨_, rfl⟩
        obtain ⟨BX, hBX⟩ : ∃ b, b = boxK N (R.2) (who, dirOf up) := ⟨_, rfl⟩
        have HLL := Lib.hid hLL; clear hLL
        have HFL := Lib.hid hFL; clear hFL
        have HBX := Lib.hid hBX; clear hBX
        have lq := fun w => label_neq w (ll1, ll2) (ll1, ll2)
        have lg := fun x y w => label_guard .neq x y (ll1, ll2) (ll1, ll2) w
        simp only [Label.cells, decide_true, Bool.not_true] at lq lg
        have fq : (FL != FL) = false := by simp
        have Lq := Lib.hid (And.intro lq (And.intro lg fq)); clear lq lg fq
        go_wp2_with fail
        have s0 := below_drew w9
        refine wp_region_phases (fun w' : World => Below w9.heap.size w9 w') 213 [([0, 1, 2, 4, 5, 6], [[3], [7], [8], [9]]), ([10, 11, 12, 13, 14, 16, 17, 18, 19, 20], [[15], [21], [22], [23, 24]]), ([25, 26, 27, 28, 29, 31, 32, 33, 34, 35], [[30], [36], [37], [38, 39]])] (by kernel_rfl) (by kernel_rfl) rfl (by kernel_rfl) (fun _ _ _ h => by obtain ⟨_, h, _⟩ := h; cases h) s0 ?_
        generalize w9.drew = wd at s0 ⊢
        have Hs0 := Lib.hid s0; clear s0
        refine ph_more rfl ?_
        apply Exists.intro
        apply And.intro
        · intro w' s
          have zz := (HKd.out.step s).at (.head _)
          rw [HC.out] at zz
          have y0 := cells_at zz 0
          have y1 := cells_at zz 1
          have y2 := cells_at zz 2
          have y3 := cells_at zz 3
          have y4 := cells_at zz 4
          have y5 := cells_at zz 5
          have y6 := cells_at zz 6
          have y7 := cells_at zz 7
          have y8 := cells_at zz 8
          have y9 := cells_at zz 9
          clear zz s
          simp only [List.map_cons, List.map_nil, List.getD_cons_zero, List.getD_cons_succ]
          go_wp2_with fail
          exact pre_end
        simp only [List.map_cons, List.map_nil, List.getD_cons_zero, List.getD_cons_succ]
        refine segsK_more ?_
        have hc := (HKd.out.step Hs0.out).ask1 fun F h => Label_kn h who
        rw [← HLL.out] at hc
        simp only [Label.cells] at hc
        have Hc := Lib.hid hc; clear hc
        go_wp2_with fail
        refine (Hc.out).mono ?_
        rintro e we1 ⟨rfl, be⟩
        have se := Hs0.out.trans (be.mono Hs0.out.size)
        clear Hs0 be
        have Hs0 := Lib.hid se; clear se
        go_wp2_with fail
        refine seg_end Hs0.out (segsK_more ?_)
        have hc := (HKd.out.step Hs0.out).ask2 fun F h => RLabel_rn h who
        rw [← HLL.out] at hc
        simp only [Label.cells] at hc
        have Hc := Lib.hid hc; clear hc
        go_wp2_with fail
        refine (Hc.out).mono ?_
        rintro e we2 ⟨rfl, be⟩
        have se := Hs0.out.trans (be.mono Hs0.out.size)
        clear Hs0 be
        have Hs0 := Lib.hid se; clear se
        go_wp2_with fail
        refine seg_end Hs0.out (segsK_more ?_)
        obtain ⟨lq, lg, fq⟩ := Lq.out
        go_wp2_with fail
        clear lq lg fq
        refine seg_end Hs0.out (segsK_more ?_)
        go_wp2_with fail
        refine seg_end Hs0.out (segsK_end (ph_more rfl ?_))
        apply Exists.intro
        apply And.intro
        · intro w' s
          have zz := (HKd.out.step s).at (.head _)
          rw [HC.out] at zz
          have y0 := cells_at zz 0
          have y1 := cells_at zz 1
          have y2 := cells_at zz 2
          have y3 := cells_at zz 3
          have y4 := cells_at zz 4
          have y5 := cells_at zz 5
          have y6 := cells_at zz 6
          have y7 := cells_at zz 7
          have y8 := cells_at zz 8
          have y9 := cells_at zz 9
          clear zz s
          simp only [List.map_cons, List.map_nil, List.getD_cons_zero, List.getD_cons_succ]
          go_wp2_with fail
          exact pre_end
        simp only [List.map_cons, List.map_nil, List.getD_cons_zero, List.getD_cons_succ]
        refine segsK_more ?_
        have hc := (HKd.out.step Hs0.out).ask1 fun F h => Flow_kn h who to
        rw [← HFL.out] at hc
        have Hc := Lib.hid hc; clear hc
        go_wp2_with fail
        refine (Hc.out).mono ?_
        rintro e we3 ⟨rfl, be⟩
        have se := Hs0.out.trans (be.mono Hs0.out.size)
        clear Hs0 be
        have Hs0 := Lib.hid se; clear se
        go_wp2_with fail
        refine seg_end Hs0.out (segsK_more ?_)
        have hc := (HKd.out.step Hs0.out).ask2 fun F h => RFlow_rn h who to
        rw [← HFL.out] at hc
        have Hc := Lib.hid hc; clear hc
        go_wp2_with fail
        refine (Hc.out).mono ?_
        rintro e we4 ⟨rfl, be⟩
        have se := Hs0.out.trans (be.mono Hs0.out.size)
        clear Hs0 be
        have Hs0 := Lib.hid se; clear se
        go_wp2_with fail
        refine seg_end Hs0.out (segsK_more ?_)
        obtain ⟨lq, lg, fq⟩ := Lq.out
        go_wp2_with fail
        clear lq lg fq
        refine seg_end Hs0.out (segsK_more ?_)
        go_wp2_with fail
        refine seg_end Hs0.out (segsK_end (ph_more rfl ?_))
        apply Exists.intro
        apply And.intro
        · intro w' s
          have zz := (HKd.out.step s).at (.head _)
          rw [HC.out] at zz
          have y0 := cells_at zz 0
          have y1 := cells_at zz 1
          have y2 := cells_at zz 2
          have y3 := cells_at zz 3
          have y4 := cells_at zz 4
          have y5 := cells_at zz 5
          have y6 := cells_at zz 6
          have y7 := cells_at zz 7
          have y8 := cells_at zz 8
          have y9 := cells_at zz 9
          clear zz s
          simp only [List.map_cons, List.map_nil, List.getD_cons_zero, List.getD_cons_succ]
          go_wp2_with fail
          exact pre_end
        simp only [List.map_cons, List.map_nil, List.getD_cons_zero, List.getD_cons_succ]
        refine segsK_more ?_
        have hc := (HKd.out.step Hs0.out).ask1 fun F h => Box_kn h who up
        rw [← HBX.out] at hc
        have Hc := Lib.hid hc; clear hc
        go_wp2_with fail
        refine (Hc.out).mono ?_
        rintro e we5 ⟨v1, rfl, own1, be⟩
        have se := Hs0.out.trans (be.mono Hs0.out.size)
        obtain ⟨a1, n1, c1, rfl, hm1, -⟩ := own1.msgs
        have Hm1 := Lib.hid hm1; clear hm1 own1
        clear Hs0 be
        have Hs0 := Lib.hid se; clear se
        go_wp2_with fail
        refine seg_end Hs0.out (segsK_more ?_)
        have hc := (HKd.out.step Hs0.out).ask2 fun F h => Box_rn h who up
        rw [← HBX.out] at hc
        have Hc := Lib.hid hc; clear hc
        go_wp2_with fail
        refine Hc.out.mono ?_
        rintro e we6 ⟨a2, c2, rfl, hm2, rfl⟩
        have Hm2 := Lib.hid hm2; clear hm2
        go_wp2_with fail
        refine seg_end Hs0.out (segsK_more ?_)
        have hsm := SameMsgs_calls Hm1.out Hm2.out rfl
        have Hsm := Lib.hid hsm; clear hsm
        go_wp2_with fail
        refine Hsm.out.mono ?_
        rintro e wz ⟨rfl, nd, rfl⟩
        have be := below_drawn we6 nd
        generalize we6.drewN nd = wz at be ⊢
        have se := Hs0.out.trans (be.mono Hs0.out.size)
        clear Hs0 be Hsm Hm1 Hm2
        have Hs0 := Lib.hid se; clear se
        go_wp2_with fail
        refine seg_end Hs0.out (segsK_more ?_)
        go_wp2_with fail
        refine seg_end Hs0.out (segsK_end (ph_end ?_))
        have hkz := (HKd.out.step Hs0.out).drop
        clear Hs0 HKd Hc HBX HFL HLL Lq
        have HKz := Lib.hid hkz; clear hkz
        go_wp2_with fail
        go_roundw
        case rel => exact ⟨j + 1, _, by omega, by go_num, HKz.out, HO3.out, HX3.out⟩
        case measure => simp [intOf]; omega
    have n1 : (what == 1) = false := by simpa using q1
    by_cases q2 : what = 2
    · subst q2
      as_aux_lemma =>
        have HO3 := Lib.hid (((HO.out.carry _ _).mono (Nat.le_succ _) : Outs (j + 1) (carryK N st (who, dirOf up) (m0, m1, m2, m3)).2))
        have HX3 := Lib.hid ((HX.out.carry _ _ : Boxs (carryK N st (who, dirOf up) (m0, m1, m2, m3)).2))
        obtain ⟨R, hR⟩ : ∃ R, R = carryK N st (who, dirOf up) (m0, m1, m2, m3) := ⟨_, rfl⟩
        rw [← hR] at HO3 HX3
        have HR := Lib.hid hR; clear hR
        obtain ⟨x0, x1, x2, x3, x4, x5, x6, x7, x8, x9⟩ := XS.out
        have zz := HK.out.at (.head _)
        rw [HC.out] at zz
        have y0 := cells_at zz 0
        have y1 := cells_at zz 1
        have y2 := cells_at zz 2
        have y3 := cells_at zz 3
        have y4 := cells_at zz 4
        have y5 := cells_at zz 5
        have y6 := cells_at zz 6
        have y7 := cells_at zz 7
        have y8 := cells_at zz 8
        have y9 := cells_at zz 9
        clear zz
        rw [hw5] at y0 y1 y2 y3 y4 y5 y6 y7 y8 y9
        rw [← Hgm.out] at y0 y1 y2 y3 y4 y5 y6 y7 y8 y9
        go_wp2_with fail
        rw [← hw5]
        try rw [Hgm.out]
        clear hw5 y0 y1 y2 y3 y4 y5 y6 y7 y8 y9 x0 x1 x2 x3 x4 x5 x6 x7 x8 x9 XS Hgm
        obtain ⟨S, hS⟩ : ∃ S : World → Prop, S = fun w' => w'.heap[gm]? = some C := ⟨_, rfl⟩
        have hk6 := HK.out.step (below_drew w5)
        have s0 : S w5.drew := by rw [hS]; exact hk6.at (.head _)
        refine wp_region_held S [0, 1, 2, 3, 4, 5, 6, 8, 9, 10, 11, 12, 13, 14] [[7], [15], [16]] (by kernel_rfl) (by kernel_rfl) rfl (by kernel_rfl) (fun _ _ _ h => by obtain ⟨_, h, _⟩ := h; cases h) (fun _ _ h => by obtain ⟨h, _⟩ := h; cases h) s0 (by kernel_rfl) ?_
        generalize w5.drew = w6 at s0 hk6 ⊢
        clear s0 HK
        have HK := Lib.hid hk6; clear hk6
        have HSd := Lib.hid hS; clear hS
        apply Exists.intro
        apply And.intro
        · intro w' s
          rw [HSd.out, HC.out] at s
          have y0 := cells_at s 0
          have y1 := cells_at s 1
          have y2 := cells_at s 2
          have y3 := cells_at s 3
          have y4 := cells_at s 4
          have y5 := cells_at s 5
          have y6 := cells_at s 6
          have y7 := cells_at s 7
          have y8 := cells_at s 8
          have y9 := cells_at s 9
          clear s
          simp only [List.map_cons, List.map_nil, List.getD_cons_zero, List.getD_cons_succ]
          go_wp2_with fail
          exact pre_end
        simp only [List.map_cons, List.map_nil, List.getD_cons_zero, List.getD_cons_succ]
        have hc := HK.out.fst fun F h => Carry_kn h who up (m0, m1, m2, m3)
        rw [← HR.out] at hc
        simp only [Msg.cells, Msg.kind, Msg.part, Msg.tx, Msg.what] at hc
        have Hc := Lib.hid hc; clear hc
        refine segs_more ?_
        go_wp2_with fail
        refine Hc.out.mono ?_
        rintro e w7 ⟨rfl, hk7⟩
        clear Hc HK
        have HK := Lib.hid hk7; clear hk7
        go_wp2_with fail
        have sq : S w7 := by rw [HSd.out]; exact HK.out.at (.head _)
        refine seg_end sq ?_
        clear sq
        have hc := HK.out.snd fun F h => Carry_rn h who up (m0, m1, m2, m3)
        rw [← HR.out] at hc
        simp only [Msg.cells, Msg.kind, Msg.part, Msg.tx, Msg.what] at hc
        have Hc := Lib.hid hc; clear hc
        refine segs_more ?_
        go_wp2_with fail
        refine Hc.out.mono ?_
        rintro e w8 ⟨rfl, hk8⟩
        clear Hc HK
        have HK := Lib.hid hk8; clear hk8
        go_wp2_with fail
        have sq : S w8 := by rw [HSd.out]; exact HK.out.at (.head _)
        refine seg_end sq (segs_last ?_)
        clear sq
        have ne : (R.1 != R.1) = false := by simp
        skip
        go_wp2_with fail
        clear HSd
        have HKd := Lib.hid HK.out; clear HK
        obtain ⟨LL, hLL⟩ : ∃ l, l = labelOf N who := ⟨_, rfl⟩
        obtain ⟨ll1, ll2⟩ := LL
        obtain ⟨FL, hFL⟩ : ∃ f, f = flowOf N who to := ⟨_, rfl⟩
        obtain ⟨BX, hBX⟩ : ∃ b, b = boxK N (R.2) (who, dirOf up) := ⟨_, rfl⟩
        have HLL := Lib.hid hLL; clear hLL
        have HFL := Lib.hid hFL; clear hFL
        have HBX := Lib.hid hBX; clear hBX
        have lq := fun w => label_neq w (ll1, ll2) (ll1, ll2)
        have lg := fun x y w => label_guard .neq x y (ll1, ll2) (ll1, ll2) w
        simp only [Label.cells, decide_true, Bool.not_true] at lq lg
        have fq : (FL != FL) = false := by simp
        have Lq := Lib.hid (And.intro lq (And.intro lg fq)); clear lq lg fq
        go_wp2_with fail
        have s0 := below_drew w8
        refine wp_region_phases (fun w' : World => Below w8.heap.size w8 w') 213 [([0, 1, 2, 4, 5, 6], [[3], [7], [8], [9]]), ([10, 11, 12, 13, 14, 16, 17, 18, 19, 20], [[15], [21], [22], [23, 24]]), ([25, 26, 27, 28, 29, 31, 32, 33, 34, 35], [[30], [36], [37], [38, 39]])] (by kernel_rfl) (by kernel_rfl) rfl (by kernel_rfl) (fun _ _ _ h => by obtain ⟨_, h, _⟩ := h; cases h) s0 ?_
        generalize w8.drew = wd at s0 ⊢
        have Hs0 := Lib.hid s0; clear s0
        refine ph_more rfl ?_
        apply Exists.intro
        apply And.intro
        · intro w' s
          have zz := (HKd.out.step s).at (.head _)
          rw [HC.out] at zz
          have y0 := cells_at zz 0
          have y1 := cells_at zz 1
          have y2 := cells_at zz 2
          have y3 := cells_at zz 3
          have y4 := cells_at zz 4
          have y5 := cells_at zz 5
          have y6 := cells_at zz 6
          have y7 := cells_at zz 7
          have y8 := cells_at zz 8
          have y9 := cells_at zz 9
          clear zz s
          simp only [List.map_cons, List.map_nil, List.getD_cons_zero, List.getD_cons_succ]
          go_wp2_with fail
          exact pre_end
        simp only [List.map_cons, List.map_nil, List.getD_cons_zero, List.getD_cons_succ]
        refine segsK_more ?_
        have hc := (HKd.out.step Hs0.out).ask1 fun F h => Label_kn h who
        rw [← HLL.out] at hc
        simp only [Label.cells] at hc
        have Hc := Lib.hid hc; clear hc
        go_wp2_with fail
        refine (Hc.out).mono ?_
        rintro e we1 ⟨rfl, be⟩
        have se := Hs0.out.trans (be.mono Hs0.out.size)
        clear Hs0 be
        have Hs0 := Lib.hid se; clear se
        go_wp2_with fail
        refine seg_end Hs0.out (segsK_more ?_)
        have hc := (HKd.out.step Hs0.out).ask2 fun F h => RLabel_rn h who
        rw [← HLL.out] at hc
        simp only [Label.cells] at hc
        have Hc := Lib.hid hc; clear hc
        go_wp2_with fail
        refine (Hc.out).mono ?_
        rintro e we2 ⟨rfl, be⟩
        have se := Hs0.out.trans (be.mono Hs0.out.size)
        clear Hs0 be
        have Hs0 := Lib.hid se; clear se
        go_wp2_with fail
        refine seg_end Hs0.out (segsK_more ?_)
        obtain ⟨lq, lg, fq⟩ := Lq.out
        go_wp2_with fail
        clear lq lg fq
        refine seg_end Hs0.out (segsK_more ?_)
        go_wp2_with fail
        refine seg_end Hs0.out (segsK_end (ph_more rfl ?_))
        apply Exists.intro
        apply And.intro
        · intro w' s
          have zz := (HKd.out.step s).at (.head _)
          rw [HC.out] at zz
          have y0 := cells_at zz 0
          have y1 := cells_at zz 1
          have y2 := cells_at zz 2
          have y3 := cells_at zz 3
          have y4 := cells_at zz 4
          have y5 := cells_at zz 5
          have y6 := cells_at zz 6
          have y7 := cells_at zz 7
          have y8 := cells_at zz 8
          have y9 := cells_at zz 9
          clear zz s
          simp only [List.map_cons, List.map_nil, List.getD_cons_zero, List.getD_cons_succ]
          go_wp2_with fail
          exact pre_end
        simp only [List.map_cons, List.map_nil, List.getD_cons_zero, List.getD_cons_succ]
        refine segsK_more ?_
        have hc := (HKd.out.step Hs0.out).ask1 fun F h => Flow_kn h who to
        rw [← HFL.out] at hc
        have Hc := Lib.hid hc; clear hc
        go_wp2_with fail
        refine (Hc.out).mono ?_
        rintro e we3 ⟨rfl, be⟩
        have se := Hs0.out.trans (be.mono Hs0.out.size)
        clear Hs0 be
        have Hs0 := Lib.hid se; clear se
        go_wp2_with fail
        refine seg_end Hs0.out (segsK_more ?_)
        have hc := (HKd.out.step Hs0.out).ask2 fun F h => RFlow_rn h who to
        rw [← HFL.out] at hc
        have Hc := Lib.hid hc; clear hc
        go_wp2_with fail
        refine (Hc.out).mono ?_
        rintro e we4 ⟨rfl, be⟩
        have se := Hs0.out.trans (be.mono Hs0.out.size)
        clear Hs0 be
        have Hs0 := Lib.hid se; clear se
        go_wp2_with fail
        refine seg_end Hs0.out (segsK_more ?_)
        obtain ⟨lq, lg, fq⟩ := Lq.out
        go_wp2_with fail
        clear lq lg fq
        refine seg_end Hs0.out (segsK_more ?_)
        go_wp2_with fail
        refine seg_end Hs0.out (segsK_end (ph_more rfl ?_))
        apply Exists.intro
        apply And.intro
        · intro w' s
          have zz := (HKd.out.step s).at (.head _)
          rw [HC.out] at zz
          have y0 := cells_at zz 0
          have y1 := cells_at zz 1
          have y2 := cells_at zz 2
          have y3 := cells_at zz 3
          have y4 := cells_at zz 4
          have y5 := cells_at zz 5
          have y6 := cells_at zz 6
          have y7 := cells_at zz 7
          have y8 := cells_at zz 8
          have y9 := cells_at zz 9
          clear zz s
          simp only [List.map_cons, List.map_nil, List.getD_cons_zero, List.getD_cons_succ]
          go_wp2_with fail
          exact pre_end
        simp only [List.map_cons, List.map_nil, List.getD_cons_zero, List.getD_cons_succ]
        refine segsK_more ?_
        have hc := (HKd.out.step Hs0.out).ask1 fun F h => Box_kn h who up
        rw [← HBX.out] at hc
        have Hc := Lib.hid hc; clear hc
        go_wp2_with fail
        refine (Hc.out).mono ?_
        rintro e we5 ⟨v1, rfl, own1, be⟩
        have se := Hs0.out.trans (be.mono Hs0.out.size)
        obtain ⟨a1, n1, c1, rfl, hm1, -⟩ := own1.msgs
        have Hm1 := Lib.hid hm1; clear hm1 own1
        clear Hs0 be
        have Hs0 := Lib.hid se; clear se
        go_wp2_with fail
        refine seg_end Hs0.out (segsK_more ?_)
        have hc := (HKd.out.step Hs0.out).ask2 fun F h => Box_rn h who up
        rw [← HBX.out] at hc
        have Hc := Lib.hid hc; clear hc
        go_wp2_with fail
        refine Hc.out.mono ?_
        rintro e we6 ⟨a2, c2, rfl, hm2, rfl⟩
        have Hm2 := Lib.hid hm2; clear hm2
        go_wp2_with fail
        refine seg_end Hs0.out (segsK_more ?_)
        have hsm := SameMsgs_calls Hm1.out Hm2.out rfl
        have Hsm := Lib.hid hsm; clear hsm
        go_wp2_with fail
        refine Hsm.out.mono ?_
        rintro e wz ⟨rfl, nd, rfl⟩
        have be := below_drawn we6 nd
        generalize we6.drewN nd = wz at be ⊢
        have se := Hs0.out.trans (be.mono Hs0.out.size)
        clear Hs0 be Hsm Hm1 Hm2
        have Hs0 := Lib.hid se; clear se
        go_wp2_with fail
        refine seg_end Hs0.out (segsK_more ?_)
        go_wp2_with fail
        refine seg_end Hs0.out (segsK_end (ph_end ?_))
        have hkz := (HKd.out.step Hs0.out).drop
        clear Hs0 HKd Hc HBX HFL HLL Lq
        have HKz := Lib.hid hkz; clear hkz
        go_wp2_with fail
        go_roundw
        case rel => exact ⟨j + 1, _, by omega, by go_num, HKz.out, HO3.out, HX3.out⟩
        case measure => simp [intOf]; omega
    have n2 : (what == 2) = false := by simpa using q2
    by_cases q3 : what = 3
    · subst q3
      as_aux_lemma =>
        have HO3 := Lib.hid (((HO.out.recv who to pos now).mono (Nat.le_succ _) : Outs (j + 1) (recvK N ((N : Int), W, D) st who to pos now).2))
        have HX3 := Lib.hid ((HX.out.recv who to pos now : Boxs (recvK N ((N : Int), W, D) st who to pos now).2))
        obtain ⟨R, hR⟩ : ∃ R, R = recvK N ((N : Int), W, D) st who to pos now := ⟨_, rfl⟩
        rw [← hR] at HO3 HX3
        have HR := Lib.hid hR; clear hR
        obtain ⟨x0, x1, x2, x3, x4, x5, x6, x7, x8, x9⟩ := XS.out
        have zz := HK.out.at (.head _)
        rw [HC.out] at zz
        have y0 := cells_at zz 0
        have y1 := cells_at zz 1
        have y2 := cells_at zz 2
        have y3 := cells_at zz 3
        have y4 := cells_at zz 4
        have y5 := cells_at zz 5
        have y6 := cells_at zz 6
        have y7 := cells_at zz 7
        have y8 := cells_at zz 8
        have y9 := cells_at zz 9
        clear zz
        rw [hw5] at y0 y1 y2 y3 y4 y5 y6 y7 y8 y9
        rw [← Hgm.out] at y0 y1 y2 y3 y4 y5 y6 y7 y8 y9
        obtain ⟨⟨⟨r0, r1, r2, r3⟩, RE⟩, RS⟩ := R
        try simp only at HO3 HX3
        have hc := HK.out.fst fun F h => Recv_kn h who to pos now
        rw [← HR.out] at hc
        simp only [Msg.cells, Msg.kind, Msg.part, Msg.tx, Msg.what] at hc
        have Hc := Lib.hid hc; clear hc
        go_wp2_with fail
        rw [← hw5]
        try rw [Hgm.out]
        clear hw5 y0 y1 y2 y3 y4 y5 y6 y7 y8 y9 x0 x1 x2 x3 x4 x5 x6 x7 x8 x9 XS Hgm
        refine Hc.out.mono ?_
        rintro e w7 ⟨rfl, hk7⟩
        clear Hc HK
        have hk8 := hk7.made (.cells #[.int .i64 r0, .int .i64 r1, .int .i64 r2, .int .i64 r3] 39)
        obtain ⟨w8, hw8⟩ : ∃ w8, w8 = w7.alloc (.cells #[.int .i64 r0, .int .i64 r1, .int .i64 r2, .int .i64 r3] 39) := ⟨_, rfl⟩
        rw [← hw8] at hk8
        generalize hg8 : w7.heap.size = g8 at hk8
        have Hg8 := Lib.hid hg8; clear hg8 hk7
        have HK := Lib.hid hk8; clear hk8
        have zz := HK.out.at (.tail _ (.head _))
        rw [HC.out] at zz
        have y0 := cells_at zz 0
        have y1 := cells_at zz 1
        have y2 := cells_at zz 2
        have y3 := cells_at zz 3
        have y4 := cells_at zz 4
        have y5 := cells_at zz 5
        have y6 := cells_at zz 6
        have y7 := cells_at zz 7
        have y8 := cells_at zz 8
        have y9 := cells_at zz 9
        clear zz
        rw [hw8] at y0 y1 y2 y3 y4 y5 y6 y7 y8 y9
        have hc := HK.out.snd fun F h => Recv_rn h (fun e => Nat.le_trans (HX.out e) (by decide)) who to pos now
        rw [← HR.out] at hc
        simp only [Msg.cells, Msg.kind, Msg.part, Msg.tx, Msg.what] at hc
        have Hc := Lib.hid hc; clear hc
        go_wp2_with fail
        rw [← hw8, Hg8.out]
        clear hw8 Hg8 y0 y1 y2 y3 y4 y5 y6 y7 y8 y9
        refine Hc.out.mono ?_
        rintro e w9 ⟨rfl, hk9⟩
        clear Hc HK
        have hka := hk9.made (.cells #[.int .i64 r0, .int .i64 r1, .int .i64 r2, .int .i64 r3] 39)
        obtain ⟨wx, hwx⟩ : ∃ wx, wx = w9.alloc (.cells #[.int .i64 r0, .int .i64 r1, .int .i64 r2, .int .i64 r3] 39) := ⟨_, rfl⟩
        rw [← hwx] at hka
        generalize hgx : w9.heap.size = gx at hka
        have za := hka.at (.head _)
        have zb := hka.at (.tail _ (.head _))
        have p0 := cells_at za 0
        have p1 := cells_at za 1
        have p2 := cells_at za 2
        have p3 := cells_at za 3
        have v0 := cells_at zb 0
        have v1 := cells_at zb 1
        have v2 := cells_at zb 2
        have v3 := cells_at zb 3
        rw [hwx] at p0 p1 p2 p3 v0 v1 v2 v3
        rw [← hgx] at p0 p1 p2 p3
        have HK := Lib.hid hka.drop.drop; clear hka hk9 za zb
        have Hgx := Lib.hid hgx; clear hgx
        have lq := fun w => msg_neq w (r0, r1, r2, r3) (r0, r1, r2, r3)
        have lg := fun x y w => msg_guard .neq x y (r0, r1, r2, r3) (r0, r1, r2, r3) w
        simp only [Msg.cells, Msg.kind, Msg.part, Msg.tx, Msg.what, decide_true, Bool.not_true] at lq lg
        have ne : (RE != RE) = false := by simp
        go_wp2_with fail
        rw [← hwx, Hgx.out]
        clear hwx Hgx p0 p1 p2 p3 v0 v1 v2 v3 lq lg ne
        have HKd := Lib.hid HK.out; clear HK
        obtain ⟨LL, hLL⟩ : ∃ l, l = labelOf N who := ⟨_, rfl⟩
        obtain ⟨ll1, ll2⟩ := LL
        obtain ⟨FL, hFL⟩ : ∃ f, f = flowOf N who to := ⟨_, rfl⟩
        obtain ⟨BX, hBX⟩ : ∃ b, b = boxK N (RS) (who, dirOf up) := ⟨_, rfl⟩
        have HLL := Lib.hid hLL; clear hLL
        have HFL := Lib.hid hFL; clear hFL
        have HBX := Lib.hid hBX; clear hBX
        have lq := fun w => label_neq w (ll1, ll2) (ll1, ll2)
        have lg := fun x y w => label_guard .neq x y (ll1, ll2) (ll1, ll2) w
        simp only [Label.cells, decide_true, Bool.not_true] at lq lg
        have fq : (FL != FL) = false := by simp
        have Lq := Lib.hid (And.intro lq (And.intro lg fq)); clear lq lg fq
        have s0 := below_drew wx
        refine wp_region_phases (fun w' : World => Below wx.heap.size wx w') 213 [([0, 1, 2, 4, 5, 6], [[3], [7], [8], [9]]), ([10, 11, 12, 13, 14, 16, 17, 18, 19, 20], [[15], [21], [22], [23, 24]]), ([25, 26, 27, 28, 29, 31, 32, 33, 34, 35], [[30], [36], [37], [38, 39]])] (by kernel_rfl) (by kernel_rfl) rfl (by kernel_rfl) (fun _ _ _ h => by obtain ⟨_, h, _⟩ := h; cases h) s0 ?_
        generalize wx.drew = wd at s0 ⊢
        have Hs0 := Lib.hid s0; clear s0
        refine ph_more rfl ?_
        apply Exists.intro
        apply And.intro
        · intro w' s
          have zz := (HKd.out.step s).at (.head _)
          rw [HC.out] at zz
          have y0 := cells_at zz 0
          have y1 := cells_at zz 1
          have y2 := cells_at zz 2
          have y3 := cells_at zz 3
          have y4 := cells_at zz 4
          have y5 := cells_at zz 5
          have y6 := cells_at zz 6
          have y7 := cells_at zz 7
          have y8 := cells_at zz 8
          have y9 := cells_at zz 9
          clear zz s
          simp only [List.map_cons, List.map_nil, List.getD_cons_zero, List.getD_cons_succ]
          go_wp2_with fail
          exact pre_end
        simp only [List.map_cons, List.map_nil, List.getD_cons_zero, List.getD_cons_succ]
        refine segsK_more ?_
        have hc := (HKd.out.step Hs0.out).ask1 fun F h => Label_kn h who
        rw [← HLL.out] at hc
        simp only [Label.cells] at hc
        have Hc := Lib.hid hc; clear hc
        go_wp2_with fail
        refine (Hc.out).mono ?_
        rintro e we1 ⟨rfl, be⟩
        have se := Hs0.out.trans (be.mono Hs0.out.size)
        clear Hs0 be
        have Hs0 := Lib.hid se; clear se
        go_wp2_with fail
        refine seg_end Hs0.out (segsK_more ?_)
        have hc := (HKd.out.step Hs0.out).ask2 fun F h => RLabel_rn h who
        rw [← HLL.out] at hc
        simp only [Label.cells] at hc
        have Hc := Lib.hid hc; clear hc
        go_wp2_with fail
        refine (Hc.out).mono ?_
        rintro e we2 ⟨rfl, be⟩
        have se := Hs0.out.trans (be.mono Hs0.out.size)
        clear Hs0 be
        have Hs0 := Lib.hid se; clear se
        go_wp2_with fail
        refine seg_end Hs0.out (segsK_more ?_)
        obtain ⟨lq, lg, fq⟩ := Lq.out
        go_wp2_with fail
        clear lq lg fq
        refine seg_end Hs0.out (segsK_more ?_)
        go_wp2_with fail
        refine seg_end Hs0.out (segsK_end (ph_more rfl ?_))
        apply Exists.intro
        apply And.intro
        · intro w' s
          have zz := (HKd.out.step s).at (.head _)
          rw [HC.out] at zz
          have y0 := cells_at zz 0
          have y1 := cells_at zz 1
          have y2 := cells_at zz 2
          have y3 := cells_at zz 3
          have y4 := cells_at zz 4
          have y5 := cells_at zz 5
          have y6 := cells_at zz 6
          have y7 := cells_at zz 7
          have y8 := cells_at zz 8
          have y9 := cells_at zz 9
          clear zz s
          simp only [List.map_cons, List.map_nil, List.getD_cons_zero, List.getD_cons_succ]
          go_wp2_with fail
          exact pre_end
        simp only [List.map_cons, List.map_nil, List.getD_cons_zero, List.getD_cons_succ]
        refine segsK_more ?_
        have hc := (HKd.out.step Hs0.out).ask1 fun F h => Flow_kn h who to
        rw [← HFL.out] at hc
        have Hc := Lib.hid hc; clear hc
        go_wp2_with fail
        refine (Hc.out).mono ?_
        rintro e we3 ⟨rfl, be⟩
        have se := Hs0.out.trans (be.mono Hs0.out.size)
        clear Hs0 be
        have Hs0 := Lib.hid se; clear se
        go_wp2_with fail
        refine seg_end Hs0.out (segsK_more ?_)
        have hc := (HKd.out.step Hs0.out).ask2 fun F h => RFlow_rn h who to
        rw [← HFL.out] at hc
        have Hc := Lib.hid hc; clear hc
        go_wp2_with fail
        refine (Hc.out).mono ?_
        rintro e we4 ⟨rfl, be⟩
        have se := Hs0.out.trans (be.mono Hs0.out.size)
        clear Hs0 be
        have Hs0 := Lib.hid se; clear se
        go_wp2_with fail
        refine seg_end Hs0.out (segsK_more ?_)
        obtain ⟨lq, lg, fq⟩ := Lq.out
        go_wp2_with fail
        clear lq lg fq
        refine seg_end Hs0.out (segsK_more ?_)
        go_wp2_with fail
        refine seg_end Hs0.out (segsK_end (ph_more rfl ?_))
        apply Exists.intro
        apply And.intro
        · intro w' s
          have zz := (HKd.out.step s).at (.head _)
          rw [HC.out] at zz
          have y0 := cells_at zz 0
          have y1 := cells_at zz 1
          have y2 := cells_at zz 2
          have y3 := cells_at zz 3
          have y4 := cells_at zz 4
          have y5 := cells_at zz 5
          have y6 := cells_at zz 6
          have y7 := cells_at zz 7
          have y8 := cells_at zz 8
          have y9 := cells_at zz 9
          clear zz s
          simp only [List.map_cons, List.map_nil, List.getD_cons_zero, List.getD_cons_succ]
          go_wp2_with fail
          exact pre_end
        simp only [List.map_cons, List.map_nil, List.getD_cons_zero, List.getD_cons_succ]
        refine segsK_more ?_
        have hc := (HKd.out.step Hs0.out).ask1 fun F h => Box_kn h who up
        rw [← HBX.out] at hc
        have Hc := Lib.hid hc; clear hc
        go_wp2_with fail
        refine (Hc.out).mono ?_
        rintro e we5 ⟨v1, rfl, own1, be⟩
        have se := Hs0.out.trans (be.mono Hs0.out.size)
        obtain ⟨a1, n1, c1, rfl, hm1, -⟩ := own1.msgs
        have Hm1 := Lib.hid hm1; clear hm1 own1
        clear Hs0 be
        have Hs0 := Lib.hid se; clear se
        go_wp2_with fail
        refine seg_end Hs0.out (segsK_more ?_)
        have hc := (HKd.out.step Hs0.out).ask2 fun F h => Box_rn h who up
        rw [← HBX.out] at hc
        have Hc := Lib.hid hc; clear hc
        go_wp2_with fail
        refine Hc.out.mono ?_
        rintro e we6 ⟨a2, c2, rfl, hm2, rfl⟩
        have Hm2 := Lib.hid hm2; clear hm2
        go_wp2_with fail
        refine seg_end Hs0.out (segsK_more ?_)
        have hsm := SameMsgs_calls Hm1.out Hm2.out rfl
        have Hsm := Lib.hid hsm; clear hsm
        go_wp2_with fail
        refine Hsm.out.mono ?_
        rintro e wz ⟨rfl, nd, rfl⟩
        have be := below_drawn we6 nd
        generalize we6.drewN nd = wz at be ⊢
        have se := Hs0.out.trans (be.mono Hs0.out.size)
        clear Hs0 be Hsm Hm1 Hm2
        have Hs0 := Lib.hid se; clear se
        go_wp2_with fail
        refine seg_end Hs0.out (segsK_more ?_)
        go_wp2_with fail
        refine seg_end Hs0.out (segsK_end (ph_end ?_))
        have hkz := (HKd.out.step Hs0.out).drop
        clear Hs0 HKd Hc HBX HFL HLL Lq
        have HKz := Lib.hid hkz; clear hkz
        go_wp2_with fail
        go_roundw
        case rel => exact ⟨j + 1, _, by omega, by go_num, HKz.out, HO3.out, HX3.out⟩
        case measure => simp [intOf]; omega
    have n3 : (what == 3) = false := by simpa using q3
    by_cases q4 : what = 4
    · subst q4
      as_aux_lemma =>
        have HO3 := Lib.hid (((HO.out.clear who).mono (Nat.le_succ _) : Outs (j + 1) (clearK N st who)))
        have HX3 := Lib.hid ((HX.out.clear who : Boxs (clearK N st who)))
        obtain ⟨x0, x1, x2, x3, x4, x5, x6, x7, x8, x9⟩ := XS.out
        have zz := HK.out.at (.head _)
        rw [HC.out] at zz
        have y0 := cells_at zz 0
        have y1 := cells_at zz 1
        have y2 := cells_at zz 2
        have y3 := cells_at zz 3
        have y4 := cells_at zz 4
        have y5 := cells_at zz 5
        have y6 := cells_at zz 6
        have y7 := cells_at zz 7
        have y8 := cells_at zz 8
        have y9 := cells_at zz 9
        clear zz
        rw [hw5] at y0 y1 y2 y3 y4 y5 y6 y7 y8 y9
        rw [← Hgm.out] at y0 y1 y2 y3 y4 y5 y6 y7 y8 y9
        have hc := HK.out.fst fun F h => Clear_kn h who
        have Hc := Lib.hid hc; clear hc
        go_wp2_with fail
        rw [← hw5]
        try rw [Hgm.out]
        clear hw5 y0 y1 y2 y3 y4 y5 y6 y7 y8 y9 x0 x1 x2 x3 x4 x5 x6 x7 x8 x9 XS Hgm
        refine Hc.out.mono ?_
        rintro e w7 ⟨rfl, hk7⟩
        clear Hc HK
        have HK := Lib.hid hk7; clear hk7
        have zz := HK.out.at (.head _)
        rw [HC.out] at zz
        have y0 := cells_at zz 0
        have y1 := cells_at zz 1
        have y2 := cells_at zz 2
        have y3 := cells_at zz 3
        have y4 := cells_at zz 4
        have y5 := cells_at zz 5
        have y6 := cells_at zz 6
        have y7 := cells_at zz 7
        have y8 := cells_at zz 8
        have y9 := cells_at zz 9
        clear zz
        have hc := HK.out.snd fun F h => Clear_rn h who
        have Hc := Lib.hid hc; clear hc
        go_wp2_with fail
        clear y0 y1 y2 y3 y4 y5 y6 y7 y8 y9
        refine Hc.out.mono ?_
        rintro e w8 ⟨rfl, hk8⟩
        clear Hc HK
        have HK := Lib.hid hk8; clear hk8
        have HKd := Lib.hid HK.out; clear HK
        obtain ⟨LL, hLL⟩ : ∃ l, l = labelOf N who := ⟨_, rfl⟩
        obtain ⟨ll1, ll2⟩ := LL
        obtain ⟨FL, hFL⟩ : ∃ f, f = flowOf N who to := ⟨_, rfl⟩
        obtain ⟨BX, hBX⟩ : ∃ b, b = boxK N (clearK N st who) (who, dirOf up) := ⟨_, rfl⟩
        have HLL := Lib.hid hLL; clear hLL
        have HFL := Lib.hid hFL; clear hFL
        have HBX := Lib.hid hBX; clear hBX
        have lq := fun w => label_neq w (ll1, ll2) (ll1, ll2)
        have lg := fun x y w => label_guard .neq x y (ll1, ll2) (ll1, ll2) w
        simp only [Label.cells, decide_true, Bool.not_true] at lq lg
        have fq : (FL != FL) = false := by simp
        have Lq := Lib.hid (And.intro lq (And.intro lg fq)); clear lq lg fq
        go_wp2_with fail
        have s0 := below_drew w8
        refine wp_region_phases (fun w' : World => Below w8.heap.size w8 w') 213 [([0, 1, 2, 4, 5, 6], [[3], [7], [8], [9]]), ([10, 11, 12, 13, 14, 16, 17, 18, 19, 20], [[15], [21], [22], [23, 24]]), ([25, 26, 27, 28, 29, 31, 32, 33, 34, 35], [[30], [36], [37], [38, 39]])] (by kernel_rfl) (by kernel_rfl) rfl (by kernel_rfl) (fun _ _ _ h => by obtain ⟨_, h, _⟩ := h; cases h) s0 ?_
        generalize w8.drew = wd at s0 ⊢
        have Hs0 := Lib.hid s0; clear s0
        refine ph_more rfl ?_
        apply Exists.intro
        apply And.intro
        · intro w' s
          have zz := (HKd.out.step s).at (.head _)
          rw [HC.out] at zz
          have y0 := cells_at zz 0
          have y1 := cells_at zz 1
          have y2 := cells_at zz 2
          have y3 := cells_at zz 3
          have y4 := cells_at zz 4
          have y5 := cells_at zz 5
          have y6 := cells_at zz 6
          have y7 := cells_at zz 7
          have y8 := cells_at zz 8
          have y9 := cells_at zz 9
          clear zz s
          simp only [List.map_cons, List.map_nil, List.getD_cons_zero, List.getD_cons_succ]
          go_wp2_with fail
          exact pre_end
        simp only [List.map_cons, List.map_nil, List.getD_cons_zero, List.getD_cons_succ]
        refine segsK_more ?_
        have hc := (HKd.out.step Hs0.out).ask1 fun F h => Label_kn h who
        rw [← HLL.out] at hc
        simp only [Label.cells] at hc
        have Hc := Lib.hid hc; clear hc
        go_wp2_with fail
        refine (Hc.out).mono ?_
        rintro e we1 ⟨rfl, be⟩
        have se := Hs0.out.trans (be.mono Hs0.out.size)
        clear Hs0 be
        have Hs0 := Lib.hid se; clear se
        go_wp2_with fail
        refine seg_end Hs0.out (segsK_more ?_)
        have hc := (HKd.out.step Hs0.out).ask2 fun F h => RLabel_rn h who
        rw [← HLL.out] at hc
        simp only [Label.cells] at hc
        have Hc := Lib.hid hc; clear hc
        go_wp2_with fail
        refine (Hc.out).mono ?_
        rintro e we2 ⟨rfl, be⟩
        have se := Hs0.out.trans (be.mono Hs0.out.size)
        clear Hs0 be
        have Hs0 := Lib.hid se; clear se
        go_wp2_with fail
        refine seg_end Hs0.out (segsK_more ?_)
        obtain ⟨lq, lg, fq⟩ := Lq.out
        go_wp2_with fail
        clear lq lg fq
        refine seg_end Hs0.out (segsK_more ?_)
        go_wp2_with fail
        refine seg_end Hs0.out (segsK_end (ph_more rfl ?_))
        apply Exists.intro
        apply And.intro
        · intro w' s
          have zz := (HKd.out.step s).at (.head _)
          rw [HC.out] at zz
          have y0 := cells_at zz 0
          have y1 := cells_at zz 1
          have y2 := cells_at zz 2
          have y3 := cells_at zz 3
          have y4 := cells_at zz 4
          have y5 := cells_at zz 5
          have y6 := cells_at zz 6
          have y7 := cells_at zz 7
          have y8 := cells_at zz 8
          have y9 := cells_at zz 9
          clear zz s
          simp only [List.map_cons, List.map_nil, List.getD_cons_zero, List.getD_cons_succ]
          go_wp2_with fail
          exact pre_end
        simp only [List.map_cons, List.map_nil, List.getD_cons_zero, List.getD_cons_succ]
        refine segsK_more ?_
        have hc := (HKd.out.step Hs0.out).ask1 fun F h => Flow_kn h who to
        rw [← HFL.out] at hc
        have Hc := Lib.hid hc; clear hc
        go_wp2_with fail
        refine (Hc.out).mono ?_
        rintro e we3 ⟨rfl, be⟩
        have se := Hs0.out.trans (be.mono Hs0.out.size)
        clear Hs0 be
        have Hs0 := Lib.hid se; clear se
        go_wp2_with fail
        refine seg_end Hs0.out (segsK_more ?_)
        have hc := (HKd.out.step Hs0.out).ask2 fun F h => RFlow_rn h who to
        rw [← HFL.out] at hc
        have Hc := Lib.hid hc; clear hc
        go_wp2_with fail
        refine (Hc.out).mono ?_
        rintro e we4 ⟨rfl, be⟩
        have se := Hs0.out.trans (be.mono Hs0.out.size)
        clear Hs0 be
        have Hs0 := Lib.hid se; clear se
        go_wp2_with fail
        refine seg_end Hs0.out (segsK_more ?_)
        obtain ⟨lq, lg, fq⟩ := Lq.out
        go_wp2_with fail
        clear lq lg fq
        refine seg_end Hs0.out (segsK_more ?_)
        go_wp2_with fail
        refine seg_end Hs0.out (segsK_end (ph_more rfl ?_))
        apply Exists.intro
        apply And.intro
        · intro w' s
          have zz := (HKd.out.step s).at (.head _)
          rw [HC.out] at zz
          have y0 := cells_at zz 0
          have y1 := cells_at zz 1
          have y2 := cells_at zz 2
          have y3 := cells_at zz 3
          have y4 := cells_at zz 4
          have y5 := cells_at zz 5
          have y6 := cells_at zz 6
          have y7 := cells_at zz 7
          have y8 := cells_at zz 8
          have y9 := cells_at zz 9
          clear zz s
          simp only [List.map_cons, List.map_nil, List.getD_cons_zero, List.getD_cons_succ]
          go_wp2_with fail
          exact pre_end
        simp only [List.map_cons, List.map_nil, List.getD_cons_zero, List.getD_cons_succ]
        refine segsK_more ?_
        have hc := (HKd.out.step Hs0.out).ask1 fun F h => Box_kn h who up
        rw [← HBX.out] at hc
        have Hc := Lib.hid hc; clear hc
        go_wp2_with fail
        refine (Hc.out).mono ?_
        rintro e we5 ⟨v1, rfl, own1, be⟩
        have se := Hs0.out.trans (be.mono Hs0.out.size)
        obtain ⟨a1, n1, c1, rfl, hm1, -⟩ := own1.msgs
        have Hm1 := Lib.hid hm1; clear hm1 own1
        clear Hs0 be
        have Hs0 := Lib.hid se; clear se
        go_wp2_with fail
        refine seg_end Hs0.out (segsK_more ?_)
        have hc := (HKd.out.step Hs0.out).ask2 fun F h => Box_rn h who up
        rw [← HBX.out] at hc
        have Hc := Lib.hid hc; clear hc
        go_wp2_with fail
        refine Hc.out.mono ?_
        rintro e we6 ⟨a2, c2, rfl, hm2, rfl⟩
        have Hm2 := Lib.hid hm2; clear hm2
        go_wp2_with fail
        refine seg_end Hs0.out (segsK_more ?_)
        have hsm := SameMsgs_calls Hm1.out Hm2.out rfl
        have Hsm := Lib.hid hsm; clear hsm
        go_wp2_with fail
        refine Hsm.out.mono ?_
        rintro e wz ⟨rfl, nd, rfl⟩
        have be := below_drawn we6 nd
        generalize we6.drewN nd = wz at be ⊢
        have se := Hs0.out.trans (be.mono Hs0.out.size)
        clear Hs0 be Hsm Hm1 Hm2
        have Hs0 := Lib.hid se; clear se
        go_wp2_with fail
        refine seg_end Hs0.out (segsK_more ?_)
        go_wp2_with fail
        refine seg_end Hs0.out (segsK_end (ph_end ?_))
        have hkz := (HKd.out.step Hs0.out).drop
        clear Hs0 HKd Hc HBX HFL HLL Lq
        have HKz := Lib.hid hkz; clear hkz
        go_wp2_with fail
        go_roundw
        case rel => exact ⟨j + 1, _, by omega, by go_num, HKz.out, HO3.out, HX3.out⟩
        case measure => simp [intOf]; omega
    have n4 : (what == 4) = false := by simpa using q4
    clear q0 q1 q2 q3 q4
    have HO3 := Lib.hid (HO.out.mono (Nat.le_succ j))
    have HX3 := Lib.hid HX.out
    obtain ⟨x0, x1, x2, x3, x4, x5, x6, x7, x8, x9⟩ := XS.out
    have zz := HK.out.at (.head _)
    rw [HC.out] at zz
    have y0 := cells_at zz 0
    have y1 := cells_at zz 1
    have y2 := cells_at zz 2
    have y3 := cells_at zz 3
    have y4 := cells_at zz 4
    have y5 := cells_at zz 5
    have y6 := cells_at zz 6
    have y7 := cells_at zz 7
    have y8 := cells_at zz 8
    have y9 := cells_at zz 9
    clear zz
    rw [hw5] at y0 y1 y2 y3 y4 y5 y6 y7 y8 y9
    rw [← Hgm.out] at y0 y1 y2 y3 y4 y5 y6 y7 y8 y9
    go_wp2_with fail
    rw [← hw5]
    try rw [Hgm.out]
    clear hw5 y0 y1 y2 y3 y4 y5 y6 y7 y8 y9 x0 x1 x2 x3 x4 x5 x6 x7 x8 x9 XS Hgm
    have HKd := Lib.hid HK.out; clear HK
    obtain ⟨LL, hLL⟩ : ∃ l, l = labelOf N who := ⟨_, rfl⟩
    obtain ⟨ll1, ll2⟩ := LL
    obtain ⟨FL, hFL⟩ : ∃ f, f = flowOf N who to := ⟨_, rfl⟩
    obtain ⟨BX, hBX⟩ : ∃ b, b = boxK N (st) (who, dirOf up) := ⟨_, rfl⟩
    have HLL := Lib.hid hLL; clear hLL
    have HFL := Lib.hid hFL; clear hFL
    have HBX := Lib.hid hBX; clear hBX
    have lq := fun w => label_neq w (ll1, ll2) (ll1, ll2)
    have lg := fun x y w => label_guard .neq x y (ll1, ll2) (ll1, ll2) w
    simp only [Label.cells, decide_true, Bool.not_true] at lq lg
    have fq : (FL != FL) = false := by simp
    have Lq := Lib.hid (And.intro lq (And.intro lg fq)); clear lq lg fq
    have s0 := below_drew w5
    refine wp_region_phases (fun w' : World => Below w5.heap.size w5 w') 213 [([0, 1, 2, 4, 5, 6], [[3], [7], [8], [9]]), ([10, 11, 12, 13, 14, 16, 17, 18, 19, 20], [[15], [21], [22], [23, 24]]), ([25, 26, 27, 28, 29, 31, 32, 33, 34, 35], [[30], [36], [37], [38, 39]])] (by kernel_rfl) (by kernel_rfl) rfl (by kernel_rfl) (fun _ _ _ h => by obtain ⟨_, h, _⟩ := h; cases h) s0 ?_
    generalize w5.drew = wd at s0 ⊢
    have Hs0 := Lib.hid s0; clear s0
    refine ph_more rfl ?_
    apply Exists.intro
    apply And.intro
    · intro w' s
      have zz := (HKd.out.step s).at (.head _)
      rw [HC.out] at zz
      have y0 := cells_at zz 0
      have y1 := cells_at zz 1
      have y2 := cells_at zz 2
      have y3 := cells_at zz 3
      have y4 := cells_at zz 4
      have y5 := cells_at zz 5
      have y6 := cells_at zz 6
      have y7 := cells_at zz 7
      have y8 := cells_at zz 8
      have y9 := cells_at zz 9
      clear zz s
      simp only [List.map_cons, List.map_nil, List.getD_cons_zero, List.getD_cons_succ]
      go_wp2_with fail
      exact pre_end
    simp only [List.map_cons, List.map_nil, List.getD_cons_zero, List.getD_cons_succ]
    refine segsK_more ?_
    have hc := (HKd.out.step Hs0.out).ask1 fun F h => Label_kn h who
    rw [← HLL.out] at hc
    simp only [Label.cells] at hc
    have Hc := Lib.hid hc; clear hc
    go_wp2_with fail
    refine (Hc.out).mono ?_
    rintro e we1 ⟨rfl, be⟩
    have se := Hs0.out.trans (be.mono Hs0.out.size)
    clear Hs0 be
    have Hs0 := Lib.hid se; clear se
    go_wp2_with fail
    refine seg_end Hs0.out (segsK_more ?_)
    have hc := (HKd.out.step Hs0.out).ask2 fun F h => RLabel_rn h who
    rw [← HLL.out] at hc
    simp only [Label.cells] at hc
    have Hc := Lib.hid hc; clear hc
    go_wp2_with fail
    refine (Hc.out).mono ?_
    rintro e we2 ⟨rfl, be⟩
    have se := Hs0.out.trans (be.mono Hs0.out.size)
    clear Hs0 be
    have Hs0 := Lib.hid se; clear se
    go_wp2_with fail
    refine seg_end Hs0.out (segsK_more ?_)
    obtain ⟨lq, lg, fq⟩ := Lq.out
    go_wp2_with fail
    clear lq lg fq
    refine seg_end Hs0.out (segsK_more ?_)
    go_wp2_with fail
    refine seg_end Hs0.out (segsK_end (ph_more rfl ?_))
    apply Exists.intro
    apply And.intro
    · intro w' s
      have zz := (HKd.out.step s).at (.head _)
      rw [HC.out] at zz
      have y0 := cells_at zz 0
      have y1 := cells_at zz 1
      have y2 := cells_at zz 2
      have y3 := cells_at zz 3
      have y4 := cells_at zz 4
      have y5 := cells_at zz 5
      have y6 := cells_at zz 6
      have y7 := cells_at zz 7
      have y8 := cells_at zz 8
      have y9 := cells_at zz 9
      clear zz s
      simp only [List.map_cons, List.map_nil, List.getD_cons_zero, List.getD_cons_succ]
      go_wp2_with fail
      exact pre_end
    simp only [List.map_cons, List.map_nil, List.getD_cons_zero, List.getD_cons_succ]
    refine segsK_more ?_
    have hc := (HKd.out.step Hs0.out).ask1 fun F h => Flow_kn h who to
    rw [← HFL.out] at hc
    have Hc := Lib.hid hc; clear hc
    go_wp2_with fail
    refine (Hc.out).mono ?_
    rintro e we3 ⟨rfl, be⟩
    have se := Hs0.out.trans (be.mono Hs0.out.size)
    clear Hs0 be
    have Hs0 := Lib.hid se; clear se
    go_wp2_with fail
    refine seg_end Hs0.out (segsK_more ?_)
    have hc := (HKd.out.step Hs0.out).ask2 fun F h => RFlow_rn h who to
    rw [← HFL.out] at hc
    have Hc := Lib.hid hc; clear hc
    go_wp2_with fail
    refine (Hc.out).mono ?_
    rintro e we4 ⟨rfl, be⟩
    have se := Hs0.out.trans (be.mono Hs0.out.size)
    clear Hs0 be
    have Hs0 := Lib.hid se; clear se
    go_wp2_with fail
    refine seg_end Hs0.out (segsK_more ?_)
    obtain ⟨lq, lg, fq⟩ := Lq.out
    go_wp2_with fail
    clear lq lg fq
    refine seg_end Hs0.out (segsK_more ?_)
    go_wp2_with fail
    refine seg_end Hs0.out (segsK_end (ph_more rfl ?_))
    apply Exists.intro
    apply And.intro
    · intro w' s
      have zz := (HKd.out.step s).at (.head _)
      rw [HC.out] at zz
      have y0 := cells_at zz 0
      have y1 := cells_at zz 1
      have y2 := cells_at zz 2
      have y3 := cells_at zz 3
      have y4 := cells_at zz 4
      have y5 := cells_at zz 5
      have y6 := cells_at zz 6
      have y7 := cells_at zz 7
      have y8 := cells_at zz 8
      have y9 := cells_at zz 9
      clear zz s
      simp only [List.map_cons, List.map_nil, List.getD_cons_zero, List.getD_cons_succ]
      go_wp2_with fail
      exact pre_end
    simp only [List.map_cons, List.map_nil, List.getD_cons_zero, List.getD_cons_succ]
    refine segsK_more ?_
    have hc := (HKd.out.step Hs0.out).ask1 fun F h => Box_kn h who up
    rw [← HBX.out] at hc
    have Hc := Lib.hid hc; clear hc
    go_wp2_with fail
    refine (Hc.out).mono ?_
    rintro e we5 ⟨v1, rfl, own1, be⟩
    have se := Hs0.out.trans (be.mono Hs0.out.size)
    obtain ⟨a1, n1, c1, rfl, hm1, -⟩ := own1.msgs
    have Hm1 := Lib.hid hm1; clear hm1 own1
    clear Hs0 be
    have Hs0 := Lib.hid se; clear se
    go_wp2_with fail
    refine seg_end Hs0.out (segsK_more ?_)
    have hc := (HKd.out.step Hs0.out).ask2 fun F h => Box_rn h who up
    rw [← HBX.out] at hc
    have Hc := Lib.hid hc; clear hc
    go_wp2_with fail
    refine Hc.out.mono ?_
    rintro e we6 ⟨a2, c2, rfl, hm2, rfl⟩
    have Hm2 := Lib.hid hm2; clear hm2
    go_wp2_with fail
    refine seg_end Hs0.out (segsK_more ?_)
    have hsm := SameMsgs_calls Hm1.out Hm2.out rfl
    have Hsm := Lib.hid hsm; clear hsm
    go_wp2_with fail
    refine Hsm.out.mono ?_
    rintro e wz ⟨rfl, nd, rfl⟩
    have be := below_drawn we6 nd
    generalize we6.drewN nd = wz at be ⊢
    have se := Hs0.out.trans (be.mono Hs0.out.size)
    clear Hs0 be Hsm Hm1 Hm2
    have Hs0 := Lib.hid se; clear se
    go_wp2_with fail
    refine seg_end Hs0.out (segsK_more ?_)
    go_wp2_with fail
    refine seg_end Hs0.out (segsK_end (ph_end ?_))
    have hkz := (HKd.out.step Hs0.out).drop
    clear Hs0 HKd Hc HBX HFL HLL Lq
    have HKz := Lib.hid hkz; clear hkz
    go_wp2_with fail
    go_roundw
    case rel => exact ⟨j + 1, _, by omega, by go_num, HKz.out, HO3.out, HX3.out⟩
    case measure => simp [intOf]; omega
end Go.Proofs.YtclgakdfeeefiaaDoor
