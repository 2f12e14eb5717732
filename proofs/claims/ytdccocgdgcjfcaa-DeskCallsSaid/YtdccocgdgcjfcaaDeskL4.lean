/- The law DeskCalls. -/
import Derived.Test.YtdccocgdgcjfcaaDeskE
import Derived.Deep.CutRange
namespace Go.Proofs.Ytdccocgdgcjfcaa
open Go.RowKit

set_option maxHeartbeats 16000000 in
set_option maxRecDepth 100000 in
theorem lawDeskCalls {w : World} {P W D : Int} {a : Option Addr} {n c : Nat} {xs : List CallD} {tx : Int} (hP : (Lit.int .i64 P).wf = true) (hW : (Lit.int .i64 W).wf = true) (hD : (Lit.int .i64 D).wf = true) (hx : DRow w a n c xs) (htx : (Lit.int .i64 tx).wf = true) :
    Calls Try.prog 3 #[.int .i64 P, .int .i64 W, .int .i64 D, .slice a n c, .int .i64 tx] w fun e w' => e = .returned (.bool true) ∧ Below w.heap.size w w' := by
  have hl := hx.recs.len
  have hle := hx.recs.le
  have hmx := hx.recs.max
  have Hx := Lib.hid hx; clear hx
  have Hl := Lib.hid hl; clear hl
  clear hP hW hD
  go_enter Try.func3, Try.ntmps3
  go_wp2_with fail
  refine alive_calls.mono ?_
  rintro e w1 ⟨rfl, b1⟩
  have Hb1 := Lib.hid b1; clear b1
  by_cases h0 : 150 < n
  · have e0 : decide ((150 : Int) < (n : Int)) = true := decide_eq_true (by omega)
    go_wp2
    go_ret
    exact ⟨rfl, Hb1.out⟩
  have e0 : decide ((150 : Int) < (n : Int)) = false := decide_eq_false (by omega)
  have hnl : n ≤ 150 := by omega
  clear h0
  have hrn := fun w : World => RslotNew_calls (w := w) (P, W, D)
  by_cases hgood : Pl.good (P, W, D)
  case neg =>
    have hnw := New_bad (w := w1) hgood
    simp only [if_neg hgood] at hrn
    simp only [Pl.cells, Pl.parts, Pl.window, Pl.delay] at hnw hrn
    have Hnw := Lib.hid hnw; clear hnw
    have Hrn := Lib.hid hrn; clear hrn
    go_wp2_with fail
    refine Hnw.out.mono ?_
    rintro e w2 ⟨rfl, b2⟩
    have b3 := Hb1.out.trans (b2.mono Hb1.out.size)
    clear Hb1 b2
    have Hb3 := Lib.hid b3; clear b3
    go_wp2_with fail
    refine (Hrn.out _).mono ?_
    rintro e w4 ⟨rfl, b4⟩
    have b5 := Hb3.out.trans (b4.mono Hb3.out.size)
    have b6 := b5.alloc b5.size (.cells #[.int .i64 0, .int .i64 0, .int .i64 0] 30)
    clear Hb3 b4 b5 Hnw Hrn
    have Hb6 := Lib.hid b6; clear b6
    go_wp2_with fail
    have b7 := Hb6.out.alloc Hb6.out.size (.cells #[.int .i64 0, .int .i64 0, .int .i64 0, .slice none 0 0] 36 (0, 0))
    have Hb7 := Lib.hid b7; clear b7
    go_loopw [16] (fun i wr => i = .int .i64 0 ∧ Below w.heap.size w wr) (fun i _ => n - (intOf i).toNat)
    case atStart => exact ⟨rfl, Hb7.out⟩
    case round =>
      obtain ⟨rfl, hb⟩ := hrel
      have Hb := Lib.hid hb; clear hb Hb6 Hb7
      rcases Nat.eq_zero_or_pos n with h0 | h0
      · subst h0
        go_wp2_with fail
        go_ret
        exact ⟨rfl, Hb.out⟩
      · have e1 : decide ((0 : Int) < (n : Int)) = true := decide_eq_true (by omega)
        go_wp2_with fail
        go_ret
        exact ⟨rfl, Hb.out⟩
  have hnw := New_dk (w0 := w) Hb1.out hgood
  simp only [if_pos hgood] at hrn
  simp only [Pl.cells, Pl.parts, Pl.window, Pl.delay] at hnw hrn
  have Hnw := Lib.hid hnw; clear hnw
  have Hrn := Lib.hid hrn; clear hrn
  have Hgood := Lib.hid hgood; clear hgood
  go_wp2_with fail
  refine Hnw.out.mono ?_
  rintro e w2 ⟨b1, F1, rfl, d2, -, -⟩
  clear Hb1 Hnw
  have Hd := Lib.hid d2; clear d2
  go_wp2_with fail
  refine (Hrn.out _).mono ?_
  rintro e w4 ⟨rfl, b4⟩
  have b6 := b4.alloc b4.size (.cells #[.int .i64 P, .int .i64 W, .int .i64 D] 30)
  have d6 := Hd.out.step b6
  clear Hd b4 b6 Hrn
  have rm := RDk.made d6.bel Hgood.out
  have hT : Both w _ b1 _ F1 _ (P, W, D) [] [] := ⟨d6.step ((Below.refl _ _).alloc (Nat.le_refl _) _), rm, fun k hk h2 => by have := (d6.low k hk).2; omega⟩
  simp only [Pl.parts, Pl.window, Pl.delay] at hT
  clear d6 rm e0
  have Ht := Lib.hid hT; clear hT
  go_wp2_with fail
  go_loopw [16] (fun i wr => ∃ (j : Nat) (es : List Ent) (F1 F2 : Nat → Prop), j ≤ n ∧ i = .int .i64 j ∧ Both w wr b1 (w4.heap.size + 1) F1 F2 (P, W, D) es es) (fun i _ => n - (intOf i).toNat)
  case atStart => exact ⟨0, [], _, _, by omega, rfl, by simpa using Ht.out⟩
  case round =>
    clear Ht
    obtain ⟨j, es, F4, F5, hj, rfl, hT⟩ := hrel
    generalize w4.heap.size + 1 = b2 at *
    have hxr := (Hx.out.keep hT.d.bel).recs
    have Ht := Lib.hid hT; clear hT
    by_cases hlt : j < n
    · obtain ⟨bx, ox, rfl⟩ := hxr.addr (by omega)
      have hjx : j < xs.length := by rw [Hl.out]; exact hlt
      have hcx := hxr.at hjx
      have hok := Hx.out.ok _ (List.getElem_mem hjx)
      obtain ⟨m, hm⟩ : ∃ m, m = xs[j] := ⟨_, rfl⟩
      rw [← hm] at hcx hok
      clear hm hxr
      obtain ⟨k1, k2, k3, k4, k5⟩ := m
      have x0 : wr.cell? ⟨bx, ox + j * 5, none⟩ = some (.int .i64 k1) := hcx 0 _ rfl
      have x1 : wr.cell? ⟨bx, ox + j * 5 + 1, none⟩ = some (.int .i64 k2) := hcx 1 _ rfl
      have x2 : wr.cell? ⟨bx, ox + j * 5 + 2, none⟩ = some (.int .i64 k3) := hcx 2 _ rfl
      have x3 : wr.cell? ⟨bx, ox + j * 5 + 3, none⟩ = some (.int .i64 k4) := hcx 3 _ rfl
      have x4 : wr.cell? ⟨bx, ox + j * 5 + 4, none⟩ = some (.int .u16 k5) := hcx 4 _ rfl
      clear hcx
      have i1 : (0 : Int) ≤ (j : Int) := by omega
      have i2 : (j : Int) < (n : Int) := by omega
      have b5 := (Below.refl wr.heap.size wr).alloc (Nat.le_refl _) (.cells #[.int .i64 k1, .int .i64 k2, .int .i64 k3, .int .i64 k4, .int .u16 k5] 39)
      have hx5 := heap_alloc_new wr (.cells #[.int .i64 k1, .int .i64 k2, .int .i64 k3, .int .i64 k4, .int .u16 k5] 39)
      have hT := Ht.out.step b5
      have hS : Aside2 (wr.alloc (.cells #[.int .i64 k1, .int .i64 k2, .int .i64 k3, .int .i64 k4, .int .u16 k5] 39)) wr.heap.size (.cells #[.int .i64 k1, .int .i64 k2, .int .i64 k3, .int .i64 k4, .int .u16 k5] 39) F4 F5 :=
        ⟨hx5, fun hf => by have := (Ht.out.d.low _ hf).2; omega, fun hf => by have := (Ht.out.r.low _ hf).2; omega⟩
      clear b5 hx5 Ht
      go_upto_region 14 with fail
      clear x0 x1 x2 x3 x4
      generalize wr.heap.size = gc at *
      generalize wr.alloc (.cells #[.int .i64 k1, .int .i64 k2, .int .i64 k3, .int .i64 k4, .int .u16 k5] 39) = w5 at *
      have y0 := cells_at hS.is 0
      have y1 := cells_at hS.is 1
      have y2 := cells_at hS.is 2
      have y3 := cells_at hS.is 3
      have y4 := cells_at hS.is 4
      have Ht := Lib.hid hT; clear hT
      have Hs := Lib.hid hS; clear hS
      go_upto_if 81 with fail
      go_cut [] from 65 to 276 (fun wx => ∃ (F6 F7 : Nat → Prop) (es2 : List Ent), Both w wx b1 b2 F6 F7 (P, W, D) es2 es2 ∧ Aside2 wx gc (.cells #[.int .i64 k1, .int .i64 k2, .int .i64 k3, .int .i64 k4, .int .u16 k5] 39) F6 F7)
      case first => as_aux_lemma =>
        by_cases hk : k1 = 0
        · have e1 : (k1 == 0) = true := by simpa using hk
          obtain ⟨T1, T2, es2, hB⟩ : ∃ T1 T2 es2, beginOf (P, W, D) es k2 k5 k4 = (T1, T2, es2) := ⟨_, _, _, rfl⟩
          have HB := Lib.hid hB; clear hB
          have z1 : ((T1 : Int) != (T1 : Int)) = false := by simp
          have z2 : (T2 != T2) = false := by simp
          have hc := Begin_dk Ht.out.d k2 k5 k4 hok.client hok.mask
          rw [HB.out] at hc
          simp only at hc
          have Hc := Lib.hid hc; clear hc
          clear hk
          go_wp2_with fail
          refine Hc.out.mono ?_
          rintro e w6 ⟨rfl, d6, m6⟩
          have hT := Ht.out.left d6 m6
          have hS := Hs.out.left m6
          clear Ht Hs m6 d6 Hc y0 y1 y2 y3 y4
          generalize grownF F4 w5 w6 = F6 at *
          have Ht := Lib.hid hT; clear hT
          have y1 := cells_at hS.is 1
          have y3 := cells_at hS.is 3
          have y4 := cells_at hS.is 4
          have Hs := Lib.hid hS; clear hS
          have hc := RBegin_rk Ht.out.r k2 k5 k4 hok.mask
          rw [HB.out] at hc
          simp only at hc
          have Hc := Lib.hid hc; clear hc
          go_wp2_with fail
          refine Hc.out.mono ?_
          rintro e w7 ⟨rfl, d7, m7⟩
          have hT := Ht.out.right d7 m7
          have hS := Hs.out.right m7
          clear Ht Hs m7 d7 Hc y1 y3 y4
          generalize grownF F5 w6 w7 = F7 at *
          have Ht := Lib.hid hT; clear hT
          have Hs := Lib.hid hS; clear hS
          go_wp2_with fail
          go_meet
          case rel => exact ⟨F6, F7, es2, Ht.out, Hs.out⟩
        · have e1 : (k1 == 0) = false := by simpa using hk
          go_wp2_with fail
          go_meet
          case rel => exact ⟨F4, F5, es, Ht.out, Hs.out⟩
      case rest =>
        obtain ⟨F6, F7, es2, hT, hS⟩ := hcut
        clear Ht Hs y0 y1 y2 y3 y4
        have Ht := Lib.hid hT; clear hT
        have y1 := cells_at hS.is 1
        have y2 := cells_at hS.is 2
        have y3 := cells_at hS.is 3
        have y4 := cells_at hS.is 4
        have Hs := Lib.hid hS; clear hS
        obtain ⟨M1, M2, hM⟩ : ∃ M1 M2, mayOf (P, W, D) es2 k2 k3 k4 = (M1, M2) := ⟨_, _, rfl⟩
        obtain ⟨K, hK⟩ : ∃ K, K = ofOf (P, W, D) es2 k2 k4 := ⟨_, rfl⟩
        obtain ⟨H, hH⟩ : ∃ H, H = decide (K ≠ 0) := ⟨_, rfl⟩
        obtain ⟨L, hL⟩ : ∃ L, L = List.length es2 := ⟨_, rfl⟩
        have HM := Lib.hid hM; clear hM
        have HK := Lib.hid hK; clear hK
        have HH := Lib.hid hH; clear hH
        have h64 := Ht.out.d.facts.2.1
        rw [← hL] at h64
        have HL := Lib.hid hL; clear hL
        have z1 : ((M1 : Int) != (M1 : Int)) = false := by simp
        have z2 : (M2 != M2) = false := by simp
        have z3 : ((K : Int) != (K : Int)) = false := by simp
        have z4 : (H != H) = false := by cases H <;> rfl
        have z5 : ((L : Int) != (L : Int)) = false := by simp
        have hc := May_dk Ht.out.d k2 k3 k4 hok.client
        rw [HM.out] at hc
        simp only at hc
        have Hc := Lib.hid hc; clear hc
        go_wp2_with fail
        refine Hc.out.mono ?_
        rintro e wA ⟨rfl, bA, -⟩
        clear Hc
        have hT := Ht.out.step bA
        have hS := Hs.out.step bA
        clear Ht Hs bA y1 y2 y3 y4
        have Ht := Lib.hid hT; clear hT
        have y1 := cells_at hS.is 1
        have y2 := cells_at hS.is 2
        have y3 := cells_at hS.is 3
        have y4 := cells_at hS.is 4
        have Hs := Lib.hid hS; clear hS
        have hc := RMay_rk Ht.out.r k2 k3 k4
        rw [HM.out] at hc
        simp only at hc
        have Hc := Lib.hid hc; clear hc
        go_wp2_with fail
        refine Hc.out.mono ?_
        rintro e wB ⟨rfl, bA⟩
        clear Hc
        have hT := Ht.out.step bA
        have hS := Hs.out.step bA
        clear Ht Hs bA y1 y2 y3 y4
        have Ht := Lib.hid hT; clear hT
        have y1 := cells_at hS.is 1
        have y2 := cells_at hS.is 2
        have y3 := cells_at hS.is 3
        have y4 := cells_at hS.is 4
        have Hs := Lib.hid hS; clear hS
        have hc := Of_dk Ht.out.d k2 k4 hok.client
        rw [← HK.out, ← HH.out] at hc
        have Hc := Lib.hid hc; clear hc
        go_wp2_with fail
        refine Hc.out.mono ?_
        rintro e wC ⟨rfl, bA, -⟩
        clear Hc
        have hT := Ht.out.step bA
        have hS := Hs.out.step bA
        clear Ht Hs bA y1 y2 y3 y4
        have Ht := Lib.hid hT; clear hT
        have y1 := cells_at hS.is 1
        have y2 := cells_at hS.is 2
        have y3 := cells_at hS.is 3
        have y4 := cells_at hS.is 4
        have Hs := Lib.hid hS; clear hS
        have hc := ROf_rk Ht.out.r k2 k4
        rw [← HK.out, ← HH.out] at hc
        have Hc := Lib.hid hc; clear hc
        go_wp2_with fail
        refine Hc.out.mono ?_
        rintro e wS ⟨rfl, bA⟩
        clear Hc
        have hT := Ht.out.step bA
        have hS := Hs.out.step bA
        clear Ht Hs bA y1 y2 y3 y4
        have Ht := Lib.hid hT; clear hT
        have y1 := cells_at hS.is 1
        have y2 := cells_at hS.is 2
        have y3 := cells_at hS.is 3
        have y4 := cells_at hS.is 4
        have Hs := Lib.hid hS; clear hS
        go_upto_region 23 with fail
        go_cut [203] from 65 to 276 (fun s203 wx => s203 = .bool false ∧ Both w wx b1 b2 F6 F7 (P, W, D) es2 es2 ∧ Aside2 wx gc (.cells #[.int .i64 k1, .int .i64 k2, .int .i64 k3, .int .i64 k4, .int .u16 k5] 39) F6 F7)
        case first => as_aux_lemma =>
          obtain ⟨la, lc, c3, hrecs⟩ := Ht.out.r.root
          rw [← HL.out] at c3 hrecs
          have lr := World.block_lt_of_cell? _ _ c3
          have ly := Hs.out.lt
          have C3 := Lib.hid c3; clear c3
          have Hrec := Lib.hid hrecs; clear hrecs
          clear y1 y2 y3 y4
          have s0 := below_drew wS
          refine wp_region_phases (fun w' : World => Below wS.heap.size wS w') 277 [([], [[0, 1, 2], [3, 4, 5, 6], [7, 8, 9, 10, 11], [12, 13, 14, 15, 16], [17, 18]]), ([19, 21, 22, 23, 24, 25], [[20], [26], [27, 28]]), ([29, 30, 31, 33, 34, 35], [[32], [36], [37], [38, 39, 40]]), ([41, 42, 43, 45, 46, 47], [[44], [48], [49], [50, 51]])] (by kernel_rfl) (by kernel_rfl) rfl (by kernel_rfl) (fun _ _ _ h => by obtain ⟨_, h, _⟩ := h; cases h) s0 ?_
          generalize wS.drew = wA at s0 ⊢
          have Hs0 := Lib.hid s0; clear s0
          refine ph_plain rfl ?_
          simp only [List.map_cons, List.map_nil, List.getD_cons_zero, List.getD_cons_succ]
          refine segsK_more ?_
          go_wp2_with fail
          refine seg_end Hs0.out (segsK_more ?_)
          go_wp2_with fail
          refine seg_end Hs0.out (segsK_more ?_)
          go_wp2_with fail
          refine seg_end Hs0.out (segsK_more ?_)
          go_wp2_with fail
          refine seg_end Hs0.out (segsK_more ?_)
          go_wp2_with fail
          refine seg_end Hs0.out (segsK_end (ph_more rfl ?_))
          apply Exists.intro
          apply And.intro
          · intro w' s
            have c3 := (s.cell lr).trans C3.out
            clear s
            simp only [List.map_cons, List.map_nil, List.getD_cons_zero, List.getD_cons_succ]
            go_wp2_with fail
            exact pre_end
          simp only [List.map_cons, List.map_nil, List.getD_cons_zero, List.getD_cons_succ]
          refine segsK_more ?_
          go_wp2_with fail
          refine (Count_dk (Ht.out.d.step Hs0.out)).mono ?_
          rintro e wz ⟨rfl, rfl⟩
          rw [← HL.out]
          go_wp2_with fail
          refine seg_end Hs0.out (segsK_more ?_)
          go_wp2_with fail
          refine seg_end Hs0.out (segsK_more ?_)
          go_wp2_with fail
          refine seg_end Hs0.out (segsK_end (ph_more rfl ?_))
          apply Exists.intro
          apply And.intro
          · intro w' s
            have y := cells_at (Hs.out.step s).is 2
            clear s
            simp only [List.map_cons, List.map_nil, List.getD_cons_zero, List.getD_cons_succ]
            go_wp2_with fail
            exact pre_end
          simp only [List.map_cons, List.map_nil, List.getD_cons_zero, List.getD_cons_succ]
          refine segsK_more ?_
          go_wp2_with fail
          refine (In_dk (Ht.out.d.step Hs0.out) k3).mono ?_
          rintro e wB ⟨v1, rfl, ow1, bB, -⟩
          obtain ⟨a1, c1, rfl, i1, -⟩ := ow1.ints
          have sB := Hs0.out.trans (bB.mono Hs0.out.size)
          clear Hs0 bB ow1
          have HsB := Lib.hid sB; clear sB
          have HI1 := Lib.hid i1; clear i1
          generalize List.length _ = n1 at HI1 ⊢
          go_wp2_with fail
          refine seg_end HsB.out (segsK_more ?_)
          go_wp2_with fail
          refine (RIn_rk (Ht.out.r.step HsB.out) k3).mono ?_
          rintro e wC ⟨v2, rfl, ow2, bC⟩
          obtain ⟨a2, c2, rfl, i2, -⟩ := ow2.ints
          have i1 := HI1.out.keep bC
          have sC := HsB.out.trans (bC.mono HsB.out.size)
          clear HsB bC ow2 HI1
          have Hs0 := Lib.hid sC; clear sC
          have hcmp := SameInts_calls i1 i2 rfl
          clear i1 i2
          have Hcmp := Lib.hid hcmp; clear hcmp
          generalize List.length _ = n2 at Hcmp ⊢
          go_wp2_with fail
          refine seg_end Hs0.out (segsK_more ?_)
          go_wp2_with fail
          refine Hcmp.out.mono ?_
          rintro e wD ⟨rfl, nd, rfl⟩
          clear Hcmp
          have sD := Hs0.out.trans ((below_drawn _ nd).mono Hs0.out.size)
          clear Hs0
          have Hs0 := Lib.hid sD; clear sD
          generalize World.drewN _ nd = wA at Hs0 ⊢
          go_wp2_with fail
          refine seg_end Hs0.out (segsK_more ?_)
          go_wp2_with fail
          refine seg_end Hs0.out (segsK_end (ph_more rfl ?_))
          apply Exists.intro
          apply And.intro
          · intro w' s
            have y := cells_at (Hs.out.step s).is 3
            clear s
            simp only [List.map_cons, List.map_nil, List.getD_cons_zero, List.getD_cons_succ]
            go_wp2_with fail
            exact pre_end
          simp only [List.map_cons, List.map_nil, List.getD_cons_zero, List.getD_cons_succ]
          refine segsK_more ?_
          go_wp2_with fail
          refine (Over_dk (Ht.out.d.step Hs0.out) k4).mono ?_
          rintro e wB ⟨v1, rfl, ow1, bB, -⟩
          obtain ⟨a1, c1, rfl, i1, -⟩ := ow1.ints
          have sB := Hs0.out.trans (bB.mono Hs0.out.size)
          clear Hs0 bB ow1
          have HsB := Lib.hid sB; clear sB
          have HI1 := Lib.hid i1; clear i1
          generalize List.length _ = n1 at HI1 ⊢
          go_wp2_with fail
          refine seg_end HsB.out (segsK_more ?_)
          go_wp2_with fail
          refine (ROver_rk (Ht.out.r.step HsB.out) k4).mono ?_
          rintro e wC ⟨v2, rfl, ow2, bC⟩
          obtain ⟨a2, c2, rfl, i2, -⟩ := ow2.ints
          have i1 := HI1.out.keep bC
          have sC := HsB.out.trans (bC.mono HsB.out.size)
          clear HsB bC ow2 HI1
          have Hs0 := Lib.hid sC; clear sC
          have hcmp := SameInts_calls i1 i2 rfl
          clear i1 i2
          have Hcmp := Lib.hid hcmp; clear hcmp
          generalize List.length _ = n2 at Hcmp ⊢
          go_wp2_with fail
          refine seg_end Hs0.out (segsK_more ?_)
          go_wp2_with fail
          refine Hcmp.out.mono ?_
          rintro e wD ⟨rfl, nd, rfl⟩
          clear Hcmp
          have sD := Hs0.out.trans ((below_drawn _ nd).mono Hs0.out.size)
          clear Hs0
          have Hs0 := Lib.hid sD; clear sD
          generalize World.drewN _ nd = wA at Hs0 ⊢
          go_wp2_with fail
          refine seg_end Hs0.out (segsK_more ?_)
          go_wp2_with fail
          refine seg_end Hs0.out (segsK_end (ph_end ?_))
          go_wp2_with fail
          go_meet
          case rel => exact ⟨rfl, Ht.out.step Hs0.out, Hs.out.step Hs0.out⟩
        case rest =>
          obtain ⟨rfl, hT, hS⟩ := hcut
          clear Ht Hs y1 y2 y3 y4
          have Ht := Lib.hid hT; clear hT
          have Hs := Lib.hid hS; clear hS
          have hc := Entry_dk Ht.out.d tx htx
          rw [← HL.out] at hc
          clear HM HK HH z1 z2 z3 z4 z5
          obtain ⟨la, lc, c3, hrecs⟩ := Ht.out.r.root
          rw [← HL.out] at c3 hrecs
          have lr := World.block_lt_of_cell? _ _ c3
          have C3 := Lib.hid c3; clear c3
          by_cases hin : 1 ≤ tx ∧ tx ≤ (L : Int)
          · rw [decide_eq_true hin] at hc
            obtain ⟨i, rfl⟩ : ∃ i : Nat, tx = (i : Int) + 1 := ⟨(tx - 1).toNat, by omega⟩
            have hiL : i < L := by omega
            have hi : i < es2.length := by rw [← HL.out]; exact hiL
            have hent : entAt es2 ((i : Int) + 1) = es2[i] := by
              unfold entAt
              rw [← HL.out, if_pos hin, show (((i : Int) + 1) - 1).toNat = i by omega, List.getD_eq_getElem?_getD, List.getElem?_eq_getElem hi, Option.getD_some]
            rw [hent] at hc
            obtain ⟨lb, lo, rfl⟩ := hrecs.addr (by omega)
            have hcl := hrecs.at hi
            obtain ⟨en, hene⟩ : ∃ en, en = es2[i] := ⟨_, rfl⟩
            rw [← hene] at hc hcl
            clear hene hent hin
            obtain ⟨x2, y2, z2⟩ := en
            simp only [Ent.cells, Ent.client, Ent.begin, Ent.mask] at hc
            have p0 : wc.cell? ⟨lb, lo + i * 3, none⟩ = some (.int .i64 x2) := hcl 0 (.int .i64 x2) rfl
            have p1 : wc.cell? ⟨lb, lo + i * 3 + 1, none⟩ = some (.int .i64 y2) := hcl 1 (.int .i64 y2) rfl
            have p2 : wc.cell? ⟨lb, lo + i * 3 + 2, none⟩ = some (.int .u16 z2) := hcl 2 (.int .u16 z2) rfl
            have plt := World.block_lt_of_cell? _ _ p0
            clear hcl hrecs
            have Hc := Lib.hid hc; clear hc
            have j1 : (0 : Int) ≤ (i : Int) := by omega
            have j2 : (i : Int) < (L : Int) := by omega
            have f1 : decide ((1 : Int) ≤ (i : Int) + 1) = true := decide_eq_true (by omega)
            have f2 : decide ((i : Int) + 1 ≤ (L : Int)) = true := decide_eq_true (by omega)
            have r1 : (x2 != x2) = false := by simp
            have r2 : (y2 != y2) = false := by simp
            have r3 : (z2 != z2) = false := by simp
            go_wp2_with fail
            refine Hc.out.mono ?_
            rintro e wF ⟨rfl, bF, -⟩
            have bZ := bF.alloc bF.size (.cells #[.int .i64 x2, .int .i64 y2, .int .u16 z2] 50)
            have hxz := heap_alloc_new wF (.cells #[.int .i64 x2, .int .i64 y2, .int .u16 z2] 50)
            have hT := Ht.out.step bZ
            have c3 := (bZ.cell lr).trans C3.out
            have q0 := (bZ.cell plt).trans p0
            have q1 := (bZ.cell plt).trans p1
            have q2 := (bZ.cell plt).trans p2
            have v0 := cells_at hxz 0
            have v1 := cells_at hxz 1
            have v2 := cells_at hxz 2
            clear bF bZ Hc p0 p1 p2 plt C3 Ht hxz
            have Ht := Lib.hid hT; clear hT
            go_upto_region 26 with fail
            generalize wF.heap.size = gz at *
            generalize wF.alloc (.cells #[.int .i64 x2, .int .i64 y2, .int .u16 z2] 50) = wG at *
            go_cut [276] from 65 to 276 (fun s276 wx => s276 = .bool false ∧ Both w wx b1 b2 F6 F7 (P, W, D) es2 es2)
            case first => as_aux_lemma =>
              have s0 := below_drew wG
              refine wp_region_phases (fun w' : World => Below wG.heap.size wG w') 277 [([0, 1], [[2], [3]]), ([4, 5, 6, 7, 8, 9], [[10], [11, 12], [13, 14, 15]]), ([16, 17, 18, 19, 20, 21, 22], [[23], [24, 25, 26], [27], [28]]), ([29, 30, 31, 32, 33, 34, 35], [[36], [37, 38, 39], [40], [41, 42]]), ([43, 44, 45, 46, 47, 48, 49], [[50], [51, 52, 53], [54], [55, 56, 57, 58], [59, 60, 61]]), ([62, 63], [[64], [65, 66]])] (by kernel_rfl) (by kernel_rfl) rfl (by kernel_rfl) (fun _ _ _ h => by obtain ⟨_, h, _⟩ := h; cases h) s0 ?_
              generalize wG.drew = wH at s0 ⊢
              have Hs0 := Lib.hid s0; clear s0
              have Lc3 := World.block_lt_of_cell? _ _ c3
              have Cc3 := Lib.hid c3; clear c3
              have Lq0 := World.block_lt_of_cell? _ _ q0
              have Cq0 := Lib.hid q0; clear q0
              have Lq1 := World.block_lt_of_cell? _ _ q1
              have Cq1 := Lib.hid q1; clear q1
              have Lq2 := World.block_lt_of_cell? _ _ q2
              have Cq2 := Lib.hid q2; clear q2
              have Lv0 := World.block_lt_of_cell? _ _ v0
              have Cv0 := Lib.hid v0; clear v0
              have Lv1 := World.block_lt_of_cell? _ _ v1
              have Cv1 := Lib.hid v1; clear v1
              have Lv2 := World.block_lt_of_cell? _ _ v2
              have Cv2 := Lib.hid v2; clear v2
              refine ph_more rfl ?_
              apply Exists.intro
              apply And.intro
              · intro w' s
                have c3 := (s.cell Lc3).trans Cc3.out
                have q0 := (s.cell Lq0).trans Cq0.out
                have q1 := (s.cell Lq1).trans Cq1.out
                have q2 := (s.cell Lq2).trans Cq2.out
                have v0 := (s.cell Lv0).trans Cv0.out
                have v1 := (s.cell Lv1).trans Cv1.out
                have v2 := (s.cell Lv2).trans Cv2.out
                clear s
                simp only [List.map_cons, List.map_nil, List.getD_cons_zero, List.getD_cons_succ]
                go_wp2_with fail
                exact pre_end
              simp only [List.map_cons, List.map_nil, List.getD_cons_zero, List.getD_cons_succ]
              refine segsK_more ?_
              have c3 := (Hs0.out.cell Lc3).trans Cc3.out
              have q0 := (Hs0.out.cell Lq0).trans Cq0.out
              have q1 := (Hs0.out.cell Lq1).trans Cq1.out
              have q2 := (Hs0.out.cell Lq2).trans Cq2.out
              have v0 := (Hs0.out.cell Lv0).trans Cv0.out
              have v1 := (Hs0.out.cell Lv1).trans Cv1.out
              have v2 := (Hs0.out.cell Lv2).trans Cv2.out
              go_wp2_with fail
              clear c3 q0 q1 q2 v0 v1 v2
              refine seg_end Hs0.out ?_
              refine segsK_more ?_
              have c3 := (Hs0.out.cell Lc3).trans Cc3.out
              have q0 := (Hs0.out.cell Lq0).trans Cq0.out
              have q1 := (Hs0.out.cell Lq1).trans Cq1.out
              have q2 := (Hs0.out.cell Lq2).trans Cq2.out
              have v0 := (Hs0.out.cell Lv0).trans Cv0.out
              have v1 := (Hs0.out.cell Lv1).trans Cv1.out
              have v2 := (Hs0.out.cell Lv2).trans Cv2.out
              go_wp2_with fail
              clear c3 q0 q1 q2 v0 v1 v2
              refine seg_end Hs0.out (segsK_end ?_)
              refine ph_more rfl ?_
              apply Exists.intro
              apply And.intro
              · intro w' s
                have c3 := (s.cell Lc3).trans Cc3.out
                have q0 := (s.cell Lq0).trans Cq0.out
                have q1 := (s.cell Lq1).trans Cq1.out
                have q2 := (s.cell Lq2).trans Cq2.out
                have v0 := (s.cell Lv0).trans Cv0.out
                have v1 := (s.cell Lv1).trans Cv1.out
                have v2 := (s.cell Lv2).trans Cv2.out
                clear s
                simp only [List.map_cons, List.map_nil, List.getD_cons_zero, List.getD_cons_succ]
                go_wp2_with fail
                exact pre_end
              simp only [List.map_cons, List.map_nil, List.getD_cons_zero, List.getD_cons_succ]
              refine segsK_more ?_
              have c3 := (Hs0.out.cell Lc3).trans Cc3.out
              have q0 := (Hs0.out.cell Lq0).trans Cq0.out
              have q1 := (Hs0.out.cell Lq1).trans Cq1.out
              have q2 := (Hs0.out.cell Lq2).trans Cq2.out
              have v0 := (Hs0.out.cell Lv0).trans Cv0.out
              have v1 := (Hs0.out.cell Lv1).trans Cv1.out
              have v2 := (Hs0.out.cell Lv2).trans Cv2.out
              go_wp2_with fail
              clear c3 q0 q1 q2 v0 v1 v2
              refine seg_end Hs0.out ?_
              refine segsK_more ?_
              have c3 := (Hs0.out.cell Lc3).trans Cc3.out
              have q0 := (Hs0.out.cell Lq0).trans Cq0.out
              have q1 := (Hs0.out.cell Lq1).trans Cq1.out
              have q2 := (Hs0.out.cell Lq2).trans Cq2.out
              have v0 := (Hs0.out.cell Lv0).trans Cv0.out
              have v1 := (Hs0.out.cell Lv1).trans Cv1.out
              have v2 := (Hs0.out.cell Lv2).trans Cv2.out
              go_wp2_with fail
              clear c3 q0 q1 q2 v0 v1 v2
              refine seg_end Hs0.out ?_
              refine segsK_more ?_
              have c3 := (Hs0.out.cell Lc3).trans Cc3.out
              have q0 := (Hs0.out.cell Lq0).trans Cq0.out
              have q1 := (Hs0.out.cell Lq1).trans Cq1.out
              have q2 := (Hs0.out.cell Lq2).trans Cq2.out
              have v0 := (Hs0.out.cell Lv0).trans Cv0.out
              have v1 := (Hs0.out.cell Lv1).trans Cv1.out
              have v2 := (Hs0.out.cell Lv2).trans Cv2.out
              go_wp2_with fail
              clear c3 q0 q1 q2 v0 v1 v2
              refine seg_end Hs0.out (segsK_end ?_)
              refine ph_more rfl ?_
              apply Exists.intro
              apply And.intro
              · intro w' s
                have c3 := (s.cell Lc3).trans Cc3.out
                have q0 := (s.cell Lq0).trans Cq0.out
                have q1 := (s.cell Lq1).trans Cq1.out
                have q2 := (s.cell Lq2).trans Cq2.out
                have v0 := (s.cell Lv0).trans Cv0.out
                have v1 := (s.cell Lv1).trans Cv1.out
                have v2 := (s.cell Lv2).trans Cv2.out
                clear s
                simp only [List.map_cons, List.map_nil, List.getD_cons_zero, List.getD_cons_succ]
                go_wp2_with fail
                exact pre_end
              simp only [List.map_cons, List.map_nil, List.getD_cons_zero, List.getD_cons_succ]
              refine segsK_more ?_
              have c3 := (Hs0.out.cell Lc3).trans Cc3.out
              have q0 := (Hs0.out.cell Lq0).trans Cq0.out
              have q1 := (Hs0.out.cell Lq1).trans Cq1.out
              have q2 := (Hs0.out.cell Lq2).trans Cq2.out
              have v0 := (Hs0.out.cell Lv0).trans Cv0.out
              have v1 := (Hs0.out.cell Lv1).trans Cv1.out
              have v2 := (Hs0.out.cell Lv2).trans Cv2.out
              go_wp2_with fail
              clear c3 q0 q1 q2 v0 v1 v2
              refine seg_end Hs0.out ?_
              refine segsK_more ?_
              have c3 := (Hs0.out.cell Lc3).trans Cc3.out
              have q0 := (Hs0.out.cell Lq0).trans Cq0.out
              have q1 := (Hs0.out.cell Lq1).trans Cq1.out
              have q2 := (Hs0.out.cell Lq2).trans Cq2.out
              have v0 := (Hs0.out.cell Lv0).trans Cv0.out
              have v1 := (Hs0.out.cell Lv1).trans Cv1.out
              have v2 := (Hs0.out.cell Lv2).trans Cv2.out
              go_wp2_with fail
              clear c3 q0 q1 q2 v0 v1 v2
              refine seg_end Hs0.out ?_
              refine segsK_more ?_
              have c3 := (Hs0.out.cell Lc3).trans Cc3.out
              have q0 := (Hs0.out.cell Lq0).trans Cq0.out
              have q1 := (Hs0.out.cell Lq1).trans Cq1.out
              have q2 := (Hs0.out.cell Lq2).trans Cq2.out
              have v0 := (Hs0.out.cell Lv0).trans Cv0.out
              have v1 := (Hs0.out.cell Lv1).trans Cv1.out
              have v2 := (Hs0.out.cell Lv2).trans Cv2.out
              go_wp2_with fail
              clear c3 q0 q1 q2 v0 v1 v2
              refine seg_end Hs0.out ?_
              refine segsK_more ?_
              have c3 := (Hs0.out.cell Lc3).trans Cc3.out
              have q0 := (Hs0.out.cell Lq0).trans Cq0.out
              have q1 := (Hs0.out.cell Lq1).trans Cq1.out
              have q2 := (Hs0.out.cell Lq2).trans Cq2.out
              have v0 := (Hs0.out.cell Lv0).trans Cv0.out
              have v1 := (Hs0.out.cell Lv1).trans Cv1.out
              have v2 := (Hs0.out.cell Lv2).trans Cv2.out
              go_wp2_with fail
              clear c3 q0 q1 q2 v0 v1 v2
              refine seg_end Hs0.out (segsK_end ?_)
              refine ph_more rfl ?_
              apply Exists.intro
              apply And.intro
              · intro w' s
                have c3 := (s.cell Lc3).trans Cc3.out
                have q0 := (s.cell Lq0).trans Cq0.out
                have q1 := (s.cell Lq1).trans Cq1.out
                have q2 := (s.cell Lq2).trans Cq2.out
                have v0 := (s.cell Lv0).trans Cv0.out
                have v1 := (s.cell Lv1).trans Cv1.out
                have v2 := (s.cell Lv2).trans Cv2.out
                clear s
                simp only [List.map_cons, List.map_nil, List.getD_cons_zero, List.getD_cons_succ]
                go_wp2_with fail
                exact pre_end
              simp only [List.map_cons, List.map_nil, List.getD_cons_zero, List.getD_cons_succ]
              refine segsK_more ?_
              have c3 := (Hs0.out.cell Lc3).trans Cc3.out
              have q0 := (Hs0.out.cell Lq0).trans Cq0.out
              have q1 := (Hs0.out.cell Lq1).trans Cq1.out
              have q2 := (Hs0.out.cell Lq2).trans Cq2.out
              have v0 := (Hs0.out.cell Lv0).trans Cv0.out
              have v1 := (Hs0.out.cell Lv1).trans Cv1.out
              have v2 := (Hs0.out.cell Lv2).trans Cv2.out
              go_wp2_with fail
              clear c3 q0 q1 q2 v0 v1 v2
              refine seg_end Hs0.out ?_
              refine segsK_more ?_
              have c3 := (Hs0.out.cell Lc3).trans Cc3.out
              have q0 := (Hs0.out.cell Lq0).trans Cq0.out
              have q1 := (Hs0.out.cell Lq1).trans Cq1.out
              have q2 := (Hs0.out.cell Lq2).trans Cq2.out
              have v0 := (Hs0.out.cell Lv0).trans Cv0.out
              have v1 := (Hs0.out.cell Lv1).trans Cv1.out
              have v2 := (Hs0.out.cell Lv2).trans Cv2.out
              go_wp2_with fail
              clear c3 q0 q1 q2 v0 v1 v2
              refine seg_end Hs0.out ?_
              refine segsK_more ?_
              have c3 := (Hs0.out.cell Lc3).trans Cc3.out
              have q0 := (Hs0.out.cell Lq0).trans Cq0.out
              have q1 := (Hs0.out.cell Lq1).trans Cq1.out
              have q2 := (Hs0.out.cell Lq2).trans Cq2.out
              have v0 := (Hs0.out.cell Lv0).trans Cv0.out
              have v1 := (Hs0.out.cell Lv1).trans Cv1.out
              have v2 := (Hs0.out.cell Lv2).trans Cv2.out
              go_wp2_with fail
              clear c3 q0 q1 q2 v0 v1 v2
              refine seg_end Hs0.out ?_
              refine segsK_more ?_
              have c3 := (Hs0.out.cell Lc3).trans Cc3.out
              have q0 := (Hs0.out.cell Lq0).trans Cq0.out
              have q1 := (Hs0.out.cell Lq1).trans Cq1.out
              have q2 := (Hs0.out.cell Lq2).trans Cq2.out
              have v0 := (Hs0.out.cell Lv0).trans Cv0.out
              have v1 := (Hs0.out.cell Lv1).trans Cv1.out
              have v2 := (Hs0.out.cell Lv2).trans Cv2.out
              go_wp2_with fail
              clear c3 q0 q1 q2 v0 v1 v2
              refine seg_end Hs0.out (segsK_end ?_)
              refine ph_more rfl ?_
              apply Exists.intro
              apply And.intro
              · intro w' s
                have c3 := (s.cell Lc3).trans Cc3.out
                have q0 := (s.cell Lq0).trans Cq0.out
                have q1 := (s.cell Lq1).trans Cq1.out
                have q2 := (s.cell Lq2).trans Cq2.out
                have v0 := (s.cell Lv0).trans Cv0.out
                have v1 := (s.cell Lv1).trans Cv1.out
                have v2 := (s.cell Lv2).trans Cv2.out
                clear s
                simp only [List.map_cons, List.map_nil, List.getD_cons_zero, List.getD_cons_succ]
                go_wp2_with fail
                exact pre_end
              simp only [List.map_cons, List.map_nil, List.getD_cons_zero, List.getD_cons_succ]
              refine segsK_more ?_
              have c3 := (Hs0.out.cell Lc3).trans Cc3.out
              have q0 := (Hs0.out.cell Lq0).trans Cq0.out
              have q1 := (Hs0.out.cell Lq1).trans Cq1.out
              have q2 := (Hs0.out.cell Lq2).trans Cq2.out
              have v0 := (Hs0.out.cell Lv0).trans Cv0.out
              have v1 := (Hs0.out.cell Lv1).trans Cv1.out
              have v2 := (Hs0.out.cell Lv2).trans Cv2.out
              go_wp2_with fail
              clear c3 q0 q1 q2 v0 v1 v2
              refine seg_end Hs0.out ?_
              refine segsK_more ?_
              have c3 := (Hs0.out.cell Lc3).trans Cc3.out
              have q0 := (Hs0.out.cell Lq0).trans Cq0.out
              have q1 := (Hs0.out.cell Lq1).trans Cq1.out
              have q2 := (Hs0.out.cell Lq2).trans Cq2.out
              have v0 := (Hs0.out.cell Lv0).trans Cv0.out
              have v1 := (Hs0.out.cell Lv1).trans Cv1.out
              have v2 := (Hs0.out.cell Lv2).trans Cv2.out
              go_wp2_with fail
              clear c3 q0 q1 q2 v0 v1 v2
              refine seg_end Hs0.out ?_
              refine segsK_more ?_
              have c3 := (Hs0.out.cell Lc3).trans Cc3.out
              have q0 := (Hs0.out.cell Lq0).trans Cq0.out
              have q1 := (Hs0.out.cell Lq1).trans Cq1.out
              have q2 := (Hs0.out.cell Lq2).trans Cq2.out
              have v0 := (Hs0.out.cell Lv0).trans Cv0.out
              have v1 := (Hs0.out.cell Lv1).trans Cv1.out
              have v2 := (Hs0.out.cell Lv2).trans Cv2.out
              go_wp2_with fail
              clear c3 q0 q1 q2 v0 v1 v2
              refine seg_end Hs0.out ?_
              refine segsK_more ?_
              have c3 := (Hs0.out.cell Lc3).trans Cc3.out
              have q0 := (Hs0.out.cell Lq0).trans Cq0.out
              have q1 := (Hs0.out.cell Lq1).trans Cq1.out
              have q2 := (Hs0.out.cell Lq2).trans Cq2.out
              have v0 := (Hs0.out.cell Lv0).trans Cv0.out
              have v1 := (Hs0.out.cell Lv1).trans Cv1.out
              have v2 := (Hs0.out.cell Lv2).trans Cv2.out
              go_wp2_with fail
              clear c3 q0 q1 q2 v0 v1 v2
              refine seg_end Hs0.out ?_
              refine segsK_more ?_
              have c3 := (Hs0.out.cell Lc3).trans Cc3.out
              have q0 := (Hs0.out.cell Lq0).trans Cq0.out
              have q1 := (Hs0.out.cell Lq1).trans Cq1.out
              have q2 := (Hs0.out.cell Lq2).trans Cq2.out
              have v0 := (Hs0.out.cell Lv0).trans Cv0.out
              have v1 := (Hs0.out.cell Lv1).trans Cv1.out
              have v2 := (Hs0.out.cell Lv2).trans Cv2.out
              go_wp2_with fail
              clear c3 q0 q1 q2 v0 v1 v2
              refine seg_end Hs0.out (segsK_end ?_)
              refine ph_more rfl ?_
              apply Exists.intro
              apply And.intro
              · intro w' s
                have c3 := (s.cell Lc3).trans Cc3.out
                have q0 := (s.cell Lq0).trans Cq0.out
                have q1 := (s.cell Lq1).trans Cq1.out
                have q2 := (s.cell Lq2).trans Cq2.out
                have v0 := (s.cell Lv0).trans Cv0.out
                have v1 := (s.cell Lv1).trans Cv1.out
                have v2 := (s.cell Lv2).trans Cv2.out
                clear s
                simp only [List.map_cons, List.map_nil, List.getD_cons_zero, List.getD_cons_succ]
                go_wp2_with fail
                exact pre_end
              simp only [List.map_cons, List.map_nil, List.getD_cons_zero, List.getD_cons_succ]
              refine segsK_more ?_
              have c3 := (Hs0.out.cell Lc3).trans Cc3.out
              have q0 := (Hs0.out.cell Lq0).trans Cq0.out
              have q1 := (Hs0.out.cell Lq1).trans Cq1.out
              have q2 := (Hs0.out.cell Lq2).trans Cq2.out
              have v0 := (Hs0.out.cell Lv0).trans Cv0.out
              have v1 := (Hs0.out.cell Lv1).trans Cv1.out
              have v2 := (Hs0.out.cell Lv2).trans Cv2.out
              go_wp2_with fail
              clear c3 q0 q1 q2 v0 v1 v2
              refine seg_end Hs0.out ?_
              refine segsK_more ?_
              have c3 := (Hs0.out.cell Lc3).trans Cc3.out
              have q0 := (Hs0.out.cell Lq0).trans Cq0.out
              have q1 := (Hs0.out.cell Lq1).trans Cq1.out
              have q2 := (Hs0.out.cell Lq2).trans Cq2.out
              have v0 := (Hs0.out.cell Lv0).trans Cv0.out
              have v1 := (Hs0.out.cell Lv1).trans Cv1.out
              have v2 := (Hs0.out.cell Lv2).trans Cv2.out
              go_wp2_with fail
              clear c3 q0 q1 q2 v0 v1 v2
              refine seg_end Hs0.out (segsK_end ?_)
              refine ph_end ?_
              go_wp2_with fail
              go_meet
              case rel => exact ⟨rfl, Ht.out.step Hs0.out⟩
            case rest =>
              obtain ⟨rfl, hT⟩ := hcut
              clear Ht c3 q0 q1 q2 v0 v1 v2
              have Ht := Lib.hid hT; clear hT
              go_wp2_with fail
              go_roundw
              case rel => exact ⟨j + 1, _, _, _, by omega, by go_num, Ht.out⟩
              case measure => simp [intOf]; omega
          · rw [decide_eq_false hin] at hc
            have hent : entAt es2 tx = noEnt := by
              unfold entAt
              rw [← HL.out, if_neg hin]
            rw [hent] at hc
            simp only [Ent.cells, noEnt, Ent.client, Ent.begin, Ent.mask] at hc
            have Hc := Lib.hid hc; clear hc hent
            have hq := fun w => ent_neq w noEnt noEnt
            have hg := fun x y w => ent_guard .neq x y noEnt noEnt w
            simp only [Ent.cells, noEnt, Ent.client, Ent.begin, Ent.mask, decide_true, Bool.not_true] at hq hg
            have Hq := Lib.hid hq; clear hq
            have Hg := Lib.hid hg; clear hg
            have hd : (decide (1 ≤ tx) = false) ∨ (decide (1 ≤ tx) = true ∧ decide (tx ≤ (L : Int)) = false) := by
              by_cases h1 : 1 ≤ tx
              · exact .inr ⟨decide_eq_true h1, decide_eq_false fun h2 => hin ⟨h1, h2⟩⟩
              · exact .inl (decide_eq_false h1)
            clear hin hrecs
            go_wp2_with fail
            refine Hc.out.mono ?_
            rintro e wF ⟨rfl, bF, -⟩
            have bZ := bF.alloc bF.size (.cells #[.int .i64 0, .int .i64 0, .int .u16 0] 50)
            have hxz := heap_alloc_new wF (.cells #[.int .i64 0, .int .i64 0, .int .u16 0] 50)
            have hT := Ht.out.step bZ
            have c3 := (bZ.cell lr).trans C3.out
            have v0 := cells_at hxz 0
            have v1 := cells_at hxz 1
            have v2 := cells_at hxz 2
            clear bF bZ Hc C3 Ht hxz
            have Ht := Lib.hid hT; clear hT
            go_upto_region 26 with fail
            generalize wF.heap.size = gz at *
            generalize wF.alloc (.cells #[.int .i64 0, .int .i64 0, .int .u16 0] 50) = wG at *
            go_cut [276] from 65 to 276 (fun s276 wx => s276 = .bool false ∧ Both w wx b1 b2 F6 F7 (P, W, D) es2 es2)
            case first => as_aux_lemma =>
              have hq := Hq.out
              have hg := Hg.out
              rcases hd with f1 | ⟨f1, f2⟩
              all_goals
                have s0 := below_drew wG
                refine wp_region_phases (fun w' : World => Below wG.heap.size wG w') 277 [([0, 1], [[2], [3]]), ([4, 5, 6, 7, 8, 9], [[10], [11, 12], [13, 14, 15]]), ([16, 17, 18, 19, 20, 21, 22], [[23], [24, 25, 26], [27], [28]]), ([29, 30, 31, 32, 33, 34, 35], [[36], [37, 38, 39], [40], [41, 42]]), ([43, 44, 45, 46, 47, 48, 49], [[50], [51, 52, 53], [54], [55, 56, 57, 58], [59, 60, 61]]), ([62, 63], [[64], [65, 66]])] (by kernel_rfl) (by kernel_rfl) rfl (by kernel_rfl) (fun _ _ _ h => by obtain ⟨_, h, _⟩ := h; cases h) s0 ?_
                generalize wG.drew = wH at s0 ⊢
                have Hs0 := Lib.hid s0; clear s0
                have Lc3 := World.block_lt_of_cell? _ _ c3
                have Cc3 := Lib.hid c3; clear c3
                have Lv0 := World.block_lt_of_cell? _ _ v0
                have Cv0 := Lib.hid v0; clear v0
                have Lv1 := World.block_lt_of_cell? _ _ v1
                have Cv1 := Lib.hid v1; clear v1
                have Lv2 := World.block_lt_of_cell? _ _ v2
                have Cv2 := Lib.hid v2; clear v2
                refine ph_more rfl ?_
                apply Exists.intro
                apply And.intro
                · intro w' s
                  have c3 := (s.cell Lc3).trans Cc3.out
                  have v0 := (s.cell Lv0).trans Cv0.out
                  have v1 := (s.cell Lv1).trans Cv1.out
                  have v2 := (s.cell Lv2).trans Cv2.out
                  clear s
                  simp only [List.map_cons, List.map_nil, List.getD_cons_zero, List.getD_cons_succ]
                  go_wp2_with fail
                  exact pre_end
                simp only [List.map_cons, List.map_nil, List.getD_cons_zero, List.getD_cons_succ]
                refine segsK_more ?_
                have c3 := (Hs0.out.cell Lc3).trans Cc3.out
                have v0 := (Hs0.out.cell Lv0).trans Cv0.out
                have v1 := (Hs0.out.cell Lv1).trans Cv1.out
                have v2 := (Hs0.out.cell Lv2).trans Cv2.out
                go_wp2_with fail
                clear c3 v0 v1 v2
                refine seg_end Hs0.out ?_
                refine segsK_more ?_
                have c3 := (Hs0.out.cell Lc3).trans Cc3.out
                have v0 := (Hs0.out.cell Lv0).trans Cv0.out
                have v1 := (Hs0.out.cell Lv1).trans Cv1.out
                have v2 := (Hs0.out.cell Lv2).trans Cv2.out
                go_wp2_with fail
                clear c3 v0 v1 v2
                refine seg_end Hs0.out (segsK_end ?_)
                refine ph_more rfl ?_
                apply Exists.intro
                apply And.intro
                · intro w' s
                  have c3 := (s.cell Lc3).trans Cc3.out
                  have v0 := (s.cell Lv0).trans Cv0.out
                  have v1 := (s.cell Lv1).trans Cv1.out
                  have v2 := (s.cell Lv2).trans Cv2.out
                  clear s
                  simp only [List.map_cons, List.map_nil, List.getD_cons_zero, List.getD_cons_succ]
                  go_wp2_with fail
                  exact pre_end
                simp only [List.map_cons, List.map_nil, List.getD_cons_zero, List.getD_cons_succ]
                refine segsK_more ?_
                have c3 := (Hs0.out.cell Lc3).trans Cc3.out
                have v0 := (Hs0.out.cell Lv0).trans Cv0.out
                have v1 := (Hs0.out.cell Lv1).trans Cv1.out
                have v2 := (Hs0.out.cell Lv2).trans Cv2.out
                go_wp2_with fail
                clear c3 v0 v1 v2
                refine seg_end Hs0.out ?_
                refine segsK_more ?_
                have c3 := (Hs0.out.cell Lc3).trans Cc3.out
                have v0 := (Hs0.out.cell Lv0).trans Cv0.out
                have v1 := (Hs0.out.cell Lv1).trans Cv1.out
                have v2 := (Hs0.out.cell Lv2).trans Cv2.out
                go_wp2_with fail
                clear c3 v0 v1 v2
                refine seg_end Hs0.out ?_
                refine segsK_more ?_
                have c3 := (Hs0.out.cell Lc3).trans Cc3.out
                have v0 := (Hs0.out.cell Lv0).trans Cv0.out
                have v1 := (Hs0.out.cell Lv1).trans Cv1.out
                have v2 := (Hs0.out.cell Lv2).trans Cv2.out
                go_wp2_with fail
                clear c3 v0 v1 v2
                refine seg_end Hs0.out (segsK_end ?_)
                refine ph_more rfl ?_
                apply Exists.intro
                apply And.intro
                · intro w' s
                  have c3 := (s.cell Lc3).trans Cc3.out
                  have v0 := (s.cell Lv0).trans Cv0.out
                  have v1 := (s.cell Lv1).trans Cv1.out
                  have v2 := (s.cell Lv2).trans Cv2.out
                  clear s
                  simp only [List.map_cons, List.map_nil, List.getD_cons_zero, List.getD_cons_succ]
                  go_wp2_with fail
                  exact pre_end
                simp only [List.map_cons, List.map_nil, List.getD_cons_zero, List.getD_cons_succ]
                refine segsK_more ?_
                have c3 := (Hs0.out.cell Lc3).trans Cc3.out
                have v0 := (Hs0.out.cell Lv0).trans Cv0.out
                have v1 := (Hs0.out.cell Lv1).trans Cv1.out
                have v2 := (Hs0.out.cell Lv2).trans Cv2.out
                go_wp2_with fail
                clear c3 v0 v1 v2
                refine seg_end Hs0.out ?_
                refine segsK_more ?_
                have c3 := (Hs0.out.cell Lc3).trans Cc3.out
                have v0 := (Hs0.out.cell Lv0).trans Cv0.out
                have v1 := (Hs0.out.cell Lv1).trans Cv1.out
                have v2 := (Hs0.out.cell Lv2).trans Cv2.out
                go_wp2_with fail
                clear c3 v0 v1 v2
                refine seg_end Hs0.out ?_
                refine segsK_more ?_
                have c3 := (Hs0.out.cell Lc3).trans Cc3.out
                have v0 := (Hs0.out.cell Lv0).trans Cv0.out
                have v1 := (Hs0.out.cell Lv1).trans Cv1.out
                have v2 := (Hs0.out.cell Lv2).trans Cv2.out
                go_wp2_with fail
                clear c3 v0 v1 v2
                refine seg_end Hs0.out ?_
                refine segsK_more ?_
                have c3 := (Hs0.out.cell Lc3).trans Cc3.out
                have v0 := (Hs0.out.cell Lv0).trans Cv0.out
                have v1 := (Hs0.out.cell Lv1).trans Cv1.out
                have v2 := (Hs0.out.cell Lv2).trans Cv2.out
                go_wp2_with fail
                clear c3 v0 v1 v2
                refine seg_end Hs0.out (segsK_end ?_)
                refine ph_more rfl ?_
                apply Exists.intro
                apply And.intro
                · intro w' s
                  have c3 := (s.cell Lc3).trans Cc3.out
                  have v0 := (s.cell Lv0).trans Cv0.out
                  have v1 := (s.cell Lv1).trans Cv1.out
                  have v2 := (s.cell Lv2).trans Cv2.out
                  clear s
                  simp only [List.map_cons, List.map_nil, List.getD_cons_zero, List.getD_cons_succ]
                  go_wp2_with fail
                  exact pre_end
                simp only [List.map_cons, List.map_nil, List.getD_cons_zero, List.getD_cons_succ]
                refine segsK_more ?_
                have c3 := (Hs0.out.cell Lc3).trans Cc3.out
                have v0 := (Hs0.out.cell Lv0).trans Cv0.out
                have v1 := (Hs0.out.cell Lv1).trans Cv1.out
                have v2 := (Hs0.out.cell Lv2).trans Cv2.out
                go_wp2_with fail
                clear c3 v0 v1 v2
                refine seg_end Hs0.out ?_
                refine segsK_more ?_
                have c3 := (Hs0.out.cell Lc3).trans Cc3.out
                have v0 := (Hs0.out.cell Lv0).trans Cv0.out
                have v1 := (Hs0.out.cell Lv1).trans Cv1.out
                have v2 := (Hs0.out.cell Lv2).trans Cv2.out
                go_wp2_with fail
                clear c3 v0 v1 v2
                refine seg_end Hs0.out ?_
                refine segsK_more ?_
                have c3 := (Hs0.out.cell Lc3).trans Cc3.out
                have v0 := (Hs0.out.cell Lv0).trans Cv0.out
                have v1 := (Hs0.out.cell Lv1).trans Cv1.out
                have v2 := (Hs0.out.cell Lv2).trans Cv2.out
                go_wp2_with fail
                clear c3 v0 v1 v2
                refine seg_end Hs0.out ?_
                refine segsK_more ?_
                have c3 := (Hs0.out.cell Lc3).trans Cc3.out
                have v0 := (Hs0.out.cell Lv0).trans Cv0.out
                have v1 := (Hs0.out.cell Lv1).trans Cv1.out
                have v2 := (Hs0.out.cell Lv2).trans Cv2.out
                go_wp2_with fail
                clear c3 v0 v1 v2
                refine seg_end Hs0.out (segsK_end ?_)
                refine ph_more rfl ?_
                apply Exists.intro
                apply And.intro
                · intro w' s
                  have c3 := (s.cell Lc3).trans Cc3.out
                  have v0 := (s.cell Lv0).trans Cv0.out
                  have v1 := (s.cell Lv1).trans Cv1.out
                  have v2 := (s.cell Lv2).trans Cv2.out
                  clear s
                  simp only [List.map_cons, List.map_nil, List.getD_cons_zero, List.getD_cons_succ]
                  go_wp2_with fail
                  exact pre_end
                simp only [List.map_cons, List.map_nil, List.getD_cons_zero, List.getD_cons_succ]
                refine segsK_more ?_
                have c3 := (Hs0.out.cell Lc3).trans Cc3.out
                have v0 := (Hs0.out.cell Lv0).trans Cv0.out
                have v1 := (Hs0.out.cell Lv1).trans Cv1.out
                have v2 := (Hs0.out.cell Lv2).trans Cv2.out
                go_wp2_with fail
                clear c3 v0 v1 v2
                refine seg_end Hs0.out ?_
                refine segsK_more ?_
                have c3 := (Hs0.out.cell Lc3).trans Cc3.out
                have v0 := (Hs0.out.cell Lv0).trans Cv0.out
                have v1 := (Hs0.out.cell Lv1).trans Cv1.out
                have v2 := (Hs0.out.cell Lv2).trans Cv2.out
                go_wp2_with fail
                clear c3 v0 v1 v2
                refine seg_end Hs0.out ?_
                refine segsK_more ?_
                have c3 := (Hs0.out.cell Lc3).trans Cc3.out
                have v0 := (Hs0.out.cell Lv0).trans Cv0.out
                have v1 := (Hs0.out.cell Lv1).trans Cv1.out
                have v2 := (Hs0.out.cell Lv2).trans Cv2.out
                go_wp2_with fail
                clear c3 v0 v1 v2
                refine seg_end Hs0.out ?_
                refine segsK_more ?_
                have c3 := (Hs0.out.cell Lc3).trans Cc3.out
                have v0 := (Hs0.out.cell Lv0).trans Cv0.out
                have v1 := (Hs0.out.cell Lv1).trans Cv1.out
                have v2 := (Hs0.out.cell Lv2).trans Cv2.out
                go_wp2_with fail
                clear c3 v0 v1 v2
                refine seg_end Hs0.out ?_
                refine segsK_more ?_
                have c3 := (Hs0.out.cell Lc3).trans Cc3.out
                have v0 := (Hs0.out.cell Lv0).trans Cv0.out
                have v1 := (Hs0.out.cell Lv1).trans Cv1.out
                have v2 := (Hs0.out.cell Lv2).trans Cv2.out
                go_wp2_with fail
                clear c3 v0 v1 v2
                refine seg_end Hs0.out (segsK_end ?_)
                refine ph_more rfl ?_
                apply Exists.intro
                apply And.intro
                · intro w' s
                  have c3 := (s.cell Lc3).trans Cc3.out
                  have v0 := (s.cell Lv0).trans Cv0.out
                  have v1 := (s.cell Lv1).trans Cv1.out
                  have v2 := (s.cell Lv2).trans Cv2.out
                  clear s
                  simp only [List.map_cons, List.map_nil, List.getD_cons_zero, List.getD_cons_succ]
                  go_wp2_with fail
                  exact pre_end
                simp only [List.map_cons, List.map_nil, List.getD_cons_zero, List.getD_cons_succ]
                refine segsK_more ?_
                have c3 := (Hs0.out.cell Lc3).trans Cc3.out
                have v0 := (Hs0.out.cell Lv0).trans Cv0.out
                have v1 := (Hs0.out.cell Lv1).trans Cv1.out
                have v2 := (Hs0.out.cell Lv2).trans Cv2.out
                go_wp2_with fail
                clear c3 v0 v1 v2
                refine seg_end Hs0.out ?_
                refine segsK_more ?_
                have c3 := (Hs0.out.cell Lc3).trans Cc3.out
                have v0 := (Hs0.out.cell Lv0).trans Cv0.out
                have v1 := (Hs0.out.cell Lv1).trans Cv1.out
                have v2 := (Hs0.out.cell Lv2).trans Cv2.out
                go_wp2_with fail
                clear c3 v0 v1 v2
                refine seg_end Hs0.out (segsK_end ?_)
                refine ph_end ?_
                go_wp2_with fail
                go_meet
                case rel => exact ⟨rfl, Ht.out.step Hs0.out⟩
            case rest =>
              obtain ⟨rfl, hT⟩ := hcut
              clear Ht c3 v0 v1 v2
              have Ht := Lib.hid hT; clear hT
              go_wp2_with fail
              go_roundw
              case rel => exact ⟨j + 1, _, _, _, by omega, by go_num, Ht.out⟩
              case measure => simp [intOf]; omega
    · obtain rfl : j = n := by omega
      go_wp2
      go_ret
      exact ⟨rfl, Ht.out.d.bel⟩
end Go.Proofs.Ytdccocgdgcjfcaa
