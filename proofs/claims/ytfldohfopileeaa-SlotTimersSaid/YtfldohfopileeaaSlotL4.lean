/- The law SlotTimers (printed by genSlotL4.py). -/
import Derived.Test.YtfldohfopileeaaSlotC
namespace Go.Proofs.Ytfldohfopileeaa
open Go.RowKit

theorem rest_len (xs : List Tm) (t : Int) : (restT xs t).length ≤ xs.length := (List.dropWhile_sublist _).length_le
theorem filt_len (xs : List Tm) (id : Int) : (xs.filter (kpT id)).length ≤ xs.length := List.length_filter_le _ _
set_option maxHeartbeats 16000000 in
set_option maxRecDepth 100000 in
theorem lawSlotTimers {w : World} {a : Option Addr} {n c : Nat} {cs : List CallT} (hcs : SRow w a n c cs) : Calls Try.prog 6 #[.slice a n c] w fun e w' => e = .returned (.bool true) ∧ Below w.heap.size w w' := by
  have hcl := hcs.recs.len
  have hok := hcs.ok
  have hcr := hcs.recs
  clear hcs
  have HC := Lib.hid hcr; clear hcr
  have Hcl := Lib.hid hcl; clear hcl
  have Hok := Lib.hid hok; clear hok
  by_cases hn : 150 < n
  · have e0 : decide (150 < (n : Int)) = true := decide_eq_true (by omega)
    go_enter Try.func6, Try.ntmps6
    go_wp2_with fail
    refine alive_calls.mono ?_
    rintro e w1 ⟨rfl, b1⟩
    have Hb := Lib.hid b1; clear b1
    go_wp2
    go_ret
    exact ⟨rfl, Hb.out⟩
  have e0 : decide (150 < (n : Int)) = false := decide_eq_false (by omega)
  have hn2 : n ≤ 150 := by omega
  clear hn
  go_enter Try.func6, Try.ntmps6
  go_wp2_with fail
  refine alive_calls.mono ?_
  rintro e w1 ⟨rfl, b1⟩
  have hc1 := HC.out.keep b1
  have HB1 := Lib.hid b1; clear b1 HC
  have HC := Lib.hid hc1; clear hc1
  have t2 := tim_new w1
  have hs2 : (w1.alloc (.cells #[.slice none 0 0] 39)).heap.size = w1.heap.size + 1 := World.size_alloc _ _
  obtain ⟨w2, hw2⟩ : ∃ w2, w2 = w1.alloc (.cells #[.slice none 0 0] 39) := ⟨_, rfl⟩
  rw [← hw2] at t2 hs2
  have b3 := (Below.refl w2.heap.size w2).alloc (Nat.le_refl _) (.cells #[] rE)
  have t3 := t2.step b3
  have o3 := ROwn.made (F := tmF) (E := rE) w2
  obtain ⟨w3, hw3⟩ : ∃ w3, w3 = w2.alloc (.cells #[] rE) := ⟨_, rfl⟩
  rw [← hw3] at t3 o3 b3
  have l3 : LR w3 (fun k => k = w1.heap.size) (some ⟨w2.heap.size, 0, none⟩) 0 0 [] := ⟨Recs.none0 (by decide), fun b o e => by
    cases e
    exact ⟨fun e => by omega, by have := o3.lt w2.heap.size rfl; omega⟩⟩
  have T3 := Lib.hid t3; clear t3 t2 b3 o3
  have L3 := Lib.hid l3; clear l3
  have Hs2 := Lib.hid hs2; clear hs2
  go_wp2_with fail
  rw [← Hs2.out, ← hw2, ← hw3]
  clear hw2 hw3 Hs2
  go_loopw [4, 5] (fun u v wr => ∃ (j : Nat) (F : Nat → Prop) (xs : List Tm) (la : Option Addr) (lc : Nat), j ≤ n ∧ v = .int .i64 j ∧ u = .slice la xs.length lc ∧ xs.length ≤ j ∧ Tim w1 wr F w1.heap.size xs ∧ LR wr F la xs.length lc xs) (fun _ v _ => n - (intOf v).toNat)
  case atStart => exact ⟨0, _, [], _, 0, by omega, rfl, rfl, Nat.le_refl _, T3.out, L3.out⟩
  case round =>
    clear T3 L3 e0
    obtain ⟨j, F, xs, la, lc, hj, rfl, rfl, hxl, ht, hl⟩ := hrel
    obtain ⟨w4, rfl⟩ : ∃ w4, w4 = wr := ⟨_, rfl⟩
    by_cases hlt : j < n
    · have hcw := HC.out.keep ht.bel
      obtain ⟨gx, ox, rfl⟩ := hcw.addr (by omega)
      have hjl : j < cs.length := by rw [Hcl.out]; exact hlt
      have hcx := hcw.at hjl
      have hyw := Hok.out cs[j] (List.getElem_mem _)
      obtain ⟨y, hy⟩ : ∃ y, y = cs[j] := ⟨_, rfl⟩
      rw [← hy] at hcx hyw
      clear hy hcw
      have x0 := hcx 0 _ rfl
      have x1 := hcx 1 _ rfl
      have x2 := hcx 2 _ rfl
      have hidw := hyw.2.2
      clear hcx hyw
      obtain ⟨wh, tk, id⟩ := y
      have x0' : w4.cell? ⟨gx, ox + j * 3, none⟩ = some (.int .i64 wh) := x0
      have x1' : w4.cell? ⟨gx, ox + j * 3 + 1, none⟩ = some (.int .i64 tk) := x1
      have x2' : w4.cell? ⟨gx, ox + j * 3 + 2, none⟩ = some (.int .i64 id) := x2
      clear x0 x1 x2
      have hidw' : (Lit.int .i64 id).wf = true := hidw
      clear hidw
      have i1 : (0 : Int) ≤ (j : Int) := by omega
      have i2 : (j : Int) < (n : Int) := by omega
      have bk := (Below.refl w4.heap.size w4).alloc (Nat.le_refl _) (.cells #[.int .i64 wh, .int .i64 tk, .int .i64 id] 42)
      have hm := heap_alloc_new w4 (.cells #[.int .i64 wh, .int .i64 tk, .int .i64 id] 42)
      have t5 := ht.step bk
      have l5 := hl.below bk
      have hmf : ∀ k, F k → k < w4.heap.size := fun k hk => (ht.lt k hk).2
      have hmF : ¬ F w4.heap.size := fun h => Nat.lt_irrefl _ (hmf _ h)
      clear ht hl bk hmf
      have y0 := cells_at hm 0
      have y1 := cells_at hm 1
      have y2 := cells_at hm 2
      have T := Lib.hid t5; clear t5
      have L := Lib.hid l5; clear l5
      have HmF := Lib.hid hmF; clear hmF
      have Hm := Lib.hid hm; clear hm
      have Hidw := Lib.hid hidw'; clear hidw'
      by_cases h0 : wh = 0
      · subst h0
        have Hx0 := Lib.hid (show xs.length ≤ 1000 by omega)
        have xn : xs.length ≤ 100000 := by omega
        have Hxn := Lib.hid xn; clear xn
        go_wp2_with fail
        generalize w4.heap.size = gm at *
        generalize w4.alloc (.cells #[.int .i64 0, .int .i64 tk, .int .i64 id] 42) = w5 at *
        clear x0' x1' x2' y0 y1 y2
        refine (tim_set T.out Hx0.out tk Hidw.out).mono ?_
        rintro e w6 ⟨rfl, t6, m6⟩
        have l6 := L.out.mod m6
        have hm6 := (m6.block _ (Array.getElem?_eq_some_iff.1 Hm.out).1 HmF.out).trans Hm.out
        clear T L Hm HmF m6
        have T := Lib.hid t6; clear t6
        have L := Lib.hid l6; clear l6
        have Hm := Lib.hid hm6; clear hm6
        have hm := Hm.out
        have y0 := cells_at hm 0
        have y1 := cells_at hm 1
        have y2 := cells_at hm 2
        clear hm
        go_wp2_with fail
        refine (RSet_calls (t := tk) (id := id) L.out.recs Hxn.out).mono ?_
        rintro e w7 ⟨v, rfl, r7, b7⟩
        rw [setR_setT] at r7
        obtain ⟨la7, lc7, rfl, l7⟩ := lr_new T.out r7 b7
        have t7 := T.out.step b7
        have hln : (setT xs tk id).length ≤ j + 1 := by rw [setT_len]; have := filt_len xs id; omega
        clear r7 b7 T L Hm y0 y1 y2
        generalize setT xs tk id = ys at *
        have T := Lib.hid t7; clear t7
        have L := Lib.hid l7; clear l7
        have Hln := Lib.hid hln; clear hln
        go_wp2_with fail
        refine (tim_first T.out).mono ?_
        rintro e wf ⟨rfl, rfl⟩
        cases ys with
        | nil =>
          go_wp2_with fail
          refine (tim_len T.out).mono ?_
          rintro e wg ⟨rfl, rfl⟩
          go_wp2_with fail
          go_roundw
          case rel => exact ⟨j + 1, _, [], _, _, by omega, by go_num, rfl, by simp, T.out, L.out⟩
          case measure => simp [intOf]; omega
        | cons z zs =>
          have hlr := L.out.recs
          obtain ⟨gl, ol, hla⟩ := hlr.addr (by simp)
          subst hla
          obtain ⟨cz, -⟩ := tm_at hlr (j := 0) (by simp)
          have cz' : wf.cell? ⟨gl, ol, none⟩ = some (.int .i64 z.1) := by simpa using cz
          clear cz hlr
          have d0 : decide (0 < (z :: zs).length) = true := by simp
          have h0 : ((z :: zs).headD (0, 0)).1 = z.1 := rfl
          rw [d0, h0]
          clear d0 h0
          have q1 : (z.1 != z.1) = false := by simp
          have hpos : 0 < (z :: zs).length := by simp
          obtain ⟨M, hM⟩ : ∃ M, M = (z :: zs).length := ⟨_, rfl⟩
          have hlen := Hln.out
          have tl := tim_len T.out
          rw [← hM] at hpos hlen tl ⊢
          have HM := Lib.hid hM; clear hM
          have q2 : ((M : Int) != (M : Int)) = false := by simp
          have q3 : decide (0 < (M : Int)) = true := decide_eq_true (by omega)
          have q4 : (0 : Int) < (M : Int) := by omega
          have TL := Lib.hid tl; clear tl
          go_wp2_with fail
          refine TL.out.mono ?_
          rintro e wg ⟨rfl, rfl⟩
          go_wp2_with fail
          go_roundw
          case rel => exact ⟨j + 1, _, z :: zs, _, _, by omega, by go_num, by rw [← HM.out], by rw [← HM.out]; exact hlen, T.out, L.out⟩
          case measure => simp [intOf]; omega
      have d0 : (wh == 0) = false := by simpa using h0
      by_cases h1 : wh = 1
      · subst h1
        have Hx0 := Lib.hid (show xs.length ≤ 1000 by omega)
        have xn : xs.length ≤ 100000 := by omega
        have Hxn := Lib.hid xn; clear xn
        go_wp2_with fail
        generalize w4.heap.size = gm at *
        generalize w4.alloc (.cells #[.int .i64 1, .int .i64 tk, .int .i64 id] 42) = w5 at *
        clear x0' x1' x2' y0 y1 y2
        refine (RDue_calls (t := tk) L.out.recs Hxn.out T.out.good.ok).mono ?_
        rintro e w6 ⟨out, a6, c6, rfl, o6, r6, s6, b6⟩
        have t6 := T.out.step b6
        obtain ⟨oa, oc, rfl, i6, hof⟩ := o6.ints
        have hoF : ∀ b o, oa = some ⟨b, o, none⟩ → ¬ F b := fun b o e hF => by have := (T.out.lt b hF).2; have := (hof b o e).1; omega
        have l6 : LR w6 F a6 (restT xs tk).length c6 (restT xs tk) := ⟨r6, fun b o e => by
          obtain ⟨o', e'⟩ := s6 b o e
          exact ⟨(L.out.out b o' e').1, Nat.lt_of_lt_of_le (L.out.out b o' e').2 b6.size⟩⟩
        have hm6 := (b6.block _ (Array.getElem?_eq_some_iff.1 Hm.out).1).trans Hm.out
        clear T L Hm b6 r6 s6 o6 hof
        have T := Lib.hid t6; clear t6
        have L := Lib.hid l6; clear l6
        have Hm := Lib.hid hm6; clear hm6
        have I6 := Lib.hid i6; clear i6
        have HoF := Lib.hid hoF; clear hoF
        have hm := Hm.out
        have y0 := cells_at hm 0
        have y1 := cells_at hm 1
        have y2 := cells_at hm 2
        clear hm
        go_wp2_with fail
        clear y0 y1 y2
        refine (tim_due T.out Hx0.out tk).mono ?_
        rintro e w7 ⟨out, rfl, o7, t7, m7, -⟩
        have l7 := L.out.mod m7
        have i6 := m7.ints I6.out HoF.out
        obtain ⟨pa, pc, rfl, i7, -⟩ := o7.ints
        have hln : (restT xs tk).length ≤ j + 1 := by have := rest_len xs tk; omega
        clear T L Hm HmF m7 o7 I6 HoF
        generalize restT xs tk = ys at *
        have T := Lib.hid t7; clear t7
        have L := Lib.hid l7; clear l7
        have I6 := Lib.hid i6; clear i6
        have I7 := Lib.hid i7; clear i7
        have Hln := Lib.hid hln; clear hln
        go_wp2_with fail
        refine (SameInts_calls I7.out I6.out rfl).mono ?_
        rintro e w8 ⟨rfl, b8⟩
        have t8 := T.out.step b8
        have l8 := L.out.below b8
        clear T L I6 I7 b8
        have T := Lib.hid t8; clear t8
        have L := Lib.hid l8; clear l8
        go_wp2_with fail
        refine (tim_first T.out).mono ?_
        rintro e wf ⟨rfl, rfl⟩
        cases ys with
        | nil =>
          go_wp2_with fail
          refine (tim_len T.out).mono ?_
          rintro e wg ⟨rfl, rfl⟩
          go_wp2_with fail
          go_roundw
          case rel => exact ⟨j + 1, _, [], _, _, by omega, by go_num, rfl, by simp, T.out, L.out⟩
          case measure => simp [intOf]; omega
        | cons z zs =>
          have hlr := L.out.recs
          obtain ⟨gl, ol, hla⟩ := hlr.addr (by simp)
          subst hla
          obtain ⟨cz, -⟩ := tm_at hlr (j := 0) (by simp)
          have cz' : wf.cell? ⟨gl, ol, none⟩ = some (.int .i64 z.1) := by simpa using cz
          clear cz hlr
          have d0 : decide (0 < (z :: zs).length) = true := by simp
          have h0 : ((z :: zs).headD (0, 0)).1 = z.1 := rfl
          rw [d0, h0]
          clear d0 h0
          have q1 : (z.1 != z.1) = false := by simp
          have hpos : 0 < (z :: zs).length := by simp
          obtain ⟨M, hM⟩ : ∃ M, M = (z :: zs).length := ⟨_, rfl⟩
          have hlen := Hln.out
          have tl := tim_len T.out
          rw [← hM] at hpos hlen tl ⊢
          have HM := Lib.hid hM; clear hM
          have q2 : ((M : Int) != (M : Int)) = false := by simp
          have q3 : decide (0 < (M : Int)) = true := decide_eq_true (by omega)
          have q4 : (0 : Int) < (M : Int) := by omega
          have TL := Lib.hid tl; clear tl
          go_wp2_with fail
          refine TL.out.mono ?_
          rintro e wg ⟨rfl, rfl⟩
          go_wp2_with fail
          go_roundw
          case rel => exact ⟨j + 1, _, z :: zs, _, _, by omega, by go_num, by rw [← HM.out], by rw [← HM.out]; exact hlen, T.out, L.out⟩
          case measure => simp [intOf]; omega
      have d1 : (wh == 1) = false := by simpa using h1
      by_cases h2 : wh = 2
      · subst h2
        have Hx0 := Lib.hid (show xs.length ≤ 1000 by omega)
        have xn : xs.length ≤ 100000 := by omega
        have Hxn := Lib.hid xn; clear xn
        go_wp2_with fail
        generalize w4.heap.size = gm at *
        generalize w4.alloc (.cells #[.int .i64 2, .int .i64 tk, .int .i64 id] 42) = w5 at *
        clear x0' x1' x2' y0 y1 y2
        refine (RDrop_calls (id := id) L.out.recs Hxn.out).mono ?_
        rintro e w6 ⟨v, rfl, r6, b6⟩
        obtain ⟨a6, c6, rfl, l6⟩ := lr_new T.out r6 b6
        have t6 := T.out.step b6
        have hm6 := (b6.block _ (Array.getElem?_eq_some_iff.1 Hm.out).1).trans Hm.out
        clear T L Hm b6 r6
        have T := Lib.hid t6; clear t6
        have L := Lib.hid l6; clear l6
        have Hm := Lib.hid hm6; clear hm6
        have hm := Hm.out
        have y0 := cells_at hm 0
        have y1 := cells_at hm 1
        have y2 := cells_at hm 2
        clear hm
        go_wp2_with fail
        clear y0 y1 y2
        refine (tim_drop T.out Hx0.out id).mono ?_
        rintro e w7 ⟨rfl, t7, m7⟩
        have l7 := L.out.mod m7
        have hln : (xs.filter (kpT id)).length ≤ j + 1 := by have := filt_len xs id; omega
        obtain ⟨D, hD⟩ : ∃ D, D = decide ((xs.filter (kpT id)).length < xs.length) := ⟨_, rfl⟩
        have hD2 : decide (((xs.filter (kpT id)).length : Int) < (xs.length : Int)) = D := by rw [hD]; exact decide_eq_decide.2 (by omega)
        rw [← hD]
        have hD3 := hD.symm
        clear hD
        have qD : (D != D) = false := by simp
        clear T L Hm HmF m7
        generalize xs.filter (kpT id) = ys at *
        have T := Lib.hid t7; clear t7
        have L := Lib.hid l7; clear l7
        have Hln := Lib.hid hln; clear hln
        go_wp2_with fail
        clear hD2 hD3 qD
        refine (tim_first T.out).mono ?_
        rintro e wf ⟨rfl, rfl⟩
        cases ys with
        | nil =>
          go_wp2_with fail
          refine (tim_len T.out).mono ?_
          rintro e wg ⟨rfl, rfl⟩
          go_wp2_with fail
          go_roundw
          case rel => exact ⟨j + 1, _, [], _, _, by omega, by go_num, rfl, by simp, T.out, L.out⟩
          case measure => simp [intOf]; omega
        | cons z zs =>
          have hlr := L.out.recs
          obtain ⟨gl, ol, hla⟩ := hlr.addr (by simp)
          subst hla
          obtain ⟨cz, -⟩ := tm_at hlr (j := 0) (by simp)
          have cz' : wf.cell? ⟨gl, ol, none⟩ = some (.int .i64 z.1) := by simpa using cz
          clear cz hlr
          have d0 : decide (0 < (z :: zs).length) = true := by simp
          have h0 : ((z :: zs).headD (0, 0)).1 = z.1 := rfl
          rw [d0, h0]
          clear d0 h0
          have q1 : (z.1 != z.1) = false := by simp
          have hpos : 0 < (z :: zs).length := by simp
          obtain ⟨M, hM⟩ : ∃ M, M = (z :: zs).length := ⟨_, rfl⟩
          have hlen := Hln.out
          have tl := tim_len T.out
          rw [← hM] at hpos hlen tl ⊢
          have HM := Lib.hid hM; clear hM
          have q2 : ((M : Int) != (M : Int)) = false := by simp
          have q3 : decide (0 < (M : Int)) = true := decide_eq_true (by omega)
          have q4 : (0 : Int) < (M : Int) := by omega
          have TL := Lib.hid tl; clear tl
          go_wp2_with fail
          refine TL.out.mono ?_
          rintro e wg ⟨rfl, rfl⟩
          go_wp2_with fail
          go_roundw
          case rel => exact ⟨j + 1, _, z :: zs, _, _, by omega, by go_num, by rw [← HM.out], by rw [← HM.out]; exact hlen, T.out, L.out⟩
          case measure => simp [intOf]; omega
      have d2 : (wh == 2) = false := by simpa using h2
      go_wp2_with fail
      generalize w4.heap.size = gm at *
      generalize w4.alloc (.cells #[.int .i64 wh, .int .i64 tk, .int .i64 id] 42) = w5 at *
      clear x0' x1' x2' y0 y1 y2
      have hln : xs.length ≤ j + 1 := by omega
      have Hln := Lib.hid hln; clear hln
      clear Hm HmF
      refine (tim_first T.out).mono ?_
      rintro e wf ⟨rfl, rfl⟩
      cases xs with
      | nil =>
        go_wp2_with fail
        refine (tim_len T.out).mono ?_
        rintro e wg ⟨rfl, rfl⟩
        go_wp2_with fail
        go_roundw
        case rel => exact ⟨j + 1, _, [], _, _, by omega, by go_num, rfl, by simp, T.out, L.out⟩
        case measure => simp [intOf]; omega
      | cons z zs =>
        have hlr := L.out.recs
        obtain ⟨gl, ol, hla⟩ := hlr.addr (by simp)
        subst hla
        obtain ⟨cz, -⟩ := tm_at hlr (j := 0) (by simp)
        have cz' : wf.cell? ⟨gl, ol, none⟩ = some (.int .i64 z.1) := by simpa using cz
        clear cz hlr
        have d0 : decide (0 < (z :: zs).length) = true := by simp
        have h0 : ((z :: zs).headD (0, 0)).1 = z.1 := rfl
        rw [d0, h0]
        clear d0 h0
        have q1 : (z.1 != z.1) = false := by simp
        have hpos : 0 < (z :: zs).length := by simp
        obtain ⟨M, hM⟩ : ∃ M, M = (z :: zs).length := ⟨_, rfl⟩
        have hlen := Hln.out
        have tl := tim_len T.out
        rw [← hM] at hpos hlen tl ⊢
        have HM := Lib.hid hM; clear hM
        have q2 : ((M : Int) != (M : Int)) = false := by simp
        have q3 : decide (0 < (M : Int)) = true := decide_eq_true (by omega)
        have q4 : (0 : Int) < (M : Int) := by omega
        have TL := Lib.hid tl; clear tl
        go_wp2_with fail
        refine TL.out.mono ?_
        rintro e wg ⟨rfl, rfl⟩
        go_wp2_with fail
        go_roundw
        case rel => exact ⟨j + 1, _, z :: zs, _, _, by omega, by go_num, by rw [← HM.out], by rw [← HM.out]; exact hlen, T.out, L.out⟩
        case measure => simp [intOf]; omega
    · obtain rfl : j = n := by omega
      have hb := HB1.out.trans (ht.bel.mono HB1.out.size)
      clear ht hl
      have Hb := Lib.hid hb; clear hb
      generalize xs.length = XL at *
      go_wp2
      go_ret
      exact ⟨rfl, Hb.out⟩
end Go.Proofs.Ytfldohfopileeaa
