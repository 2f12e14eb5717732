/- The law LinkOrders. -/
import Derived.Test.YtckahkpikjhkmaaLinkC
import Derived.Deep.CutRange
namespace Go.Proofs.Ytckahkpikjhkmaa
open Go.RowKit

theorem put_first {xs : List Msg} (h : xs.length ≤ 16) : (putN 1 ls0 (0, true) xs).2.2 = upd ls0 (0, true) (xs.filter rightOf) := by
  unfold putN
  rw [if_pos (by decide)]
  show upd ls0 (0, true) ([] ++ (xs.filter rightOf).take 16) = _
  rw [List.nil_append, List.take_of_length_le (Nat.le_trans (List.length_filter_le _ _) h)]
theorem take_head (m : Msg) (l : List Msg) (s : Bool) : takeN 1 (upd ls0 (0, true) (m :: l)) (0, true) 0 s = (m, 0, upd ls0 (0, true) (if s then m :: l else l)) := by
  unfold takeN
  rw [if_pos (by decide), upd_same, if_pos ⟨Int.le_refl _, by rw [List.length_cons]; omega⟩]
  cases s
  · simp [upd_upd]
  · rfl
/-- so many right ones among the first j -/
def cntR (xs : List Msg) (j : Nat) : Nat := ((xs.take j).filter rightOf).length
theorem cntR_all (xs : List Msg) : cntR xs xs.length = (xs.filter rightOf).length := by unfold cntR; rw [List.take_length]
theorem cntR_step (xs : List Msg) {j : Nat} (hj : j < xs.length) : cntR xs (j + 1) = cntR xs j + (if rightOf xs[j] then 1 else 0) := by
  unfold cntR
  rw [List.take_add_one, List.getElem?_eq_getElem hj, List.filter_append, List.length_append]
  simp only [Option.toList_some]
  cases h : rightOf xs[j] <;> simp [h]
theorem cntR_at (xs : List Msg) {j : Nat} (hj : j < xs.length) (hr : rightOf xs[j] = true) : ∃ h : cntR xs j < (xs.filter rightOf).length, (xs.filter rightOf)[cntR xs j] = xs[j] := by
  have e : xs.filter rightOf = (xs.take j).filter rightOf ++ xs[j] :: (xs.drop (j + 1)).filter rightOf := by
    conv => lhs; rw [← List.take_append_drop j xs, List.filter_append, List.drop_eq_getElem_cons hj, List.filter_cons_of_pos hr]
  have hl : cntR xs j < (xs.filter rightOf).length := by rw [e, List.length_append, List.length_cons]; unfold cntR; omega
  refine ⟨hl, ?_⟩
  have : (xs.filter rightOf)[cntR xs j]? = some xs[j] := by
    rw [e]
    unfold cntR
    rw [List.getElem?_append_right (Nat.le_refl _), Nat.sub_self]
    rfl
  rw [List.getElem?_eq_getElem hl] at this
  exact Option.some.inj this

set_option maxHeartbeats 16000000 in
set_option maxRecDepth 100000 in
theorem lawLinkOrders {w : World} {a : Option Addr} {n c : Nat} {xs : List Msg} (hx : Msgs w a n c xs) :
    Calls Try.prog 7 #[.slice a n c] w fun e w' => e = .returned (.bool true) ∧ Below w.heap.size w w' := by
  have hl := hx.len
  have Hx := Lib.hid hx; clear hx
  have Hl := Lib.hid hl; clear hl
  go_enter Try.func7, Try.ntmps7
  go_wp2_with fail
  refine alive_calls.mono ?_
  rintro e w1 ⟨rfl, b1⟩
  have Hb1 := Lib.hid b1; clear b1
  by_cases h0 : 16 < n
  · have e0 : decide ((16 : Int) < (n : Int)) = true := decide_eq_true (by omega)
    go_wp2
    go_ret
    exact ⟨rfl, Hb1.out⟩
  have e0 : decide ((16 : Int) < (n : Int)) = false := decide_eq_false (by omega)
  have hn16 : n ≤ 16 := by omega
  clear h0
  have hnew := New_lk (w0 := w) (n := 1) Hb1.out (by decide) (by decide)
  have Hnew := Lib.hid hnew; clear hnew
  go_wp2_with fail
  refine Hnew.out.mono ?_
  rintro e w2 ⟨b, F, rfl, l2, -, -⟩
  have hput := Put_lk l2 (0, true) (Hx.out.keep l2.bel) (by omega)
  rw [put_first (by rw [Hl.out]; exact hn16)] at hput
  have Hput := Lib.hid hput; clear hput Hnew l2 Hb1 e0
  go_wp2_with fail
  refine Hput.out.mono ?_
  rintro e w3 ⟨rfl, l3, -⟩
  generalize grownF F w2 w3 = F3 at l3
  have hbag := Bag_lk l3 (0, true)
  rw [if_pos (by decide), upd_same] at hbag
  have Hbag := Lib.hid hbag; clear hbag Hput
  have Hl3 := Lib.hid l3; clear l3
  go_wp2_with fail
  refine Hbag.out.mono ?_
  rintro e w4 ⟨v, rfl, ov, b4⟩
  have o4 : OwnM w w4 F3 v (xs.filter rightOf) := ⟨ov.mono Hl3.out.bel.size, fun g hg hf => by have := (ov.lt g hg).1; have := (Hl3.out.low g hf).2; omega⟩
  have l4 := Hl3.out.step b4
  clear ov b4 Hbag Hl3
  obtain ⟨W, hW⟩ : ∃ W, W = xs.filter rightOf := ⟨_, rfl⟩
  rw [← hW] at o4 l4
  obtain ⟨va, vc, rfl⟩ := o4.own.shape
  obtain ⟨N, hN⟩ : ∃ N, N = W.length := ⟨_, rfl⟩
  rw [← hN] at o4 ⊢
  have hN16 : N ≤ 16 := by rw [hN, hW]; exact Nat.le_trans (List.length_filter_le _ _) (by rw [Hl.out]; exact hn16)
  have HN := Lib.hid hN; clear hN
  have HW := Lib.hid hW; clear hW
  have Ho := Lib.hid o4; clear o4
  have Hk := Lib.hid l4; clear l4
  go_wp2_with fail
  go_loopw [6] (fun i wr => ∃ (j : Nat) (F : Nat → Prop), j ≤ N ∧ i = .int .i64 j ∧ Lk w wr b F 1 (upd ls0 (0, true) (W.drop j)) ∧ OwnM w wr F (.slice va N vc) W) (fun i _ => N - (intOf i).toNat)
  case atStart => exact ⟨0, F3, by omega, rfl, Hk.out, Ho.out⟩
  case round =>
    clear Hk Ho
    obtain ⟨j, F4, hj, rfl, hk, ho⟩ := hrel
    by_cases hlt : j < N
    · have hjW : j < W.length := by rw [← HN.out]; exact hlt
      obtain ⟨va', vc', ev, hrec, -⟩ := ho.own.recs
      rw [← HN.out] at ev hrec
      cases ev
      obtain ⟨wb, wo, rfl⟩ := hrec.addr (by omega)
      have hcl := hrec.at hjW
      have hwl : wb < wr.heap.size := World.block_lt_of_cell? _ _ (hcl 0 _ rfl)
      have hwF : ¬ F4 wb := ho.out wb rfl
      rw [List.drop_eq_getElem_cons hjW] at hk
      obtain ⟨m, hm⟩ : ∃ m, m = W[j] := ⟨_, rfl⟩
      rw [← hm] at hk hcl
      clear hm hrec
      have ht := Take_lk hk (0, true) 0 true
      rw [take_head] at ht
      have hq := fun w => msg_neq w m m
      have hg := fun x y w => msg_guard .neq x y m m w
      obtain ⟨k1, k2, k3, k4⟩ := m
      simp only [Msg.cells, Msg.kind, Msg.part, Msg.tx, Msg.what, if_true, decide_true, Bool.not_true] at ht hq hg
      have Ht := Lib.hid ht; clear ht hk
      have Hq := Lib.hid hq; clear hq
      have Hg := Lib.hid hg; clear hg
      have q0 : wr.cell? ⟨wb, wo + j * 4, none⟩ = some (.int .i64 k1) := hcl 0 _ rfl
      have q1 : wr.cell? ⟨wb, wo + j * 4 + 1, none⟩ = some (.int .i64 k2) := hcl 1 _ rfl
      have q2 : wr.cell? ⟨wb, wo + j * 4 + 2, none⟩ = some (.int .i64 k3) := hcl 2 _ rfl
      have q3 : wr.cell? ⟨wb, wo + j * 4 + 3, none⟩ = some (.int .i64 k4) := hcl 3 _ rfl
      clear hcl
      have Ho := Lib.hid ho; clear ho
      have i1 : (0 : Int) ≤ (j : Int) := by omega
      have i2 : (j : Int) < (N : Int) := by omega
      go_wp2_with fail
      refine Ht.out.mono ?_
      rintro e w5 ⟨rfl, l5, m5⟩
      have o5 := Ho.out.mod m5
      have hw5 : w5.heap[wb]? = wr.heap[wb]? := m5.block wb hwl hwF
      have hwF5 : ¬ grownF F4 wr w5 wb := fun hf => hf.elim hwF fun hf => by omega
      have hwl5 : wb < w5.heap.size := Nat.lt_of_lt_of_le hwl m5.size
      generalize grownF F4 wr w5 = F5 at *
      have b6 := (Below.refl w5.heap.size w5).alloc (Nat.le_refl _) (.cells #[.int .i64 k1, .int .i64 k2, .int .i64 k3, .int .i64 k4] 38)
      have x6 := heap_alloc_new w5 (.cells #[.int .i64 k1, .int .i64 k2, .int .i64 k3, .int .i64 k4] 38)
      have l6 := l5.step b6
      have o6 := o5.step b6
      have n6 : ¬ F5 w5.heap.size := fun hf => by have := (l5.low _ hf).2; omega
      have hw6 := (b6.block wb hwl5).trans hw5
      have hwl6 := Nat.lt_of_lt_of_le hwl5 b6.size
      have ht := Take_lk l6 (0, true) 0 false
      rw [take_head] at ht
      simp only [Msg.cells, Msg.kind, Msg.part, Msg.tx, Msg.what, Bool.false_eq_true, if_false] at ht
      have Ht2 := Lib.hid ht; clear ht l5 o5 l6 b6 m5 Ht Ho hw5
      have Ho := Lib.hid o6; clear o6
      have X6 := Lib.hid x6; clear x6
      go_wp2_with fail
      generalize w5.heap.size = g1 at *
      generalize w5.alloc (.cells #[.int .i64 k1, .int .i64 k2, .int .i64 k3, .int .i64 k4] 38) = w6 at *
      refine Ht2.out.mono ?_
      rintro e w7 ⟨rfl, l7, m7⟩
      have o7 := Ho.out.mod m7
      have x7 := (m7.block g1 (Array.getElem?_eq_some_iff.1 X6.out).1 n6).trans X6.out
      have hw7 := (m7.block wb hwl6 hwF5).trans hw6
      have hwl7 := Nat.lt_of_lt_of_le hwl6 m7.size
      generalize grownF F5 w6 w7 = F7 at *
      have b8 := (Below.refl w7.heap.size w7).alloc (Nat.le_refl _) (.cells #[.int .i64 k1, .int .i64 k2, .int .i64 k3, .int .i64 k4] 38)
      have x8 := heap_alloc_new w7 (.cells #[.int .i64 k1, .int .i64 k2, .int .i64 k3, .int .i64 k4] 38)
      have l8 := l7.step b8
      have o8 := o7.step b8
      have y8 := (b8.block g1 (Array.getElem?_eq_some_iff.1 x7).1).trans x7
      have hw8 := (b8.block wb hwl7).trans hw7
      have c0 := (World.cell?_of_block (a := ⟨wb, wo + j * 4, none⟩) hw8).trans q0
      have c1 := (World.cell?_of_block (a := ⟨wb, wo + j * 4 + 1, none⟩) hw8).trans q1
      have c2 := (World.cell?_of_block (a := ⟨wb, wo + j * 4 + 2, none⟩) hw8).trans q2
      have c3 := (World.cell?_of_block (a := ⟨wb, wo + j * 4 + 3, none⟩) hw8).trans q3
      clear q0 q1 q2 q3 hw6 hw7 hw8 m7 l7 o7 x7 b8 Ht2 X6 Ho hwF5
      have Hk := Lib.hid l8; clear l8
      have Ho := Lib.hid o8; clear o8
      have X8 := Lib.hid x8; clear x8
      have Y8 := Lib.hid y8; clear y8
      go_wp2_with fail
      generalize w7.heap.size = g2 at *
      generalize w7.alloc (.cells #[.int .i64 k1, .int .i64 k2, .int .i64 k3, .int .i64 k4] 38) = w8 at *
      have L0 := World.block_lt_of_cell? _ _ c0
      have C0 := Lib.hid c0; clear c0
      have C1 := Lib.hid c1; clear c1
      have C2 := Lib.hid c2; clear c2
      have C3 := Lib.hid c3; clear c3
      have s0 := below_drew w8
      refine wp_region_phases (fun w' : World => Below w8.heap.size w8 w') 108 [([], [[0, 1], [2, 3, 4], [5, 6]]), ([7, 8, 9, 10, 11], [[12], [13, 14]]), ([15, 16, 17, 18, 19], [[20], [21]])] (by kernel_rfl) (by kernel_rfl) rfl (by kernel_rfl) (fun _ _ _ h => by obtain ⟨_, h, _⟩ := h; cases h) s0 ?_
      generalize w8.drew = wd at s0 ⊢
      have Hs0 := Lib.hid s0; clear s0
      refine ph_plain rfl ?_
      simp only [List.map_cons, List.map_nil, List.getD_cons_zero, List.getD_cons_succ]
      refine segsK_more ?_
      go_wp2_with fail
      refine seg_end Hs0.out (segsK_more ?_)
      go_wp2_with fail
      refine seg_end Hs0.out (segsK_more ?_)
      go_wp2_with fail
      refine seg_end Hs0.out (segsK_end (ph_more rfl ?_))
      apply Exists.intro
      apply And.intro
      · intro w' s
        have xg := (s.block g1 (Array.getElem?_eq_some_iff.1 Y8.out).1).trans Y8.out
        have y0 := cells_at xg 0
        have y1 := cells_at xg 1
        have y2 := cells_at xg 2
        have y3 := cells_at xg 3
        have c0 := (s.cell L0).trans C0.out
        have c1 := (s.cell L0).trans C1.out
        have c2 := (s.cell L0).trans C2.out
        have c3 := (s.cell L0).trans C3.out
        clear s xg
        simp only [List.map_cons, List.map_nil, List.getD_cons_zero, List.getD_cons_succ]
        go_wp2_with fail
        exact pre_end
      have hq := Hq.out
      have hg := Hg.out
      simp only [List.map_cons, List.map_nil, List.getD_cons_zero, List.getD_cons_succ]
      refine segsK_more ?_
      go_wp2_with fail
      refine seg_end Hs0.out (segsK_more ?_)
      go_wp2_with fail
      refine seg_end Hs0.out (segsK_end (ph_more rfl ?_))
      apply Exists.intro
      apply And.intro
      · intro w' s
        have xg := (s.block g2 (Array.getElem?_eq_some_iff.1 X8.out).1).trans X8.out
        have y0 := cells_at xg 0
        have y1 := cells_at xg 1
        have y2 := cells_at xg 2
        have y3 := cells_at xg 3
        have c0 := (s.cell L0).trans C0.out
        have c1 := (s.cell L0).trans C1.out
        have c2 := (s.cell L0).trans C2.out
        have c3 := (s.cell L0).trans C3.out
        clear s xg
        simp only [List.map_cons, List.map_nil, List.getD_cons_zero, List.getD_cons_succ]
        go_wp2_with fail
        exact pre_end
      simp only [List.map_cons, List.map_nil, List.getD_cons_zero, List.getD_cons_succ]
      refine segsK_more ?_
      go_wp2_with fail
      refine seg_end Hs0.out (segsK_more ?_)
      go_wp2_with fail
      refine seg_end Hs0.out (segsK_end (ph_end ?_))
      have l9 := Hk.out.step Hs0.out
      have o9 := Ho.out.step Hs0.out
      clear Hk Ho C0 C1 C2 C3 X8 Y8 hq hg Hs0
      have Hk := Lib.hid l9; clear l9
      have Ho := Lib.hid o9; clear o9
      go_wp2_with fail
      go_roundw
      case rel => exact ⟨j + 1, F7, by omega, by go_num, Hk.out, Ho.out⟩
      case measure => simp [intOf]; omega
    · obtain rfl : j = N := by omega
      rw [List.drop_of_length_le (by rw [← HN.out]; exact Nat.le_refl _)] at hk
      have Hk := Lib.hid hk; clear hk
      have Ho := Lib.hid ho; clear ho
      go_wp2_with fail
      obtain ⟨wo', hwo'⟩ : ∃ wo' : World, wo' = wr := ⟨_, rfl⟩
      clear hwo'
      go_loopw [11, 12] (fun k i wr => ∃ q : Nat, q ≤ n ∧ k = .int .i64 (cntR xs q : Nat) ∧ i = .int .i64 q ∧ Lk w wr b F4 1 (upd ls0 (0, true) []) ∧ OwnM w wr F4 (.slice va j vc) W) (fun _ i _ => n - (intOf i).toNat)
      case atStart => exact ⟨0, by omega, rfl, rfl, Hk.out, Ho.out⟩
      case round =>
        clear Hk Ho
        obtain ⟨q, hq, rfl, rfl, hk, ho⟩ := hrel
        have hxr := Hx.out.keep hk.bel
        have Hk := Lib.hid hk; clear hk
        have Ho := Lib.hid ho; clear ho
        by_cases hqn : q < n
        · obtain ⟨bx, ox, rfl⟩ := hxr.addr (by omega)
          have hqx : q < xs.length := by rw [Hl.out]; exact hqn
          have hcx := hxr.at hqx
          have hst := cntR_step xs hqx
          have hat := cntR_at xs hqx
          obtain ⟨m, hm⟩ : ∃ m, m = xs[q] := ⟨_, rfl⟩
          rw [← hm] at hcx hst hat
          clear hm hxr
          have hcl := RRight_calls (w := wr) m
          have hsame : ∀ hr : rightOf m = true, ∃ h : cntR xs q < W.length, W[cntR xs q] = m := fun hr => by
            obtain ⟨h, e⟩ := hat hr
            have hWW := HW.out
            subst hWW
            exact ⟨h, e⟩
          clear hat
          generalize rightOf m = T at hcl hst hsame
          have hq := fun w => msg_neq w m m
          have hg := fun x y w => msg_guard .neq x y m m w
          have hKb : cntR xs q ≤ 16 := by
            have h1 := List.length_filter_le rightOf (xs.take q)
            rw [List.length_take] at h1
            show ((xs.take q).filter rightOf).length ≤ 16
            omega
          obtain ⟨K', hK'⟩ : ∃ K', K' = cntR xs (q + 1) := ⟨_, rfl⟩
          rw [← hK'] at hst
          have HK' := Lib.hid hK'; clear hK'
          have x0 := hcx 0 _ rfl
          have x1 := hcx 1 _ rfl
          have x2 := hcx 2 _ rfl
          have x3 := hcx 3 _ rfl
          have xl := World.block_lt_of_cell? _ _ x0
          obtain ⟨k1, k2, k3, k4⟩ := m
          simp only [msgF, Nat.add_zero, Msg.kind, Msg.part, Msg.tx, Msg.what] at x0 x1 x2 x3
          simp only [Msg.cells, Msg.kind, Msg.part, Msg.tx, Msg.what, decide_true, Bool.not_true] at hcl hq hg
          clear hcx
          have Hcl := Lib.hid hcl; clear hcl
          have Hq := Lib.hid hq; clear hq
          have Hg := Lib.hid hg; clear hg
          have i1 : (0 : Int) ≤ (q : Int) := by omega
          have i2 : (q : Int) < (n : Int) := by omega
          obtain ⟨K, hK⟩ : ∃ K, K = cntR xs q := ⟨_, rfl⟩
          have hsm := fun hr : T = true => hsame hr
          cases T with
          | false =>
            have hst : K' = K := by rw [hst, hK]; simp
            rw [← hK]
            clear hsame hsm hKb
            have Hst := Lib.hid hst; clear hst hK
            go_wp2_with fail
            refine Hcl.out.mono ?_
            rintro e w9 ⟨rfl, b9⟩
            have l9 := Hk.out.step b9
            have o9 := Ho.out.step b9
            clear Hk Ho b9 Hcl x0 x1 x2 x3
            have Hk := Lib.hid l9; clear l9
            have Ho := Lib.hid o9; clear o9
            go_wp2_with fail
            go_roundw
            case rel => exact ⟨q + 1, by omega, by rw [← HK'.out, Hst.out], by go_num, Hk.out, Ho.out⟩
            case measure => simp [intOf]; omega
          | true =>
            have hst : K' = K + 1 := by rw [hst, hK]; simp
            obtain ⟨hKW, hWK⟩ := hsame rfl
            obtain ⟨va', vc', ev, hrec, -⟩ := Ho.out.own.recs
            rw [← HN.out] at ev hrec
            cases ev
            have hKj : cntR xs q < j := by rw [HN.out]; exact hKW
            obtain ⟨wb, wo, rfl⟩ := hrec.addr (by omega)
            have hcw := hrec.at hKW
            rw [hWK, ← hK] at hcw
            rw [← hK] at hKj hKb ⊢
            have q0 : wr.cell? ⟨wb, wo + K * 4, none⟩ = some (.int .i64 k1) := hcw 0 _ rfl
            have q1 : wr.cell? ⟨wb, wo + K * 4 + 1, none⟩ = some (.int .i64 k2) := hcw 1 _ rfl
            have q2 : wr.cell? ⟨wb, wo + K * 4 + 2, none⟩ = some (.int .i64 k3) := hcw 2 _ rfl
            have q3 : wr.cell? ⟨wb, wo + K * 4 + 3, none⟩ = some (.int .i64 k4) := hcw 3 _ rfl
            have ql := World.block_lt_of_cell? _ _ q0
            clear hsm hcw hWK hKW hrec
            have Hst := Lib.hid hst; clear hst hK
            have i3 : (0 : Int) ≤ (K : Int) := by omega
            have i4 : (K : Int) < (j : Int) := by omega
            have i5 : decide ((j : Int) ≤ (K : Int)) = false := decide_eq_false (by omega)
            go_wp2_with fail
            refine Hcl.out.mono ?_
            rintro e w9 ⟨rfl, b9⟩
            have l9 := Hk.out.step b9
            have o9 := Ho.out.step b9
            have e0 := (b9.cell xl).trans x0
            have e1 := (b9.cell xl).trans x1
            have e2 := (b9.cell xl).trans x2
            have e3 := (b9.cell xl).trans x3
            have r0 := (b9.cell ql).trans q0
            have r1 := (b9.cell ql).trans q1
            have r2 := (b9.cell ql).trans q2
            have r3 := (b9.cell ql).trans q3
            clear Hk Ho b9 Hcl x0 x1 x2 x3 q0 q1 q2 q3 xl ql
            have xl := World.block_lt_of_cell? _ _ e0
            have ql := World.block_lt_of_cell? _ _ r0
            have Hk := Lib.hid l9; clear l9
            have Ho := Lib.hid o9; clear o9
            have E0 := Lib.hid e0; clear e0
            have E1 := Lib.hid e1; clear e1
            have E2 := Lib.hid e2; clear e2
            have E3 := Lib.hid e3; clear e3
            have R0 := Lib.hid r0; clear r0
            have R1 := Lib.hid r1; clear r1
            have R2 := Lib.hid r2; clear r2
            have R3 := Lib.hid r3; clear r3
            go_wp2_with fail
            have s0 := below_drew w9
            refine wp_region_phases (fun w' : World => Below w9.heap.size w9 w') 108 [([0, 1, 2], [[3], [4]]), ([5, 6, 7, 8, 9, 10, 11, 12], [[13], [14]])] (by kernel_rfl) (by kernel_rfl) rfl (by kernel_rfl) (fun _ _ _ h => by obtain ⟨_, h, _⟩ := h; cases h) s0 ?_
            generalize w9.drew = wd at s0 ⊢
            have Hs0 := Lib.hid s0; clear s0
            refine ph_more rfl ?_
            apply Exists.intro
            apply And.intro
            · intro w' s
              clear s
              simp only [List.map_cons, List.map_nil, List.getD_cons_zero, List.getD_cons_succ]
              go_wp2_with fail
              exact pre_end
            simp only [List.map_cons, List.map_nil, List.getD_cons_zero, List.getD_cons_succ]
            refine segsK_more ?_
            go_wp2_with fail
            refine seg_end Hs0.out (segsK_more ?_)
            go_wp2_with fail
            refine seg_end Hs0.out (segsK_end (ph_more rfl ?_))
            apply Exists.intro
            apply And.intro
            · intro w' s
              have e0 := (s.cell xl).trans E0.out
              have e1 := (s.cell xl).trans E1.out
              have e2 := (s.cell xl).trans E2.out
              have e3 := (s.cell xl).trans E3.out
              have r0 := (s.cell ql).trans R0.out
              have r1 := (s.cell ql).trans R1.out
              have r2 := (s.cell ql).trans R2.out
              have r3 := (s.cell ql).trans R3.out
              clear s
              simp only [List.map_cons, List.map_nil, List.getD_cons_zero, List.getD_cons_succ]
              go_wp2_with fail
              exact pre_end
            have hq := Hq.out
            have hg := Hg.out
            simp only [List.map_cons, List.map_nil, List.getD_cons_zero, List.getD_cons_succ]
            refine segsK_more ?_
            go_wp2_with fail
            refine seg_end Hs0.out (segsK_more ?_)
            go_wp2_with fail
            refine seg_end Hs0.out (segsK_end (ph_end ?_))
            have l9 := Hk.out.step Hs0.out
            have o9 := Ho.out.step Hs0.out
            clear Hk Ho E0 E1 E2 E3 R0 R1 R2 R3 hq hg Hs0
            have Hk := Lib.hid l9; clear l9
            have Ho := Lib.hid o9; clear o9
            go_wp2_with fail
            go_roundw
            case rel => exact ⟨q + 1, by omega, by rw [← HK'.out, Hst.out]; go_num, by go_num, Hk.out, Ho.out⟩
            case measure => simp [intOf]; omega
        · obtain rfl : q = n := by omega
          have hc : cntR xs q = j := by rw [HN.out, HW.out, ← Hl.out]; exact cntR_all xs
          rw [hc]
          have htot := Total_lk Hk.out
          rw [show sumOf (upd ls0 (0, true) []) (keysOf 1) = 0 from rfl] at htot
          have Htot := Lib.hid htot; clear htot hc hxr
          have z1 : ((j : Int) == (j : Int)) = true := by simp
          go_wp2_with fail
          refine Htot.out.mono ?_
          rintro e w9 ⟨rfl, b9⟩
          have l9 := Hk.out.step b9
          clear Hk Htot b9
          have Hk := Lib.hid l9; clear l9
          go_wp2_with fail
          go_ret
          exact ⟨rfl, Hk.out.bel⟩
end Go.Proofs.Ytckahkpikjhkmaa
