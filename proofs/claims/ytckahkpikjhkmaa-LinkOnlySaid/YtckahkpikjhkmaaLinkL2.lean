/- The law LinkRooms. -/
import Derived.Test.YtckahkpikjhkmaaLinkL1
namespace Go.Proofs.Ytckahkpikjhkmaa
open Go.RowKit

def somes (j : Nat) : List Msg := (List.range j).map fun (i : Nat) => mg ((i : Int) + 1)
theorem somes_len (j : Nat) : (somes j).length = j := by simp [somes]
theorem somes_next (j : Nat) : somes (j + 1) = somes j ++ [mg ((j : Int) + 1)] := by unfold somes; rw [List.range_succ, List.map_append]; rfl
theorem somes_right {j : Nat} (h : j ≤ 30) : (somes j).filter rightOf = somes j := by
  refine List.filter_eq_self.2 fun m hm => ?_
  obtain ⟨i, hi, rfl⟩ := List.mem_map.1 hm
  rw [List.mem_range] at hi
  exact (right_iff 2 0 ((i : Int) + 1) 0).2 (by omega)
theorem put_some {f : Nat} (hf : f ≤ 30) : putN 1 ls0 (0, false) (somes f) = (min f 16, if 16 < f then 15 else 0, upd ls0 (0, false) ((somes f).take 16)) := by
  unfold putN
  rw [if_pos (by decide), somes_right hf]
  show (min (somes f).length 16, if min (somes f).length 16 < (somes f).length then (15 : Int) else 0, upd ls0 (0, false) ([] ++ (somes f).take 16)) = _
  rw [somes_len, List.nil_append]
  congr 2
  by_cases h : 16 < f
  · rw [if_pos h, if_pos (by omega)]
  · rw [if_neg h, if_neg (by omega)]
theorem put_more (S xs : List Msg) : putN 1 (upd ls0 (0, false) S) (0, false) xs = (min (xs.filter rightOf).length (16 - S.length), if 16 - S.length < (xs.filter rightOf).length then 15 else 0, upd ls0 (0, false) (S ++ (xs.filter rightOf).take (16 - S.length))) := by
  unfold putN
  rw [if_pos (by decide), upd_same, upd_upd]
  congr 2
  by_cases h : 16 - S.length < (xs.filter rightOf).length
  · rw [if_pos h, if_pos (by omega)]
  · rw [if_neg h, if_neg (by omega)]
theorem sum_one (l : List Msg) : sumOf (upd ls0 (0, false) l) (keysOf 1) = l.length := by
  show (([] : List Msg).length + ((upd ls0 (0, false) l (0, false)).length + 0)) = _
  rw [upd_same]; simp

set_option maxHeartbeats 16000000 in
set_option maxRecDepth 100000 in
theorem lawLinkRooms {w : World} {f : Int} {a : Option Addr} {n c : Nat} {xs : List Msg} (hf : (Lit.int .i64 f).wf = true) (hx : Msgs w a n c xs) :
    Calls Try.prog 6 #[.int .i64 f, .slice a n c] w fun e w' => e = .returned (.bool true) ∧ Below w.heap.size w w' := by
  have hl := hx.len
  have Hx := Lib.hid hx; clear hx
  have Hl := Lib.hid hl; clear hl
  go_enter Try.func6, Try.ntmps6
  go_wp2_with fail
  refine alive_calls.mono ?_
  rintro e w1 ⟨rfl, b1⟩
  have Hb1 := Lib.hid b1; clear b1
  by_cases h0 : 60 < n
  · have e0 : decide ((60 : Int) < (n : Int)) = true := decide_eq_true (by omega)
    go_wp2
    go_ret
    exact ⟨rfl, Hb1.out⟩
  have e0 : decide ((60 : Int) < (n : Int)) = false := decide_eq_false (by omega)
  by_cases h1 : f < 0
  · have e1 : decide (f < 0) = true := decide_eq_true h1
    go_wp2
    go_ret
    exact ⟨rfl, Hb1.out⟩
  have e1 : decide (f < 0) = false := decide_eq_false h1
  by_cases h2 : 30 < f
  · have e2 : decide (30 < f) = true := decide_eq_true h2
    go_wp2
    go_ret
    exact ⟨rfl, Hb1.out⟩
  have e2 : decide (30 < f) = false := decide_eq_false h2
  obtain ⟨f, rfl⟩ : ∃ g : Nat, f = g := ⟨f.toNat, by omega⟩
  have hf30 : f ≤ 30 := by omega
  have hn60 : n ≤ 60 := by omega
  clear h0 h1 h2 hf
  have hnew := New_lk (w0 := w) (n := 1) Hb1.out (by decide) (by decide)
  have Hnew := Lib.hid hnew; clear hnew
  go_wp2_with fail
  refine Hnew.out.mono ?_
  rintro e w2 ⟨b, F, rfl, l2, -, -⟩
  clear Hnew Hb1 e0 e1 e2
  have ba : Below w2.heap.size w2 (w2.alloc (.cells #[] 38)) := (Below.refl _ _).alloc (Nat.le_refl _) _
  have oa : OwnM w (w2.alloc (.cells #[] 38)) F (.slice (some ⟨w2.heap.size, 0, none⟩) 0 0) (somes 0) :=
    ⟨(ROwn.made (F := msgF) (E := 38) w2).mono l2.bel.size, fun g hg hf => by
      have e : w2.heap.size = g := by injection hg
      have := (l2.low _ hf).2
      omega⟩
  have la := l2.step ba
  clear l2 ba
  have Hk := Lib.hid la; clear la
  have Ho := Lib.hid oa; clear oa
  go_wp2_with fail
  go_loopw [7, 8] (fun v i wr => ∃ j : Nat, j ≤ f ∧ i = .int .i64 j ∧ Lk w wr b F 1 ls0 ∧ OwnM w wr F v (somes j)) (fun _ i _ => f - (intOf i).toNat)
  case atStart => exact ⟨0, by omega, rfl, Hk.out, Ho.out⟩
  case round =>
    clear Hk Ho
    obtain ⟨j, hj, rfl, hk, ho⟩ := hrel
    obtain ⟨va, vc, rfl⟩ := ho.own.shape
    rw [somes_len] at ho
    have Hk := Lib.hid hk; clear hk
    have Ho := Lib.hid ho; clear ho
    rw [somes_len]
    by_cases hlt : j < f
    · have i1 : (j : Int) < (f : Int) := by omega
      go_wp2_with fail
      refine (msg_calls _).mono ?_
      rintro e w5 ⟨rfl, b5⟩
      have l5 := Hk.out.step b5
      have o5 := Ho.out.step b5
      clear Hk Ho b5
      have Hk := Lib.hid l5; clear l5
      have Ho := Lib.hid o5; clear o5
      go_wp2_with (with_reducible refine stop_builtin .append ?_)
      refine unpark ?_
      have hx8 := heap_alloc_new w5 (.cells #[.int .i64 2, .int .i64 0, .int .i64 ((j : Int) + 1), .int .i64 0] 38)
      have b8 : Below w5.heap.size w5 (w5.alloc (.cells #[.int .i64 2, .int .i64 0, .int .i64 ((j : Int) + 1), .int .i64 0] 38)) := (Below.refl _ _).alloc (Nat.le_refl _) _
      have l8 := Hk.out.step b8
      have o8 := Ho.out.step b8
      generalize w5.alloc (.cells #[.int .i64 2, .int .i64 0, .int .i64 ((j : Int) + 1), .int .i64 0] 38) = w8 at hx8 b8 l8 o8 ⊢
      clear Hk Ho b8
      refine wpList_append_rec1 msgElem _ rfl _ _ rfl w.heap.size (.slice va j vc) (somes j) rfl o8.own w5.heap.size 1 (by decide) (by decide) (mg ((j : Int) + 1)) rfl hx8 (fun j u hu => by rw [List.getElem?_toArray]; exact hu) (by rw [somes_len]; omega) l8.bel.size ?_
      intro v' w9 own9 g9 hv9
      have m9 : Mod (fun k => (Value.slice va j vc).ownBlock = some k) w8 w9 := Mod.of_grown g9 fun _ h => h
      have l9 := l8.aside m9 (fun k hf hg => o8.out k hg hf) (fun k hg => (o8.own.lt k hg).1)
      have o9 : OwnM w w9 F v' (somes (j + 1)) := ⟨by rw [somes_next]; exact own9, fun g hg hf => by
        rcases hv9 with e | e
        · rw [e] at hg; exact o8.out g hg hf
        · rw [e] at hg
          have e : w8.heap.size = g := by injection hg
          have := (l8.low _ hf).2
          omega⟩
      clear own9 g9 hv9 m9 l8 o8 hx8
      have Hk := Lib.hid l9; clear l9
      have Ho := Lib.hid o9; clear o9
      go_wp2_with fail
      go_roundw
      case rel => exact ⟨j + 1, by omega, by go_num, Hk.out, Ho.out⟩
      case measure => simp [intOf]; omega
    · obtain rfl : j = f := by omega
      obtain ⟨va', vc', ev, hrec, -⟩ := Ho.out.own.recs
      rw [somes_len] at ev hrec
      cases ev
      have hput := Put_lk Hk.out (0, false) hrec (by omega)
      rw [put_some hf30] at hput
      have hSl : ((somes j).take 16).length = min j 16 := by rw [List.length_take, somes_len, Nat.min_comm]
      obtain ⟨S, hS⟩ : ∃ S, S = (somes j).take 16 := ⟨_, rfl⟩
      rw [← hS] at hput hSl
      clear hS hrec
      obtain ⟨n1, hn1⟩ : ∃ n1, n1 = min j 16 := ⟨_, rfl⟩
      rw [← hn1] at hput hSl
      have hd : (decide ((j : Int) ≤ 16) = true ∧ n1 = j ∧ (if 16 < j then (15 : Int) else 0) = 0 ∧ decide ((16 : Int) < (j : Int)) = false) ∨ (decide ((j : Int) ≤ 16) = false ∧ n1 = 16 ∧ (if 16 < j then (15 : Int) else 0) = 15 ∧ decide ((16 : Int) < (j : Int)) = true) := by
        by_cases h : 16 < j
        · exact .inr ⟨decide_eq_false (by omega), by omega, if_pos h, decide_eq_true (by omega)⟩
        · exact .inl ⟨decide_eq_true (by omega), by omega, if_neg h, decide_eq_false (by omega)⟩
      have hn16 : n1 ≤ 16 := by omega
      generalize (if 16 < j then (15 : Int) else 0) = E at hput hd
      clear hn1
      have Hput := Lib.hid hput; clear hput
      have Hd := Lib.hid hd; clear hd
      have HS := Lib.hid hSl; clear hSl
      clear Hk Ho
      go_wp2_with fail
      refine Hput.out.mono ?_
      rintro e w5 ⟨rfl, l5, -⟩
      generalize grownF F wr w5 = F5 at l5
      clear Hput
      have Hk := Lib.hid l5; clear l5
      go_upto_region 14 with fail
      go_cut [65] from 38 (fun s65 wx => s65 = .bool false ∧ wx = w5)
      case first =>
        rcases Hd.out with ⟨d1, d2, rfl, d4⟩ | ⟨d1, d2, rfl, d4⟩
        · subst d2
          go_wp2_with fail
          all_goals first
            | (exfalso; have := of_decide_eq_true d1; omega)
            | (go_meet; exact ⟨rfl, rfl⟩)
        · subst d2
          go_wp2_with fail
          all_goals first
            | (exfalso; have := of_decide_eq_false d1; omega)
            | (go_meet; exact ⟨rfl, rfl⟩)
      case rest =>
        obtain ⟨rfl, rfl⟩ := hcut
        clear Hd
        go_wp2_with fail
        obtain ⟨wo', hwo'⟩ : ∃ wo' : World, wo' = wr := ⟨_, rfl⟩
        clear hwo'
        go_loopw [10, 11] (fun k i wr => ∃ q : Nat, q ≤ n ∧ k = .int .i64 (cntR xs q : Nat) ∧ i = .int .i64 q ∧ Lk w wr b F5 1 (upd ls0 (0, false) S)) (fun _ i _ => n - (intOf i).toNat)
        case atStart => exact ⟨0, by omega, rfl, rfl, Hk.out⟩
        case round =>
          clear Hk
          obtain ⟨q, hq, rfl, rfl, hk⟩ := hrel
          have hxr := Hx.out.keep hk.bel
          have Hk := Lib.hid hk; clear hk
          by_cases hqn : q < n
          · obtain ⟨bx, ox, rfl⟩ := hxr.addr (by omega)
            have hqx : q < xs.length := by rw [Hl.out]; exact hqn
            have hcx := hxr.at hqx
            have hst := cntR_step xs hqx
            obtain ⟨m, hm⟩ : ∃ m, m = xs[q] := ⟨_, rfl⟩
            rw [← hm] at hcx hst
            clear hm hxr
            have hcl := RRight_calls (w := wr) m
            generalize rightOf m = T at hcl hst
            have hKb : cntR xs q ≤ 60 := by
              have h1 := List.length_filter_le rightOf (xs.take q)
              rw [List.length_take] at h1
              show ((xs.take q).filter rightOf).length ≤ 60
              omega
            obtain ⟨K', hK'⟩ : ∃ K', K' = cntR xs (q + 1) := ⟨_, rfl⟩
            rw [← hK'] at hst
            have HK' := Lib.hid hK'; clear hK'
            have x0 := hcx 0 _ rfl
            have x1 := hcx 1 _ rfl
            have x2 := hcx 2 _ rfl
            have x3 := hcx 3 _ rfl
            obtain ⟨k1, k2, k3, k4⟩ := m
            simp only [msgF, Nat.add_zero, Msg.kind, Msg.part, Msg.tx, Msg.what] at x0 x1 x2 x3
            simp only [Msg.cells, Msg.kind, Msg.part, Msg.tx, Msg.what] at hcl
            clear hcx
            have Hcl := Lib.hid hcl; clear hcl
            have i1 : (0 : Int) ≤ (q : Int) := by omega
            have i2 : (q : Int) < (n : Int) := by omega
            generalize cntR xs q = K at *
            have Hst := Lib.hid hst; clear hst
            go_wp2_with fail
            refine Hcl.out.mono ?_
            rintro e w9 ⟨rfl, b9⟩
            have l9 := Hk.out.step b9
            clear Hk b9 Hcl x0 x1 x2 x3
            have Hk := Lib.hid l9; clear l9
            cases T with
            | false =>
              go_wp2_with fail
              go_roundw
              case rel => exact ⟨q + 1, by omega, by rw [← HK'.out, Hst.out]; simp, by go_num, Hk.out⟩
              case measure => simp [intOf]; omega
            | true =>
              go_wp2_with fail
              go_roundw
              case rel => exact ⟨q + 1, by omega, by rw [← HK'.out, Hst.out]; simp, by go_num, Hk.out⟩
              case measure => simp [intOf]; omega
          · obtain rfl : q = n := by omega
            have hput := Put_lk Hk.out (0, false) hxr (by omega)
            rw [put_more, HS.out] at hput
            obtain ⟨R, hR⟩ : ∃ R, R = (xs.filter rightOf).length := ⟨_, rfl⟩
            have hc : cntR xs q = R := by rw [hR, ← Hl.out]; exact cntR_all xs
            rw [hc]
            have hR60 : R ≤ 60 := by
              have h1 := List.length_filter_le rightOf xs
              rw [Hl.out] at h1
              omega
            have hlen : (S ++ (xs.filter rightOf).take (16 - n1)).length = n1 + min R (16 - n1) := by rw [List.length_append, HS.out, List.length_take, ← hR, Nat.min_comm]
            rw [← hR] at hput
            obtain ⟨l', hl'⟩ : ∃ l', l' = S ++ (xs.filter rightOf).take (16 - n1) := ⟨_, rfl⟩
            rw [← hl'] at hput hlen
            obtain ⟨M, hM⟩ : ∃ M, M = min R (16 - n1) := ⟨_, rfl⟩
            rw [← hM] at hput hlen
            have hd : (R = M ∧ (if 16 - n1 < R then (15 : Int) else 0) = 0 ∧ decide ((R : Int) ≤ 16 - (n1 : Int)) = true ∧ decide ((16 : Int) - (n1 : Int) < (R : Int)) = false) ∨ ((M : Int) = 16 - (n1 : Int) ∧ (if 16 - n1 < R then (15 : Int) else 0) = 15 ∧ decide ((R : Int) ≤ 16 - (n1 : Int)) = false ∧ decide ((16 : Int) - (n1 : Int) < (R : Int)) = true) := by
              by_cases h : 16 - n1 < R
              · exact .inr ⟨by omega, if_pos h, decide_eq_false (by omega), decide_eq_true (by omega)⟩
              · exact .inl ⟨by omega, if_neg h, decide_eq_true (by omega), decide_eq_false (by omega)⟩
            generalize (if 16 - n1 < R then (15 : Int) else 0) = E2 at hput hd
            have hM16 : n1 + M ≤ 16 := by omega
            clear hM hl' hR hc hxr
            have Hput := Lib.hid hput; clear hput Hk
            have Hlen := Lib.hid hlen; clear hlen
            have Hd := Lib.hid hd; clear hd
            go_wp2_with fail
            refine Hput.out.mono ?_
            rintro e w6 ⟨rfl, l6, -⟩
            generalize grownF F5 wr w6 = F6 at l6
            clear Hput
            have htot := fun w' hb => Total_lk (w := w') (l6.step hb)
            have hb1 := fun w' hb => Bag_lk (w := w') (l6.step hb) (0, false)
            have hb2 := fun w' hb => Bag_lk (w := w') (l6.step hb) (0, true)
            rw [if_pos (by decide), upd_same] at hb1
            rw [if_pos (by decide), show upd ls0 (0, false) l' (0, true) = [] from rfl] at hb2
            rw [sum_one, Hlen.out] at htot
            have Htot := Lib.hid htot; clear htot
            have Hb1 := Lib.hid hb1; clear hb1
            have Hb2 := Lib.hid hb2; clear hb2
            have Hk := Lib.hid l6; clear l6
            have z1 : (((n1 + M : Nat) : Int) == (n1 : Int) + (M : Int)) = true := by simp
            have z2 : (((n1 + M : Nat) : Int)) = (n1 : Int) + (M : Int) := by omega
            rw [z2] at Htot z1
            rcases Hd.out with ⟨d1, rfl, d3, d4⟩ | ⟨d1, rfl, d3, d4⟩
            case' inl => subst d1
            case' inr => have d5 : ((M : Int) == 16 - (n1 : Int)) = true := by simpa using d1
            all_goals
              clear Hd
              go_wp2_with fail
              all_goals first
                | (exfalso; first | (have := of_decide_eq_true d3; omega) | (have := of_decide_eq_false d3; omega))
                | (refine (Hb1.out _ (Below.refl _ _)).mono ?_
                   rintro e w7 ⟨v1, rfl, ov1, b7⟩
                   obtain ⟨v1a, v1c, rfl⟩ := ov1.shape
                   clear ov1
                   rw [Hlen.out]
                   have B7 := Lib.hid b7; clear b7
                   go_wp2_with fail
                   refine (Htot.out _ B7.out).mono ?_
                   rintro e w8 ⟨rfl, b8⟩
                   have B8 := Lib.hid (B7.out.trans (b8.mono B7.out.size)); clear b8 B7
                   go_wp2_with fail
                   refine (Hb2.out _ B8.out).mono ?_
                   rintro e w9 ⟨v2, rfl, ov2, b9⟩
                   obtain ⟨v2a, v2c, rfl⟩ := ov2.shape
                   have B9 := Lib.hid (B8.out.trans (b9.mono B8.out.size)); clear b9 B8 ov2
                   simp only [List.length_nil]
                   have l9 := Hk.out.step B9.out
                   have HkF := Lib.hid l9; clear l9
                   go_wp2
                   go_ret
                   exact ⟨by first | rfl | simp, HkF.out.bel⟩)
end Go.Proofs.Ytckahkpikjhkmaa
