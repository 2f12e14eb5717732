/- The walk of the law SumSeals. -/
import Derived.Test.YthngobceagdokaaSumL2
namespace Go.Proofs.Ythngobceagdokaa
open Go.RowKit Go.Sort

theorem sealed_cut (xs : List Int) : (sealed xs).take ((sealed xs).length - 3) = xs := by
  rw [sealed_len]; exact sealed_take (by omega)

set_option maxHeartbeats 3200000 in
theorem lawSumSeals {a0 a1 : Option Addr} {n0 c0 n1 c1 : Nat} {xs ys : List Int} {w : World} (hx : Ints w .u8 a0 n0 c0 xs) (hy : Ints w .u8 a1 n1 c1 ys) :
    Calls Try.prog 6 #[.slice a0 n0 c0, .slice a1 n1 c1] w fun e w' => e = .returned (.bool true) ∧ Below w.heap.size w w' := by
  have hlx := hx.len
  have hly := hy.len
  have hmx := hx.max
  have hpx := hx.le
  have hmy := hy.max
  have hpy := hy.le
  go_enter Try.func6, Try.ntmps6
  go_wp2_with fail
  refine alive_calls.mono ?_
  rintro e w1 ⟨rfl, hb1⟩
  by_cases hg : n0 ≤ 1000 ∧ n1 ≤ 100
  · obtain ⟨hg1, hg2⟩ := hg
    have Hlx := Lib.hid hlx; clear hlx
    have Hly := Lib.hid hly; clear hly
    go_wp2_with fail
    refine (Seal_ints (hx.keep hb1) (by omega)).mono ?_
    rintro e w2 ⟨a2, c2, rfl, hi2, hb2⟩
    have hB2 : Below w.heap.size w w2 := hb1.trans (hb2.mono hb1.size)
    clear hb1 hb2
    go_wp2_with fail
    refine (Seal_ints hi2 (by omega)).mono ?_
    rintro e w3 ⟨a3, c3, rfl, hi3, hb3⟩
    have hB3 : Below w.heap.size w w3 := hB2.trans (hb3.mono hB2.size)
    clear hB2 hb3 hi2
    go_wp2_with fail
    refine (Open_yes (m := n0 + 3) hi3 (by omega) (opened_of_sealed _) (sealed_cut _) (by rw [sealed_len, Hlx.out])).mono ?_
    rintro e w4 ⟨a4, c4, rfl, hi4, hb4⟩
    have hB4 : Below w.heap.size w w4 := hB3.trans (hb4.mono hB3.size)
    clear hB3 hb4 hi3
    go_wp2_with fail
    refine (Open_yes (m := n0) hi4 (by omega) (opened_of_sealed _) (sealed_cut _) Hlx.out).mono ?_
    rintro e w5 ⟨a5, c5, rfl, hi5, hb5⟩
    have hB5 : Below w.heap.size w w5 := hB4.trans (hb5.mono hB4.size)
    clear hB4 hb5 hi4
    go_wp2_with fail
    refine (CopyBytes_calls (hx.keep hB5) (by omega)).mono ?_
    rintro e w6 ⟨v, rfl, hv, hne, hb6⟩
    have hB6 : Below w.heap.size w w6 := hB5.trans (hb6.mono hB5.size)
    have hi6 := hi5.keep hb6
    have hy6 := hy.keep hB6
    have hbnd : (xs.length + n1) * 1 ≤ 140737488355328 := by rw [Hlx.out]; omega
    have hsz : w5.heap.size ≤ w6.heap.size := hb6.size
    have hsz0 : w.heap.size ≤ w5.heap.size := hB5.size
    have hi5lt : ∀ b o, a5 = some ⟨b, o, none⟩ → 0 < n0 → b < w5.heap.size := by
      intro b o e hp
      obtain ⟨b', o', e', hc⟩ := hi5.cell hp
      rw [e] at e'; cases e'
      exact World.block_lt_of_cell? w5 _ (hc 0 hp)
    have Hlt5 := Lib.hid hi5lt; clear hi5lt
    clear hne hb6 hi5 hB5
    go_wp2_with (at_builtin; refine wpList_append_ints _ rfl (.tmp 37) (.tmp 38) 22 rfl .u8 w5.heap.size 5 (.int .u8 0) 1 Try.underlying22 Try.infoU8 rfl v xs rfl hv a1 n1 c1 ys rfl hy6 hbnd (by decide) hsz ?_; intro v' w7 hown' hg7 hne')
    have hB7 : Below w.heap.size w w7 := hB6.grown hg7 (by omega) (fun k hk => Nat.le_trans hsz0 (hv.block k hk).1)
    have hi7 : Ints w7 .u8 a5 n0 c5 xs := by
      rcases Nat.eq_zero_or_pos n0 with h0 | hp
      · refine ⟨hi6.len, hi6.le, hi6.max, hi6.fit, fun h => absurd h (by omega)⟩
      · refine hi6.keepOn fun b o e hlt => hg7.block b hlt ?_
        intro he
        have h1 := (hv.block b he.symm).1
        have h2 := Hlt5.out b o e hp
        omega
    have hlen : (xs ++ ys).length = n0 + n1 := by rw [List.length_append, Hlx.out, Hly.out]
    obtain ⟨a7, c7, rfl, hj7, _⟩ := hown'.ints
    rw [hlen] at hj7 ⊢
    have Hlen := Lib.hid hlen; clear hlen
    clear hown' hg7 hne' hv hy6 hi6 hB6
    obtain ⟨L, hL⟩ : ∃ L, L = xs ++ ys := ⟨_, rfl⟩
    have HL := Lib.hid hL
    rw [← hL] at hj7 Hlen
    clear hL
    cases hop : opened L with
    | false =>
      have Hop := Lib.hid hop; clear hop
      go_wp2_with fail
      refine (Open_no hj7 (by omega) Hop.out).mono ?_
      rintro e w8 ⟨rfl, hb8⟩
      have hB8 : Below w.heap.size w w8 := hB7.trans (hb8.mono hB7.size)
      have hx8 := hx.keep hB8
      have hi8 := hi7.keep hb8
      clear hb8 hi7 hj7 hB7
      go_wp2_with fail
      refine (below_of_drawn (SameBytes_to hi8 hx8 (decide_eq_true rfl))).mono ?_
      rintro e w9 ⟨rfl, hb9⟩
      go_wp2
      go_ret
      exact ⟨rfl, hB8.trans (hb9.mono hB8.size)⟩
    | true =>
      have hse := opened_sealed Hlen.out (by unfold opened at hop; rw [Bool.and_eq_true, decide_eq_true_iff] at hop; have h3 := hop.1; rw [Hlen.out] at h3; exact h3) hop
      have h3 : 3 ≤ n0 + n1 := by unfold opened at hop; rw [Bool.and_eq_true, decide_eq_true_iff] at hop; have h3 := hop.1; rw [Hlen.out] at h3; exact h3
      have Hse := Lib.hid hse; clear hse
      have Hop := Lib.hid hop; clear hop
      go_wp2_with fail
      refine (Open_yes (m := n0 + n1 - 3) (ys := L.take (n0 + n1 - 3)) hj7 (by omega) Hop.out (by rw [Hlen.out]) (by rw [List.length_take, Hlen.out]; omega)).mono ?_
      rintro e w8 ⟨a8, c8, rfl, hz8, hb8⟩
      have hB8 : Below w.heap.size w w8 := hB7.trans (hb8.mono hB7.size)
      have hx8 := hx.keep hB8
      have hi8 := hi7.keep hb8
      clear hb8 hi7 hj7 hB7
      go_wp2_with fail
      refine (below_of_drawn (SameBytes_to hi8 hx8 (decide_eq_true rfl))).mono ?_
      rintro e w9 ⟨rfl, hb9⟩
      have hB9 : Below w.heap.size w w9 := hB8.trans (hb9.mono hB8.size)
      have hz9 := hz8.keep hb9
      clear hb9 hi8 hx8 hz8 hB8
      go_wp2_with fail
      refine (Seal_ints hz9 (by omega)).mono ?_
      rintro e w10 ⟨a10, c10, rfl, hs10, hb10⟩
      have e33 : n0 + n1 - 3 + 3 = n0 + n1 := by omega
      rw [e33] at hs10 ⊢
      clear e33
      have hB10 : Below w.heap.size w w10 := hB9.trans (hb10.mono hB9.size)
      clear hb10 hz9 hB9
      go_wp2_with fail
      refine (CopyBytes_calls (hx.keep hB10) (by omega)).mono ?_
      rintro e w11 ⟨v2, rfl, hv2, hne2, hb11⟩
      have hB11 : Below w.heap.size w w11 := hB10.trans (hb11.mono hB10.size)
      have hs11 := hs10.keep hb11
      have hy11 := hy.keep hB11
      have hsz2 : w10.heap.size ≤ w11.heap.size := hb11.size
      have hsz20 : w.heap.size ≤ w10.heap.size := hB10.size
      have hs10lt : ∀ b o, a10 = some ⟨b, o, none⟩ → b < w10.heap.size := by
        intro b o e
        obtain ⟨b', o', e', hc⟩ := hs10.cell (by omega)
        rw [e] at e'; cases e'
        exact World.block_lt_of_cell? w10 _ (hc 0 (by omega))
      have Hlt10 := Lib.hid hs10lt; clear hs10lt
      clear hne2 hb11 hs10 hB10
      go_wp2_with (at_builtin; refine wpList_append_ints _ rfl (.tmp 59) (.tmp 60) 22 rfl .u8 w10.heap.size 5 (.int .u8 0) 1 Try.underlying22 Try.infoU8 rfl v2 xs rfl hv2 a1 n1 c1 ys rfl hy11 hbnd (by decide) hsz2 ?_; intro v' w12 hown2 hg12 hne')
      have hB12 : Below w.heap.size w w12 := hB11.grown hg12 (by omega) (fun k hk => Nat.le_trans hsz20 (hv2.block k hk).1)
      have hs12 : Ints w12 .u8 a10 (n0 + n1) c10 (sealed (L.take (n0 + n1 - 3))) :=
        hs11.keepOn fun b o e hlt => hg12.block b hlt fun he => by
          have h1 := (hv2.block b he.symm).1
          have h2 := Hlt10.out b o e
          omega
      rw [← HL.out] at hown2
      obtain ⟨a12, c12, rfl, hj12, _⟩ := hown2.ints
      rw [Hlen.out] at hj12 ⊢
      clear hown2 hg12 hne' hv2 hy11 hs11 hB11
      go_wp2_with fail
      refine (below_of_drawn (SameBytes_to hs12 hj12 Hse.out)).mono ?_
      rintro e w13 ⟨rfl, hb13⟩
      go_wp2
      go_ret
      exact ⟨rfl, hB12.trans (hb13.mono hB12.size)⟩
  · have hg' : 1000 < n0 ∨ 100 < n1 := by omega
    rcases hg' with hg' | hg'
    all_goals
      go_wp2
      all_goals go_ret
      all_goals exact ⟨rfl, hb1⟩
end Go.Proofs.Ythngobceagdokaa
