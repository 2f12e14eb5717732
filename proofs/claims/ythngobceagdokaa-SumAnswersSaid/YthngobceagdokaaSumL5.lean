/- The walk of the law SumAnswers. -/
import Derived.Test.YthngobceagdokaaSumL4
namespace Go.Proofs.Ythngobceagdokaa
open Go.RowKit Go.Sort

theorem OpenRef_yes {a : Option Addr} {n c : Nat} {xs ys : List Int} {m : Nat} {w : World} (hx : Ints w .u8 a n c xs) (hn : n ≤ 140737488355320) (ho : opened xs = true) (hy : xs.take (xs.length - 3) = ys) (hm : ys.length = m) :
    Calls Try.prog 11 #[.slice a n c] w fun e w' => ∃ a' c', e = .returned (.tuple #[.slice a' m c', .bool true]) ∧ Ints w' .u8 a' m c' ys ∧ Below w.heap.size w w' :=
  (OpenRef_calls hx hn).mono fun e w' ⟨hb, h⟩ => by
    rcases h with ⟨h, _⟩ | ⟨_, v, h1, h2⟩
    · rw [ho] at h; cases h
    · rw [hy] at h2
      obtain ⟨a', c', rfl, hi, _⟩ := h2.ints
      rw [hm] at hi h1
      exact ⟨a', c', h1, hi, hb⟩
theorem OpenRef_no {a : Option Addr} {n c : Nat} {xs : List Int} {w : World} (hx : Ints w .u8 a n c xs) (hn : n ≤ 140737488355320) (ho : opened xs = false) :
    Calls Try.prog 11 #[.slice a n c] w fun e w' => e = .returned (.tuple #[.slice none 0 0, .bool false]) ∧ Below w.heap.size w w' :=
  (OpenRef_calls hx hn).mono fun e w' ⟨hb, h⟩ => by
    rcases h with ⟨_, h⟩ | ⟨h, _⟩
    · exact ⟨h, hb⟩
    · rw [ho] at h; cases h
theorem SealRef_ints {a : Option Addr} {n c : Nat} {xs : List Int} {w : World} (hx : Ints w .u8 a n c xs) (hn : n ≤ 140737488355320) :
    Calls Try.prog 21 #[.slice a n c] w fun e w' => ∃ a' c', e = .returned (.slice a' (n + 3) c') ∧ Ints w' .u8 a' (n + 3) c' (sealed xs) ∧ Below w.heap.size w w' :=
  (SealRef_calls hx hn).mono fun e w' ⟨v, h, hv, hb⟩ => by
    obtain ⟨a', c', rfl, hi, _⟩ := hv.ints
    rw [sealed_len, hx.len] at hi h
    exact ⟨a', c', h, hi, hb⟩
theorem Three_ints {s : Int} {w : World} (hs : (Lit.int .i64 s).wf = true) :
    Calls Try.prog 17 #[.int .i64 s] w fun e w' => ∃ a c, e = .returned (.slice a 3 c) ∧ Ints w' .u8 a 3 c (three s) ∧ Below w.heap.size w w' :=
  (Three_calls hs).mono fun e w' ⟨v, h, hv, hb⟩ => by
    obtain ⟨a', c', rfl, hi, _⟩ := hv.ints
    exact ⟨a', c', h, hi, hb⟩
theorem ThreeRef_ints {s : Int} {w : World} (hs : (Lit.int .i64 s).wf = true) :
    Calls Try.prog 18 #[.int .i64 s] w fun e w' => ∃ a c, e = .returned (.slice a 3 c) ∧ Ints w' .u8 a 3 c (three s) ∧ Below w.heap.size w w' :=
  (ThreeRef_calls hs).mono fun e w' ⟨v, h, hv, hb⟩ => by
    obtain ⟨a', c', rfl, hi, _⟩ := hv.ints
    exact ⟨a', c', h, hi, hb⟩
theorem SumRef_lit {a : Option Addr} {n c : Nat} {xs : List Int} {w : World} {r : Int} (hx : Ints w .u8 a n c xs) (hr : ((crc 11994318 xs : Nat) : Int) = r) :
    Calls Try.prog 13 #[.slice a n c] w fun e w' => e = .returned (.int .i64 r) ∧ w = w' :=
  (SumRef_calls hx).mono fun e w' ⟨h, h'⟩ => ⟨by rw [h, hr], h'⟩
theorem MoreRef_lit {s : Int} {a : Option Addr} {n c : Nat} {xs : List Int} {w : World} {r : Int} (hs : (Lit.int .i64 s).wf = true) (hx : Ints w .u8 a n c xs) (hr : ((crc (s % 16777216).toNat xs : Nat) : Int) = r) :
    Calls Try.prog 15 #[.int .i64 s, .slice a n c] w fun e w' => e = .returned (.int .i64 r) ∧ w = w' :=
  (MoreRef_calls hs hx).mono fun e w' ⟨h, h'⟩ => ⟨by rw [h, hr], h'⟩
theorem SameBytes_b {a1 a2 : Option Addr} {n1 n2 c1 c2 : Nat} {xs ys : List Int} {w : World} {r : Bool} (hx : Ints w .u8 a1 n1 c1 xs) (hy : Ints w .u8 a2 n2 c2 ys) (he : decide (xs = ys) = r) :
    Calls Try.prog 16 #[.slice a1 n1 c1, .slice a2 n2 c2] w fun e w' => e = .returned (.bool r) ∧ Below w.heap.size w w' :=
  below_of_drawn (SameBytes_to hx hy he)

set_option maxHeartbeats 3200000 in
theorem lawSumAnswers {a0 a1 : Option Addr} {n0 c0 n1 c1 : Nat} {xs ys : List Int} {n : Int} {w : World} (hx : Ints w .u8 a0 n0 c0 xs) (hy : Ints w .u8 a1 n1 c1 ys) (hn : (Lit.int .i64 n).wf = true) :
    Calls Try.prog 3 #[.slice a0 n0 c0, .slice a1 n1 c1, .int .i64 n] w fun e w' => e = .returned (.bool true) ∧ Below w.heap.size w w' := by
  have hlx := hx.len
  have hmx := hx.max
  have hpx := hx.le
  have hmy := hy.max
  have hpy := hy.le
  obtain ⟨S, hS⟩ : ∃ S : Int, ((crc 11994318 xs : Nat) : Int) = S := ⟨_, rfl⟩
  obtain ⟨M, hM⟩ : ∃ M : Int, ((crc (n % 16777216).toNat xs : Nat) : Int) = M := ⟨_, rfl⟩
  have hSwf : (Lit.int .i64 S).wf = true := by rw [← hS]; exact crc_wf xs hx.fit
  obtain ⟨B, hB⟩ : ∃ B, decide (three (crc 11994318 xs) = ys) = B := ⟨_, rfl⟩
  have hB2 : decide (three S = ys) = B := by rw [← hS]; exact hB
  have HS := Lib.hid hS; clear hS
  have HM := Lib.hid hM; clear hM
  have HB := Lib.hid hB; clear hB
  have HB2 := Lib.hid hB2; clear hB2
  have Hn := Lib.hid hn; clear hn
  have HSwf := Lib.hid hSwf; clear hSwf
  go_enter Try.func3, Try.ntmps3
  go_wp2_with fail
  refine alive_calls.mono ?_
  rintro e w1 ⟨rfl, hb1⟩
  by_cases hg : n0 ≤ 1000 ∧ n1 ≤ 1000
  · obtain ⟨hg1, hg2⟩ := hg
    have Hlx := Lib.hid hlx; clear hlx
    go_wp2_with fail
    refine (CopyBytes_calls (hx.keep hb1) (by omega)).mono ?_
    rintro e w2 ⟨v, rfl, hv, hne, hb2⟩
    have hB2 : Below w.heap.size w w2 := hb1.trans (hb2.mono hb1.size)
    obtain ⟨a2, c2, rfl, hi, _⟩ := hv.ints
    rw [Hlx.out] at hi ⊢
    clear hv hne hb2 hb1
    cases hop : opened xs with
    | false =>
      have Hop := Lib.hid hop; clear hop
      go_wp2_with fail
      refine (Open_no hi (by omega) Hop.out).mono ?_
      rintro e w3 ⟨rfl, hb3⟩
      have hB3 : Below w.heap.size w w3 := hB2.trans (hb3.mono hB2.size)
      have hi3 := hi.keep hb3
      clear hb3 hi hB2
      go_wp2_with fail
      refine (OpenRef_no (hx.keep hB3) (by omega) Hop.out).mono ?_
      rintro e w4 ⟨rfl, hb4⟩
      have hB4 : Below w.heap.size w w4 := hB3.trans (hb4.mono hB3.size)
      have hi4 := hi3.keep hb4
      have hx4 := hx.keep hB4
      have hy4 := hy.keep hB4
      clear hb4 hi3 hB3
      go_wp2_with fail
      refine (Sum_lit hi4 HS.out).mono ?_
      rintro e w5 ⟨rfl, rfl⟩
      go_wp2_with fail
      refine (SumRef_lit hx4 HS.out).mono ?_
      rintro e w5 ⟨rfl, rfl⟩
      go_wp2_with fail
      refine (More_lit Hn.out hi4 HM.out).mono ?_
      rintro e w5 ⟨rfl, rfl⟩
      go_wp2_with fail
      refine (MoreRef_lit Hn.out hx4 HM.out).mono ?_
      rintro e w5 ⟨rfl, rfl⟩
      go_wp2_with fail
      refine (Three_ints Hn.out).mono ?_
      rintro e w5 ⟨a5, c5, rfl, ht5, hb5⟩
      go_wp2_with fail
      refine (ThreeRef_ints Hn.out).mono ?_
      rintro e w6 ⟨a6, c6, rfl, ht6, hb6⟩
      go_wp2_with fail
      refine (SameBytes_b (ht5.keep hb6) ht6 (decide_eq_true rfl)).mono ?_
      rintro e w7 ⟨rfl, hb7⟩
      have hC7 : Below w4.heap.size w4 w7 := (hb5.trans (hb6.mono hb5.size)).trans (hb7.mono (Nat.le_trans hb5.size hb6.size))
      clear hb5 hb6 hb7 ht5 ht6
      go_wp2_with fail
      refine (Fits_calls (hi4.keep hC7) (hy4.keep hC7) HB.out).mono ?_
      rintro e w8 ⟨rfl, hb8⟩
      have hC8 : Below w4.heap.size w4 w8 := hC7.trans (hb8.mono hC7.size)
      clear hb8 hC7
      go_wp2_with fail
      refine (SumRef_lit (hx4.keep hC8) HS.out).mono ?_
      rintro e w9 ⟨rfl, rfl⟩
      go_wp2_with fail
      refine (ThreeRef_ints HSwf.out).mono ?_
      rintro e w9 ⟨a9, c9, rfl, ht9, hb9⟩
      have hC9 : Below w4.heap.size w4 w9 := hC8.trans (hb9.mono hC8.size)
      clear hb9 hC8
      go_wp2_with fail
      refine (SameBytes_b ht9 (hy4.keep hC9) HB2.out).mono ?_
      rintro e w10 ⟨rfl, hb10⟩
      have hC10 : Below w4.heap.size w4 w10 := hC9.trans (hb10.mono hC9.size)
      clear hb10 hC9 ht9
      go_wp2_with fail
      refine (Seal_ints (hi4.keep hC10) (by omega)).mono ?_
      rintro e w11 ⟨a11, c11, rfl, hs11, hb11⟩
      have hC11 : Below w4.heap.size w4 w11 := hC10.trans (hb11.mono hC10.size)
      clear hb11 hC10
      go_wp2_with fail
      refine (SealRef_ints (hx4.keep hC11) (by omega)).mono ?_
      rintro e w12 ⟨a12, c12, rfl, hs12, hb12⟩
      have hC12 : Below w4.heap.size w4 w12 := hC11.trans (hb12.mono hC11.size)
      go_wp2_with fail
      refine (SameBytes_b (hs11.keep hb12) hs12 (decide_eq_true rfl)).mono ?_
      rintro e w13 ⟨rfl, hb13⟩
      have hC : Below w4.heap.size w4 w13 := hC12.trans (hb13.mono hC12.size)
      clear hb13 hb12 hC12 hC11 hs11 hs12
      go_wp2_with fail
      refine (SameBytes_b (Ints.nil0 _ _) (Ints.nil0 _ _) (decide_eq_true rfl)).mono ?_
      rintro e w14 ⟨rfl, hb14⟩
      have hC14 : Below w4.heap.size w4 w14 := hC.trans (hb14.mono hC.size)
      go_wp2_with fail
      refine (SameBytes_b (hi4.keep hC14) (hx4.keep hC14) (decide_eq_true rfl)).mono ?_
      rintro e w15 ⟨rfl, hb15⟩
      go_wp2
      go_ret
      exact ⟨rfl, hB4.trans ((hC14.trans (hb15.mono hC14.size)).mono hB4.size)⟩
    | true =>
      have Hop := Lib.hid hop; clear hop
      obtain ⟨zs, hzs⟩ : ∃ zs, xs.take (xs.length - 3) = zs := ⟨_, rfl⟩
      obtain ⟨m, hm⟩ : ∃ m, zs.length = m := ⟨_, rfl⟩
      have Hzs := Lib.hid hzs; clear hzs
      have Hm := Lib.hid hm; clear hm
      go_wp2_with fail
      refine (Open_yes hi (by omega) Hop.out Hzs.out Hm.out).mono ?_
      rintro e w3 ⟨a3, c3, rfl, ho3, hb3⟩
      have hB3 : Below w.heap.size w w3 := hB2.trans (hb3.mono hB2.size)
      have hi3 := hi.keep hb3
      clear hb3 hi hB2
      go_wp2_with fail
      refine (OpenRef_yes (hx.keep hB3) (by omega) Hop.out Hzs.out Hm.out).mono ?_
      rintro e w4 ⟨a4, c4, rfl, hp4, hb4⟩
      have hB4 : Below w.heap.size w w4 := hB3.trans (hb4.mono hB3.size)
      have hi4 := hi3.keep hb4
      have ho4 := ho3.keep hb4
      have hx4 := hx.keep hB4
      have hy4 := hy.keep hB4
      clear hb4 hi3 hB3 ho3
      go_wp2_with fail
      refine (Sum_lit hi4 HS.out).mono ?_
      rintro e w5 ⟨rfl, rfl⟩
      go_wp2_with fail
      refine (SumRef_lit hx4 HS.out).mono ?_
      rintro e w5 ⟨rfl, rfl⟩
      go_wp2_with fail
      refine (More_lit Hn.out hi4 HM.out).mono ?_
      rintro e w5 ⟨rfl, rfl⟩
      go_wp2_with fail
      refine (MoreRef_lit Hn.out hx4 HM.out).mono ?_
      rintro e w5 ⟨rfl, rfl⟩
      go_wp2_with fail
      refine (Three_ints Hn.out).mono ?_
      rintro e w5 ⟨a5, c5, rfl, ht5, hb5⟩
      go_wp2_with fail
      refine (ThreeRef_ints Hn.out).mono ?_
      rintro e w6 ⟨a6, c6, rfl, ht6, hb6⟩
      go_wp2_with fail
      refine (SameBytes_b (ht5.keep hb6) ht6 (decide_eq_true rfl)).mono ?_
      rintro e w7 ⟨rfl, hb7⟩
      have hC7 : Below w4.heap.size w4 w7 := (hb5.trans (hb6.mono hb5.size)).trans (hb7.mono (Nat.le_trans hb5.size hb6.size))
      clear hb5 hb6 hb7 ht5 ht6
      go_wp2_with fail
      refine (Fits_calls (hi4.keep hC7) (hy4.keep hC7) HB.out).mono ?_
      rintro e w8 ⟨rfl, hb8⟩
      have hC8 : Below w4.heap.size w4 w8 := hC7.trans (hb8.mono hC7.size)
      clear hb8 hC7
      go_wp2_with fail
      refine (SumRef_lit (hx4.keep hC8) HS.out).mono ?_
      rintro e w9 ⟨rfl, rfl⟩
      go_wp2_with fail
      refine (ThreeRef_ints HSwf.out).mono ?_
      rintro e w9 ⟨a9, c9, rfl, ht9, hb9⟩
      have hC9 : Below w4.heap.size w4 w9 := hC8.trans (hb9.mono hC8.size)
      clear hb9 hC8
      go_wp2_with fail
      refine (SameBytes_b ht9 (hy4.keep hC9) HB2.out).mono ?_
      rintro e w10 ⟨rfl, hb10⟩
      have hC10 : Below w4.heap.size w4 w10 := hC9.trans (hb10.mono hC9.size)
      clear hb10 hC9 ht9
      go_wp2_with fail
      refine (Seal_ints (hi4.keep hC10) (by omega)).mono ?_
      rintro e w11 ⟨a11, c11, rfl, hs11, hb11⟩
      have hC11 : Below w4.heap.size w4 w11 := hC10.trans (hb11.mono hC10.size)
      clear hb11 hC10
      go_wp2_with fail
      refine (SealRef_ints (hx4.keep hC11) (by omega)).mono ?_
      rintro e w12 ⟨a12, c12, rfl, hs12, hb12⟩
      have hC12 : Below w4.heap.size w4 w12 := hC11.trans (hb12.mono hC11.size)
      go_wp2_with fail
      refine (SameBytes_b (hs11.keep hb12) hs12 (decide_eq_true rfl)).mono ?_
      rintro e w13 ⟨rfl, hb13⟩
      have hC : Below w4.heap.size w4 w13 := hC12.trans (hb13.mono hC12.size)
      clear hb13 hb12 hC12 hC11 hs11 hs12
      go_wp2_with fail
      refine (SameBytes_b (ho4.keep hC) (hp4.keep hC) (decide_eq_true rfl)).mono ?_
      rintro e w14 ⟨rfl, hb14⟩
      have hC14 : Below w4.heap.size w4 w14 := hC.trans (hb14.mono hC.size)
      go_wp2_with fail
      refine (SameBytes_b (hi4.keep hC14) (hx4.keep hC14) (decide_eq_true rfl)).mono ?_
      rintro e w15 ⟨rfl, hb15⟩
      go_wp2
      go_ret
      exact ⟨rfl, hB4.trans ((hC14.trans (hb15.mono hC14.size)).mono hB4.size)⟩
  · have hg' : 1000 < n0 ∨ 1000 < n1 := by omega
    rcases hg' with hg' | hg'
    all_goals
      go_wp2
      all_goals go_ret
      all_goals exact ⟨rfl, hb1⟩
end Go.Proofs.Ythngobceagdokaa
