/- The document's Unpack. -/
import Derived.Test.YtjbpoegpmbnglaaDoorWordR5
namespace Go.Proofs.YtjbpoegpmbnglaaDoor
open Go.RowKit

theorem inner_step {U k W : Nat} (hk : k < W) (hW : W ≤ 63) : ∃ P b m N Q D : Nat, 2 ^ k = P ∧ P < 9223372036854775808 ∧ U / 2 ^ k = Q ∧ Q % 2 = b ∧ Q / 2 = D ∧ U % 2 ^ k = N ∧ P * b = m ∧ N + m < 9223372036854775808 ∧
    U % 2 ^ (k + 1) = N + m ∧ U / 2 ^ (k + 1) = D ∧ 2 ^ (k + 1) = P * 2 ∧ b < 2 := by
  refine ⟨_, _, _, _, _, _, rfl, Nat.pow_lt_pow_right (by decide) (by omega : k < 63), rfl, rfl, rfl, rfl, rfl, ?_, bit_snoc U k, ?_, Nat.pow_succ _ _, Nat.mod_lt _ (by decide)⟩
  · rw [← bit_snoc U k]
    exact Nat.lt_of_lt_of_le (Nat.mod_lt _ (Nat.two_pow_pos _)) (Nat.pow_le_pow_right (by decide) (by omega : k + 1 ≤ 63))
  · rw [Nat.pow_succ, Nat.div_div_eq_div_mul]
set_option maxHeartbeats 2000000 in
theorem RUnpack_calls {w : World} {a : Option Addr} {n c : Nat} {ws : List Int} (hx : Ints w .i64 a n c ws) (hn : n ≤ 1000) {u : Nat} (hu : u < 18446744073709551616) (hr : rightS ws = true) : Calls Tryd.prog 30 #[.slice a n c, .int .u64 u] w fun e w' =>
    ∃ v, e = .returned (.tuple #[v, .bool (decide (restU ws u = 0))]) ∧ Own w' w.heap.size 3 .i64 v (if restU ws u = 0 then outZ ws u else []) ∧ Below w.heap.size w w' := by
  obtain ⟨Z, hZ⟩ : ∃ Z : Bool, Z = decide (restU ws u = 0) := ⟨_, rfl⟩
  obtain ⟨L, hL⟩ : ∃ L, L = if restU ws u = 0 then outZ ws u else [] := ⟨_, rfl⟩
  rw [← hZ, ← hL]
  have HZ := Lib.hid hZ; clear hZ
  have HL := Lib.hid hL; clear hL
  have hri := RRight_calls hx hn
  rw [hr] at hri
  have hok : okW ws := (of_decide_eq_true hr).1
  have hl := hx.len
  have Hri := Lib.hid hri; clear hri hr
  have Hx := Lib.hid hx; clear hx
  have Hok := Lib.hid hok; clear hok
  have Hl := Lib.hid hl; clear hl
  have Hu := Lib.hid hu; clear hu
  go_enter Tryd.func30, Tryd.ntmps30
  go_wp2_with fail
  refine Hri.out.mono ?_
  rintro e w1 ⟨rfl, hw1⟩
  obtain rfl := hw1.symm
  go_wp2_with fail
  go_loopw [1, 6, 7] (fun uv v i wr => ∃ j : Nat, j ≤ n ∧ i = .int .i64 (j : Int) ∧ uv = .int .u64 ((restU (ws.take j) u : Nat) : Int) ∧ Own wr w.heap.size 3 .i64 v (outZ (ws.take j) u) ∧ Below w.heap.size w wr) (fun _ _ i _ => n - (intOf i).toNat)
  case atStart => exact ⟨0, by omega, rfl, rfl, own_empty _ _ _ _ (Nat.le_refl _), (Below.refl _ _).alloc (Nat.le_refl _) _⟩
  case round =>
    obtain ⟨j, hj, rfl, rfl, hown, hb⟩ := hrel
    have hrl := rest_le (ws.take j) u
    by_cases hlt : j < n
    · obtain ⟨b1, o1, rfl, cx⟩ := (Hx.out.keep hb).cell (by omega)
      have cx' := cx j hlt
      have hjl : j < ws.length := by rw [Hl.out]; exact hlt
      rw [List.getD_eq_getElem?_getD, List.getElem?_eq_getElem hjl, Option.getD_some] at cx'
      have hk := Hok.out _ (List.getElem_mem hjl)
      have hout := out_append (ws.take j) [ws[j]] u
      have hrest := rest_append (ws.take j) [ws[j]] u
      have htk : ws.take (j + 1) = ws.take j ++ [ws[j]] := List.take_succ_eq_append_getElem hjl
      rw [← htk] at hout hrest
      have hlen := out_len (ws.take j) u
      rw [List.length_take, Hl.out, Nat.min_eq_left (by omega)] at hlen
      obtain ⟨W, hW⟩ : ∃ W : Nat, ws[j] = (W : Int) := ⟨ws[j].toNat, by omega⟩
      rw [hW] at cx' hk hout hrest
      have hU : restU (ws.take j) u < 18446744073709551616 := Nat.lt_of_le_of_lt hrl Hu.out
      generalize restU (ws.take j) u = U at *
      have hout : outZ (ws.take (j + 1)) u = outZ (ws.take j) u ++ [((U % 2 ^ W : Nat) : Int)] := hout
      have hrest : restU (ws.take (j + 1)) u = U / 2 ^ W := hrest
      have hm2 := (unpack_mask (W := W) hU (by omega)).2
      obtain ⟨va, vc, rfl, -, -⟩ := hown.ints
      rw [hlen] at hown ⊢
      have k1 : 1 ≤ W := by omega
      have k2 : W ≤ 63 := by omega
      clear cx hW hk htk hrl
      have Hout := Lib.hid hout; clear hout
      have Hrest := Lib.hid hrest; clear hrest
      have Hlen := Lib.hid hlen; clear hlen
      have Hown := Lib.hid hown; clear hown
      have Hb := Lib.hid hb; clear hb
      have Hm2 := Lib.hid hm2; clear hm2
      have HU := Lib.hid hU; clear hU
      have i1 : (0 : Int) ≤ (j : Int) := by omega
      have i2 : (j : Int) < (n : Int) := by omega
      go_wp2_with fail
      obtain ⟨wo, rfl⟩ : ∃ wo : World, wo = wr := ⟨_, rfl⟩
      go_loopw [1, 8, 9, 10] (fun uv nv one kv wr => ∃ k : Nat, k ≤ W ∧ kv = .int .i64 (k : Int) ∧ nv = .int .i64 ((U % 2 ^ k : Nat) : Int) ∧ one = .int .i64 (wrap64 ((2 ^ k : Nat) : Int)) ∧ uv = .int .u64 ((U / 2 ^ k : Nat) : Int) ∧ wr = wo) (fun _ _ _ kv _ => W - (intOf kv).toNat)
      case atStart => exact ⟨0, by omega, rfl, by rw [Nat.pow_zero, Nat.mod_one]; rfl, congrArg (Value.int .i64) (wrap_small (X := 2 ^ 0) (by decide)).symm, by rw [Nat.pow_zero, Nat.div_one], rfl⟩
      case round =>
        obtain ⟨k, hkW, rfl, rfl, rfl, rfl, rfl⟩ := hrel
        by_cases hkl : k < W
        · obtain ⟨P, b, m, N, Q, D, e1, h2, e3, e4, e5, e6, e7, h8, e9, e10, e11, h12⟩ := inner_step (U := U) hkl k2
          have t1 : wrap64 ((P : Nat) : Int) = (P : Int) := wrap_small h2
          have t2 : (Q : Int).tmod 2 = (b : Int) := by rw [← e4]; exact Int.tmod_eq_emod_of_nonneg (by omega)
          have t3 : (Q : Int).tdiv 2 = (D : Int) := by rw [← e5]; exact Int.tdiv_eq_ediv_of_nonneg (by omega)
          have t4 : wrap64 (b : Int) = (b : Int) := wrap_small (by omega)
          have t5 : wrap64 ((P : Int) * (b : Int)) = (m : Int) := by rw [← e7, ← wrap_mul_bit h12 h2, t1]
          have t6 : wrap64 ((N : Int) + (m : Int)) = ((N + m : Nat) : Int) := by rw [← Int.natCast_add]; exact wrap_small h8
          obtain ⟨X, hX⟩ : ∃ X, X = wrap64 ((2 ^ (k + 1) : Nat) : Int) := ⟨_, rfl⟩
          have t7 : wrap64 ((P : Int) * 2) = X := by rw [hX, e11, ← wrap_dbl, t1]
          have hQ : Q < 18446744073709551616 := by rw [← e3]; exact Nat.lt_of_le_of_lt (Nat.div_le_self _ _) HU.out
          have hD : D < 18446744073709551616 := by rw [← e5]; exact Nat.lt_of_le_of_lt (Nat.div_le_self _ _) hQ
          rw [e3, e6, e1, t1]
          have E9 := Lib.hid e9; clear e9
          have E10 := Lib.hid e10; clear e10
          have HX := Lib.hid hX; clear hX
          clear e1 e3 e4 e5 e6 e7 e11 t1
          generalize hS : N + m = S at *
          have j1 : (k : Int) < (W : Int) := by omega
          clear hS
          go_wp2_with fail
          go_roundw
          case rel => exact ⟨k + 1, by omega, by go_num, by rw [E9.out, t6], by rw [t7, HX.out], by rw [E10.out], trivial⟩
          case measure => simp [intOf]; omega
        · obtain rfl : k = W := by omega
          have hm2 := Hm2.out
          clear Hm2
          generalize U % 2 ^ k = R at *
          generalize wrap64 ((2 ^ k : Nat) : Int) = X at *
          obtain ⟨D, hD⟩ : ∃ D, D = U / 2 ^ k := ⟨_, rfl⟩
          rw [← hD]
          have HD := Lib.hid hD; clear hD
          go_wp2_with (with_reducible refine stop_builtin .append ?_)
          refine unpark ?_
          have b8 := i64_wf hm2
          have hx3 := heap_alloc_new wr (.cells #[.int .i64 (R : Int)] 3)
          have b3 : Below wr.heap.size wr (wr.alloc (.cells #[.int .i64 (R : Int)] 3)) := (Below.refl _ _).alloc (Nat.le_refl _) _
          generalize wr.alloc (.cells #[.int .i64 (R : Int)] 3) = w3 at hx3 b3 ⊢
          have hi3 : Ints w3 .i64 (some ⟨wr.heap.size, 0, none⟩) 1 1 [(R : Int)] := Ints.of rfl (Nat.le_refl _) (by decide) (fun z hz => by rw [List.mem_singleton] at hz; rw [hz]; exact b8) (fun k hk => by
            obtain rfl : k = 0 := by omega
            exact cells_at hx3 0)
          have b03 := Hb.out.trans (b3.mono Hb.out.size)
          refine wpList_append_ints _ rfl _ _ 30 rfl .i64 w.heap.size 3 (.int .i64 0) 8 Tryd.underlying30 Tryd.infoInt rfl _ _ rfl (Hown.out.below b3) _ 1 1 _ rfl hi3 (by rw [Hlen.out]; omega) (by decide) b03.size ?_
          intro v' w4 own4 g4 _
          rw [← Hout.out] at own4
          have b04 := b03.grown g4 b03.size (fun k hk => (Hown.out.block k hk).1)
          obtain ⟨v4, c4, rfl, -, -⟩ := own4.ints
          have hl4 := out_len (ws.take (j + 1)) u
          rw [List.length_take, Hl.out, Nat.min_eq_left (by omega)] at hl4
          rw [hl4] at own4 ⊢
          clear hi3 hx3 b3 Hown Hb b03 g4 b8 hm2 cx'
          have Hb4 := Lib.hid b04; clear b04
          have Own4 := Lib.hid own4; clear own4
          go_wp2_with fail
          go_roundw
          case rel => exact ⟨j + 1, by omega, by go_num, by rw [Hrest.out, ← HD.out], Own4.out, Hb4.out⟩
          case measure => simp [intOf]; omega
    · obtain rfl : j = n := by omega
      have ht : ws.take j = ws := List.take_of_length_le (by rw [Hl.out]; exact Nat.le_refl _)
      rw [ht] at hown hrl ⊢
      obtain ⟨va, vc, rfl, -, -⟩ := hown.ints
      have hlen := out_len ws u
      rw [Hl.out] at hlen
      rw [hlen] at hown ⊢
      have Hown := Lib.hid hown; clear hown
      have Hb := Lib.hid hb; clear hb
      clear ht hrl hlen
      have hZ := HZ.out
      have hL := HL.out
      clear HZ HL
      generalize restU ws u = U at *
      by_cases h0 : U = 0
      · subst h0
        rw [if_pos rfl] at hL
        rw [decide_eq_true rfl] at hZ
        subst hZ
        have HL := Lib.hid hL; clear hL
        go_wp2
        go_ret2
        exact ⟨_, rfl, by rw [HL.out]; exact Hown.out, Hb.out⟩
      · have hz : (((U : Nat) : Int) != 0) = true := by simp; omega
        rw [if_neg h0] at hL
        rw [decide_eq_false h0] at hZ
        subst hZ
        have HL := Lib.hid hL; clear hL h0
        go_wp2
        go_ret2
        exact ⟨_, rfl, by rw [HL.out]; exact own_nil _ _ _ _, Hb.out⟩
theorem RUnpack_bad {w : World} {a : Option Addr} {n c : Nat} {ws : List Int} (hx : Ints w .i64 a n c ws) (hn : n ≤ 1000) {u : Nat} (hr : rightS ws = false) : Calls Tryd.prog 30 #[.slice a n c, .int .u64 u] w fun e w' => e = .returned (.tuple #[.slice none 0 0, .bool false]) ∧ w' = w := by
  have hri := RRight_calls hx hn
  rw [hr] at hri
  have Hri := Lib.hid hri; clear hri hr hx
  go_enter Tryd.func30, Tryd.ntmps30
  go_wp2_with fail
  refine Hri.out.mono ?_
  rintro e w1 ⟨rfl, rfl⟩
  go_wp2
  go_ret2
  exact ⟨rfl, rfl⟩
end Go.Proofs.YtjbpoegpmbnglaaDoor
