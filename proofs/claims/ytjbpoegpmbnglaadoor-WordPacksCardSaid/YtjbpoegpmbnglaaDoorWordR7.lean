/- The document's Pack. -/
import Derived.Test.YtjbpoegpmbnglaaDoorWordR6
import Derived.Test.YtjbpoegpmbnglaaDoorWordL6
namespace Go.Proofs.YtjbpoegpmbnglaaDoor
open Go.RowKit

theorem packV_snoc {k v : Int} : ∀ {ws vs : List Int}, vs.length = ws.length → okW ws → packV (ws ++ [k]) (vs ++ [v]) = packV ws vs + v.toNat * 2 ^ (sumW ws).toNat
  | [], [], _, _ => by simp [packV, sumW]
  | x :: ws, y :: vs, hl, hok => by
    have ih := packV_snoc (k := k) (v := v) (ws := ws) (vs := vs) (by simpa using hl) fun z hz => hok z (.tail _ hz)
    have hx := hok x (.head _)
    have hs := (sumW_bound (ws := ws) fun z hz => hok z (.tail _ hz)).1
    have e : (sumW (x :: ws)).toNat = x.toNat + (sumW ws).toNat := by show (x + sumW ws).toNat = _; omega
    show y.toNat + 2 ^ x.toNat * packV (ws ++ [k]) (vs ++ [v]) = y.toNat + 2 ^ x.toNat * packV ws vs + v.toNat * 2 ^ (sumW (x :: ws)).toNat
    rw [ih, e, Nat.pow_add, Nat.mul_add, Nat.add_assoc]
    congr 2
    rw [Nat.mul_left_comm]
theorem rpack_wrap {U M U' : Nat} (h : U + M = U') (h2 : U' < 18446744073709551616) : IntKind.u64.wrap ((U : Int) + IntKind.u64.wrap (M : Int)) = (U' : Int) := by
  simp only [IntKind.wrap_u64]
  omega
theorem rpack_step {ws vs : List Int} {n j : Nat} (hr : rightS ws = true) (hl : ws.length = n) (hl2 : vs.length = n) (hj : j < n) (ho : ∀ t, t < j → fitB (ws[t]?.getD 0) (vs[t]?.getD 0) = true)
    (hf : fitB (ws[j]?.getD 0) (vs[j]?.getD 0) = true) :
    ∃ U U' A V K : Nat, packV (ws.take j) (vs.take j) = U ∧ packV (ws.take (j + 1)) (vs.take (j + 1)) = U' ∧ sumW (ws.take j) = (A : Int) ∧ vs[j]?.getD 0 = (V : Int) ∧ ws[j]?.getD 0 = (K : Int) ∧ U < 18446744073709551616 ∧ U' < 18446744073709551616 ∧
      IntKind.u64.wrap ((U : Int) + IntKind.u64.wrap ((V : Int) * 2 ^ A)) = (U' : Int) ∧ A ≤ 64 ∧ 1 ≤ K ∧ K ≤ 63 ∧ sumW (ws.take (j + 1)) = (A : Int) + (K : Int) ∧ V < 2 ^ K := by
  obtain ⟨hok, hsum⟩ := of_decide_eq_true hr
  have hj1 : j < ws.length := by omega
  have hj2 : j < vs.length := by omega
  have hr2 : ∀ i, rightS (ws.take i) = true := fun i => decide_eq_true ⟨fun y hy => hok y (List.mem_of_mem_take hy), Int.le_trans (sumW_take_le hok i) hsum⟩
  have hov : ∀ i, (∀ t, t < i → fitB (ws[t]?.getD 0) (vs[t]?.getD 0) = true) → okV (ws.take i) (vs.take i) := fun i h t ht => by
    rw [List.length_take] at ht
    rw [List.getElem?_take, List.getElem?_take, if_pos (by omega), if_pos (by omega)]
    exact h t (by omega)
  have hlt := fun i => pack_lt (hr2 i) (vs := vs.take i) (by rw [List.length_take, List.length_take]; omega)
  have u1 := hlt j (hov j ho)
  have u2 := hlt (j + 1) (hov (j + 1) fun t ht => by
    rcases Nat.lt_or_ge t j with h | h
    · exact ho t h
    · obtain rfl : t = j := by omega
      exact hf)
  have hs := sumW_take_succ hj1
  have hk := hok _ (List.getElem_mem hj1)
  have hb := sumW_bound (ws := ws.take j) fun y hy => hok y (List.mem_of_mem_take hy)
  have hb2 := Int.le_trans (sumW_take_le hok j) hsum
  rw [List.getElem?_eq_getElem hj1, List.getElem?_eq_getElem hj2, Option.getD_some, Option.getD_some] at hf ⊢
  have hsn := packV_snoc (k := ws[j]) (v := vs[j]) (ws := ws.take j) (vs := vs.take j) (by rw [List.length_take, List.length_take]; omega) fun y hy => hok y (List.mem_of_mem_take hy)
  rw [← List.take_succ_eq_append_getElem hj1, ← List.take_succ_eq_append_getElem hj2] at hsn
  have hf := of_decide_eq_true hf
  have hKe : ws[j] = ((ws[j].toNat : Nat) : Int) := by omega
  have hVe : vs[j] = ((vs[j].toNat : Nat) : Int) := by omega
  have hAe : sumW (ws.take j) = (((sumW (ws.take j)).toNat : Nat) : Int) := by omega
  refine ⟨_, _, (sumW (ws.take j)).toNat, vs[j].toNat, ws[j].toNat, rfl, rfl, hAe, hVe, hKe, u1, u2, ?_, by omega, by omega, by omega, by omega, ?_⟩
  · have e : ((vs[j].toNat : Nat) : Int) * 2 ^ (sumW (ws.take j)).toNat = ((vs[j].toNat * 2 ^ (sumW (ws.take j)).toNat : Nat) : Int) := by push_cast; rfl
    rw [e]
    exact rpack_wrap hsn.symm u2
  · have h2 := hf.2
    rw [show (2 : Int) ^ ws[j].toNat = ((2 ^ ws[j].toNat : Nat) : Int) by push_cast; rfl] at h2
    omega
set_option maxRecDepth 100000 in
set_option maxHeartbeats 4000000 in
theorem RPack_in {w : World} {a b : Option Addr} {n c d : Nat} {ws vs : List Int} (hx : Ints w .i64 a n c ws) (hy : Ints w .i64 b n d vs) (hn : n ≤ 1000) (hr : rightS ws = true) :
    Calls Tryd.prog 28 #[.slice a n c, .slice b n d] w fun e W' => (e = .returned (.tuple #[.int .u64 (packV ws vs : Nat), .bool true]) ∧ okV ws vs ∨ e = .returned (.tuple #[.int .u64 0, .bool false]) ∧ ¬ okV ws vs) ∧ Below w.heap.size w W' := by
  have hri := RRight_calls hx hn
  rw [hr] at hri
  have hl := hx.len
  have hl2 := hy.len
  have Hri := Lib.hid hri; clear hri
  have Hx := Lib.hid hx; clear hx
  have Hy := Lib.hid hy; clear hy
  have Hl := Lib.hid hl; clear hl
  have Hl2 := Lib.hid hl2; clear hl2
  have Hr := Lib.hid hr; clear hr
  have hnn : ((n : Int) != (n : Int)) = false := by simp
  go_enter Tryd.func28, Tryd.ntmps28
  go_wp2_with fail
  refine Hri.out.mono ?_
  rintro e w1 ⟨rfl, hw1⟩
  obtain rfl := hw1.symm
  go_wp2_with fail
  clear hnn
  go_loopw [6, 7, 8] (fun uv at_ i wr => ∃ j : Nat, j ≤ n ∧ i = .int .i64 (j : Int) ∧ at_ = .int .i64 (sumW (ws.take j)) ∧ uv = .int .u64 ((packV (ws.take j) (vs.take j) : Nat) : Int) ∧ (∀ t, t < j → fitB (ws[t]?.getD 0) (vs[t]?.getD 0) = true) ∧ Below w.heap.size w wr) (fun _ _ i _ => n - (intOf i).toNat)
  case atStart => exact ⟨0, by omega, rfl, rfl, rfl, fun t ht => absurd ht (by omega), Below.refl _ _⟩
  case round =>
    obtain ⟨j, hj, rfl, rfl, rfl, ho, hb⟩ := hrel
    by_cases hlt : j < n
    · obtain ⟨b1, o1, rfl, cx⟩ := (Hx.out.keep hb).cell (by omega)
      obtain ⟨b2, o2, rfl, cy⟩ := (Hy.out.keep hb).cell (by omega)
      have cx' := cx j hlt
      have cy' := cy j hlt
      have hv64 := Hy.out.i64 j
      have hok : okW ws := (of_decide_eq_true Hr.out).1
      have hkw : 1 ≤ ws[j]?.getD 0 ∧ ws[j]?.getD 0 ≤ 63 := by
        rw [List.getElem?_eq_getElem (by rw [Hl.out]; exact hlt), Option.getD_some]
        exact hok _ (List.getElem_mem _)
      rw [List.getD_eq_getElem?_getD] at cx' cy' hv64
      clear cx cy hok
      have i1 : (0 : Int) ≤ (j : Int) := by omega
      have i2 : (j : Int) < (n : Int) := by omega
      have hst := fun hf => rpack_step Hr.out Hl.out Hl2.out hlt ho hf
      have Ho := Lib.hid ho; clear ho
      have Hb := Lib.hid hb; clear hb
      cases hf : fitB (ws[j]?.getD 0) (vs[j]?.getD 0) with
      | true =>
        obtain ⟨U, U', A, V, K, e1, e2, e3, e4, e5, h6, h7, e8, h9, h10, h11, e12, h13⟩ := hst hf
        clear hst hv64 hkw
        rw [e1, e3]
        have Hf := Lib.hid hf; clear hf
        have hVm : V < 9223372036854775808 := Nat.lt_of_lt_of_le h13 (Nat.pow_le_pow_right (n := 2) (by decide) (by omega : K ≤ 63))
        rw [e4] at cy'
        rw [e5] at cx'
        have E2 := Lib.hid e2; clear e2
        have E8 := Lib.hid e8; clear e8
        have E12 := Lib.hid e12; clear e12
        clear e1 e3 e4 e5
        have hsh := fun w : World => shift_calls (w := w) (v := (V : Int)) (K := A) (by omega)
        generalize IntKind.u64.wrap ((V : Int) * 2 ^ A) = SH at hsh E8
        have Hsh := Lib.hid hsh; clear hsh
        have d1 : decide ((V : Int) < 0) = false := decide_eq_false (by omega)
        have z1 := cell_regrown cx'
        have z2 := cell_regrown cy'
        go_wp2_with fail
        have hK : (decide ((K : Int) < 63) = false) ∨ (decide ((K : Int) < 63) = true ∧ K ≤ 62) := by
          by_cases h : (K : Int) < 63
          · exact .inr ⟨decide_eq_true h, by omega⟩
          · exact .inl (decide_eq_false h)
        rcases hK with d2 | ⟨d2, hK⟩
        · clear h13
          refine wp_region_quiet_below (by kernel_rfl) (by kernel_rfl) ?_
          repeat (any_goals (first | go_big_quiet_step (fail) | quiet_step (fail)))
          refine wpQuiet_nil ?_
          intro w3 hw3
          have bf : Below wr.heap.size wr w3 := by obtain ⟨q, rfl⟩ := hw3; exact below_regrown _ _ _
          have cx3 := (World.cell?_of_block (bf.block _ (World.block_lt_of_cell? wr _ cx'))).trans cx'
          have cy3 := (World.cell?_of_block (bf.block _ (World.block_lt_of_cell? wr _ cy'))).trans cy'
          clear hw3 z1 z2 cx' cy'
          have bz := Hb.out.trans (bf.mono Hb.out.size)
          clear bf Hb
          have Hbz := Lib.hid bz; clear bz
          go_wp2_with fail
          refine (Hsh.out _).mono ?_
          rintro e w4 ⟨rfl, rfl⟩
          go_wp2_with fail
          go_roundw
          case rel => exact ⟨j + 1, by omega, by go_num, by rw [E12.out], by rw [E2.out, E8.out], fun t ht => by
            rcases Nat.lt_or_ge t j with h | h
            · exact Ho.out t h
            · obtain rfl : t = j := by omega
              exact Hf.out, Hbz.out⟩
          case measure => simp [intOf]; omega
        · have hp := fun w : World => power_calls (w := w) hK
          have d3 : decide (((2 ^ K : Nat) : Int) ≤ (V : Int)) = false := decide_eq_false (by omega)
          have d4 : decide (2 ^ K ≤ V) = false := decide_eq_false (by omega)
          generalize 2 ^ K = P at *
          have Hp := Lib.hid hp; clear hp
          clear h13
          refine wp_region_quiet_below (by kernel_rfl) (by kernel_rfl) ?_
          repeat (any_goals (first | go_big_quiet_step ((go_at_call 38; exact Calls.regrown_of ((Hp.out _).mono fun _ _ h => ⟨h.1, by rw [h.2]; exact Below.refl _ _⟩))) | quiet_step ((go_at_call 38; exact Calls.regrown_of ((Hp.out _).mono fun _ _ h => ⟨h.1, by rw [h.2]; exact Below.refl _ _⟩)))))
          refine wpQuiet_nil ?_
          intro w3 hw3
          have bf : Below wr.heap.size wr w3 := by obtain ⟨q, rfl⟩ := hw3; exact below_regrown _ _ _
          have cx3 := (World.cell?_of_block (bf.block _ (World.block_lt_of_cell? wr _ cx'))).trans cx'
          have cy3 := (World.cell?_of_block (bf.block _ (World.block_lt_of_cell? wr _ cy'))).trans cy'
          clear hw3 z1 z2 cx' cy'
          have bz := Hb.out.trans (bf.mono Hb.out.size)
          clear bf Hb
          have Hbz := Lib.hid bz; clear bz
          go_wp2_with fail
          refine (Hsh.out _).mono ?_
          rintro e w4 ⟨rfl, rfl⟩
          go_wp2_with fail
          go_roundw
          case rel => exact ⟨j + 1, by omega, by go_num, by rw [E12.out], by rw [E2.out, E8.out], fun t ht => by
            rcases Nat.lt_or_ge t j with h | h
            · exact Ho.out t h
            · obtain rfl : t = j := by omega
              exact Hf.out, Hbz.out⟩
          case measure => simp [intOf]; omega
      | false =>
        clear hst
        have hno : ¬ okV ws vs := fun h => by
          have := h j (by rw [Hl.out]; exact hlt)
          rw [hf] at this
          cases this
        have Hno := Lib.hid hno; clear hno
        have hnf := of_decide_eq_false hf
        clear hf
        obtain ⟨K, hK⟩ : ∃ K : Nat, ws[j]?.getD 0 = (K : Int) := ⟨(ws[j]?.getD 0).toNat, by omega⟩
        rw [hK] at hnf cx' hkw
        rw [Int.toNat_natCast] at hnf
        clear hK
        obtain ⟨v, hv⟩ : ∃ v, v = vs[j]?.getD 0 := ⟨_, rfl⟩
        rw [← hv] at hnf cy' hv64
        clear hv
        generalize sumW (ws.take j) = SA
        generalize packV (ws.take j) (vs.take j) = SU
        have z1 := cell_regrown cx'
        have z2 := cell_regrown cy'
        have k1 : 1 ≤ K := by omega
        have k2 : K ≤ 63 := by omega
        go_wp2_with fail
        by_cases hneg : v < 0
        · have d1 : decide (v < 0) = true := decide_eq_true hneg
          clear hneg hnf hv64
          refine wp_region_quiet_below (by kernel_rfl) (by kernel_rfl) ?_
          repeat (any_goals (first | go_big_quiet_step (fail) | quiet_step (fail)))
          refine wpQuiet_nil ?_
          intro w3 hw3
          have bf : Below wr.heap.size wr w3 := by obtain ⟨q, rfl⟩ := hw3; exact below_regrown _ _ _
          clear hw3 z1 z2 cx' cy'
          have bz := Hb.out.trans (bf.mono Hb.out.size)
          clear bf Hb
          have Hbz := Lib.hid bz; clear bz
          go_wp2
          go_ret2
          exact ⟨.inr ⟨rfl, Hno.out⟩, Hbz.out⟩
        · have d1 : decide (v < 0) = false := decide_eq_false hneg
          have hge : (2 : Int) ^ K ≤ v := by
            rcases Int.lt_or_le v (2 ^ K) with h | h
            · exact absurd ⟨by omega, h⟩ hnf
            · exact h
          clear hneg hnf
          rw [show (2 : Int) ^ K = ((2 ^ K : Nat) : Int) by push_cast; rfl] at hge
          have hK : K ≤ 62 := by
            rcases Nat.lt_or_ge K 63 with h | h
            · omega
            · obtain rfl : K = 63 := by omega
              have : ((2 ^ 63 : Nat) : Int) = 9223372036854775808 := rfl
              omega
          have d2 : decide ((K : Int) < 63) = true := decide_eq_true (by omega)
          have hp := fun w : World => power_calls (w := w) hK
          have d3 : decide (((2 ^ K : Nat) : Int) ≤ v) = true := decide_eq_true hge
          generalize 2 ^ K = P at *
          have Hp := Lib.hid hp; clear hp
          clear hge hv64
          refine wp_region_quiet_below (by kernel_rfl) (by kernel_rfl) ?_
          repeat (any_goals (first | go_big_quiet_step ((go_at_call 38; exact Calls.regrown_of ((Hp.out _).mono fun _ _ h => ⟨h.1, by rw [h.2]; exact Below.refl _ _⟩))) | quiet_step ((go_at_call 38; exact Calls.regrown_of ((Hp.out _).mono fun _ _ h => ⟨h.1, by rw [h.2]; exact Below.refl _ _⟩)))))
          refine wpQuiet_nil ?_
          intro w3 hw3
          have bf : Below wr.heap.size wr w3 := by obtain ⟨q, rfl⟩ := hw3; exact below_regrown _ _ _
          clear hw3 z1 z2 cx' cy'
          have bz := Hb.out.trans (bf.mono Hb.out.size)
          clear bf Hb
          have Hbz := Lib.hid bz; clear bz
          go_wp2
          go_ret2
          exact ⟨.inr ⟨rfl, Hno.out⟩, Hbz.out⟩
    · obtain rfl : j = n := by omega
      have ht : ws.take j = ws := List.take_of_length_le (by rw [Hl.out]; exact Nat.le_refl _)
      have ht2 : vs.take j = vs := List.take_of_length_le (by rw [Hl2.out]; exact Nat.le_refl _)
      have hall : okV ws vs := fun t htt => ho t (by rw [Hl.out] at htt; exact htt)
      rw [ht, ht2]
      have Hall := Lib.hid hall; clear hall ho
      generalize sumW ws = SA
      obtain ⟨U, hU⟩ : ∃ U, U = packV ws vs := ⟨_, rfl⟩
      rw [← hU]
      have HU := Lib.hid hU; clear hU ht ht2
      go_wp2
      go_ret2
      exact ⟨.inl ⟨by rw [← HU.out]; rfl, Hall.out⟩, hb⟩
set_option maxHeartbeats 1000000 in
theorem RPack_calls {w : World} {a b : Option Addr} {n c m d : Nat} {ws vs : List Int} (hx : Ints w .i64 a n c ws) (hy : Ints w .i64 b m d vs) (hn : n ≤ 1000) (hm : m ≤ 1000) :
    Calls Tryd.prog 28 #[.slice a n c, .slice b m d] w fun e W' => e = .returned (.tuple #[.int .u64 ((packS ws vs).1 : Nat), .bool (packS ws vs).2]) ∧ Below w.heap.size w W' := by
  have hl := hx.len
  have hl2 := hy.len
  by_cases hg : rightS ws = true ∧ n = m
  · obtain ⟨hr, rfl⟩ := hg
    refine (RPack_in hx hy hn hr).mono ?_
    rintro e W' ⟨⟨rfl, hok⟩ | ⟨rfl, hok⟩, hb⟩
    · unfold packS
      rw [if_pos ⟨hr, by omega, hok⟩]
      exact ⟨rfl, hb⟩
    · unfold packS
      rw [if_neg fun h => hok h.2.2]
      exact ⟨rfl, hb⟩
  · have hp : packS ws vs = (0, false) := by
      unfold packS
      rw [if_neg fun h => hg ⟨h.1, by omega⟩]
    rw [hp]
    have hri := RRight_calls hx hn
    have hd : rightS ws = false ∨ (rightS ws = true ∧ ((m : Int) != (n : Int)) = true) := by
      cases hr : rightS ws
      · exact .inl rfl
      · exact .inr ⟨rfl, bne_iff_ne.2 fun e => hg ⟨hr, by omega⟩⟩
    clear hg hp
    generalize rightS ws = R at hri hd
    have Hri := Lib.hid hri; clear hri hx hy
    rcases hd with rfl | ⟨rfl, hne⟩
    all_goals
      go_enter Tryd.func28, Tryd.ntmps28
      go_wp2_with fail
      refine Hri.out.mono ?_
      rintro e w1 ⟨rfl, rfl⟩
      go_wp2
      go_ret2
      exact ⟨rfl, Below.refl _ _⟩
end Go.Proofs.YtjbpoegpmbnglaaDoor
