/- The walk of the law SumBits. -/
import Derived.Test.YthngobceagdokaaSumL3
namespace Go.Proofs.Ythngobceagdokaa
open Go.RowKit Go.Sort

theorem Own.put {w : World} {B g : Nat} {E : TypeId} {k : IntKind} {n c : Nat} {zs : List Int} (h : Own w B E k (.slice (some ⟨g, 0, none⟩) n c) zs) (hn : zs.length = n) (j : Nat) {z : Int} (hz : (Lit.int k z).wf = true) :
    Own (w.setCell ⟨g, j, none⟩ (.int k z)) B E k (.slice (some ⟨g, 0, none⟩) n c) (zs.set j z) := by
  subst hn
  refine ⟨?_, fun y hy => ?_⟩
  · have := World.ownsRow.stored h.1 j (.int k z)
    rw [List.map_set, List.length_set]
    exact this.1
  · rcases List.mem_or_eq_of_mem_set hy with hy | rfl
    · exact h.2 y hy
    · exact hz

theorem Own.at {w : World} {B g : Nat} {E : TypeId} {k : IntKind} {n c : Nat} {zs : List Int} (h : Own w B E k (.slice (some ⟨g, 0, none⟩) n c) zs) (hn : zs.length = n) (j : Nat) (hj : j < n) :
    w.cell? ⟨g, j, none⟩ = some (.int k (zs.getD j 0)) ∧ w.frozen? ⟨g, j, none⟩ = false := by
  subst hn
  refine ⟨?_, h.1.frozenAt j⟩
  rw [h.1.cellAt j (by omega), List.getElem?_map, List.getD_eq_getElem?_getD, List.getElem?_eq_getElem hj]
  rfl
theorem Own.shape {w : World} {B : Nat} {E : TypeId} {k : IntKind} {v : Value} {n : Nat} {zs : List Int} (h : Own w B E k v zs) (hn : zs.length = n) (h0 : 0 < n) :
    ∃ g c, v = .slice (some ⟨g, 0, none⟩) n c ∧ n ≤ c ∧ c ≤ 9223372036854775807 ∧ B ≤ g ∧ g < w.heap.size ∧ Ints w k (some ⟨g, 0, none⟩) n c zs := by
  subst hn
  have hb := h.block
  obtain ⟨a, c', hv, hi, _⟩ := h.ints
  rcases h.1.2 with ⟨_, h1⟩ | ⟨g, cap, cur, rfl, _, _, h1, h2, _⟩
  · omega
  · simp only [Value.slice.injEq] at hv
    obtain ⟨rfl, _, rfl⟩ := hv
    exact ⟨g, cap, rfl, h1, hi.max, (hb g rfl).1, (hb g rfl).2, hi⟩

theorem not_opened {xs L : List Int} (hx : ∀ z ∈ xs, (Lit.int .u8 z).wf = true) (hL : ∀ z ∈ L, (Lit.int .u8 z).wf = true) (hc : crc 11994318 L ≠ crc 11994318 (sealed xs)) : opened L = false := by
  cases ho : opened L with
  | false => rfl
  | true =>
    exfalso
    have h3 : 3 ≤ L.length := by unfold opened at ho; rw [Bool.and_eq_true, decide_eq_true_iff] at ho; exact ho.1
    have hs := of_decide_eq_true (opened_sealed rfl h3 ho)
    apply hc
    rw [sealed_zero xs hx, ← hs]
    exact sealed_zero _ fun z hz => hL z (List.mem_of_mem_take hz)

theorem mask_cast (r : Nat) : ((128 : Int) / 2 ^ r) = ((128 / 2 ^ r : Nat) : Int) := by
  rw [Int.natCast_ediv]; simp
theorem mask_ne (r : Nat) (h : r < 8) : 128 / 2 ^ r ≠ 0 ∧ 128 / 2 ^ r < 256 := by
  match r, h with
  | 0, _ | 1, _ | 2, _ | 3, _ | 4, _ | 5, _ | 6, _ | 7, _ => decide
theorem mask_two (r : Nat) (h : r < 7) : (128 / 2 ^ r) ^^^ (128 / 2 ^ (r + 1)) ≠ 0 := by
  match r, h with
  | 0, _ | 1, _ | 2, _ | 3, _ | 4, _ | 5, _ | 6, _ => decide
theorem xor_mask (x r : Nat) (hx : x < 256) (hr : r < 8) : bits .xor .u8 (x : Int) ((128 : Int) / 2 ^ r) = ((x ^^^ (128 / 2 ^ r) : Nat) : Int) := by
  rw [mask_cast]; exact u8_xor_nat x _ hx (mask_ne r hr).2
theorem xor_byte_lt {x m : Nat} (hx : x < 256) (hm : m < 256) : x ^^^ m < 256 := Nat.xor_lt_two_pow (n := 8) hx hm
theorem xor_ne {x m : Nat} (h : m ≠ 0) : x ^^^ m ≠ x := fun e => h (xor_can (a := x) (by rw [e, Nat.xor_zero]))

theorem getD_mem {zs : List Int} {i : Nat} (h : i < zs.length) : zs.getD i 0 ∈ zs := by
  rw [List.getD_eq_getElem?_getD, List.getElem?_eq_getElem h]; exact List.getElem_mem _
theorem getD_nat {zs : List Int} (hf : ∀ z ∈ zs, (Lit.int .u8 z).wf = true) {i : Nat} (h : i < zs.length) : ∃ x : Nat, x < 256 ∧ zs.getD i 0 = (x : Int) ∧ zs[i] = (x : Int) := by
  have hu := wf_u8 (hf _ (getD_mem h))
  have e : zs.getD i 0 = zs[i] := by rw [List.getD_eq_getElem?_getD, List.getElem?_eq_getElem h]; rfl
  exact ⟨(zs.getD i 0).toNat, by omega, by omega, by rw [← e]; omega⟩

theorem crc_turn1 {zs : List Int} {i : Nat} (h : i < zs.length) {x y : Nat} (hx : zs[i] = (x : Int)) (hne : y ≠ x) (s : Nat) : crc s (zs.set i (y : Int)) ≠ crc s zs :=
  crc_set h (by rw [hx]; omega) (by omega) (by rw [hx]; omega)

theorem crc_turn2 {zs : List Int} {i : Nat} (h : i + 1 < zs.length) {x y : Nat} (hx : zs[i] = (x : Int)) (hy : zs[i + 1] = (y : Int)) (s : Nat) :
    crc s ((zs.set i ((x ^^^ 1 : Nat) : Int)).set (i + 1) ((y ^^^ 128 : Nat) : Int)) ≠ crc s zs := by
  intro e
  have e1 : zs = zs.take i ++ (x : Int) :: (y : Int) :: zs.drop (i + 2) := by
    rw [← hx, ← hy]; simp
  have hlen : (zs.take i).length = i := by rw [List.length_take]; omega
  have e2 : (zs.set i ((x ^^^ 1 : Nat) : Int)).set (i + 1) ((y ^^^ 128 : Nat) : Int) = zs.take i ++ ((x ^^^ 1 : Nat) : Int) :: ((y ^^^ 128 : Nat) : Int) :: zs.drop (i + 2) := by
    generalize zs.take i = A at *
    generalize zs.drop (i + 2) = D at *
    rw [e1, ← hlen, List.set_append_right _ _ (Nat.le_refl _), List.set_append_right _ _ (Nat.le_succ _), Nat.sub_self, show A.length.succ - A.length = 1 by omega]
    rfl
  rw [e2] at e
  have e3 : crc s (zs.take i ++ ((x ^^^ 1 : Nat) : Int) :: ((y ^^^ 128 : Nat) : Int) :: zs.drop (i + 2)) = crc s (zs.take i ++ (x : Int) :: (y : Int) :: zs.drop (i + 2)) := by rw [e, ← e1]
  rw [crc_append, crc_append] at e3
  exact crc_two e3

set_option maxHeartbeats 3200000 in
theorem lawSumBits {a0 : Option Addr} {n0 c0 : Nat} {xs : List Int} {bit : Int} {two : Bool} {w : World} (hx : Ints w .u8 a0 n0 c0 xs) (hbit : (Lit.int .i64 bit).wf = true) :
    Calls Try.prog 5 #[.slice a0 n0 c0, .int .i64 bit, .bool two] w fun e w' => e = .returned (.bool true) ∧ Below w.heap.size w w' := by
  have hlx := hx.len
  have hmx := hx.max
  have hpx := hx.le
  have hbw := wf_i64 hbit
  go_enter Try.func5, Try.ntmps5
  go_wp2_with fail
  refine alive_calls.mono ?_
  rintro e w1 ⟨rfl, hb1⟩
  by_cases hg : n0 ≤ 1000
  · have Hlx := Lib.hid hlx; clear hlx
    go_wp2_with fail
    refine (Seal_calls (hx.keep hb1) (by omega)).mono ?_
    rintro e w2 ⟨v, rfl, hv, hb2⟩
    have hB2 : Below w.heap.size w w2 := hb1.trans (hb2.mono hb1.size)
    have hv' := hv.mono hb1.size
    clear hb1 hb2 hv
    have hsl : (sealed xs).length = n0 + 3 := by rw [sealed_len, Hlx.out]
    obtain ⟨g, c, hve, hnc, hcm, hg2, hg2', hi2⟩ := hv'.shape hsl (by omega)
    rw [hve] at hv' ⊢
    clear hve
    go_wp2_with fail
    refine (Open_yes (m := n0) hi2 (by omega) (opened_of_sealed _) (sealed_cut _) Hlx.out).mono ?_
    rintro e w3 ⟨a3, c3, rfl, hi3, hb3⟩
    have hB3 : Below w.heap.size w w3 := hB2.trans (hb3.mono hB2.size)
    have hv3 := hv'.below hb3
    have Hsl := Lib.hid hsl; clear hsl
    clear hv' hi2 hB2 hg2' hb3
    go_wp2_with fail
    refine (below_of_drawn (SameBytes_to hi3 (hx.keep hB3) (decide_eq_true rfl))).mono ?_
    rintro e w4 ⟨rfl, hb4⟩
    have hB4 : Below w.heap.size w w4 := hB3.trans (hb4.mono hB3.size)
    have hv4 := hv3.below hb4
    clear hv3 hi3 hB3 hb4
    by_cases hbb : 0 ≤ bit ∧ bit < 8 * ((n0 : Int) + 3) - 1
    · obtain ⟨hb0, hb1⟩ := hbb
      obtain ⟨k, rfl⟩ := Int.eq_ofNat_of_zero_le hb0
      have hk8 : k / 8 < n0 + 3 := by omega
      obtain ⟨hcell, hfr⟩ := hv4.at Hsl.out (k / 8) hk8
      have hfit := hv4.2
      obtain ⟨x, hx256, hxD, hxE⟩ := getD_nat hfit (i := k / 8) (by rw [Hsl.out]; exact hk8)
      rw [hxD] at hcell
      have hX1 := xor_mask x (k % 8) hx256 (by omega)
      obtain ⟨m1, hm1⟩ : ∃ m, m = 128 / 2 ^ (k % 8) := ⟨_, rfl⟩
      have hm1' := mask_ne (k % 8) (by omega)
      rw [← hm1] at hX1 hm1'
      have hx1 := xor_byte_lt hx256 hm1'.2
      have hne1 : x ^^^ m1 ≠ x := xor_ne hm1'.1
      have hwf1 : (Lit.int .u8 ((x ^^^ m1 : Nat) : Int)).wf = true := WalkArith.wf_u8 (by omega)
      have hp1 := Own.put hv4 Hsl.out (k / 8) hwf1
      have hL1 : ((sealed xs).set (k / 8) ((x ^^^ m1 : Nat) : Int)).length = n0 + 3 := by rw [List.length_set, Hsl.out]
      have hxs := hx.fit
      cases two with
      | false =>
        have hno : opened ((sealed xs).set (k / 8) ((x ^^^ m1 : Nat) : Int)) = false :=
          not_opened hxs hp1.2 (crc_turn1 (by rw [Hsl.out]; exact hk8) hxE hne1 _)
        obtain ⟨g', c', hve, _, _, _, _, hi5⟩ := hp1.shape hL1 (by omega)
        simp only [Value.slice.injEq, Option.some.injEq, Addr.mk.injEq, and_true, true_and] at hve
        obtain ⟨rfl, rfl⟩ := hve
        have hB5 : Below w.heap.size w (w4.setCell ⟨g, k / 8, none⟩ (.int .u8 ((x ^^^ m1 : Nat) : Int))) := hB4.setCell hg2 _
        have HX1 := hX1
        have Hno := Lib.hid hno; clear hno
        clear hp1 hL1 hfit hxD hxE hm1 hm1' hne1 hwf1 hv4 hbw hbit
        go_wp2_with fail
        refine (Open_no hi5 (by omega) Hno.out).mono ?_
        rintro e w6 ⟨rfl, hb6⟩
        go_wp2
        go_ret
        exact ⟨rfl, hB5.trans (hb6.mono hB5.size)⟩
      | true =>
        by_cases hr : k % 8 < 7
        · have ek : (k + 1) / 8 = k / 8 := by omega
          have em : (k + 1) % 8 = k % 8 + 1 := by omega
          have hX2 := xor_mask (x ^^^ m1) (k % 8 + 1) hx1 (by omega)
          obtain ⟨m2, hm2⟩ : ∃ m, m = 128 / 2 ^ (k % 8 + 1) := ⟨_, rfl⟩
          have hm2' := mask_ne (k % 8 + 1) (by omega)
          have hm12 := mask_two (k % 8) hr
          rw [← hm1, ← hm2] at hm12
          rw [← hm2] at hX2 hm2'
          have hne2 : (x ^^^ m1) ^^^ m2 ≠ x := by rw [Nat.xor_assoc]; exact xor_ne hm12
          have hx2 := xor_byte_lt hx1 hm2'.2
          have hwf2 : (Lit.int .u8 (((x ^^^ m1) ^^^ m2 : Nat) : Int)).wf = true := WalkArith.wf_u8 (by omega)
          have hp2 := Own.put hp1 hL1 (k / 8) hwf2
          rw [List.set_set] at hp2
          have hL2 : ((sealed xs).set (k / 8) (((x ^^^ m1) ^^^ m2 : Nat) : Int)).length = n0 + 3 := by rw [List.length_set, Hsl.out]
          have hno : opened ((sealed xs).set (k / 8) (((x ^^^ m1) ^^^ m2 : Nat) : Int)) = false :=
            not_opened hxs hp2.2 (crc_turn1 (by rw [Hsl.out]; exact hk8) hxE hne2 _)
          obtain ⟨g', c', hve, _, _, _, _, hi5⟩ := hp2.shape hL2 (by omega)
          simp only [Value.slice.injEq, Option.some.injEq, Addr.mk.injEq, and_true, true_and] at hve
          obtain ⟨rfl, rfl⟩ := hve
          have hB5 : Below w.heap.size w ((w4.setCell ⟨g, k / 8, none⟩ (.int .u8 ((x ^^^ m1 : Nat) : Int))).setCell ⟨g, k / 8, none⟩ (.int .u8 (((x ^^^ m1) ^^^ m2 : Nat) : Int))) := (hB4.setCell hg2 _).setCell hg2 _
          obtain ⟨x1, hx1e⟩ : ∃ y, y = x ^^^ m1 := ⟨_, rfl⟩
          rw [← hx1e] at hX1 hX2 hi5 hB5 hno hx1
          obtain ⟨x2, hx2e⟩ : ∃ y, y = x1 ^^^ m2 := ⟨_, rfl⟩
          rw [← hx2e] at hX2 hi5 hB5 hno
          have Hno := Lib.hid hno; clear hno
          clear hp1 hp2 hL1 hL2 hfit hxD hxE hm1 hm1' hm2 hm2' hm12 hne1 hne2 hwf1 hwf2 hv4 hbw hbit hx1e hx2e hx2
          go_wp2_with fail
          refine (Open_no hi5 (by omega) Hno.out).mono ?_
          rintro e w6 ⟨rfl, hb6⟩
          go_wp2
          go_ret
          exact ⟨rfl, hB5.trans (hb6.mono hB5.size)⟩
        · have ek : (k + 1) / 8 = k / 8 + 1 := by omega
          have em : (k + 1) % 8 = 0 := by omega
          have hk9 : k / 8 + 1 < n0 + 3 := by omega
          have hm1e : m1 = 1 := by rw [hm1, show k % 8 = 7 by omega]
          obtain ⟨hcell2, hfr2⟩ := hv4.at Hsl.out (k / 8 + 1) hk9
          obtain ⟨y, hy256, hyD, hyE⟩ := getD_nat hfit (i := k / 8 + 1) (by rw [Hsl.out]; exact hk9)
          rw [hyD] at hcell2
          have hX2 : bits .xor .u8 (y : Int) 128 = ((y ^^^ 128 : Nat) : Int) := u8_xor_nat y 128 hy256 (by decide)
          have hy1 := xor_byte_lt (m := 128) hy256 (by decide)
          have hwf2 : (Lit.int .u8 ((y ^^^ 128 : Nat) : Int)).wf = true := WalkArith.wf_u8 (by omega)
          have hp2 := Own.put hp1 hL1 (k / 8 + 1) hwf2
          have hL2 : (((sealed xs).set (k / 8) ((x ^^^ m1 : Nat) : Int)).set (k / 8 + 1) ((y ^^^ 128 : Nat) : Int)).length = n0 + 3 := by rw [List.length_set, List.length_set, Hsl.out]
          have hno : opened (((sealed xs).set (k / 8) ((x ^^^ m1 : Nat) : Int)).set (k / 8 + 1) ((y ^^^ 128 : Nat) : Int)) = false :=
            not_opened hxs hp2.2 (by rw [hm1e]; exact crc_turn2 (by rw [Hsl.out]; exact hk9) hxE hyE _)
          obtain ⟨g', c', hve, _, _, _, _, hi5⟩ := hp2.shape hL2 (by omega)
          simp only [Value.slice.injEq, Option.some.injEq, Addr.mk.injEq, and_true, true_and] at hve
          obtain ⟨rfl, rfl⟩ := hve
          have hB5 : Below w.heap.size w ((w4.setCell ⟨g, k / 8, none⟩ (.int .u8 ((x ^^^ m1 : Nat) : Int))).setCell ⟨g, k / 8 + 1, none⟩ (.int .u8 ((y ^^^ 128 : Nat) : Int))) := (hB4.setCell hg2 _).setCell hg2 _
          obtain ⟨x1, hx1e⟩ : ∃ z, z = x ^^^ m1 := ⟨_, rfl⟩
          rw [← hx1e] at hX1 hi5 hB5 hno hx1
          obtain ⟨y1, hy1e⟩ : ∃ z, z = y ^^^ 128 := ⟨_, rfl⟩
          rw [← hy1e] at hX2 hi5 hB5 hno hy1
          have Hno := Lib.hid hno; clear hno
          clear hp1 hp2 hL1 hL2 hfit hxD hxE hyD hyE hm1 hm1' hm1e hne1 hwf1 hwf2 hv4 hbw hbit hx1e hy1e
          go_wp2_with fail
          refine (Open_no hi5 (by omega) Hno.out).mono ?_
          rintro e w6 ⟨rfl, hb6⟩
          go_wp2
          go_ret
          exact ⟨rfl, hB5.trans (hb6.mono hB5.size)⟩
    · by_cases hneg : bit < 0
      · go_wp2
        all_goals go_ret
        all_goals exact ⟨rfl, hB4⟩
      · have hge : 8 * ((n0 : Int) + 3) - 1 ≤ bit := by omega
        go_wp2
        all_goals go_ret
        all_goals exact ⟨rfl, hB4⟩
  · go_wp2
    all_goals go_ret
    all_goals exact ⟨rfl, hb1⟩
end Go.Proofs.Ythngobceagdokaa
