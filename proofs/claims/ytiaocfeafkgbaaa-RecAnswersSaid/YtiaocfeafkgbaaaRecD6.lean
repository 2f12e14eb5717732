/- The document's All. -/
import Derived.Test.YtiaocfeafkgbaaaRecD5
namespace Go.Proofs.Ytiaocfeafkgbaaa
open Go.RowKit

theorem all_empty : allR [] = ([], 0) := all_none rfl
theorem RDecode_nil {w : World} {a : Option Addr} {c : Nat} (hc : c ≤ 9223372036854775807) : Calls Try.prog 16 #[.slice a 0 c] w fun e w' => e = .returned (.tuple #[.agg #[.int .i64 0, .int .i64 0, .int .u16 0, .int .u8 0, .int .u8 0, .int .u8 0, .int .u8 0, .bool false, .int .i64 0, .bool false, .int .i64 0], .int .i64 0]) ∧ Below w.heap.size w w' :=
  (RDecode_calls (Ints.empty w .u8 a c hc)).mono fun _ _ h => h
set_option maxHeartbeats 4000000 in
theorem RAll_nil {w : World} : Calls Try.prog 17 #[.slice none 0 0] w fun e w' =>
    ∃ v, e = .returned (.tuple #[v, .int .i64 0]) ∧ RcOwn w' w.heap.size v [] ∧ Below w.heap.size w w' := by
  have o1 := ROwn.made (F := rcF) (E := rcE) w
  have b1 := (Below.refl w.heap.size w).alloc (Nat.le_refl _) (.cells #[] 34)
  obtain ⟨w1, hw1⟩ : ∃ w1, w1 = w.alloc (.cells #[] 34) := ⟨_, rfl⟩
  rw [show w.alloc (.cells #[] rcE) = w1 from hw1.symm] at o1
  rw [← hw1] at b1
  have hde := RDecode_nil (w := w1) (a := none) (c := 0) (by decide)
  have O1 := Lib.hid o1; clear o1
  have B1 := Lib.hid b1; clear b1
  have Hde := Lib.hid hde; clear hde
  go_enter Try.func17, Try.ntmps17
  go_wp2_with fail
  rw [← hw1]
  clear hw1
  refine wp_loop_rounds 1 ?_
  rw [rounds_succ]
  go_wp2_with fail
  refine Hde.out.mono ?_
  rintro e w2 ⟨rfl, bk⟩
  have o2 := O1.out.below bk
  have b2 := B1.out.trans (bk.mono B1.out.size)
  clear O1 B1 bk Hde
  have b3 := (Below.refl w2.heap.size w2).alloc (Nat.le_refl _) (.cells #[.int .i64 0, .int .i64 0, .int .u16 0, .int .u8 0, .int .u8 0, .int .u8 0, .int .u8 0, .bool false, .int .i64 0, .bool false, .int .i64 0] 34)
  have o3 := o2.below b3
  have b03 := b2.trans (b3.mono b2.size)
  clear o2 b2 b3
  have O3 := Lib.hid o3; clear o3
  have B3 := Lib.hid b03; clear b03
  go_wp2_with fail
  go_ret2
  exact ⟨_, rfl, O3.out, B3.out⟩
set_option maxHeartbeats 4000000 in
theorem RAll_zero {w : World} (ad : Addr) {c : Nat} (hc : c ≤ 9223372036854775807) : Calls Try.prog 17 #[.slice (some ad) 0 c] w fun e w' =>
    ∃ v, e = .returned (.tuple #[v, .int .i64 0]) ∧ RcOwn w' w.heap.size v [] ∧ Below w.heap.size w w' := by
  have o1 := ROwn.made (F := rcF) (E := rcE) w
  have b1 := (Below.refl w.heap.size w).alloc (Nat.le_refl _) (.cells #[] 34)
  obtain ⟨w1, hw1⟩ : ∃ w1, w1 = w.alloc (.cells #[] 34) := ⟨_, rfl⟩
  rw [show w.alloc (.cells #[] rcE) = w1 from hw1.symm] at o1
  rw [← hw1] at b1
  have hde := fun a c' (h : c' ≤ 9223372036854775807) => RDecode_nil (w := w1) (a := a) (c := c') h
  have O1 := Lib.hid o1; clear o1
  have B1 := Lib.hid b1; clear b1
  have Hde := Lib.hid hde; clear hde
  by_cases h0 : c = 0
  · subst h0
    go_enter Try.func17, Try.ntmps17
    go_wp2_with fail
    rw [← hw1]
    clear hw1
    refine wp_loop_rounds 1 ?_
    rw [rounds_succ]
    go_wp2_with fail
    refine (Hde.out _ _ (by omega)).mono ?_
    rintro e w2 ⟨rfl, bk⟩
    have o2 := O1.out.below bk
    have b2 := B1.out.trans (bk.mono B1.out.size)
    clear O1 B1 bk Hde
    have b3 := (Below.refl w2.heap.size w2).alloc (Nat.le_refl _) (.cells #[.int .i64 0, .int .i64 0, .int .u16 0, .int .u8 0, .int .u8 0, .int .u8 0, .int .u8 0, .bool false, .int .i64 0, .bool false, .int .i64 0] 34)
    have o3 := o2.below b3
    have b03 := b2.trans (b3.mono b2.size)
    clear o2 b2 b3
    have O3 := Lib.hid o3; clear o3
    have B3 := Lib.hid b03; clear b03
    go_wp2_with fail
    go_ret2
    exact ⟨_, rfl, O3.out, B3.out⟩
  have h1 : ¬ c = 0 := h0
  clear h0
  go_enter Try.func17, Try.ntmps17
  go_wp2_with fail
  rw [← hw1]
  clear hw1
  refine wp_loop_rounds 1 ?_
  rw [rounds_succ]
  go_wp2_with fail
  refine (Hde.out _ _ (by omega)).mono ?_
  rintro e w2 ⟨rfl, bk⟩
  have o2 := O1.out.below bk
  have b2 := B1.out.trans (bk.mono B1.out.size)
  clear O1 B1 bk Hde
  have b3 := (Below.refl w2.heap.size w2).alloc (Nat.le_refl _) (.cells #[.int .i64 0, .int .i64 0, .int .u16 0, .int .u8 0, .int .u8 0, .int .u8 0, .int .u8 0, .bool false, .int .i64 0, .bool false, .int .i64 0] 34)
  have o3 := o2.below b3
  have b03 := b2.trans (b3.mono b2.size)
  clear o2 b2 b3
  have O3 := Lib.hid o3; clear o3
  have B3 := Lib.hid b03; clear b03
  go_wp2_with fail
  go_ret2
  exact ⟨_, rfl, O3.out, B3.out⟩
set_option maxHeartbeats 8000000 in
theorem RAll_calls {w : World} {gb go_ L c : Nat} {zs : List Int} (hx : Ints w .u8 (some ⟨gb, go_, none⟩) L c zs) (hL : L ≤ 900000) : Calls Try.prog 17 #[.slice (some ⟨gb, go_, none⟩) L c] w fun e w' =>
    ∃ v, e = .returned (.tuple #[v, .int .i64 ((allR zs).2 : Nat)]) ∧ RcOwn w' w.heap.size v (allR zs).1 ∧ Below w.heap.size w w' := by
  obtain ⟨AL, hAL⟩ : ∃ A, A = allR zs := ⟨_, rfl⟩
  rw [← hAL]
  have HAL := Lib.hid hAL; clear hAL
  have hzl := hx.len
  have hle := hx.le
  have hmx := hx.max
  have Hx := Lib.hid hx; clear hx
  have Hzl := Lib.hid hzl; clear hzl
  have o1 := ROwn.made (F := rcF) (E := rcE) w
  have b1 := (Below.refl w.heap.size w).alloc (Nat.le_refl _) (.cells #[] 34)
  have O1 := Lib.hid o1; clear o1
  have B1 := Lib.hid b1; clear b1
  go_enter Try.func17, Try.ntmps17
  go_wp2_with fail
  go_loopw [4, 5] (fun u r wr => ∃ (out : List Rc) (k : Nat), RcOwn wr w.heap.size u out ∧ r = .int .i64 k ∧ k ≤ L ∧ AL = (out ++ (allR (zs.drop k)).1, k + (allR (zs.drop k)).2) ∧ out.length ≤ k ∧ Below w.heap.size w wr) (fun _ r _ => L - (intOf r).toNat)
  case atStart => exact ⟨[], 0, O1.out, rfl, Nat.zero_le _, by rw [HAL.out, List.drop_zero, List.nil_append, Nat.zero_add], Nat.le_refl _, B1.out⟩
  case round =>
    clear O1 B1
    obtain ⟨out, k, hout, rfl, hk, hAL, hlen, hb⟩ := hrel
    obtain ⟨wo, rfl⟩ : ∃ wo, wo = wr := ⟨_, rfl⟩
    by_cases hck : c = k
    · obtain rfl : L = k := by omega
      subst hck
      have e0 : zs.drop c = [] := List.drop_eq_nil_of_le (by rw [Hzl.out]; exact Nat.le_refl _)
      rw [e0, all_empty, List.append_nil, Nat.add_zero] at hAL
      have hde := RDecode_nil (w := wo) (a := some ⟨gb, go_, none⟩) (c := 0) (by decide)
      have Hde := Lib.hid hde; clear hde
      have HA := Lib.hid hAL; clear hAL
      have Hout := Lib.hid hout; clear hout
      have Hb := Lib.hid hb; clear hb e0
      go_wp2_with fail
      refine Hde.out.mono ?_
      rintro e w5 ⟨rfl, bk⟩
      have o5 := Hout.out.below bk
      have b5 := Hb.out.trans (bk.mono Hb.out.size)
      have b56 := (Below.refl w5.heap.size w5).alloc (Nat.le_refl _) (.cells #[.int .i64 0, .int .i64 0, .int .u16 0, .int .u8 0, .int .u8 0, .int .u8 0, .int .u8 0, .bool false, .int .i64 0, .bool false, .int .i64 0] 34)
      have o6 := o5.below b56
      have b6 := b5.trans (b56.mono b5.size)
      clear o5 b5 b56 bk Hout Hb
      have O6 := Lib.hid o6; clear o6
      have B6 := Lib.hid b6; clear b6
      go_wp2_with fail
      go_ret2
      exact ⟨_, by rw [HA.out]; rfl, by rw [HA.out]; exact O6.out, B6.out⟩
    · have hr := Hx.out.dropAt k hk
      have hde := RDecode_calls (hr.keep hb)
      have hdl := dec_le (zs.drop k)
      have hd0 : (dec (zs.drop k)).2 = 0 → allR (zs.drop k) = ([], 0) := all_none
      have hd1 : (dec (zs.drop k)).2 ≠ 0 → allR (zs.drop k) = ((dec (zs.drop k)).1 :: (allR (zs.drop (k + (dec (zs.drop k)).2))).1, (dec (zs.drop k)).2 + (allR (zs.drop (k + (dec (zs.drop k)).2))).2) := fun h => by
        rw [all_more h, List.drop_drop]
      rw [List.length_drop, Hzl.out] at hdl
      obtain ⟨D, hD⟩ : ∃ D, D = dec (zs.drop k) := ⟨_, rfl⟩
      rw [← hD] at hde hdl hd0 hd1
      clear hD
      obtain ⟨⟨kd, t, m, k0, k1, k2, k3, ot, o, nt, n⟩, N⟩ := D
      simp only [Rc.cells] at hde
      simp only at hdl hd0 hd1
      obtain ⟨va, vc, rfl⟩ := hout.shape
      have Hout := Lib.hid hout; clear hout
      have Hr := Lib.hid hr; clear hr
      have HA := Lib.hid hAL; clear hAL
      have Hb := Lib.hid hb; clear hb
      have Hde := Lib.hid hde; clear hde
      have Hd0 := Lib.hid hd0; clear hd0
      have Hd1 := Lib.hid hd1; clear hd1
      go_wp2_with fail
      refine Hde.out.mono ?_
      rintro e w5 ⟨rfl, bk⟩
      have o5 := Hout.out.below bk
      have b5 := Hb.out.trans (bk.mono Hb.out.size)
      clear Hout Hb bk Hde
      obtain ⟨w6, hw6⟩ : ∃ w6, w6 = w5.alloc (.cells #[.int .i64 kd, .int .i64 t, .int .u16 m, .int .u8 k0, .int .u8 k1, .int .u8 k2, .int .u8 k3, .bool ot, .int .i64 o, .bool nt, .int .i64 n] 34) := ⟨_, rfl⟩
      have b56 : Below w5.heap.size w5 w6 := by rw [hw6]; exact (Below.refl _ _).alloc (Nat.le_refl _) _
      have z6 : w6.heap[w5.heap.size]? = some (.cells #[.int .i64 kd, .int .i64 t, .int .u16 m, .int .u8 k0, .int .u8 k1, .int .u8 k2, .int .u8 k3, .bool ot, .int .i64 o, .bool nt, .int .i64 n] 34 (0, 0)) := by rw [hw6]; exact heap_alloc_new w5 _
      have o6 := o5.below b56
      have b6 := b5.trans (b56.mono b5.size)
      have s6 : w6.heap.size = w5.heap.size + 1 := by rw [hw6, World.size_alloc]
      clear o5 b5 b56
      have O6 := Lib.hid o6; clear o6
      have B6 := Lib.hid b6; clear b6
      have Z6 := Lib.hid z6; clear z6
      have S6 := Lib.hid s6; clear s6
      by_cases hN : N = 0
      · subst hN
        have hA := HA.out
        rw [Hd0.out rfl, List.append_nil, Nat.add_zero] at hA
        have HA2 := Lib.hid hA; clear hA HA Hd1
        go_wp2_with fail
        rw [← hw6]
        clear hw6
        go_ret2
        exact ⟨_, by rw [HA2.out]; rfl, by rw [HA2.out]; exact O6.out, B6.out⟩
      · have d0 : ((N : Int) == 0) = false := by simpa using hN
        have hA := HA.out
        rw [Hd1.out hN] at hA
        have hN1 : 1 ≤ N := by omega
        have HA2 := Lib.hid hA; clear hA HA Hd0 Hd1 hN
        have hNl : N ≤ L - k := by omega
        have Z7 := Z6
        have y0 := cells_at Z6.out 0
        have y1 := cells_at Z6.out 1
        have y2 := cells_at Z6.out 2
        have y3 := cells_at Z6.out 3
        have y4 := cells_at Z6.out 4
        have y5 := cells_at Z6.out 5
        have y6 := cells_at Z6.out 6
        have y7 := cells_at Z6.out 7
        have y8 := cells_at Z6.out 8
        have y9 := cells_at Z6.out 9
        have y10 := cells_at Z6.out 10
        go_wp2_with (with_reducible refine stop_load 34 ?_)
        refine unpark ?_
        rw [← hw6]
        clear hw6
        go_wp2_with (with_reducible refine stop_builtin .append ?_)
        refine unpark ?_
        clear y0 y1 y2 y3 y4 y5 y6 y7 y8 y9 y10
        have b67 := (Below.refl w6.heap.size w6).alloc (Nat.le_refl _) (.cells #[.int .i64 kd, .int .i64 t, .int .u16 m, .int .u8 k0, .int .u8 k1, .int .u8 k2, .int .u8 k3, .bool ot, .int .i64 o, .bool nt, .int .i64 n] 34)
        have z7 := heap_alloc_new w6 (.cells #[.int .i64 kd, .int .i64 t, .int .u16 m, .int .u8 k0, .int .u8 k1, .int .u8 k2, .int .u8 k3, .bool ot, .int .i64 o, .bool nt, .int .i64 n] 34)
        have o7 := O6.out.below b67
        have b7 := B6.out.trans (b67.mono B6.out.size)
        generalize w6.alloc (.cells #[.int .i64 kd, .int .i64 t, .int .u16 m, .int .u8 k0, .int .u8 k1, .int .u8 k2, .int .u8 k3, .bool ot, .int .i64 o, .bool nt, .int .i64 n] 34) = w7 at *
        refine wpList_append_rec1 rcElem _ rfl _ _ rfl w.heap.size (.slice va out.length vc) out rfl o7 w6.heap.size 1 (by decide) (by decide) ⟨kd, t, m, k0, k1, k2, k3, ot, o, nt, n⟩ rfl z7 (fun j u hu => by rw [List.getElem?_toArray]; exact hu) (by omega) b7.size ?_
        intro v' w8 own8 g8 _
        have b8 := b7.grown g8 b7.size (fun k hk => (o7.lt k hk).1)
        obtain ⟨v8, c8, rfl⟩ := own8.shape
        have Own8 := Lib.hid own8; clear own8 o7
        have B8 := Lib.hid b8; clear b8 b7 b67 z7 g8
        have hA2 := HA2.out
        have hA3 : AL = ((out ++ [⟨kd, t, m, k0, k1, k2, k3, ot, o, nt, n⟩]) ++ (allR (zs.drop (k + N))).1, (k + N) + (allR (zs.drop (k + N))).2) := by rw [hA2, List.append_assoc, Nat.add_assoc]; rfl
        have HA3 := Lib.hid hA3; clear hA3 hA2 HA2
        have hlen2 : (out ++ [(⟨kd, t, m, k0, k1, k2, k3, ot, o, nt, n⟩ : Rc)]).length ≤ k + N := by simp; omega
        clear O6 B6 Z6 Z7 S6
        generalize (out ++ [(⟨kd, t, m, k0, k1, k2, k3, ot, o, nt, n⟩ : Rc)]) = out2 at *
        go_wp2
        go_roundw
        case rel => exact ⟨out2, k + N, Own8.out, rfl, by omega, HA3.out, hlen2, B8.out⟩
        case measure => simp [intOf]; omega
end Go.Proofs.Ytiaocfeafkgbaaa
