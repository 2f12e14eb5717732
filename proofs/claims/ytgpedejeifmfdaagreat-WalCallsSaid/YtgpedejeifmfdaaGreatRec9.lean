/- rec.All. -/
import Derived.Test.YtgpedejeifmfdaaGreatRec8
namespace Go.Proofs.YtgpedejeifmfdaaGreat
open Go.RowKit

abbrev rcE : TypeId := 63
set_option maxRecDepth 100000 in
theorem rcElem : Elem Tryz.prog rcF 33 63 := ⟨Tryz.underlying33, by
  refine ⟨_, _, rfl, rfl, rfl, rfl, by decide⟩⟩
abbrev RcOwn := ROwn rcF rcE
def sliceLen (v : Value) : Nat := match v with | .slice _ n _ => n | _ => 0
set_option maxRecDepth 100000 in
theorem rest_slice {w : World} {g o n c m : Nat} {zs : List Int} (h : Ints w .u8 (some ⟨g, o, none⟩) n c zs) (hm : m ≤ n) : ∃ A, A = (if c = m then some (⟨g, o, none⟩ : Addr) else some ⟨g, o + m, none⟩) ∧ Ints w .u8 A (n - m) (c - m) (zs.drop m) := by
  refine ⟨_, rfl, ?_⟩
  by_cases hc : c = m
  · rw [if_pos hc]
    have := h.le
    have := h.len
    obtain rfl : m = n := by omega
    have e : zs.drop m = [] := List.drop_eq_nil_of_le (by omega)
    rw [e, Nat.sub_self]
    exact Ints.empty w .u8 _ _ (by have := h.max; omega)
  · rw [if_neg hc]
    exact h.dropAt m hm
set_option maxHeartbeats 4000000 in
set_option maxRecDepth 100000 in
theorem All_calls {w : World} {a : Option Addr} {L c : Nat} {zs : List Int} (hx : Ints w .u8 a L c zs) (hL : L ≤ 900000) : Calls Tryz.prog 34 #[.slice a L c] w fun e w' =>
    ∃ v, e = .returned (.tuple #[v, .int .i64 ((allR zs).2 : Nat)]) ∧ RcOwn w' w.heap.size v (allR zs).1 ∧ Below w.heap.size w w' := by
  obtain ⟨AL, hAL⟩ : ∃ A, A = allR zs := ⟨_, rfl⟩
  rw [← hAL]
  have HAL := Lib.hid hAL; clear hAL
  have hzl := hx.len
  have Hx := Lib.hid hx; clear hx
  have Hzl := Lib.hid hzl; clear hzl
  go_enter Tryz.func34, Tryz.ntmps34
  go_wp2_with fail
  go_loopw [4, 5] (fun u r wr => ∃ (out : List Rc) (k : Nat) (a' : Option Addr) (c' : Nat), RcOwn wr w.heap.size u out ∧ r = .slice a' (L - k) c' ∧ k ≤ L ∧ Ints w .u8 a' (L - k) c' (zs.drop k) ∧ AL = (out ++ (allR (zs.drop k)).1, k + (allR (zs.drop k)).2) ∧ out.length ≤ k ∧ Below w.heap.size w wr) (fun _ r _ => sliceLen r)
  case atStart => exact ⟨[], 0, a, c, ROwn.nil _ _, rfl, Nat.zero_le _, Hx.out, by rw [HAL.out, List.drop_zero, List.nil_append, Nat.zero_add], Nat.le_refl _, Below.refl _ _⟩
  case round =>
    obtain ⟨out, k, a', c', hout, rfl, hk, hr, hAL, hlen, hb⟩ := hrel
    obtain ⟨wo, rfl⟩ : ∃ wo, wo = wr := ⟨_, rfl⟩
    have hde := Decode_calls (hr.keep hb)
    have hdl := dec_le (zs.drop k)
    have hd0 : (dec (zs.drop k)).2 = 0 → allR (zs.drop k) = ([], 0) := all_none
    have hd1 : (dec (zs.drop k)).2 ≠ 0 → allR (zs.drop k) = ((dec (zs.drop k)).1 :: (allR (zs.drop (k + (dec (zs.drop k)).2))).1, (dec (zs.drop k)).2 + (allR (zs.drop (k + (dec (zs.drop k)).2))).2) := fun h => by
      rw [all_more h, List.drop_drop]
    rw [List.length_drop, Hzl.out] at hdl
    obtain ⟨D, hD⟩ : ∃ D, D = dec (zs.drop k) := ⟨_, rfl⟩
    rw [← hD] at hde hdl hd0 hd1
    clear hD
    obtain ⟨⟨kd, t, m, k0, k1, k2, k3, ot, o, nt, n⟩, N⟩ := D
    simp only [Rc.cells] at hde
    simp only at hdl hd0 hd1
    obtain ⟨va, vc, rfl⟩ := hout.shape
    have Hout := Lib.hid hout; clear hout
    have Hr := Lib.hid hr; clear hr
    have HA := Lib.hid hAL; clear hAL
    have Hb := Lib.hid hb; clear hb
    have Hde := Lib.hid hde; clear hde
    have Hd0 := Lib.hid hd0; clear hd0
    have Hd1 := Lib.hid hd1; clear hd1
    go_wp2_with fail
    refine Hde.out.mono ?_
    rintro e w5 ⟨rfl, bk⟩
    have o5 := Hout.out.below bk
    have b5 := Hb.out.trans (bk.mono Hb.out.size)
    clear Hout Hb bk Hde
    obtain ⟨w6, hw6⟩ : ∃ w6, w6 = w5.alloc (.cells #[.int .i64 kd, .int .i64 t, .int .u16 m, .int .u8 k0, .int .u8 k1, .int .u8 k2, .int .u8 k3, .bool ot, .int .i64 o, .bool nt, .int .i64 n] 63) := ⟨_, rfl⟩
    have b56 : Below w5.heap.size w5 w6 := by rw [hw6]; exact (Below.refl _ _).alloc (Nat.le_refl _) _
    have z6 : w6.heap[w5.heap.size]? = some (.cells #[.int .i64 kd, .int .i64 t, .int .u16 m, .int .u8 k0, .int .u8 k1, .int .u8 k2, .int .u8 k3, .bool ot, .int .i64 o, .bool nt, .int .i64 n] 63 (0, 0)) := by rw [hw6]; exact heap_alloc_new w5 _
    have o6 := o5.below b56
    have b6 := b5.trans (b56.mono b5.size)
    have s6 : w6.heap.size = w5.heap.size + 1 := by rw [hw6, World.size_alloc]
    clear o5 b5 b56
    have O6 := Lib.hid o6; clear o6
    have B6 := Lib.hid b6; clear b6
    have Z6 := Lib.hid z6; clear z6
    have S6 := Lib.hid s6; clear s6
    by_cases hN : N = 0
    · subst hN
      have hA := HA.out
      rw [Hd0.out rfl, List.append_nil, Nat.add_zero] at hA
      have HA2 := Lib.hid hA; clear hA HA Hd1
      have e1 : (L : Int) - ((L - k : Nat) : Int) = (k : Int) := by omega
      go_wp2_with fail
      rw [← hw6]
      clear hw6
      go_ret2
      exact ⟨_, by rw [HA2.out]; rfl, by rw [HA2.out]; exact O6.out, B6.out⟩
    · have d0 : ((N : Int) == 0) = false := by simpa using hN
      have hA := HA.out
      rw [Hd1.out hN] at hA
      have hN1 : 1 ≤ N := by omega
      have HA2 := Lib.hid hA; clear hA HA Hd0 Hd1 hN
      have hNl : N ≤ L - k := by omega
      obtain ⟨g6, p6, rfl, -⟩ := Hr.out.cell (by omega)
      obtain ⟨A, hAd, hr7⟩ := rest_slice Hr.out hNl
      rw [List.drop_drop] at hr7
      have hle6 := Hr.out.le
      have hmx6 := Hr.out.max
      have Hr7 := Lib.hid hr7; clear hr7
      have Z7 := Z6
      have y0 := cells_at Z6.out 0
      have y1 := cells_at Z6.out 1
      have y2 := cells_at Z6.out 2
      have y3 := cells_at Z6.out 3
      have y4 := cells_at Z6.out 4
      have y5 := cells_at Z6.out 5
      have y6 := cells_at Z6.out 6
      have y7 := cells_at Z6.out 7
      have y8 := cells_at Z6.out 8
      have y9 := cells_at Z6.out 9
      have y10 := cells_at Z6.out 10
      go_wp2_with (with_reducible refine stop_load 63 ?_)
      refine unpark ?_
      rw [← hw6]
      clear hw6
      go_wp2_with (with_reducible refine stop_builtin .append ?_)
      refine unpark ?_
      clear y0 y1 y2 y3 y4 y5 y6 y7 y8 y9 y10
      have b67 := (Below.refl w6.heap.size w6).alloc (Nat.le_refl _) (.cells #[.int .i64 kd, .int .i64 t, .int .u16 m, .int .u8 k0, .int .u8 k1, .int .u8 k2, .int .u8 k3, .bool ot, .int .i64 o, .bool nt, .int .i64 n] 63)
      have z7 := heap_alloc_new w6 (.cells #[.int .i64 kd, .int .i64 t, .int .u16 m, .int .u8 k0, .int .u8 k1, .int .u8 k2, .int .u8 k3, .bool ot, .int .i64 o, .bool nt, .int .i64 n] 63)
      have o7 := O6.out.below b67
      have b7 := B6.out.trans (b67.mono B6.out.size)
      generalize w6.alloc (.cells #[.int .i64 kd, .int .i64 t, .int .u16 m, .int .u8 k0, .int .u8 k1, .int .u8 k2, .int .u8 k3, .bool ot, .int .i64 o, .bool nt, .int .i64 n] 63) = w7 at *
      refine wpList_append_rec1 rcElem _ rfl _ _ rfl w.heap.size (.slice va out.length vc) out rfl o7 w6.heap.size 1 (by decide) (by decide) ⟨kd, t, m, k0, k1, k2, k3, ot, o, nt, n⟩ rfl z7 (fun j u hu => by rw [List.getElem?_toArray]; exact hu) (by omega) b7.size ?_
      intro v' w8 own8 g8 _
      have b8 := b7.grown g8 b7.size (fun k hk => (o7.lt k hk).1)
      obtain ⟨v8, c8, rfl⟩ := own8.shape
      have Own8 := Lib.hid own8; clear own8 o7
      have B8 := Lib.hid b8; clear b8 b7 b67 z7 g8
      have hA2 := HA2.out
      have hA3 : AL = ((out ++ [⟨kd, t, m, k0, k1, k2, k3, ot, o, nt, n⟩]) ++ (allR (zs.drop (k + N))).1, (k + N) + (allR (zs.drop (k + N))).2) := by rw [hA2, List.append_assoc, Nat.add_assoc]; rfl
      have HA3 := Lib.hid hA3; clear hA3 hA2 HA2
      have hsub : L - k - N = L - (k + N) := by omega
      have hn2 : (N : Int) ≤ ((L - k : Nat) : Int) := by omega
      have hlen2 : (out ++ [(⟨kd, t, m, k0, k1, k2, k3, ot, o, nt, n⟩ : Rc)]).length ≤ k + N := by simp; omega
      clear O6 B6 Z6 Z7 S6
      by_cases hc : c' = N
      · rw [if_pos hc] at hAd
        subst hAd
        have hr7 := Hr7.out
        rw [hsub] at hr7
        have hs0 : L - (k + N) = 0 := by omega
        have hs1 : L - k = N := by omega
        have HR8 := Lib.hid hr7; clear hr7 Hr7
        generalize (out ++ [(⟨kd, t, m, k0, k1, k2, k3, ot, o, nt, n⟩ : Rc)]) = out2 at *
        go_wp2
        go_roundw
        case rel => exact ⟨out2, k + N, _, _, Own8.out, by rw [hs0, show c' - N = 0 by omega], by omega, HR8.out, HA3.out, hlen2, B8.out⟩
        case measure => simp [sliceLen]; omega
      · rw [if_neg hc] at hAd
        subst hAd
        have hr7 := Hr7.out
        rw [hsub] at hr7
        have HR8 := Lib.hid hr7; clear hr7 Hr7
        generalize (out ++ [(⟨kd, t, m, k0, k1, k2, k3, ot, o, nt, n⟩ : Rc)]) = out2 at *
        go_wp2
        go_roundw
        case rel => exact ⟨out2, k + N, _, _, Own8.out, by rw [← hsub], by omega, HR8.out, HA3.out, hlen2, B8.out⟩
        case measure => simp [sliceLen]; omega
end Go.Proofs.YtgpedejeifmfdaaGreat
