/- slices.Backward over ints, over bytes: what comes, and what is kept. -/
import Derived.RangeFuncBox
import Derived.RangeFuncLeaves
import Derived.RangeFuncNested
import Derived.Shelf.Abstract
import Derived.WalkKit
import Derived.OwnWalkIn
import Derived.TacticsInMore
import Derived.LoopNIn
import Derived.LoopIn
import Derived.Test.YtgpedejeifmfdaaGreatBase
import Derived.Test.YtgpedejeifmfdaaGreatChecked
namespace Go.Proofs.YtgpedejeifmfdaaGreat
open Go.RowKit Go.Shelf
attribute [local go_sem] Oper.semAt_some

abbrev Ix (n : Nat) : Type := { j : Nat // j < n }
def valAt (q : IntKind) (zs : List Int) (n : Nat) (x : Ix n) : Array Value := #[.int .i64 (x.1 : Int), .int q (zs[x.1]?.getD 0)]
/-- What a round keeps: what lay below, and the box of the slice. -/
def KpB (n₀ Bs : Nat) (W W' : World) : Prop := Below n₀ W W' ∧ W'.cell? ⟨Bs, 0, none⟩ = W.cell? ⟨Bs, 0, none⟩
theorem KpB.refl (n₀ Bs : Nat) (W : World) : KpB n₀ Bs W W := ⟨Below.refl _ _, rfl⟩
theorem KpB.trans {n₀ Bs : Nat} {A B C : World} (h : KpB n₀ Bs A B) (k : KpB n₀ Bs B C) : KpB n₀ Bs A C := ⟨h.1.trans k.1, k.2.trans h.2⟩
theorem KpB.put {n₀ Bs : Nat} {w : World} (hn : n₀ ≤ w.heap.size) (hB : Bs < w.heap.size) (W : World) (l : Nat) (o o' : Obj) (hl : w.heap.size ≤ l) (h : W.heap[l]? = some o) (h1 : o.isCells = false) (h2 : o.isWalk = false) : KpB n₀ Bs W (W.putObj l o') :=
  ⟨belowK_b hn W l o o' hl h h1 h2, (belowK_b (n₀ := w.heap.size) (Nat.le_refl _) W l o o' hl h h1 h2).cell (p := ⟨Bs, 0, none⟩) hB⟩
/-- A row of numbers in a block below B. -/
def RowB (B : Nat) (W : World) (q : IntKind) (a : Option Addr) (n : Nat) (zs : List Int) : Prop :=
  0 < n → ∃ b o, a = some ⟨b, o, none⟩ ∧ b < B ∧ ∀ j, j < n → W.cell? ⟨b, o + j, none⟩ = some (.int q (zs[j]?.getD 0))
theorem RowB.below {B n : Nat} {W W' : World} {q : IntKind} {a : Option Addr} {zs : List Int} (h : RowB B W q a n zs) (hb : Below B W W') : RowB B W' q a n zs := fun h0 => by
  obtain ⟨b, o, e, hl, hc⟩ := h h0
  exact ⟨b, o, e, hl, fun j hj => (hb.cell (p := ⟨b, o + j, none⟩) hl).trans (hc j hj)⟩
theorem RowB.of {w : World} {q : IntKind} {a : Option Addr} {n c : Nat} {zs : List Int} (h : Ints w q a n c zs) : RowB w.heap.size w q a n zs := fun h0 => by
  obtain ⟨b, o, e, hc⟩ := h.cell h0
  have hc' : ∀ j, j < n → w.cell? ⟨b, o + j, none⟩ = some (.int q (zs[j]?.getD 0)) := fun j hj => by
    rw [hc j hj, List.getD_eq_getElem?_getD]
  exact ⟨b, o, e, World.block_lt_of_cell? _ _ (hc' 0 h0), hc'⟩

set_option maxRecDepth 100000 in
set_option maxHeartbeats 2000000 in
theorem backI_in (F : Fence) (n : Nat) (hf : F.fn 114) (hro : F.round = none) (hn : 1 ≤ n) (l Bs n₀ len cap : Nat) (a : Option Addr) (zs : List Int) (hlen : len ≤ 9223372036854775807) (J Jx : List (Ix len) → World → Prop)
    (hY : ∀ pre x W, J pre W → pre.length < len → YieldAt F (n - 1) Tryz.prog l (valAt .i64 zs len x) W fun e W' =>
      (e = .returned (.bool true) ∧ J (pre ++ [x]) W' ∧ KpB n₀ Bs W W') ∨ (e = .returned (.bool false) ∧ Jx (pre ++ [x]) W'))
    (W : World) (hBs : W.cell? ⟨Bs, 0, none⟩ = some (.slice a len cap)) (hc : RowB n₀ W .i64 a len zs) (h0 : J [] W) :
    CallsIn F n Tryz.prog 114 #[.func (.yield l) #[] #[], .pointer (some ⟨Bs, 0, none⟩)] W fun e W' => (∃ v, e = .returned v) ∧
      ((∃ ys : List (Ix len), ys.length = len ∧ (∀ t (h : t < ys.length), (ys[t]).1 = len - 1 - t) ∧ J ys W') ∨ (∃ pre : List (Ix len), (∀ t (h : t < pre.length), (pre[t]).1 = len - 1 - t) ∧ Jx pre W')) := by
  have hsub : wrap64 ((len : Int) - 1) = (len : Int) - 1 := by unfold wrap64; omega
  refine callsIn_of_wp Tryz.func114 rfl hf ?_ hro
  simp only [Tryz.ntmps114, List.size_toArray, List.length_cons, List.length_nil, Nat.reduceAdd, Nat.reduceSub, Array.replicate_succ, Array.replicate_zero, List.push_toArray, List.append_toArray, List.nil_append, List.cons_append]
  gi_wp2
  gi_loopw [3] (fun i wr => ∃ (j : Nat) (pre : List (Ix len)), pre.length + j = len ∧ i = .int .i64 ((j : Int) - 1) ∧ (∀ t (h : t < pre.length), (pre[t]).1 = len - 1 - t) ∧ J pre wr ∧ KpB n₀ Bs W wr)
    (fun i _ => (intOf i + 1).toNat)
  case atStart => exact ⟨len, [], by simp, rfl, fun t h => (by cases h), h0, KpB.refl _ _ _⟩
  case round =>
    obtain ⟨j, pre, hj, rfl, hpre, hJs, hnx⟩ := hrel
    have hBs' := hnx.2.trans hBs
    cases j with
    | zero =>
      have e : ((0 : Nat) : Int) - 1 = -1 := rfl
      rw [e]
      gi_wp2
      go_end0
      exact ⟨⟨_, rfl⟩, .inl ⟨pre, by omega, hpre, hJs⟩⟩
    | succ j =>
      have e : ((j + 1 : Nat) : Int) - 1 = (j : Int) := by omega
      rw [e]
      have hjl : j < len := by omega
      obtain ⟨b, o, rfl, hb, hcs⟩ := hc (by omega)
      have hcx : wr.cell? ⟨b, o + j, none⟩ = some (.int .i64 (zs[j]?.getD 0)) := (hnx.1.cell (p := ⟨b, o + j, none⟩) hb).trans (hcs j hjl)
      obtain ⟨fn, tmps, assign, body, hy, hR⟩ := hY pre ⟨j, hjl⟩ wr hJs (by omega)
      dsimp only [valAt] at hy
      have i1 : (0 : Int) ≤ (j : Int) := by omega
      have i2 : (j : Int) < (len : Int) := by omega
      gi_wp2
      refine hR.mono ?_
      rintro e W3 (⟨rfl, hJ3, hk3⟩ | ⟨rfl, hJx3⟩)
      · gi_wp2
        go_roundw
        case rel => exact ⟨j, pre ++ [⟨j, hjl⟩], by simp; omega, by go_num, fun t ht => by
          rw [List.getElem_append]
          split
          · exact hpre t (by assumption)
          · simp at ht ⊢; omega, hJ3, hnx.trans hk3⟩
        case measure => simp [intOf]
      · gi_wp2
        refine bodyPost_ret (results_none rfl _ _ _) rfl ?_
        exact ⟨⟨_, rfl⟩, .inr ⟨pre ++ [⟨j, hjl⟩], fun t ht => by
          rw [List.getElem_append]
          split
          · exact hpre t (by assumption)
          · simp at ht ⊢; omega, hJx3⟩⟩
set_option maxRecDepth 100000 in
set_option maxHeartbeats 2000000 in
theorem backB_in (F : Fence) (n : Nat) (hf : F.fn 116) (hro : F.round = none) (hn : 1 ≤ n) (l Bs n₀ len cap : Nat) (a : Option Addr) (zs : List Int) (hlen : len ≤ 9223372036854775807) (J Jx : List (Ix len) → World → Prop)
    (hY : ∀ pre x W, J pre W → pre.length < len → YieldAt F (n - 1) Tryz.prog l (valAt .u8 zs len x) W fun e W' =>
      (e = .returned (.bool true) ∧ J (pre ++ [x]) W' ∧ KpB n₀ Bs W W') ∨ (e = .returned (.bool false) ∧ Jx (pre ++ [x]) W'))
    (W : World) (hBs : W.cell? ⟨Bs, 0, none⟩ = some (.slice a len cap)) (hc : RowB n₀ W .u8 a len zs) (h0 : J [] W) :
    CallsIn F n Tryz.prog 116 #[.func (.yield l) #[] #[], .pointer (some ⟨Bs, 0, none⟩)] W fun e W' => (∃ v, e = .returned v) ∧
      ((∃ ys : List (Ix len), ys.length = len ∧ (∀ t (h : t < ys.length), (ys[t]).1 = len - 1 - t) ∧ J ys W') ∨ (∃ pre : List (Ix len), (∀ t (h : t < pre.length), (pre[t]).1 = len - 1 - t) ∧ Jx pre W')) := by
  have hsub : wrap64 ((len : Int) - 1) = (len : Int) - 1 := by unfold wrap64; omega
  refine callsIn_of_wp Tryz.func116 rfl hf ?_ hro
  simp only [Tryz.ntmps116, List.size_toArray, List.length_cons, List.length_nil, Nat.reduceAdd, Nat.reduceSub, Array.replicate_succ, Array.replicate_zero, List.push_toArray, List.append_toArray, List.nil_append, List.cons_append]
  gi_wp2
  gi_loopw [3] (fun i wr => ∃ (j : Nat) (pre : List (Ix len)), pre.length + j = len ∧ i = .int .i64 ((j : Int) - 1) ∧ (∀ t (h : t < pre.length), (pre[t]).1 = len - 1 - t) ∧ J pre wr ∧ KpB n₀ Bs W wr)
    (fun i _ => (intOf i + 1).toNat)
  case atStart => exact ⟨len, [], by simp, rfl, fun t h => (by cases h), h0, KpB.refl _ _ _⟩
  case round =>
    obtain ⟨j, pre, hj, rfl, hpre, hJs, hnx⟩ := hrel
    have hBs' := hnx.2.trans hBs
    cases j with
    | zero =>
      have e : ((0 : Nat) : Int) - 1 = -1 := rfl
      rw [e]
      gi_wp2
      go_end0
      exact ⟨⟨_, rfl⟩, .inl ⟨pre, by omega, hpre, hJs⟩⟩
    | succ j =>
      have e : ((j + 1 : Nat) : Int) - 1 = (j : Int) := by omega
      rw [e]
      have hjl : j < len := by omega
      obtain ⟨b, o, rfl, hb, hcs⟩ := hc (by omega)
      have hcx : wr.cell? ⟨b, o + j, none⟩ = some (.int .u8 (zs[j]?.getD 0)) := (hnx.1.cell (p := ⟨b, o + j, none⟩) hb).trans (hcs j hjl)
      obtain ⟨fn, tmps, assign, body, hy, hR⟩ := hY pre ⟨j, hjl⟩ wr hJs (by omega)
      dsimp only [valAt] at hy
      have i1 : (0 : Int) ≤ (j : Int) := by omega
      have i2 : (j : Int) < (len : Int) := by omega
      gi_wp2
      refine hR.mono ?_
      rintro e W3 (⟨rfl, hJ3, hk3⟩ | ⟨rfl, hJx3⟩)
      · gi_wp2
        go_roundw
        case rel => exact ⟨j, pre ++ [⟨j, hjl⟩], by simp; omega, by go_num, fun t ht => by
          rw [List.getElem_append]
          split
          · exact hpre t (by assumption)
          · simp at ht ⊢; omega, hJ3, hnx.trans hk3⟩
        case measure => simp [intOf]
      · gi_wp2
        refine bodyPost_ret (results_none rfl _ _ _) rfl ?_
        exact ⟨⟨_, rfl⟩, .inr ⟨pre ++ [⟨j, hjl⟩], fun t ht => by
          rw [List.getElem_append]
          split
          · exact hpre t (by assumption)
          · simp at ht ⊢; omega, hJx3⟩⟩

theorem backI_mk_in (F : Fence) (n : Nat) (hf : F.fn 105) (hro : F.round = none) (a : Option Addr) (len cap : Nat) (w : World) :
    CallsIn F n Tryz.prog 105 #[.slice a len cap] w fun e w' => e = .returned (.func (.func 114) #[] #[.pointer (some ⟨w.heap.size, 0, none⟩)]) ∧ w' = w.alloc (.cells #[.slice a len cap] 125) := by
  refine callsIn_of_wp Tryz.func105 rfl hf ?_ hro
  simp only [Tryz.ntmps105, List.size_toArray, List.length_cons, List.length_nil, Nat.reduceAdd, Nat.reduceSub, Array.replicate_succ, Array.replicate_zero, List.push_toArray, List.append_toArray, List.nil_append, List.cons_append]
  gi_wp2
  go_ret
  exact ⟨rfl, rfl⟩
theorem backI_stops (F : Fence) (n : Nat) (hf : F.fn 114) (hro : F.round = none) (hn : 1 ≤ n) (Bs n₀ : Nat) (a : Option Addr) (len cap : Nat) (zs : List Int) (hlen : len ≤ 9223372036854775807) (w : World) (hBs : Bs < w.heap.size) (hn₀ : n₀ ≤ w.heap.size)
    (hc : w.cell? ⟨Bs, 0, none⟩ = some (.slice a len cap)) (hI : RowB n₀ w .i64 a len zs) :
    SeqStopsK F n Tryz.prog 114 #[.pointer (some ⟨Bs, 0, none⟩)] (valAt .i64 zs len) (KpB n₀ Bs) (fun ys : List (Ix len) => ys.length = len ∧ ∀ t (h : t < ys.length), (ys[t]).1 = len - 1 - t)
      (fun pre => ∀ t (h : t < pre.length), (pre[t]).1 = len - 1 - t) len w := fun l J Jx W hW _ _ hY h0 => by
  have hc' := (hW.cell (p := ⟨Bs, 0, none⟩) hBs).trans hc
  refine (backI_in F n hf hro hn l Bs n₀ len cap a zs hlen J Jx hY W hc' (hI.below (hW.mono hn₀)) h0).mono ?_
  rintro e W' ⟨he, ⟨ys, h1, h2, hj⟩ | ⟨pre, h2, hj⟩⟩
  · exact ⟨he, .inl ⟨ys, ⟨h1, h2⟩, hj⟩⟩
  · exact ⟨he, .inr ⟨pre, h2, hj⟩⟩

theorem backB_mk_in (F : Fence) (n : Nat) (hf : F.fn 115) (hro : F.round = none) (a : Option Addr) (len cap : Nat) (w : World) :
    CallsIn F n Tryz.prog 115 #[.slice a len cap] w fun e w' => e = .returned (.func (.func 116) #[] #[.pointer (some ⟨w.heap.size, 0, none⟩)]) ∧ w' = w.alloc (.cells #[.slice a len cap] 39) := by
  refine callsIn_of_wp Tryz.func115 rfl hf ?_ hro
  simp only [Tryz.ntmps115, List.size_toArray, List.length_cons, List.length_nil, Nat.reduceAdd, Nat.reduceSub, Array.replicate_succ, Array.replicate_zero, List.push_toArray, List.append_toArray, List.nil_append, List.cons_append]
  gi_wp2
  go_ret
  exact ⟨rfl, rfl⟩
theorem backB_stops (F : Fence) (n : Nat) (hf : F.fn 116) (hro : F.round = none) (hn : 1 ≤ n) (Bs n₀ : Nat) (a : Option Addr) (len cap : Nat) (zs : List Int) (hlen : len ≤ 9223372036854775807) (w : World) (hBs : Bs < w.heap.size) (hn₀ : n₀ ≤ w.heap.size)
    (hc : w.cell? ⟨Bs, 0, none⟩ = some (.slice a len cap)) (hI : RowB n₀ w .u8 a len zs) :
    SeqStopsK F n Tryz.prog 116 #[.pointer (some ⟨Bs, 0, none⟩)] (valAt .u8 zs len) (KpB n₀ Bs) (fun ys : List (Ix len) => ys.length = len ∧ ∀ t (h : t < ys.length), (ys[t]).1 = len - 1 - t)
      (fun pre => ∀ t (h : t < pre.length), (pre[t]).1 = len - 1 - t) len w := fun l J Jx W hW _ _ hY h0 => by
  have hc' := (hW.cell (p := ⟨Bs, 0, none⟩) hBs).trans hc
  refine (backB_in F n hf hro hn l Bs n₀ len cap a zs hlen J Jx hY W hc' (hI.below (hW.mono hn₀)) h0).mono ?_
  rintro e W' ⟨he, ⟨ys, h1, h2, hj⟩ | ⟨pre, h2, hj⟩⟩
  · exact ⟨he, .inl ⟨ys, ⟨h1, h2⟩, hj⟩⟩
  · exact ⟨he, .inr ⟨pre, h2, hj⟩⟩
end Go.Proofs.YtgpedejeifmfdaaGreat
