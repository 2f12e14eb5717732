/- rec's taker: rec. -/
import Derived.Test.YtgpedejeifmfdaaGreatRec4
import Derived.Test.YtgpedejeifmfdaaGreatRec5
import Derived.BigRegion
namespace Go.Proofs.YtgpedejeifmfdaaGreat
open Go.RowKit

theorem heads_at {w : World} : Calls Tryz.prog 80 #[] w fun e w' => e = .returned (.slice (some ⟨w.heap.size, 0, none⟩) 2 2) ∧ Ints w' .i64 (some ⟨w.heap.size, 0, none⟩) 2 2 [3, 21] ∧ Below w.heap.size w w' := by
  have hb := (Below.refl w.heap.size w).alloc (Nat.le_refl _) (.cells #[.int .i64 3, .int .i64 21] 3)
  have hi : Ints (w.alloc (.cells #[.int .i64 3, .int .i64 21] 3)) .i64 (some ⟨w.heap.size, 0, none⟩) 2 2 [3, 21] := ints_alloc [3, 21] rfl rfl (by decide) (by decide)
  have Hi := Lib.hid hi; clear hi
  go_enter Tryz.func80, Tryz.ntmps80
  go_wp2
  go_ret
  exact ⟨rfl, Hi.out, hb⟩
theorem flags_at {w : World} : Calls Tryz.prog 84 #[] w fun e w' => e = .returned (.slice (some ⟨w.heap.size, 0, none⟩) 4 4) ∧ Ints w' .i64 (some ⟨w.heap.size, 0, none⟩) 4 4 [1, 1, 3, 3] ∧ Below w.heap.size w w' := by
  have hb := (Below.refl w.heap.size w).alloc (Nat.le_refl _) (.cells #[.int .i64 1, .int .i64 1, .int .i64 3, .int .i64 3] 3)
  have hi : Ints (w.alloc (.cells #[.int .i64 1, .int .i64 1, .int .i64 3, .int .i64 3] 3)) .i64 (some ⟨w.heap.size, 0, none⟩) 4 4 [1, 1, 3, 3] := ints_alloc [1, 1, 3, 3] rfl rfl (by decide) (by decide)
  have Hi := Lib.hid hi; clear hi
  go_enter Tryz.func84, Tryz.ntmps84
  go_wp2
  go_ret
  exact ⟨rfl, Hi.out, hb⟩
/-- Cells of a block, one behind the other, are stored. -/
def setAll (w : World) (g : Nat) : Nat → List Value → World
  | _, [] => w
  | i, v :: vs => setAll (w.setCell ⟨g, i, none⟩ v) g (i + 1) vs
def putAll : Array Value → Nat → List Value → Array Value
  | cs, _, [] => cs
  | cs, i, v :: vs => putAll (cs.setIfInBounds i v) (i + 1) vs
theorem setAll_same {g : Nat} {E : TypeId} : ∀ (vs : List Value) (i : Nat) (w : World) (cs : Array Value), w.heap[g]? = some (.cells cs E (0, 0)) → (setAll w g i vs).heap[g]? = some (.cells (putAll cs i vs) E (0, 0))
  | [], _, _, _, h => h
  | v :: vs, i, w, _, h => setAll_same vs (i + 1) _ _ (heap_setCell_same w g i _ _ v h)
theorem putAll_list : ∀ (vs : List Value) (cs : Array Value) (i : Nat), i + vs.length ≤ cs.size → (putAll cs i vs).toList = cs.toList.take i ++ vs ++ cs.toList.drop (i + vs.length)
  | [], cs, i, _ => by simp [putAll]
  | v :: vs, cs, i, h => by
    rw [List.length_cons] at h
    have hi : i < cs.toList.length := by simp; omega
    rw [putAll, putAll_list vs _ (i + 1) (by simp; omega), Array.toList_setIfInBounds, List.length_cons, List.take_set, List.drop_set_of_lt (by omega), show i + 1 + vs.length = i + (vs.length + 1) by omega,
      List.take_succ_eq_append_getElem hi, List.set_append, if_neg (by rw [List.length_take]; omega), List.length_take, show i - min i cs.toList.length = 0 by omega]
    simp
theorem setAll_full {w : World} {g : Nat} {E : TypeId} {cs : Array Value} {vs : List Value} (h : w.heap[g]? = some (.cells cs E (0, 0))) (hn : cs.size = vs.length) : (setAll w g 0 vs).heap[g]? = some (.cells vs.toArray E (0, 0)) := by
  rw [setAll_same vs 0 w cs h]
  congr 2
  apply Array.ext'
  rw [putAll_list vs cs 0 (by omega)]
  simp [hn]
theorem setAll_tk {B b g : Nat} {s : Tk} (hB : B ≤ g) (hg : g ≠ b) : ∀ (vs : List Value) (i : Nat) (w : World), TkAt w B b s → TkAt (setAll w g i vs) B b s
  | [], _, _, h => h
  | _ :: vs, i, _, h => setAll_tk hB hg vs (i + 1) _ (h.other hB hg)
theorem setAll_mod {F : Nat → Prop} {w : World} {g : Nat} (hg : w.heap.size ≤ g) : ∀ (vs : List Value) (i : Nat) (w' : World), Mod F w w' → Mod F w (setAll w' g i vs)
  | [], _, _, h => h
  | _ :: vs, i, _, h => setAll_mod hg vs (i + 1) _ (mod_new h hg)
def kT (s : Tk) : Nat → Tk
  | 0 => s
  | j + 1 => (takeT (kT s j) 1).1
def kB (s : Tk) (j : Nat) : Int := ((takeT (kT s j) 1).2 : Nat)
/-- What may be a record is taken. -/
def recT (s : Tk) : Tk × Rc :=
  let s1 := (takeT s 3).1
  let u := (takeT s 3).2
  let kind : Int := ((u % 8 : Nat) : Int) + 1
  let tx : Int := ((u / 8 : Nat) : Int)
  if maskedK kind then ((takeT s1 2).1, ⟨kind, tx, ((takeT s1 2).2 : Nat), 0, 0, 0, 0, false, 0, false, 0⟩)
  else if keyedK kind then
    let f := (takeT (kT s1 4) 1).2
    let o := valT (takeT (kT s1 4) 1).1 (f % 2) (f / 4 % 8)
    let n := valT o.1 (f / 2 % 2) (f / 32)
    (n.1, ⟨kind, tx, 0, kB s1 0, kB s1 1, kB s1 2, kB s1 3, o.2.1, o.2.2, n.2.1, n.2.2⟩)
  else (s1, ⟨kind, tx, 0, 0, 0, 0, 0, false, 0, false, 0⟩)
theorem unpack_heads {u : Nat} (h : u < 256 ^ 3) : restU [3, 21] u = 0 ∧ outZ [3, 21] u = [((u % 8 : Nat) : Int), ((u / 8 : Nat) : Int)] := by
  have e1 : restU [3, 21] u = u / 8 / 2097152 := rfl
  have e2 : outZ [3, 21] u = [((u % 8 : Nat) : Int), ((u / 8 % 2097152 : Nat) : Int)] := rfl
  rw [e1, e2]
  refine ⟨by omega, ?_⟩
  rw [show u / 8 % 2097152 = u / 8 by omega]
theorem unpack_flags {u : Nat} (h : u < 256 ^ 1) : restU [1, 1, 3, 3] u = 0 ∧ outZ [1, 1, 3, 3] u = [((u % 2 : Nat) : Int), ((u / 2 % 2 : Nat) : Int), ((u / 4 % 8 : Nat) : Int), ((u / 32 : Nat) : Int)] := by
  have e1 : restU [1, 1, 3, 3] u = u / 2 / 2 / 8 / 8 := rfl
  have e2 : outZ [1, 1, 3, 3] u = [((u % 2 : Nat) : Int), ((u / 2 % 2 : Nat) : Int), ((u / 2 / 2 % 8 : Nat) : Int), ((u / 2 / 2 / 8 % 8 : Nat) : Int)] := rfl
  rw [e1, e2]
  refine ⟨by omega, ?_⟩
  rw [show u / 2 / 2 % 8 = u / 4 % 8 by omega, show u / 2 / 2 / 8 % 8 = u / 32 by omega]
def kc (kind tx : Int) (s : Tk) (j : Nat) : Array Value := #[.int .i64 kind, .int .i64 tx, .int .u16 0, .int .u8 (if 0 < j then kB s 0 else 0), .int .u8 (if 1 < j then kB s 1 else 0), .int .u8 (if 2 < j then kB s 2 else 0), .int .u8 (if 3 < j then kB s 3 else 0), .bool false, .int .i64 0, .bool false, .int .i64 0]
theorem kc_step (kind tx : Int) (s : Tk) : ∀ j, j < 4 → (kc kind tx s j).setIfInBounds (3 + j) (.int .u8 (kB s j)) = kc kind tx s (j + 1)
  | 0, _ => rfl
  | 1, _ => rfl
  | 2, _ => rfl
  | 3, _ => rfl
theorem take_rest {s : Tk} (h : ∀ z ∈ s.rest, 0 ≤ z ∧ z ≤ 255) (n : Nat) : ∀ z ∈ (takeT s n).1.rest, 0 ≤ z ∧ z ≤ 255 := by
  unfold takeT
  split
  · exact h
  · exact fun z hz => h z (List.mem_of_mem_drop hz)
set_option maxHeartbeats 8000000 in
theorem trec_calls {w : World} {B b : Nat} {s : Tk} (h : TkAt w B b s) : Calls Tryz.prog 67 #[.pointer (some ⟨b, 0, none⟩)] w fun e w' =>
    e = .returned (.agg (recT s).2.cells.toArray) ∧ TkAt w' B b (recT s).1 ∧ Mod (fun k => k = b) w w' := by
  have hlt := h.lt
  have hBb := h.le
  have hfit := h.fit
  obtain ⟨R, hR⟩ : ∃ R, R = recT s := ⟨_, rfl⟩
  rw [← hR]
  have hb := (Below.refl w.heap.size w).alloc (Nat.le_refl _) (.cells #[.int .i64 0, .int .i64 0, .int .u16 0, .int .u8 0, .int .u8 0, .int .u8 0, .int .u8 0, .bool false, .int .i64 0, .bool false, .int .i64 0] 63)
  have z := heap_alloc_new w (.cells #[.int .i64 0, .int .i64 0, .int .u16 0, .int .u8 0, .int .u8 0, .int .u8 0, .int .u8 0, .bool false, .int .i64 0, .bool false, .int .i64 0] 63)
  obtain ⟨w1, hw1⟩ : ∃ w1, w1 = w.alloc (.cells #[.int .i64 0, .int .i64 0, .int .u16 0, .int .u8 0, .int .u8 0, .int .u8 0, .int .u8 0, .bool false, .int .i64 0, .bool false, .int .i64 0] 63) := ⟨_, rfl⟩
  rw [← hw1] at hb z
  have h1 := h.below hb
  have hm := Mod.of_below (F := fun k => k = b) hb
  have hu := take_lt hfit (n := 3)
  obtain ⟨hun1, hun2⟩ := unpack_heads hu
  obtain ⟨T, hT⟩ : ∃ T, T = takeT s 3 := ⟨_, rfl⟩
  have hfit2 := take_rest hfit 3
  have hR2 : R = recT s := hR
  unfold recT at hR2
  rw [← hT] at hu hun1 hun2 hfit2 hR2
  obtain ⟨s1, u⟩ := T
  simp only at hu hun1 hun2 hfit2 hR2
  have H1 := Lib.hid h1; clear h1 h hb
  have Hm := Lib.hid hm; clear hm
  have Z := Lib.hid z; clear z
  have HT := Lib.hid hT; clear hT
  have HR2 := Lib.hid hR2; clear hR2
  have Hun1 := Lib.hid hun1; clear hun1
  have Hun2 := Lib.hid hun2; clear hun2
  have Hfit2 := Lib.hid hfit2; clear hfit2 hfit
  have Hu := Lib.hid hu; clear hu hR
  go_enter Tryz.func67, Tryz.ntmps67
  go_wp2_with fail
  rw [← hw1]
  clear hw1
  refine heads_at.mono ?_
  rintro e w2 ⟨rfl, ih, bk⟩
  have h2 := H1.out.below bk
  have hm2 := Hm.out.trans (Mod.of_below (F := fun k => k = b) bk) (fun _ h => h) fun _ _ h => h
  have z2 := (bk.block _ (Array.getElem?_eq_some_iff.1 Z.out).1).trans Z.out
  clear Z H1 bk
  have Z := Lib.hid z2; clear z2
  have hw1 := Hm.out.size
  have hta := take_calls h2 (n := 3) (by decide) (by decide)
  rw [← HT.out] at hta
  have Hta := Lib.hid hta; clear hta
  go_wp2_with fail
  refine Hta.out.mono ?_
  rintro e w3 ⟨rfl, t3, m3⟩
  have i3 := m3.ints ih (fun b' o e => by cases e; show ¬ w1.heap.size = b; omega)
  have z3 := (m3.block _ (Array.getElem?_eq_some_iff.1 Z.out).1 (by show ¬ w.heap.size = b; omega)).trans Z.out
  have hm3 := hm2.trans m3 (fun _ h => h) fun _ _ h => h
  clear Z Hm hm2 m3 ih Hta h2
  have Z := Lib.hid z3; clear z3
  have hup := Unpack_calls i3 (by decide) (u := u) (by have := Hu.out; omega) (by decide)
  rw [Hun1.out, Hun2.out] at hup
  rw [if_pos rfl] at hup
  have Hup := Lib.hid hup; clear hup i3
  have T3 := Lib.hid t3; clear t3
  go_wp2_with fail
  refine Hup.out.mono ?_
  rintro e w4 ⟨v4, rfl, o4, bk⟩
  have t4 := T3.out.below bk
  have z4 := (bk.block _ (Array.getElem?_eq_some_iff.1 Z.out).1).trans Z.out
  have hm4 := hm3.trans (Mod.of_below (F := fun k => k = b) bk) (fun _ h => h) fun _ _ h => h
  clear Z T3 hm3 bk Hup hw1
  have Z := Lib.hid z4; clear z4
  have T4 := Lib.hid t4; clear t4
  have Hm := Lib.hid hm4; clear hm4
  obtain ⟨a4, c4, rfl, i4, -⟩ := o4.ints
  have hl2 : ([((u % 8 : Nat) : Int), ((u / 8 : Nat) : Int)] : List Int).length = 2 := rfl
  rw [hl2] at i4 ⊢
  obtain ⟨g4, o4', rfl, hc4⟩ := i4.cell (by decide)
  have y0 : w4.cell? ⟨g4, o4', none⟩ = some (.int .i64 ((u % 8 : Nat) : Int)) := hc4 0 (by decide)
  have y1 : w4.cell? ⟨g4, o4' + 1, none⟩ = some (.int .i64 ((u / 8 : Nat) : Int)) := hc4 1 (by decide)
  clear hc4 i4 o4
  obtain ⟨k, hk⟩ : ∃ k : Nat, k = u % 8 := ⟨_, rfl⟩
  obtain ⟨t, ht⟩ : ∃ t : Nat, t = u / 8 := ⟨_, rfl⟩
  have hR2 := HR2.out
  rw [← hk, ← ht] at hR2
  rw [← hk] at y0
  rw [← ht] at y1
  have hk8 : k < 8 := by omega
  have ht21 : t < 2097152 := by have := Hu.out; omega
  clear hk ht HR2 Hun1 Hun2
  have HR2 := Lib.hid hR2; clear hR2
  have hl4 := World.block_lt_of_cell? w4 _ y0
  have ba := (Below.refl w4.heap.size w4).alloc (Nat.le_refl _) (.cells #[.int .i64 0, .int .i64 0, .int .u16 0, .int .u8 0, .int .u8 0, .int .u8 0, .int .u8 0, .bool false, .int .i64 0, .bool false, .int .i64 0] 63)
  have y0a := (ba.cell hl4).trans y0
  have y1a := (ba.cell (p := ⟨g4, o4' + 1, none⟩) hl4).trans y1
  have bk : Below w4.heap.size w4 (w4.alloc (.cells #[.int .i64 ((k : Int) + 1), .int .i64 (t : Int), .int .u16 0, .int .u8 0, .int .u8 0, .int .u8 0, .int .u8 0, .bool false, .int .i64 0, .bool false, .int .i64 0] 63)).drew := Below.drewN ((Below.refl w4.heap.size w4).alloc (Nat.le_refl _) (.cells #[.int .i64 ((k : Int) + 1), .int .i64 (t : Int), .int .u16 0, .int .u8 0, .int .u8 0, .int .u8 0, .int .u8 0, .bool false, .int .i64 0, .bool false, .int .i64 0] 63)) 1
  have zr : (w4.alloc (.cells #[.int .i64 ((k : Int) + 1), .int .i64 (t : Int), .int .u16 0, .int .u8 0, .int .u8 0, .int .u8 0, .int .u8 0, .bool false, .int .i64 0, .bool false, .int .i64 0] 63)).drew.heap[w4.heap.size]? = some (.cells #[.int .i64 ((k : Int) + 1), .int .i64 (t : Int), .int .u16 0, .int .u8 0, .int .u8 0, .int .u8 0, .int .u8 0, .bool false, .int .i64 0, .bool false, .int .i64 0] 63 (0, 0)) := heap_alloc_new w4 _
  have t4 := T4.out.below bk
  have z4 := (bk.block _ (Array.getElem?_eq_some_iff.1 Z.out).1).trans Z.out
  have hm4 := Hm.out.trans (Mod.of_below (F := fun k => k = b) bk) (fun _ h => h) fun _ _ h => h
  have hsz : w.heap.size < w4.heap.size := (Array.getElem?_eq_some_iff.1 Z.out).1
  clear Z T4 Hm bk ba
  have Z := Lib.hid z4; clear z4
  have T4 := Lib.hid t4; clear t4
  have Hm := Lib.hid hm4; clear hm4
  have Zr := Lib.hid zr; clear zr
  go_wp2_with fail
  go_region
  clear y0 y1 y0a y1a
  generalize w4.heap.size = g at *
  generalize (w4.alloc (.cells #[.int .i64 ((k : Int) + 1), .int .i64 (t : Int), .int .u16 0, .int .u8 0, .int .u8 0, .int .u8 0, .int .u8 0, .bool false, .int .i64 0, .bool false, .int .i64 0] 63)).drew = w5 at *
  have hmk := fun w : World => masked_calls (w := w) ((k : Int) + 1)
  have hky := fun w : World => keyed_calls (w := w) ((k : Int) + 1)
  have Hmk := Lib.hid hmk; clear hmk
  have Hky := Lib.hid hky; clear hky
  have r0 := cells_at Zr.out 0
  go_wp2_with fail
  clear r0
  refine (Hmk.out _).mono ?_
  rintro e w6 ⟨rfl, rfl⟩
  by_cases hmm : maskedK ((k : Int) + 1)
  · have dm : decide (maskedK ((k : Int) + 1)) = true := decide_eq_true hmm
    rw [dm]
    have hR2 := HR2.out
    rw [if_pos hmm] at hR2
    clear HR2 dm hmm
    have hta := take_calls T4.out (n := 2) (by decide) (by decide)
    have hul := take_lt Hfit2.out (n := 2)
    obtain ⟨T, hT⟩ : ∃ T, T = takeT s1 2 := ⟨_, rfl⟩
    rw [← hT] at hta hul hR2
    obtain ⟨s2, u2⟩ := T
    simp only at hta hul hR2
    have HR3 := Lib.hid hR2; clear hR2 hT
    have Hta := Lib.hid hta; clear hta
    go_wp2_with fail
    refine Hta.out.mono ?_
    rintro e w7 ⟨rfl, t7, m7⟩
    have z7 := (m7.block _ (Array.getElem?_eq_some_iff.1 Z.out).1 (by show ¬ w.heap.size = b; omega)).trans Z.out
    have zr := (m7.block _ (Array.getElem?_eq_some_iff.1 Zr.out).1 (by show ¬ g = b; omega)).trans Zr.out
    have hm7 := Hm.out.trans m7 (fun _ h => h) fun _ _ h => h
    have fr := frozen_of_row w7 g 2 _ _ zr
    have y2 := cells_at zr 2
    have hm8 := mod_new hm7 (g := g) (j := 2) (v := .int .u16 (u2 : Nat)) (by omega)
    have t8 := t7.other (g := g) (j := 2) (v := .int .u16 (u2 : Nat)) (by omega) (by omega)
    have z8 := (heap_setCell_other w7 ⟨g, 2, none⟩ w.heap.size (.int .u16 (u2 : Nat)) (by show w.heap.size ≠ g; omega)).trans z7
    have zr8 := heap_setCell_same w7 g 2 _ _ (.int .u16 (u2 : Nat)) zr
    clear Z Zr Hm T4 z7 zr hm7 t7 m7 Hta
    have Z := Lib.hid z8; clear z8
    have Zr := Lib.hid zr8; clear zr8
    have T4 := Lib.hid t8; clear t8
    have Hm := Lib.hid hm8; clear hm8
    have hu16 : (u2 : Int) < 65536 := by omega
    go_wp2_with (with_reducible refine stop_load 63 ?_)
    refine unpark ?_
    generalize w7.setCell ⟨g, 2, none⟩ (.int .u16 (u2 : Nat)) = w8 at *
    have zf : (setAll w8 w.heap.size 0 [.int .i64 ((k : Int) + 1), .int .i64 (t : Int), .int .u16 (u2 : Int), .int .u8 0, .int .u8 0, .int .u8 0, .int .u8 0, .bool false, .int .i64 0, .bool false, .int .i64 0]).heap[w.heap.size]? = some (.cells #[.int .i64 ((k : Int) + 1), .int .i64 (t : Int), .int .u16 (u2 : Int), .int .u8 0, .int .u8 0, .int .u8 0, .int .u8 0, .bool false, .int .i64 0, .bool false, .int .i64 0] 63 (0, 0)) := setAll_full Z.out rfl
    have hm := setAll_mod (Nat.le_refl _) [.int .i64 ((k : Int) + 1), .int .i64 (t : Int), .int .u16 (u2 : Int), .int .u8 0, .int .u8 0, .int .u8 0, .int .u8 0, .bool false, .int .i64 0, .bool false, .int .i64 0] 0 w8 Hm.out
    have ht := setAll_tk (g := w.heap.size) (by omega) (by omega) [.int .i64 ((k : Int) + 1), .int .i64 (t : Int), .int .u16 (u2 : Int), .int .u8 0, .int .u8 0, .int .u8 0, .int .u8 0, .bool false, .int .i64 0, .bool false, .int .i64 0] 0 w8 T4.out
    simp only [setAll] at zf hm ht
    have ZF := Lib.hid zf; clear zf
    have HM := Lib.hid hm; clear hm
    have HT4 := Lib.hid ht; clear ht
    have r0 := cells_at Zr.out 0
    have r1 := cells_at Zr.out 1
    have r2 := cells_at Zr.out 2
    have r3 := cells_at Zr.out 3
    have r4 := cells_at Zr.out 4
    have r5 := cells_at Zr.out 5
    have r6 := cells_at Zr.out 6
    have r7 := cells_at Zr.out 7
    have r8 := cells_at Zr.out 8
    have r9 := cells_at Zr.out 9
    have r10 := cells_at Zr.out 10
    have y0 := cells_at Z.out 0
    have y1 := cells_at Z.out 1
    have y2 := cells_at Z.out 2
    have y3 := cells_at Z.out 3
    have y4 := cells_at Z.out 4
    have y5 := cells_at Z.out 5
    have y6 := cells_at Z.out 6
    have y7 := cells_at Z.out 7
    have y8 := cells_at Z.out 8
    have y9 := cells_at Z.out 9
    have y10 := cells_at Z.out 10
    have f0 := frozen_of_row w8 w.heap.size 0 _ _ Z.out
    have f1 := frozen_of_row w8 w.heap.size 1 _ _ Z.out
    have f2 := frozen_of_row w8 w.heap.size 2 _ _ Z.out
    have f3 := frozen_of_row w8 w.heap.size 3 _ _ Z.out
    have f4 := frozen_of_row w8 w.heap.size 4 _ _ Z.out
    have f5 := frozen_of_row w8 w.heap.size 5 _ _ Z.out
    have f6 := frozen_of_row w8 w.heap.size 6 _ _ Z.out
    have f7 := frozen_of_row w8 w.heap.size 7 _ _ Z.out
    have f8 := frozen_of_row w8 w.heap.size 8 _ _ Z.out
    have f9 := frozen_of_row w8 w.heap.size 9 _ _ Z.out
    have f10 := frozen_of_row w8 w.heap.size 10 _ _ Z.out
    clear Z Zr Hm T4
    go_wp2
    clear r0 y0 f0 r1 y1 f1 r2 y2 f2 r3 y3 f3 r4 y4 f4 r5 y5 f5 r6 y6 f6 r7 y7 f7 r8 y8 f8 r9 y9 f9 r10 y10 f10
    refine bodyPost_ret (v := .agg #[.int .i64 ((k : Int) + 1), .int .i64 (t : Int), .int .u16 (u2 : Int), .int .u8 0, .int .u8 0, .int .u8 0, .int .u8 0, .bool false, .int .i64 0, .bool false, .int .i64 0]) ?_ rfl ?_
    · exact results_cell_row Tryz.results67 _ _ w.heap.size 63 _ _ _ rfl ZF.out Tryz.underlying63 rfl (by kernel_rfl)
    · exact ⟨by rw [HR3.out]; rfl, by rw [HR3.out]; exact HT4.out, HM.out⟩
  have dm : decide (maskedK ((k : Int) + 1)) = false := decide_eq_false hmm
  rw [dm]
  have hR2 := HR2.out
  rw [if_neg hmm] at hR2
  clear HR2 dm hmm
  have r0 := cells_at Zr.out 0
  go_wp2_with fail
  clear r0
  refine (Hky.out _).mono ?_
  rintro e w7 ⟨rfl, rfl⟩
  by_cases hkk : keyedK ((k : Int) + 1)
  · have dk : decide (keyedK ((k : Int) + 1)) = true := decide_eq_true hkk
    rw [dk]
    rw [if_pos hkk] at hR2
    have HR2 := Lib.hid hR2; clear hR2 dk hkk
    have zk : w7.heap[g]? = some (.cells (kc ((k : Int) + 1) (t : Int) s1 0) 63 (0, 0)) := Zr.out
    have Zk := Lib.hid zk; clear zk Zr
    go_wp2_with fail
    go_loopw [36] (fun v wr => ∃ j : Nat, j ≤ 4 ∧ v = .int .i64 j ∧ TkAt wr B b (kT s1 j) ∧ wr.heap[w.heap.size]? = w7.heap[w.heap.size]? ∧ wr.heap[g]? = some (.cells (kc ((k : Int) + 1) (t : Int) s1 j) 63 (0, 0)) ∧ Mod (fun k => k = b) w wr) (fun v _ => 4 - (intOf v).toNat)
    case atStart => exact ⟨0, by omega, rfl, T4.out, rfl, Zk.out, Hm.out⟩
    case round =>
      obtain ⟨j, hj, rfl, tj, zj, kj, mj⟩ := hrel
      obtain ⟨wo, rfl⟩ : ∃ wo, wo = wr := ⟨_, rfl⟩
      by_cases hlt : j < 4
      · have hta := take_calls tj (n := 1) (by decide) (by decide)
        have hul := take_lt tj.fit (n := 1)
        have hT : kT s1 (j + 1) = (takeT (kT s1 j) 1).1 := rfl
        have hkb : kB s1 j = ((takeT (kT s1 j) 1).2 : Nat) := rfl
        obtain ⟨T, hTT⟩ : ∃ T, T = takeT (kT s1 j) 1 := ⟨_, rfl⟩
        rw [← hTT] at hta hul hT hkb
        obtain ⟨s2, u2⟩ := T
        simp only at hta hul hT hkb
        have HT2 := Lib.hid hT; clear hT hTT
        have Hkb := Lib.hid hkb; clear hkb
        have Hta := Lib.hid hta; clear hta
        have Zj := Lib.hid zj; clear zj
        have Kj := Lib.hid kj; clear kj
        have Mj := Lib.hid mj; clear mj tj
        clear T4 Hm Z Zk HR2
        have hu8 : (u2 : Int) < 256 := by omega
        have j0 : (0 : Int) ≤ (j : Int) := by omega
        have j1 : (j : Int) < 4 := by omega
        go_wp2_with fail
        refine Hta.out.mono ?_
        rintro e w8 ⟨rfl, t8, m8⟩
        have hlg : g < wo.heap.size := (Array.getElem?_eq_some_iff.1 Kj.out).1
        have k8 := (m8.block _ hlg (by show ¬ g = b; omega)).trans Kj.out
        have z8 := (m8.block w.heap.size (by omega) (by show ¬ w.heap.size = b; omega)).trans Zj.out
        have hm8 := Mj.out.trans m8 (fun _ h => h) fun _ _ h => h
        have fr := frozen_of_row w8 g (3 + j) _ _ k8
        have y8 : w8.cell? ⟨g, 3 + j, none⟩ = some ((kc ((k : Int) + 1) (t : Int) s1 j)[3 + j]'(by show 3 + j < 11; omega)) := by
          rw [cells_at k8 (3 + j)]
          exact Array.getElem?_eq_getElem _
        have k9 := heap_setCell_same w8 g (3 + j) _ _ (.int .u8 (u2 : Nat)) k8
        rw [← Hkb.out, kc_step _ _ _ j hlt, Hkb.out] at k9
        have t9 := t8.other (g := g) (j := 3 + j) (v := .int .u8 (u2 : Nat)) (by omega) (by omega)
        have z9 := (heap_setCell_other w8 ⟨g, 3 + j, none⟩ w.heap.size (.int .u8 (u2 : Nat)) (by show w.heap.size ≠ g; omega)).trans z8
        have m9 := mod_new hm8 (g := g) (j := 3 + j) (v := .int .u8 (u2 : Nat)) (by omega)
        rw [← HT2.out] at t9
        have T9 := Lib.hid t9; clear t9 t8
        have Z9 := Lib.hid z9; clear z9 z8
        have K9 := Lib.hid k9; clear k9 k8
        have M9 := Lib.hid m9; clear m9 m8 hm8
        clear Hta Zj Kj Mj
        generalize (kc ((k : Int) + 1) (t : Int) s1 j)[3 + j]'(by show 3 + j < 11; omega) = cv at *
        go_wp2
        go_roundw
        case rel => exact ⟨j + 1, by omega, by go_num, T9.out, Z9.out, K9.out, M9.out⟩
        case measure => simp [intOf]; omega
      · obtain rfl : j = 4 := by omega
        have z5 := zj.trans Z.out
        clear Z T4 Hm Zk zj
        have Z := Lib.hid z5; clear z5
        have T4 := Lib.hid tj; clear tj
        have Hm := Lib.hid mj; clear mj
        have zr : wo.heap[g]? = some (.cells #[.int .i64 ((k : Int) + 1), .int .i64 (t : Int), .int .u16 0, .int .u8 (kB s1 0), .int .u8 (kB s1 1), .int .u8 (kB s1 2), .int .u8 (kB s1 3), .bool false, .int .i64 0, .bool false, .int .i64 0] 63 (0, 0)) := kj
        have Zr := Lib.hid zr; clear zr kj
        go_wp2_with fail
        -- the flags
        have hR3 := HR2.out
        clear HR2
        refine flags_at.mono ?_
        rintro e wa ⟨rfl, ia, bk⟩
        have m_ := Mod.of_below (F := fun k => k = b) bk
        have t_ := T4.out.below bk
        have hfa := m_.size
        have hgl : g < wo.heap.size := (Array.getElem?_eq_some_iff.1 Zr.out).1
        have z_ := (m_.block _ (Array.getElem?_eq_some_iff.1 Z.out).1 (by show ¬ w.heap.size = b; omega)).trans Z.out
        have zr_ := (m_.block _ (Array.getElem?_eq_some_iff.1 Zr.out).1 (by show ¬ g = b; omega)).trans Zr.out
        have hm_ := Hm.out.trans m_ (fun _ h => h) fun _ _ h => h
        clear Z Zr Hm
        have Z := Lib.hid z_; clear z_
        have Zr := Lib.hid zr_; clear zr_
        have Hm := Lib.hid hm_; clear hm_
        clear T4 bk m_
        have hta := take_calls t_ (n := 1) (by decide) (by decide)
        have hul := take_lt t_.fit (n := 1)
        clear t_
        obtain ⟨T, hTT⟩ : ∃ T, T = takeT (kT s1 4) 1 := ⟨_, rfl⟩
        rw [← hTT] at hta hul hR3
        obtain ⟨s2, f⟩ := T
        simp only at hta hul hR3
        have HR2 := Lib.hid hR3; clear hR3 hTT
        have Hta := Lib.hid hta; clear hta
        go_wp2_with fail
        refine Hta.out.mono ?_
        rintro e wb ⟨rfl, tb, mb⟩
        have ib := mb.ints ia (fun b' o e => by cases e; show ¬ wo.heap.size = b; omega)
        have hsb := mb.size
        have z_ := (mb.block _ (Array.getElem?_eq_some_iff.1 Z.out).1 (by show ¬ w.heap.size = b; omega)).trans Z.out
        have zr_ := (mb.block _ (Array.getElem?_eq_some_iff.1 Zr.out).1 (by show ¬ g = b; omega)).trans Zr.out
        have hm_ := Hm.out.trans mb (fun _ h => h) fun _ _ h => h
        clear Z Zr Hm
        have Z := Lib.hid z_; clear z_
        have Zr := Lib.hid zr_; clear zr_
        have Hm := Lib.hid hm_; clear hm_
        clear ia mb Hta
        obtain ⟨hu1, hu2⟩ := unpack_flags hul
        have hup := Unpack_calls ib (by decide) (u := f) (by omega) (by decide)
        rw [hu1, hu2, if_pos rfl] at hup
        clear hu1 hu2 ib
        have Hup := Lib.hid hup; clear hup
        have T4 := Lib.hid tb; clear tb
        go_wp2_with fail
        refine Hup.out.mono ?_
        rintro e wc ⟨vf, rfl, of, bk⟩
        have m_ := Mod.of_below (F := fun k => k = b) bk
        have t_ := T4.out.below bk
        have z_ := (m_.block _ (Array.getElem?_eq_some_iff.1 Z.out).1 (by show ¬ w.heap.size = b; omega)).trans Z.out
        have zr_ := (m_.block _ (Array.getElem?_eq_some_iff.1 Zr.out).1 (by show ¬ g = b; omega)).trans Zr.out
        have hm_ := Hm.out.trans m_ (fun _ h => h) fun _ _ h => h
        clear Z Zr Hm
        have Z := Lib.hid z_; clear z_
        have Zr := Lib.hid zr_; clear zr_
        have Hm := Lib.hid hm_; clear hm_
        clear T4 bk m_ Hup
        have T4 := Lib.hid t_; clear t_
        obtain ⟨af, cf, rfl, jf, hof⟩ := of.ints
        have hl4 : ([((f % 2 : Nat) : Int), ((f / 2 % 2 : Nat) : Int), ((f / 4 % 8 : Nat) : Int), ((f / 32 : Nat) : Int)] : List Int).length = 4 := rfl
        rw [hl4] at jf ⊢
        obtain ⟨gf, of', rfl, hcf⟩ := jf.cell (by decide)
        have hgf := hof gf of' rfl
        have hbs : b < wb.heap.size := by omega
        have hgs : g < wb.heap.size := by omega
        have GL1 : gf < wc.heap.size := hgf.2
        have hgb := hgf.1
        obtain ⟨HG, hHG⟩ : ∃ x, x = wc.heap[gf]? := ⟨_, rfl⟩
        have G0 := Lib.hid hHG.symm
        have G1 := Lib.hid hHG.symm; clear hHG
        clear jf of hof hgf
        go_wp2_with fail
        have hva := val_calls (T4.out.below (below_drew wc)) (there := f % 2) (size := f / 4 % 8) (by omega)
        have s0 := Mod.of_below (F := fun k => k = b) (below_drew wc)
        have yy : ∀ w', Mod (fun k => k = b) wc w' → w'.cell? ⟨gf, of', none⟩ = some (.int .i64 ((f % 2 : Nat) : Int)) ∧ w'.cell? ⟨gf, of' + 2, none⟩ = some (.int .i64 ((f / 4 % 8 : Nat) : Int)) := fun w' h => by
          have e := (h.block gf GL1 (by show ¬ gf = b; omega)).trans (G1.out.trans G0.out.symm)
          exact ⟨(World.cell?_of_block e).trans (hcf 0 (by decide)), (World.cell?_of_block e).trans (hcf 2 (by decide))⟩
        have Y := Lib.hid yy; clear yy
        have z_ := (s0.block _ (Array.getElem?_eq_some_iff.1 Z.out).1 (by show ¬ w.heap.size = b; omega)).trans Z.out
        have zr_ := (s0.block _ (Array.getElem?_eq_some_iff.1 Zr.out).1 (by show ¬ g = b; omega)).trans Zr.out
        have hm_ := Hm.out.trans s0 (fun _ h => h) fun _ _ h => h
        clear Z Zr Hm
        have Z := Lib.hid z_; clear z_
        have Zr := Lib.hid zr_; clear zr_
        have Hm := Lib.hid hm_; clear hm_
        obtain ⟨V1, hV1⟩ : ∃ V, V = valT s2 (f % 2) (f / 4 % 8) := ⟨_, rfl⟩
        rw [← hV1] at hva
        obtain ⟨sv1, tv1, nv1⟩ := V1
        simp only at hva
        have HV1 := Lib.hid hV1; clear hV1
        have Hva := Lib.hid hva; clear hva T4
        have Hcf := Lib.hid hcf; clear hcf
        generalize ht1 : f % 2 = th1 at Hva Y HV1 ⊢
        generalize hs1 : f / 4 % 8 = si1 at Hva Y HV1 ⊢
        refine wp_region_held (fun w' : World => Mod (fun k => k = b) wc w') [0, 1, 2, 3, 4, 5, 6] [[7], [8, 9]] (by kernel_rfl) (by kernel_rfl) rfl (by kernel_rfl) (fun _ _ _ h => by obtain ⟨_, h, _⟩ := h; cases h) (fun _ _ h => by obtain ⟨h, _⟩ := h; cases h) s0 (by kernel_rfl) ?_
        generalize wc.drew = wd1 at *
        apply Exists.intro
        apply And.intro
        · intro w' s
          have y0 := Y.out w' s
          have x0 := y0.1
          have x1 := y0.2
          clear s y0
          simp only [List.map_cons, List.map_nil, List.getD_cons_zero, List.getD_cons_succ]
          go_wp2_with fail
          exact pre_end
        simp only [List.map_cons, List.map_nil, List.getD_cons_zero, List.getD_cons_succ]
        refine segs_more ?_
        go_wp2_with fail
        refine Hva.out.mono ?_
        rintro e wv1 ⟨rfl, tv, mv⟩
        have z_ := (mv.block _ (Array.getElem?_eq_some_iff.1 Z.out).1 (by show ¬ w.heap.size = b; omega)).trans Z.out
        have zr_ := (mv.block _ (Array.getElem?_eq_some_iff.1 Zr.out).1 (by show ¬ g = b; omega)).trans Zr.out
        have hm_ := Hm.out.trans mv (fun _ h => h) fun _ _ h => h
        clear Z Zr Hm
        have Z := Lib.hid z_; clear z_
        have Zr := Lib.hid zr_; clear zr_
        have Hm := Lib.hid hm_; clear hm_
        have hcf := Hcf.out
        clear Hcf
        have s1 := s0.trans mv (H := fun k => k = b) (fun _ h => h) fun _ _ h => h
        go_wp2_with fail
        refine seg_end s1 (segs_last ?_)
        have g_ : ((wv1.setCell ⟨g, 7, none⟩ (.bool tv1)).setCell ⟨g, 8, none⟩ (.int .i64 nv1)).heap[gf]? = HG :=
          ((heap_setCell_other _ ⟨g, 8, none⟩ gf _ (by show gf ≠ g; omega)).trans (heap_setCell_other _ ⟨g, 7, none⟩ gf _ (by show gf ≠ g; omega))).trans ((s1.block gf GL1 (by show ¬ gf = b; omega)).trans G1.out)
        have gl_ : gf < ((wv1.setCell ⟨g, 7, none⟩ (.bool tv1)).setCell ⟨g, 8, none⟩ (.int .i64 nv1)).heap.size := by have := s1.size; simp; omega
        clear s0 s1 mv Hva Y
        have fr0 := frozen_of_row wv1 g 7 _ _ Zr.out
        have fr1 := frozen_of_row wv1 g 8 _ _ Zr.out
        have y7 := cells_at Zr.out 7
        have y8 := cells_at Zr.out 8
        have zr_ : ((wv1.setCell ⟨g, 7, none⟩ (.bool tv1)).setCell ⟨g, 8, none⟩ (.int .i64 nv1)).heap[g]? = some (.cells #[.int .i64 ((k : Int) + 1), .int .i64 (t : Int), .int .u16 0, .int .u8 (kB s1 0), .int .u8 (kB s1 1), .int .u8 (kB s1 2), .int .u8 (kB s1 3), .bool tv1, .int .i64 nv1, .bool false, .int .i64 0] 63 (0, 0)) := heap_setCell_same _ g 8 _ _ (.int .i64 nv1) (heap_setCell_same wv1 g 7 _ _ (.bool tv1) Zr.out)
        have z_ := ((heap_setCell_other (wv1.setCell ⟨g, 7, none⟩ (.bool tv1)) ⟨g, 8, none⟩ w.heap.size (.int .i64 nv1) (by show w.heap.size ≠ g; omega)).trans (heap_setCell_other wv1 ⟨g, 7, none⟩ w.heap.size (.bool tv1) (by show w.heap.size ≠ g; omega))).trans Z.out
        have t_ := (tv.other (g := g) (j := 7) (v := .bool tv1) (by omega) (by omega)).other (g := g) (j := 8) (v := .int .i64 nv1) (by omega) (by omega)
        have hm_ := mod_new (mod_new Hm.out (g := g) (j := 7) (v := .bool tv1) (by omega)) (g := g) (j := 8) (v := .int .i64 nv1) (by omega)
        clear Z Zr Hm tv
        have Z := Lib.hid z_; clear z_
        have Zr := Lib.hid zr_; clear zr_
        have T4 := Lib.hid t_; clear t_
        have Hm := Lib.hid hm_; clear hm_
        have G2 := Lib.hid g_; clear g_ G1
        go_wp2_with fail
        clear fr0 fr1 y7 y8
        generalize hwx1 : (wv1.setCell ⟨g, 7, none⟩ (.bool tv1)).setCell ⟨g, 8, none⟩ (.int .i64 nv1) = wx1 at *
        clear hwx1
        have GL2 := gl_
        clear gl_ GL1
        have hva := val_calls (T4.out.below (below_drew wx1)) (there := f / 2 % 2) (size := f / 32) (by omega)
        have s0 := Mod.of_below (F := fun k => k = b) (below_drew wx1)
        have yy : ∀ w', Mod (fun k => k = b) wx1 w' → w'.cell? ⟨gf, of' + 1, none⟩ = some (.int .i64 ((f / 2 % 2 : Nat) : Int)) ∧ w'.cell? ⟨gf, of' + 3, none⟩ = some (.int .i64 ((f / 32 : Nat) : Int)) := fun w' h => by
          have e := (h.block gf GL2 (by show ¬ gf = b; omega)).trans (G2.out.trans G0.out.symm)
          exact ⟨(World.cell?_of_block e).trans (hcf 1 (by decide)), (World.cell?_of_block e).trans (hcf 3 (by decide))⟩
        have Y := Lib.hid yy; clear yy
        have z_ := (s0.block _ (Array.getElem?_eq_some_iff.1 Z.out).1 (by show ¬ w.heap.size = b; omega)).trans Z.out
        have zr_ := (s0.block _ (Array.getElem?_eq_some_iff.1 Zr.out).1 (by show ¬ g = b; omega)).trans Zr.out
        have hm_ := Hm.out.trans s0 (fun _ h => h) fun _ _ h => h
        clear Z Zr Hm
        have Z := Lib.hid z_; clear z_
        have Zr := Lib.hid zr_; clear zr_
        have Hm := Lib.hid hm_; clear hm_
        obtain ⟨V2, hV2⟩ : ∃ V, V = valT sv1 (f / 2 % 2) (f / 32) := ⟨_, rfl⟩
        rw [← hV2] at hva
        obtain ⟨sv2, tv2, nv2⟩ := V2
        simp only at hva
        have HV2 := Lib.hid hV2; clear hV2
        have Hva := Lib.hid hva; clear hva T4
        have Hcf := Lib.hid hcf; clear hcf
        generalize ht2 : f / 2 % 2 = th2 at Hva Y HV2 ⊢
        generalize hs2 : f / 32 = si2 at Hva Y HV2 ⊢
        refine wp_region_held (fun w' : World => Mod (fun k => k = b) wx1 w') [0, 1, 2, 3, 4, 5, 6] [[7], [8, 9]] (by kernel_rfl) (by kernel_rfl) rfl (by kernel_rfl) (fun _ _ _ h => by obtain ⟨_, h, _⟩ := h; cases h) (fun _ _ h => by obtain ⟨h, _⟩ := h; cases h) s0 (by kernel_rfl) ?_
        generalize wx1.drew = wd2 at *
        apply Exists.intro
        apply And.intro
        · intro w' s
          have y0 := Y.out w' s
          have x0 := y0.1
          have x1 := y0.2
          clear s y0
          simp only [List.map_cons, List.map_nil, List.getD_cons_zero, List.getD_cons_succ]
          go_wp2_with fail
          exact pre_end
        simp only [List.map_cons, List.map_nil, List.getD_cons_zero, List.getD_cons_succ]
        refine segs_more ?_
        go_wp2_with fail
        refine Hva.out.mono ?_
        rintro e wv2 ⟨rfl, tv, mv⟩
        have z_ := (mv.block _ (Array.getElem?_eq_some_iff.1 Z.out).1 (by show ¬ w.heap.size = b; omega)).trans Z.out
        have zr_ := (mv.block _ (Array.getElem?_eq_some_iff.1 Zr.out).1 (by show ¬ g = b; omega)).trans Zr.out
        have hm_ := Hm.out.trans mv (fun _ h => h) fun _ _ h => h
        clear Z Zr Hm
        have Z := Lib.hid z_; clear z_
        have Zr := Lib.hid zr_; clear zr_
        have Hm := Lib.hid hm_; clear hm_
        have hcf := Hcf.out
        clear Hcf
        have s1 := s0.trans mv (H := fun k => k = b) (fun _ h => h) fun _ _ h => h
        go_wp2_with fail
        refine seg_end s1 (segs_last ?_)
        have g_ : ((wv2.setCell ⟨g, 9, none⟩ (.bool tv2)).setCell ⟨g, 10, none⟩ (.int .i64 nv2)).heap[gf]? = HG :=
          ((heap_setCell_other _ ⟨g, 10, none⟩ gf _ (by show gf ≠ g; omega)).trans (heap_setCell_other _ ⟨g, 9, none⟩ gf _ (by show gf ≠ g; omega))).trans ((s1.block gf GL2 (by show ¬ gf = b; omega)).trans G2.out)
        have gl_ : gf < ((wv2.setCell ⟨g, 9, none⟩ (.bool tv2)).setCell ⟨g, 10, none⟩ (.int .i64 nv2)).heap.size := by have := s1.size; simp; omega
        clear s0 s1 mv Hva Y
        have fr0 := frozen_of_row wv2 g 9 _ _ Zr.out
        have fr1 := frozen_of_row wv2 g 10 _ _ Zr.out
        have y7 := cells_at Zr.out 9
        have y8 := cells_at Zr.out 10
        have zr_ : ((wv2.setCell ⟨g, 9, none⟩ (.bool tv2)).setCell ⟨g, 10, none⟩ (.int .i64 nv2)).heap[g]? = some (.cells #[.int .i64 ((k : Int) + 1), .int .i64 (t : Int), .int .u16 0, .int .u8 (kB s1 0), .int .u8 (kB s1 1), .int .u8 (kB s1 2), .int .u8 (kB s1 3), .bool tv1, .int .i64 nv1, .bool tv2, .int .i64 nv2] 63 (0, 0)) := heap_setCell_same _ g 10 _ _ (.int .i64 nv2) (heap_setCell_same wv2 g 9 _ _ (.bool tv2) Zr.out)
        have z_ := ((heap_setCell_other (wv2.setCell ⟨g, 9, none⟩ (.bool tv2)) ⟨g, 10, none⟩ w.heap.size (.int .i64 nv2) (by show w.heap.size ≠ g; omega)).trans (heap_setCell_other wv2 ⟨g, 9, none⟩ w.heap.size (.bool tv2) (by show w.heap.size ≠ g; omega))).trans Z.out
        have t_ := (tv.other (g := g) (j := 9) (v := .bool tv2) (by omega) (by omega)).other (g := g) (j := 10) (v := .int .i64 nv2) (by omega) (by omega)
        have hm_ := mod_new (mod_new Hm.out (g := g) (j := 9) (v := .bool tv2) (by omega)) (g := g) (j := 10) (v := .int .i64 nv2) (by omega)
        clear Z Zr Hm tv
        have Z := Lib.hid z_; clear z_
        have Zr := Lib.hid zr_; clear zr_
        have T4 := Lib.hid t_; clear t_
        have Hm := Lib.hid hm_; clear hm_
        have G3 := Lib.hid g_; clear g_ G2
        go_wp2_with (with_reducible refine stop_load 63 ?_)
        refine unpark ?_
        clear fr0 fr1 y7 y8
        generalize hwx2 : (wv2.setCell ⟨g, 9, none⟩ (.bool tv2)).setCell ⟨g, 10, none⟩ (.int .i64 nv2) = wx2 at *
        clear hwx2
        have GL3 := gl_
        clear gl_ GL2
        have hR3 := HR2.out
        rw [ht1, hs1] at hR3 
        have hq1 := HV1.out
        have hq2 := HV2.out
        rw [← hq1] at hR3
        simp only at hR3
        rw [ht2, hs2, ← hq2] at hR3
        simp only at hR3
        clear hq1 hq2 HR2 HV1 HV2 ht1 hs1 ht2 hs2
        have HR3 := Lib.hid hR3; clear hR3
        have hgw : w.heap.size < g := hsz
        have zf : (setAll wx2 w.heap.size 0 [.int .i64 ((k : Int) + 1), .int .i64 (t : Int), .int .u16 0, .int .u8 (kB s1 0), .int .u8 (kB s1 1), .int .u8 (kB s1 2), .int .u8 (kB s1 3), .bool tv1, .int .i64 nv1, .bool tv2, .int .i64 nv2]).heap[w.heap.size]? = some (.cells #[.int .i64 ((k : Int) + 1), .int .i64 (t : Int), .int .u16 0, .int .u8 (kB s1 0), .int .u8 (kB s1 1), .int .u8 (kB s1 2), .int .u8 (kB s1 3), .bool tv1, .int .i64 nv1, .bool tv2, .int .i64 nv2] 63 (0, 0)) := setAll_full Z.out rfl
        have hm := setAll_mod (Nat.le_refl _) [.int .i64 ((k : Int) + 1), .int .i64 (t : Int), .int .u16 0, .int .u8 (kB s1 0), .int .u8 (kB s1 1), .int .u8 (kB s1 2), .int .u8 (kB s1 3), .bool tv1, .int .i64 nv1, .bool tv2, .int .i64 nv2] 0 wx2 Hm.out
        have ht := setAll_tk (g := w.heap.size) (by omega) (by omega) [.int .i64 ((k : Int) + 1), .int .i64 (t : Int), .int .u16 0, .int .u8 (kB s1 0), .int .u8 (kB s1 1), .int .u8 (kB s1 2), .int .u8 (kB s1 3), .bool tv1, .int .i64 nv1, .bool tv2, .int .i64 nv2] 0 wx2 T4.out
        simp only [setAll] at zf hm ht
        have ZF := Lib.hid zf; clear zf
        have HM := Lib.hid hm; clear hm
        have HT4 := Lib.hid ht; clear ht
        have r0 := cells_at Zr.out 0
        have r1 := cells_at Zr.out 1
        have r2 := cells_at Zr.out 2
        have r3 := cells_at Zr.out 3
        have r4 := cells_at Zr.out 4
        have r5 := cells_at Zr.out 5
        have r6 := cells_at Zr.out 6
        have r7 := cells_at Zr.out 7
        have r8 := cells_at Zr.out 8
        have r9 := cells_at Zr.out 9
        have r10 := cells_at Zr.out 10
        have y0 := cells_at Z.out 0
        have y1 := cells_at Z.out 1
        have y2 := cells_at Z.out 2
        have y3 := cells_at Z.out 3
        have y4 := cells_at Z.out 4
        have y5 := cells_at Z.out 5
        have y6 := cells_at Z.out 6
        have y7 := cells_at Z.out 7
        have y8 := cells_at Z.out 8
        have y9 := cells_at Z.out 9
        have y10 := cells_at Z.out 10
        have f0 := frozen_of_row wx2 w.heap.size 0 _ _ Z.out
        have f1 := frozen_of_row wx2 w.heap.size 1 _ _ Z.out
        have f2 := frozen_of_row wx2 w.heap.size 2 _ _ Z.out
        have f3 := frozen_of_row wx2 w.heap.size 3 _ _ Z.out
        have f4 := frozen_of_row wx2 w.heap.size 4 _ _ Z.out
        have f5 := frozen_of_row wx2 w.heap.size 5 _ _ Z.out
        have f6 := frozen_of_row wx2 w.heap.size 6 _ _ Z.out
        have f7 := frozen_of_row wx2 w.heap.size 7 _ _ Z.out
        have f8 := frozen_of_row wx2 w.heap.size 8 _ _ Z.out
        have f9 := frozen_of_row wx2 w.heap.size 9 _ _ Z.out
        have f10 := frozen_of_row wx2 w.heap.size 10 _ _ Z.out
        clear Z Zr Hm T4
        go_wp2
        clear r0 y0 f0 r1 y1 f1 r2 y2 f2 r3 y3 f3 r4 y4 f4 r5 y5 f5 r6 y6 f6 r7 y7 f7 r8 y8 f8 r9 y9 f9 r10 y10 f10
        refine bodyPost_ret (v := .agg #[.int .i64 ((k : Int) + 1), .int .i64 (t : Int), .int .u16 0, .int .u8 (kB s1 0), .int .u8 (kB s1 1), .int .u8 (kB s1 2), .int .u8 (kB s1 3), .bool tv1, .int .i64 nv1, .bool tv2, .int .i64 nv2]) ?_ rfl ?_
        · exact results_cell_row Tryz.results67 _ _ w.heap.size 63 _ _ _ rfl ZF.out Tryz.underlying63 rfl (by kernel_rfl)
        · exact ⟨by rw [HR3.out]; rfl, by rw [HR3.out]; exact HT4.out, HM.out⟩
  · have dk : decide (keyedK ((k : Int) + 1)) = false := decide_eq_false hkk
    rw [dk]
    rw [if_neg hkk] at hR2
    have HR3 := Lib.hid hR2; clear hR2 dk hkk
    go_wp2_with (with_reducible refine stop_load 63 ?_)
    refine unpark ?_
    have zf : (setAll w7 w.heap.size 0 [.int .i64 ((k : Int) + 1), .int .i64 (t : Int), .int .u16 0, .int .u8 0, .int .u8 0, .int .u8 0, .int .u8 0, .bool false, .int .i64 0, .bool false, .int .i64 0]).heap[w.heap.size]? = some (.cells #[.int .i64 ((k : Int) + 1), .int .i64 (t : Int), .int .u16 0, .int .u8 0, .int .u8 0, .int .u8 0, .int .u8 0, .bool false, .int .i64 0, .bool false, .int .i64 0] 63 (0, 0)) := setAll_full Z.out rfl
    have hm := setAll_mod (Nat.le_refl _) [.int .i64 ((k : Int) + 1), .int .i64 (t : Int), .int .u16 0, .int .u8 0, .int .u8 0, .int .u8 0, .int .u8 0, .bool false, .int .i64 0, .bool false, .int .i64 0] 0 w7 Hm.out
    have ht := setAll_tk (g := w.heap.size) (by omega) (by omega) [.int .i64 ((k : Int) + 1), .int .i64 (t : Int), .int .u16 0, .int .u8 0, .int .u8 0, .int .u8 0, .int .u8 0, .bool false, .int .i64 0, .bool false, .int .i64 0] 0 w7 T4.out
    simp only [setAll] at zf hm ht
    have ZF := Lib.hid zf; clear zf
    have HM := Lib.hid hm; clear hm
    have HT4 := Lib.hid ht; clear ht
    have r0 := cells_at Zr.out 0
    have r1 := cells_at Zr.out 1
    have r2 := cells_at Zr.out 2
    have r3 := cells_at Zr.out 3
    have r4 := cells_at Zr.out 4
    have r5 := cells_at Zr.out 5
    have r6 := cells_at Zr.out 6
    have r7 := cells_at Zr.out 7
    have r8 := cells_at Zr.out 8
    have r9 := cells_at Zr.out 9
    have r10 := cells_at Zr.out 10
    have y0 := cells_at Z.out 0
    have y1 := cells_at Z.out 1
    have y2 := cells_at Z.out 2
    have y3 := cells_at Z.out 3
    have y4 := cells_at Z.out 4
    have y5 := cells_at Z.out 5
    have y6 := cells_at Z.out 6
    have y7 := cells_at Z.out 7
    have y8 := cells_at Z.out 8
    have y9 := cells_at Z.out 9
    have y10 := cells_at Z.out 10
    have f0 := frozen_of_row w7 w.heap.size 0 _ _ Z.out
    have f1 := frozen_of_row w7 w.heap.size 1 _ _ Z.out
    have f2 := frozen_of_row w7 w.heap.size 2 _ _ Z.out
    have f3 := frozen_of_row w7 w.heap.size 3 _ _ Z.out
    have f4 := frozen_of_row w7 w.heap.size 4 _ _ Z.out
    have f5 := frozen_of_row w7 w.heap.size 5 _ _ Z.out
    have f6 := frozen_of_row w7 w.heap.size 6 _ _ Z.out
    have f7 := frozen_of_row w7 w.heap.size 7 _ _ Z.out
    have f8 := frozen_of_row w7 w.heap.size 8 _ _ Z.out
    have f9 := frozen_of_row w7 w.heap.size 9 _ _ Z.out
    have f10 := frozen_of_row w7 w.heap.size 10 _ _ Z.out
    clear Z Zr Hm T4
    go_wp2
    clear r0 y0 f0 r1 y1 f1 r2 y2 f2 r3 y3 f3 r4 y4 f4 r5 y5 f5 r6 y6 f6 r7 y7 f7 r8 y8 f8 r9 y9 f9 r10 y10 f10
    refine bodyPost_ret (v := .agg #[.int .i64 ((k : Int) + 1), .int .i64 (t : Int), .int .u16 0, .int .u8 0, .int .u8 0, .int .u8 0, .int .u8 0, .bool false, .int .i64 0, .bool false, .int .i64 0]) ?_ rfl ?_
    · exact results_cell_row Tryz.results67 _ _ w.heap.size 63 _ _ _ rfl ZF.out Tryz.underlying63 rfl (by kernel_rfl)
    · exact ⟨by rw [HR3.out]; rfl, by rw [HR3.out]; exact HT4.out, HM.out⟩
end Go.Proofs.YtgpedejeifmfdaaGreat
