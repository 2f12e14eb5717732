/- The box: what it is in memory; New, Len, Label, Clear, seen, List. -/
import Derived.Test.YtclgakdfeeefiaaDoorBox2
namespace Go.Proofs.YtclgakdfeeefiaaDoor
open Go.RowKit

def mrow (ms : List Msg) : List Value := ms.flatMap Msg.cells
theorem mrow_len (ms : List Msg) : (mrow ms).length = ms.length * 4 := flatMap_len Msg.cells 4 ms fun _ _ => rfl
theorem mrow_one (ms : List Msg) : ∀ u ∈ mrow ms, u.oneCell' = true := by
  intro u hu
  obtain ⟨m, _, hu⟩ := List.mem_flatMap.1 hu
  simp [Msg.cells] at hu
  rcases hu with rfl | rfl | rfl | rfl <;> rfl
theorem mrow_at (ms : List Msg) {i : Nat} (hi : i < ms.length) (j : Nat) (hj : j < 4) : (mrow ms)[i * 4 + j]? = ms[i].cells[j]? := by
  have := flatMap_at Msg.cells 4 ms (fun _ _ => rfl) i hi
  rw [← this, List.getElem?_take, if_pos hj, List.getElem?_drop]
  rfl
theorem mrow_append (a b : List Msg) : mrow (a ++ b) = mrow a ++ mrow b := List.flatMap_append
theorem mrow_take (ms : List Msg) (i : Nat) : (mrow ms).take (i * 4) = mrow (ms.take i) := by
  rcases Nat.le_total i ms.length with h | h
  · conv => lhs; rw [← List.take_append_drop i ms, mrow_append]
    rw [List.take_append_of_le_length (by rw [mrow_len, List.length_take]; omega), List.take_of_length_le (by rw [mrow_len, List.length_take]; omega)]
  · rw [List.take_of_length_le h, List.take_of_length_le (by rw [mrow_len]; omega)]
theorem mrow_drop (ms : List Msg) (i : Nat) : (mrow ms).drop (i * 4) = mrow (ms.drop i) := by
  rcases Nat.le_total i ms.length with h | h
  · conv => lhs; rw [← List.take_append_drop i ms, mrow_append]
    rw [List.drop_append, List.drop_of_length_le (by rw [mrow_len, List.length_take]; omega), List.nil_append, mrow_len, List.length_take, Nat.min_eq_left h, Nat.sub_self, List.drop_zero]
  · rw [List.drop_of_length_le h, List.drop_of_length_le (by rw [mrow_len]; omega)]; rfl

/-- A slice of messages that reads so. -/
structure Msgs (w : World) (a : Option Addr) (n c : Nat) (ms : List Msg) : Prop where
  len : ms.length = n
  le : n ≤ c
  max : c ≤ 9223372036854775807
  cell : 0 < n → ∃ b o, a = some ⟨b, o, none⟩ ∧ ∀ j u, (mrow ms)[j]? = some u → w.cell? ⟨b, o + j, none⟩ = some u
theorem Msgs.keepPos {w w' : World} {a : Option Addr} {n c : Nat} {ms : List Msg} (h : Msgs w a n c ms) (hk : ∀ b o, 0 < n → a = some ⟨b, o, none⟩ → b < w.heap.size → w'.heap[b]? = w.heap[b]?) : Msgs w' a n c ms := by
  refine ⟨h.len, h.le, h.max, fun hn => ?_⟩
  obtain ⟨b, o, rfl, hc⟩ := h.cell hn
  have hl := h.len
  have h0 : 0 < (mrow ms).length := by rw [mrow_len]; omega
  have hb := World.block_lt_of_cell? w _ (hc 0 _ (List.getElem?_eq_getElem h0))
  exact ⟨b, o, rfl, fun j u hu => (World.cell?_of_block (hk b o hn rfl hb)).trans (hc j u hu)⟩
theorem Msgs.keep {w w' : World} {a : Option Addr} {n c : Nat} {ms : List Msg} (h : Msgs w a n c ms) (hb : Below w.heap.size w w') : Msgs w' a n c ms :=
  h.keepPos fun b _ _ _ hl => hb.block b hl
theorem Msgs.block {w : World} {a : Option Addr} {n c : Nat} {ms : List Msg} (h : Msgs w a n c ms) : ∀ b o, 0 < n → a = some ⟨b, o, none⟩ → b < w.heap.size := by
  rintro b o hn rfl
  obtain ⟨b', o', e, hc⟩ := h.cell hn
  cases e
  have hl := h.len
  have h0 : 0 < (mrow ms).length := by rw [mrow_len]; omega
  exact World.block_lt_of_cell? w _ (hc 0 _ (List.getElem?_eq_getElem h0))

/-- A slice of messages that the call owns. -/
def MOwn (w : World) (B : Nat) (v : Value) (ms : List Msg) : Prop := w.ownsRow B 39 4 v ms.length (mrow ms)
theorem MOwn.msgs {w : World} {B : Nat} {v : Value} {ms : List Msg} (h : MOwn w B v ms) : ∃ a n c, v = .slice a n c ∧ Msgs w a n c ms ∧ ∀ b o, a = some ⟨b, o, none⟩ → B ≤ b ∧ b < w.heap.size := by
  have hlt := World.ownsRow.lt h
  rcases h.2 with ⟨rfl, h0⟩ | ⟨g, cap, cur, rfl, hb, hg, hn, hm, hs, ht⟩
  · exact ⟨none, 0, 0, rfl, ⟨h0, Nat.le_refl _, by omega, fun h => by omega⟩, fun _ _ e => by cases e⟩
  · refine ⟨_, _, _, rfl, ⟨rfl, hn, by simpa [maxLen] using hm, fun _ => ⟨g, 0, rfl, fun j u hu => ?_⟩⟩, fun b o e => by cases e; exact hlt g rfl⟩
    have hj : j < ms.length * 4 := by have := (List.getElem?_eq_some_iff.1 hu).1; rwa [mrow_len] at this
    rw [Nat.zero_add, World.ownsRow.cellAt h j hj, hu]
theorem MOwn.keep {w w' : World} {B : Nat} {v : Value} {ms : List Msg} (h : MOwn w B v ms) (hk : ∀ g, v.ownBlock = some g → g < w.heap.size → w'.heap[g]? = w.heap[g]?) : MOwn w' B v ms := ownsRow_keep h hk
theorem MOwn.nil (w : World) (B : Nat) : MOwn w B (.slice none 0 0) [] := ⟨rfl, .inl ⟨rfl, rfl⟩⟩

structure BoxAt (w : World) (B b : Nat) (mv : Value) (l : Label) (r : Nat) (ms : List Msg) : Prop where
  root : w.heap[b]? = some (.cells #[.int .u64 l.1, .int .u64 l.2, mv, .int .i64 (r : Int)] 118 (0, 0))
  row : MOwn w B mv ms
  apart : ∀ g, mv.ownBlock = some g → g ≠ b
  bb : B ≤ b
  room : 1 ≤ r ∧ r ≤ 8
  len : ms.length ≤ r
def foot (b : Nat) (mv : Value) (k : Nat) : Prop := k = b ∨ mv.ownBlock = some k
section
variable {w w' : World} {B b : Nat} {mv : Value} {l : Label} {r : Nat} {ms : List Msg}
theorem BoxAt.lt (h : BoxAt w B b mv l r ms) : ∀ k, foot b mv k → B ≤ k ∧ k < w.heap.size := by
  rintro k (rfl | hk)
  · exact ⟨h.bb, (Array.getElem?_eq_some_iff.1 h.root).1⟩
  · exact World.ownsRow.lt h.row k hk
theorem BoxAt.keep (h : BoxAt w B b mv l r ms) (hk : ∀ k, foot b mv k → w'.heap[k]? = w.heap[k]?) : BoxAt w' B b mv l r ms where
  root := (hk b (.inl rfl)).trans h.root
  row := h.row.keep fun g e _ => hk g (.inr e)
  apart := h.apart
  bb := h.bb
  room := h.room
  len := h.len
theorem BoxAt.below (h : BoxAt w B b mv l r ms) (hb : Below w.heap.size w w') : BoxAt w' B b mv l r ms := h.keep fun k hk => hb.block k (h.lt k hk).2
theorem BoxAt.shape (h : BoxAt w B b mv l r ms) : ∃ a c, mv = .slice a ms.length c := by
  rcases h.row.2 with ⟨rfl, h0⟩ | ⟨g, cap, cur, rfl, _⟩
  · rw [h0]; exact ⟨_, _, rfl⟩
  · exact ⟨_, _, rfl⟩

theorem New_bad {w : World} (l : Label) {n : Int} (hn : ¬ (1 ≤ n ∧ n ≤ 8)) :
    Calls Tryd.prog 38 #[.agg l.cells.toArray, .int .i64 n] w fun e w' => e = .returned (.tuple #[.pointer none, .int .i64 11]) ∧ Below w.heap.size w w' := by
  obtain ⟨l1, l2⟩ := l
  simp only [Label.cells]
  have fin : Below w.heap.size w (w.alloc (.cells #[.int .u64 l1, .int .u64 l2] 32)) := (Below.refl _ _).alloc (Nat.le_refl _) _
  have Hf := Lib.hid fin; clear fin
  by_cases h1 : n < 1
  · have hd : decide (n < 1) = true := decide_eq_true h1
    clear hn
    go_enter Tryd.func38, Tryd.ntmps38
    go_wp2
    go_ret2
    exact ⟨rfl, Hf.out⟩
  · have hd : decide (n < 1) = false := decide_eq_false h1
    have hd2 : decide (8 < n) = true := decide_eq_true (by omega)
    clear hn
    go_enter Tryd.func38, Tryd.ntmps38
    go_wp2
    go_ret2
    exact ⟨rfl, Hf.out⟩

set_option maxHeartbeats 1000000 in
theorem New_calls {w : World} (l : Label) {n : Nat} (h1 : 1 ≤ n) (h2 : n ≤ 8) :
    Calls Tryd.prog 38 #[.agg l.cells.toArray, .int .i64 n] w fun e w' => ∃ b, e = .returned (.tuple #[.pointer (some ⟨b, 0, none⟩), .int .i64 0]) ∧ BoxAt w' w.heap.size b (.slice none 0 0) l n [] ∧ Below w.heap.size w w' := by
  obtain ⟨l1, l2⟩ := l
  simp only [Label.cells]
  have hd : decide ((n : Int) < 1) = false := decide_eq_false (by omega)
  have hd2 : decide (8 < (n : Int)) = false := decide_eq_false (by omega)
  go_enter Tryd.func38, Tryd.ntmps38
  go_wp2_with (with_reducible refine stop_build 118 ?_)
  refine unpark ?_
  refine wpList_build2 rfl _ _ _ _ _ rfl _ _ rfl rfl (.agg #[.int .u64 l1, .int .u64 l2, .slice none 0 0, .int .i64 (n : Int)]) (by kernel_rfl) ?_
  go_wp2
  go_ret2
  have b1 : Below w.heap.size w (w.alloc (.cells #[.int .u64 l1, .int .u64 l2] 32)) := (Below.refl _ _).alloc (Nat.le_refl _) _
  have hz : (w.alloc (.cells #[.int .u64 l1, .int .u64 l2] 32)).heap.size = w.heap.size + 1 := by simp
  generalize w.alloc (.cells #[.int .u64 l1, .int .u64 l2] 32) = w1 at b1 hz ⊢
  refine ⟨_, rfl, ⟨?_, MOwn.nil _ _, (fun g hg => by cases hg), ?_, ⟨h1, h2⟩, Nat.zero_le _⟩, b1.alloc b1.size _⟩
  · rw [← hz]; exact heap_alloc_new w1 _
  · omega

theorem Clear_calls (h : BoxAt w B b mv l r ms) : Calls Tryd.prog 58 #[.pointer (some ⟨b, 0, none⟩)] w fun e w' => e = .returned (.tuple #[]) ∧ BoxAt w' B b (.slice none 0 0) l r [] ∧ Mod (foot b mv) w w' := by
  obtain ⟨a, c, rfl⟩ := h.shape
  have c2 := cells_at h.root 2
  have f2 := frozen_of_row w b 2 _ _ h.root
  have hn : BoxAt (w.setCell ⟨b, 2, none⟩ (.slice none 0 0)) B b (.slice none 0 0) l r [] := ⟨heap_setCell_same w b 2 _ _ _ h.root, MOwn.nil _ _, (fun g hg => by cases hg), h.bb, h.room, Nat.zero_le _⟩
  have hm : Mod (foot b (.slice a ms.length c)) w (w.setCell ⟨b, 2, none⟩ (.slice none 0 0)) := ⟨rfl, rfl, rfl, by simp, fun k _ hk => heap_setCell_other w _ k _ fun e => hk (.inl e)⟩
  have Hn := Lib.hid hn; clear hn
  have Hm := Lib.hid hm; clear hm h
  go_enter Tryd.func58, Tryd.ntmps58
  go_wp2
  go_end0
  exact ⟨rfl, Hn.out, Hm.out⟩

set_option maxHeartbeats 1000000 in
theorem seen_calls (h : BoxAt w B b mv l r ms) (t : Label) (o : Int) :
    Calls Tryd.prog 70 #[.pointer (some ⟨b, 0, none⟩), .agg t.cells.toArray, .int .u64 o] w fun e w' => e = .returned (.bool (withOf l t o)) ∧ Below w.heap.size w w' := by
  have hw := fun w : World => With_calls (w := w) l t o
  obtain ⟨X, hX⟩ : ∃ X, X = withOf l t o := ⟨_, rfl⟩
  rw [← hX] at hw ⊢
  clear hX
  have b0 : Below w.heap.size w (w.alloc (.cells t.cells.toArray 32)) := (Below.refl _ _).alloc (Nat.le_refl _) _
  have hb := h.below b0
  have hbl := (h.lt b (.inl rfl)).2
  have hx := heap_alloc_new w (.cells t.cells.toArray 32)
  obtain ⟨l1, l2⟩ := l
  obtain ⟨t1, t2⟩ := t
  simp only [Label.cells] at hw hx b0 hb ⊢
  have Hw := Lib.hid hw; clear hw
  have Hh := Lib.hid h; clear h
  have Hb := Lib.hid hb; clear hb
  have Hx := Lib.hid hx; clear hx
  have Hb0 := Lib.hid b0; clear b0
  go_enter Tryd.func70, Tryd.ntmps70
  go_wp2_with fail
  have e0 : ([.int .u64 t1, .int .u64 t2] : List Value).toArray = #[.int .u64 t1, .int .u64 t2] := rfl
  rw [e0] at Hb Hx Hb0
  obtain ⟨w1, hw1⟩ : ∃ w1, w1 = w.alloc (.cells #[.int .u64 t1, .int .u64 t2] 32) := ⟨_, rfl⟩
  rw [← hw1] at Hb Hx Hb0 ⊢
  clear hw1 e0
  refine wp_region_free [0, 1, 2, 3, 4, 5, 6, 7] (by kernel_rfl) (by kernel_rfl) rfl (by kernel_rfl) (fun _ _ _ h => by obtain ⟨_, h, _⟩ := h; cases h) (fun _ _ h => by obtain ⟨h, _⟩ := h; cases h) ?_
  simp only [List.map_cons, List.map_nil, List.getD_cons_zero, List.getD_cons_succ]
  have c0 : w1.drew.cell? ⟨b, 0, none⟩ = some (.int .u64 l1) := cells_at Hb.out.root 0
  have c1 : w1.drew.cell? ⟨b, 1, none⟩ = some (.int .u64 l2) := cells_at Hb.out.root 1
  have d0 : w1.drew.cell? ⟨w.heap.size, 0, none⟩ = some (.int .u64 t1) := cells_at Hx.out 0
  have d1 : w1.drew.cell? ⟨w.heap.size, 1, none⟩ = some (.int .u64 t2) := cells_at Hx.out 1
  have bd : Below w.heap.size w w1.drew := Hb0.out.trans ⟨rfl, rfl, rfl, Nat.le_refl _, fun _ _ => rfl⟩
  have Hbd := Lib.hid bd; clear bd
  generalize w1.drew = w2 at *
  go_wp2_with fail
  refine (Hw.out _).mono ?_
  rintro e w3 ⟨rfl, b3⟩
  have bf := Hbd.out.trans (b3.mono Hbd.out.size)
  have Hbf := Lib.hid bf; clear bf b3 c0 c1 d0 d1
  go_wp2
  go_ret
  exact ⟨rfl, Hbf.out⟩

set_option maxHeartbeats 1000000 in
theorem Clone_calls {v : Value} (h : MOwn w B v ms) (hn : ms.length ≤ 1000000) :
    Calls Tryd.prog 51 #[v] w fun e w' => ∃ v', e = .returned v' ∧ MOwn w' w.heap.size v' ms ∧ Below w.heap.size w w' := by
  obtain ⟨a, n, c, rfl, hm, _⟩ := h.msgs
  have hml := hm.len
  cases a with
  | none =>
    have h0 : n = 0 := by
      rcases Nat.eq_zero_or_pos n with h0 | h0
      · exact h0
      · obtain ⟨_, _, e, _⟩ := hm.cell h0; cases e
    subst h0
    obtain rfl : ms = [] := List.eq_nil_of_length_eq_zero hml
    have hc : c = 0 := by
      rcases h.2 with ⟨e, _⟩ | ⟨_, _, _, e, _⟩
      · cases e; rfl
      · cases e
    subst hc
    have hq : ∀ w, (binOp .eql 44 (.slice none 0 0) (.slice none 0 0)).run Tryd.prog w = .ok (.bool true) w := fun w => by kernel_rfl
    clear hml hm h
    go_enter Tryd.func51, Tryd.ntmps51
    go_wp2
    go_ret
    exact ⟨_, rfl, MOwn.nil _ _, Below.refl _ _⟩
  | some x =>
    have b0 : Below w.heap.size w (w.alloc (.cells #[] 39)) := (Below.refl _ _).alloc (Nat.le_refl _) _
    have own0 : (w.alloc (.cells #[] 39)).ownsRow w.heap.size 39 4 (.slice (some ⟨w.heap.size, 0, none⟩) 0 0) 0 [] := World.ownsRow_made w #[] 0 (Nat.le_refl _) (by unfold maxLen; omega) rfl
    have hm0 := hm.keep b0
    obtain ⟨ti, hti, hz0, hz1, hz2⟩ := info_parts Tryd.infoMsg
    have Hm := Lib.hid hm; clear hm
    have Hm0 := Lib.hid hm0; clear hm0
    have Hb0 := Lib.hid b0; clear b0
    have Hml := Lib.hid hml; clear hml
    have hnn : n ≤ 1000000 := by rw [← Hml.out]; exact hn
    have hq : ∀ w, (binOp .eql 44 (.slice (some x) n c) (.slice none 0 0)).run Tryd.prog w = .ok (.bool false) w := fun w => by kernel_rfl
    clear h
    go_enter Tryd.func51, Tryd.ntmps51
    go_wp2_with (with_reducible refine stop_builtin .append ?_)
    refine unpark ?_
    refine wpList_append_src _ rfl _ _ 44 rfl w.heap.size 39 ti (.agg #[.int .i64 0, .int .i64 0, .int .i64 0, .int .i64 0]) 4 32 Tryd.underlying44 hti hz0 hz1 hz2 rfl (by decide) _ 0 [] (by rfl) own0 _ n c (mrow ms) (by rfl) (by rw [mrow_len, Hml.out]) Hm0.out.cell (mrow_one ms) (by unfold maxLen; omega) (by omega) (by simp) ?_
    intro v' w' hown hg _
    have hf := Hb0.out.grown hg Hb0.out.size (fun k hk => (own0.lt k hk).1)
    rw [Nat.zero_add, List.nil_append, ← Hml.out] at hown
    have Ho := Lib.hid hown; clear hown
    have Hf := Lib.hid hf; clear hf hg own0
    go_wp2
    go_ret
    exact ⟨v', rfl, Ho.out, Hf.out⟩

set_option maxHeartbeats 1000000 in
theorem List_calls (h : BoxAt w B b mv l r ms) (t : Label) (o : Int) :
    Calls Tryd.prog 50 #[.pointer (some ⟨b, 0, none⟩), .agg t.cells.toArray, .int .u64 o] w fun e w' =>
      ∃ v, e = .returned (.tuple #[v, .int .i64 (if withOf l t o then 0 else 14)]) ∧ MOwn w' w.heap.size v (if withOf l t o then ms else []) ∧ Below w.heap.size w w' := by
  have b0 : Below w.heap.size w (w.alloc (.cells t.cells.toArray 32)) := (Below.refl _ _).alloc (Nat.le_refl _) _
  have hb := h.below b0
  have hs := seen_calls hb t o
  have hx := heap_alloc_new w (.cells t.cells.toArray 32)
  obtain ⟨t1, t2⟩ := t
  simp only [Label.cells] at hx b0 hb hs ⊢
  obtain ⟨X, hX⟩ : ∃ X, X = withOf l (t1, t2) o := ⟨_, rfl⟩
  rw [← hX] at hs ⊢
  clear hX
  have Hs := Lib.hid hs; clear hs
  have Hb := Lib.hid hb; clear hb
  have Hx := Lib.hid hx; clear hx
  have Hb0 := Lib.hid b0; clear b0
  have hlen := h.len
  have hroom := h.room.2
  have Hh := Lib.hid h; clear h
  cases X with
  | false =>
    simp only [Bool.false_eq_true, if_false]
    go_enter Tryd.func50, Tryd.ntmps50
    go_wp2_with fail
    refine Hs.out.mono ?_
    rintro e w1 ⟨rfl, b1⟩
    have b01 := Hb0.out.trans (b1.mono Hb0.out.size)
    have Hb1 := Lib.hid b01; clear b01 b1 Hs Hb Hx Hb0
    go_wp2
    go_ret2
    exact ⟨_, rfl, MOwn.nil _ _, Hb1.out⟩
  | true =>
    simp only [if_true]
    go_enter Tryd.func50, Tryd.ntmps50
    go_wp2_with fail
    refine Hs.out.mono ?_
    rintro e w1 ⟨rfl, b1⟩
    have h1 := Hb.out.below b1
    have b01 := Hb0.out.trans (b1.mono Hb0.out.size)
    clear b1 Hs Hb Hx Hb0
    have Hb1 := Lib.hid b01; clear b01
    have c2 := cells_at h1.root 2
    have hc := Clone_calls h1.row (by omega)
    have hle := Hb1.out.size
    obtain ⟨a, c, hmv⟩ := h1.shape
    obtain ⟨n, hn⟩ : ∃ n, n = ms.length := ⟨_, rfl⟩
    rw [← hn] at hmv
    subst hmv
    have Hc := Lib.hid hc; clear hc h1 hn
    go_wp2_with fail
    refine Hc.out.mono ?_
    rintro e w2 ⟨v, rfl, hv, b2⟩
    have b02 := Hb1.out.trans (b2.mono hle)
    have hv' : MOwn w2 w.heap.size v ms := by
      refine ⟨hv.1, ?_⟩
      rcases hv.2 with e | ⟨g, cap, cur, e, hb, rest⟩
      · exact .inl e
      · exact .inr ⟨g, cap, cur, e, by omega, rest⟩
    have Hv := Lib.hid hv'; clear hv' hv b2
    have Hb2 := Lib.hid b02; clear b02
    go_wp2
    go_ret2
    exact ⟨v, rfl, Hv.out, Hb2.out⟩
end
end Go.Proofs.YtclgakdfeeefiaaDoor
