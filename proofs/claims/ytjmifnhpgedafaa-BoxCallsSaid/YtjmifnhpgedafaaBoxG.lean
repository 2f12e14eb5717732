/- The document's box within a law; both boxes. -/
import Derived.Test.YtjmifnhpgedafaaBoxC
import Derived.Test.YtjmifnhpgedafaaBoxF
namespace Go.Proofs.Ytjmifnhpgedafaa
open Go.RowKit

structure Rx (w0 w : World) (b : Nat) (F : Nat → Prop) (l : Label) (r : Nat) (ms : List Msg) : Prop where
  box : ∃ mv, RAt w w0.heap.size b mv l r ms ∧ ∀ k, foot b mv k → F k
  low : ∀ k, F k → w0.heap.size ≤ k ∧ k < w.heap.size
  bel : Below w0.heap.size w0 w

theorem RAt.mono {w : World} {B B' b : Nat} {mv : Value} {l : Label} {r : Nat} {ms : List Msg} (h : RAt w B b mv l r ms) (hB : B' ≤ B) : RAt w B' b mv l r ms where
  root := h.root
  row := by
    refine ⟨h.row.1, ?_⟩
    rcases h.row.2 with hn | ⟨g, cap, cur, e, hb, rest⟩
    · exact .inl hn
    · exact .inr ⟨g, cap, cur, e, by omega, rest⟩
  apart := h.apart
  bb := Nat.le_trans hB h.bb
  room := h.room
  len := h.len

section
variable {w0 w w' : World} {b : Nat} {F : Nat → Prop} {l : Label} {r : Nat} {ms : List Msg}
theorem Rx.step (h : Rx w0 w b F l r ms) (hb : Below w.heap.size w w') : Rx w0 w' b F l r ms where
  box := by
    obtain ⟨mv, hd, hf⟩ := h.box
    exact ⟨mv, hd.below hb, hf⟩
  low := fun k hk => ⟨(h.low k hk).1, Nat.lt_of_lt_of_le (h.low k hk).2 hb.size⟩
  bel := h.bel.trans (hb.mono h.bel.size)
theorem Rx.drawn (h : Rx w0 w b F l r ms) (n : Nat) : Rx w0 (w.drewN n) b F l r ms := h.step (below_drawn w n)
theorem Rx.aside {G : Nat → Prop} (h : Rx w0 w b F l r ms) (hm : Mod G w w') (ha : ∀ k, F k → ¬ G k) (hG : ∀ k, G k → w0.heap.size ≤ k) : Rx w0 w' b F l r ms where
  box := by
    obtain ⟨mv, hd, hf⟩ := h.box
    exact ⟨mv, hd.keep fun k hk => hm.block k (hd.lt k hk).2 (ha k (hf k hk)), hf⟩
  low := fun k hk => ⟨(h.low k hk).1, Nat.lt_of_lt_of_le (h.low k hk).2 hm.size⟩
  bel := hm.below h.bel h.bel.size hG
theorem Rx.room (h : Rx w0 w b F l r ms) : (1 ≤ r ∧ r ≤ 8) ∧ ms.length ≤ r := by
  obtain ⟨mv, hd, hf⟩ := h.box
  exact ⟨hd.room, hd.len⟩
theorem Rx.after {mv mv' : Value} {ms' : List Msg} (h : Rx w0 w b F l r ms) (hf : ∀ k, foot b mv k → F k) (hd' : RAt w' w0.heap.size b mv' l r ms') (hx : ∀ g, mv'.ownBlock = some g → mv.ownBlock = some g ∨ w.heap.size ≤ g) (hm : Mod (foot b mv) w w') :
    Rx w0 w' b (grownF F w w') l r ms' ∧ Mod F w w' := by
  have hm' : Mod F w w' := hm.mono fun x hx => hf x hx
  refine ⟨⟨⟨mv', hd', ?_⟩, ?_, hm'.below h.bel h.bel.size fun x hx => (h.low x hx).1⟩, hm'⟩
  · rintro k (rfl | hk)
    · exact .inl (hf _ (.inl rfl))
    · rcases hx k hk with h1 | h1
      · exact .inl (hf k (.inr h1))
      · exact .inr ⟨h1, (hd'.lt k (.inr hk)).2⟩
  · rintro k (hk | hk)
    · exact ⟨(h.low k hk).1, Nat.lt_of_lt_of_le (h.low k hk).2 hm'.size⟩
    · exact ⟨Nat.le_trans h.bel.size hk.1, hk.2⟩

theorem New_rx (hw : Below w0.heap.size w0 w) (l : Label) {n : Nat} (h1 : 1 ≤ n) (h2 : n ≤ 8) :
    Calls Try.prog 16 #[.agg l.cells.toArray, .int .i64 n] w fun e w' => ∃ b F, e = .returned (.tuple #[.pointer (some ⟨b, 0, none⟩), .int .i64 0]) ∧ Rx w0 w' b F l n [] ∧ (∀ k, F k → w.heap.size ≤ k) ∧ Below w.heap.size w w' := by
  refine (RNew_calls l h1 h2).mono ?_
  rintro e w' ⟨b, rfl, hd, hb⟩
  exact ⟨b, foot b (.slice none 0 0), rfl, ⟨⟨_, hd.mono hw.size, fun _ h => h⟩, fun k hk => ⟨Nat.le_trans hw.size (hd.lt k hk).1, (hd.lt k hk).2⟩, hw.trans (hb.mono hw.size)⟩, fun k hk => (hd.lt k hk).1, hb⟩
theorem Put_rx (h : Rx w0 w b F l r ms) (hl : l.ok) {f : Label} (hf : f.ok) {o : Int} (ho : (Lit.int .u64 o).wf = true) (m : Msg) :
    Calls Try.prog 17 #[.pointer (some ⟨b, 0, none⟩), .agg f.cells.toArray, .int .u64 o, .agg m.cells.toArray] w fun e w' =>
      e = .returned (.tuple #[.bool (putOf l r ms f o m).1, .int .i64 (putOf l r ms f o m).2.1]) ∧ Rx w0 w' b (grownF F w w') l r (putOf l r ms f o m).2.2 ∧ Mod F w w' := by
  obtain ⟨mv, hd, hf'⟩ := h.box
  refine (RPut_calls hd hl hf ho m).mono ?_
  rintro e w' ⟨rfl, mv', h1, h2, h3⟩
  exact ⟨rfl, h.after hf' h1 h2 h3⟩
theorem Take_rx (h : Rx w0 w b F l r ms) (hl : l.ok) {t : Label} (ht : t.ok) {o : Int} (ho : (Lit.int .u64 o).wf = true) (i : Int) :
    Calls Try.prog 18 #[.pointer (some ⟨b, 0, none⟩), .agg t.cells.toArray, .int .u64 o, .int .i64 i] w fun e w' =>
      e = .returned (.tuple #[.agg (takeOf l ms t o i).1.cells.toArray, .int .i64 (takeOf l ms t o i).2.1]) ∧ Rx w0 w' b (grownF F w w') l r (takeOf l ms t o i).2.2 ∧ Mod F w w' := by
  obtain ⟨mv, hd, hf⟩ := h.box
  refine (RTake_calls hd hl ht ho i).mono ?_
  rintro e w' ⟨rfl, mv', h1, h2, h3⟩
  exact ⟨rfl, h.after hf h1 h2 h3⟩
theorem Rx.clear (h : Rx w0 w b F l r ms) : Rx w0 (w.setCell ⟨b, 3, none⟩ (.slice none 0 0)) b (grownF F w (w.setCell ⟨b, 3, none⟩ (.slice none 0 0))) l r [] ∧ Mod F w (w.setCell ⟨b, 3, none⟩ (.slice none 0 0)) := by
  obtain ⟨mv, hd, hf⟩ := h.box
  refine h.after (mv' := .slice none 0 0) hf ⟨heap_setCell_same w b 3 _ _ _ hd.root, MOwn.nil _ _, fun g hg => (by cases hg), hd.bb, hd.room, Nat.zero_le _⟩ (fun g hg => by cases hg) ⟨rfl, rfl, rfl, by simp, fun x _ hx => heap_setCell_other w _ x _ fun e => hx (.inl e)⟩
theorem Rx.root (h : Rx w0 w b F l r ms) : ∃ a c, w.heap[b]? = some (.cells #[.int .u64 l.1, .int .u64 l.2, .int .i64 (r : Int), .slice a ms.length c] 53 (0, 0)) ∧ Msgs w a ms.length c ms := by
  obtain ⟨mv, hd, hf⟩ := h.box
  obtain ⟨a, n, c, rfl, hm, _⟩ := MOwn.msgs hd.row
  obtain rfl := hm.len
  exact ⟨a, c, hd.root, hm⟩
end

structure Pair (w0 w : World) (b1 : Nat) (F1 : Nat → Prop) (b2 : Nat) (F2 : Nat → Prop) (l : Label) (r : Nat) (ms : List Msg) (ms2 : List Msg) : Prop where
  x : Bx w0 w b1 F1 l r ms
  y : Rx w0 w b2 F2 l r ms2
  dis : ∀ k, F1 k → ¬ F2 k
section
variable {w0 w w' : World} {b1 b2 : Nat} {F1 F2 : Nat → Prop} {l : Label} {r : Nat} {ms1 ms2 ms' : List Msg}
theorem Pair.step (h : Pair w0 w b1 F1 b2 F2 l r ms1 ms2) (hb : Below w.heap.size w w') : Pair w0 w' b1 F1 b2 F2 l r ms1 ms2 := ⟨h.x.step hb, h.y.step hb, h.dis⟩
theorem Pair.left (h : Pair w0 w b1 F1 b2 F2 l r ms1 ms2) (hx : Bx w0 w' b1 (grownF F1 w w') l r ms') (hm : Mod F1 w w') : Pair w0 w' b1 (grownF F1 w w') b2 F2 l r ms' ms2 where
  x := hx
  y := h.y.aside hm (fun k h2 h1 => h.dis k h1 h2) fun k hk => (h.x.low k hk).1
  dis := fun k h1 h2 => h1.elim (fun h1 => h.dis k h1 h2) fun h1 => by have := (h.y.low k h2).2; omega
theorem Pair.right (h : Pair w0 w b1 F1 b2 F2 l r ms1 ms2) (hy : Rx w0 w' b2 (grownF F2 w w') l r ms') (hm : Mod F2 w w') : Pair w0 w' b1 F1 b2 (grownF F2 w w') l r ms1 ms' where
  x := h.x.aside hm (fun k h1 h2 => h.dis k h1 h2) fun k hk => (h.y.low k hk).1
  y := hy
  dis := fun k h1 h2 => h2.elim (fun h2 => h.dis k h1 h2) fun h2 => by have := (h.x.low k h1).2; omega
theorem Lies.addP {L : List (Nat × Obj)} (h : Lies w L F1 F2) (ht : Pair w0 w b1 F1 b2 F2 l r ms1 ms2) (hb : Below w.heap.size w w') {o : Obj} (ho : w'.heap[w.heap.size]? = some o) : Lies w' ((w.heap.size, o) :: L) F1 F2 := fun p hp => by
  rcases List.mem_cons.1 hp with rfl | hp
  · exact ⟨ho, fun h1 => by have := (ht.x.low _ h1).2; simp at this, fun h2 => by have := (ht.y.low _ h2).2; simp at this⟩
  · exact h.step hb p hp
end
end Go.Proofs.Ytjmifnhpgedafaa
