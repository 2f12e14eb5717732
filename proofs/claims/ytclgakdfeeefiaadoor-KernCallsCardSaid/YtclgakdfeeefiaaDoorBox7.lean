/- The box within a law: what is kept from the law's start on, and which blocks are the box's. -/
import Derived.Test.YtclgakdfeeefiaaDoorBox6
namespace Go.Proofs.YtclgakdfeeefiaaDoor
open Go.RowKit

structure Bx (w0 w : World) (b : Nat) (F : Nat → Prop) (l : Label) (r : Nat) (ms : List Msg) : Prop where
  box : ∃ mv, BoxAt w w0.heap.size b mv l r ms ∧ ∀ k, foot b mv k → F k
  low : ∀ k, F k → w0.heap.size ≤ k ∧ k < w.heap.size
  bel : Below w0.heap.size w0 w

theorem BoxAt.mono {w : World} {B B' b : Nat} {mv : Value} {l : Label} {r : Nat} {ms : List Msg} (h : BoxAt w B b mv l r ms) (hB : B' ≤ B) : BoxAt w B' b mv l r ms where
  root := h.root
  row := by
    refine ⟨h.row.1, ?_⟩
    rcases h.row.2 with hn | ⟨g, cap, cur, e, hb, rest⟩
    · exact .inl hn
    · exact .inr ⟨g, cap, cur, e, by omega, rest⟩
  apart := h.apart
  bb := Nat.le_trans hB h.bb
  room := h.room
  len := h.len

section
variable {w0 w w' : World} {b : Nat} {F : Nat → Prop} {l : Label} {r : Nat} {ms : List Msg}
theorem Bx.step (h : Bx w0 w b F l r ms) (hb : Below w.heap.size w w') : Bx w0 w' b F l r ms where
  box := by
    obtain ⟨mv, hd, hf⟩ := h.box
    exact ⟨mv, hd.below hb, hf⟩
  low := fun k hk => ⟨(h.low k hk).1, Nat.lt_of_lt_of_le (h.low k hk).2 hb.size⟩
  bel := h.bel.trans (hb.mono h.bel.size)
theorem Bx.drawn (h : Bx w0 w b F l r ms) (n : Nat) : Bx w0 (w.drewN n) b F l r ms := h.step (below_drawn w n)
theorem Bx.aside {G : Nat → Prop} (h : Bx w0 w b F l r ms) (hm : Mod G w w') (ha : ∀ k, F k → ¬ G k) (hG : ∀ k, G k → w0.heap.size ≤ k) : Bx w0 w' b F l r ms where
  box := by
    obtain ⟨mv, hd, hf⟩ := h.box
    exact ⟨mv, hd.keep fun k hk => hm.block k (hd.lt k hk).2 (ha k (hf k hk)), hf⟩
  low := fun k hk => ⟨(h.low k hk).1, Nat.lt_of_lt_of_le (h.low k hk).2 hm.size⟩
  bel := hm.below h.bel h.bel.size hG
theorem Bx.room (h : Bx w0 w b F l r ms) : (1 ≤ r ∧ r ≤ 8) ∧ ms.length ≤ r := by
  obtain ⟨mv, hd, hf⟩ := h.box
  exact ⟨hd.room, hd.len⟩
theorem Bx.after {mv mv' : Value} {ms' : List Msg} (h : Bx w0 w b F l r ms) (hf : ∀ k, foot b mv k → F k) (hd' : BoxAt w' w0.heap.size b mv' l r ms') (hx : ∀ g, mv'.ownBlock = some g → mv.ownBlock = some g ∨ w.heap.size ≤ g) (hm : Mod (foot b mv) w w') :
    Bx w0 w' b (grownF F w w') l r ms' ∧ Mod F w w' := by
  have hm' : Mod F w w' := hm.mono fun x hx => hf x hx
  refine ⟨⟨⟨mv', hd', ?_⟩, ?_, hm'.below h.bel h.bel.size fun x hx => (h.low x hx).1⟩, hm'⟩
  · rintro k (rfl | hk)
    · exact .inl (hf _ (.inl rfl))
    · rcases hx k hk with h1 | h1
      · exact .inl (hf k (.inr h1))
      · exact .inr ⟨h1, (hd'.lt k (.inr hk)).2⟩
  · rintro k (hk | hk)
    · exact ⟨(h.low k hk).1, Nat.lt_of_lt_of_le (h.low k hk).2 hm'.size⟩
    · exact ⟨Nat.le_trans h.bel.size hk.1, hk.2⟩

theorem New_bx (hw : Below w0.heap.size w0 w) (l : Label) {n : Nat} (h1 : 1 ≤ n) (h2 : n ≤ 8) :
    Calls Tryd.prog 38 #[.agg l.cells.toArray, .int .i64 n] w fun e w' => ∃ b F, e = .returned (.tuple #[.pointer (some ⟨b, 0, none⟩), .int .i64 0]) ∧ Bx w0 w' b F l n [] ∧ (∀ k, F k → w.heap.size ≤ k) ∧ Below w.heap.size w w' := by
  refine (New_calls l h1 h2).mono ?_
  rintro e w' ⟨b, rfl, hd, hb⟩
  exact ⟨b, foot b (.slice none 0 0), rfl, ⟨⟨_, hd.mono hw.size, fun _ h => h⟩, fun k hk => ⟨Nat.le_trans hw.size (hd.lt k hk).1, (hd.lt k hk).2⟩, hw.trans (hb.mono hw.size)⟩, fun k hk => (hd.lt k hk).1, hb⟩
theorem List_bx (h : Bx w0 w b F l r ms) (t : Label) (o : Int) :
    Calls Tryd.prog 50 #[.pointer (some ⟨b, 0, none⟩), .agg t.cells.toArray, .int .u64 o] w fun e w' =>
      ∃ v, e = .returned (.tuple #[v, .int .i64 (if withOf l t o then 0 else 14)]) ∧ MOwn w' w.heap.size v (if withOf l t o then ms else []) ∧ Below w.heap.size w w' ∧ Bx w0 w' b F l r ms := by
  obtain ⟨mv, hd, hf⟩ := h.box
  exact (List_calls hd t o).mono fun _ _ ⟨v, h1, h2, h3⟩ => ⟨v, h1, h2, h3, h.step h3⟩
theorem Put_bx (h : Bx w0 w b F l r ms) (f : Label) (o : Int) (m : Msg) :
    Calls Tryd.prog 49 #[.pointer (some ⟨b, 0, none⟩), .agg f.cells.toArray, .int .u64 o, .agg m.cells.toArray] w fun e w' =>
      e = .returned (.tuple #[.bool (putOf l r ms f o m).1, .int .i64 (putOf l r ms f o m).2.1]) ∧ Bx w0 w' b (grownF F w w') l r (putOf l r ms f o m).2.2 ∧ Mod F w w' := by
  obtain ⟨mv, hd, hf⟩ := h.box
  refine (Put_calls hd f o m).mono ?_
  rintro e w' ⟨rfl, mv', h1, h2, h3⟩
  exact ⟨rfl, h.after hf h1 h2 h3⟩
theorem Take_bx (h : Bx w0 w b F l r ms) (t : Label) (o : Int) (i : Int) :
    Calls Tryd.prog 48 #[.pointer (some ⟨b, 0, none⟩), .agg t.cells.toArray, .int .u64 o, .int .i64 i] w fun e w' =>
      e = .returned (.tuple #[.agg (takeOf l ms t o i).1.cells.toArray, .int .i64 (takeOf l ms t o i).2.1]) ∧ Bx w0 w' b (grownF F w w') l r (takeOf l ms t o i).2.2 ∧ Mod F w w' := by
  obtain ⟨mv, hd, hf⟩ := h.box
  refine (Take_calls hd t o i).mono ?_
  rintro e w' ⟨rfl, mv', h1, h2, h3⟩
  exact ⟨rfl, h.after hf h1 h2 h3⟩
theorem Clear_bx (h : Bx w0 w b F l r ms) : Calls Tryd.prog 58 #[.pointer (some ⟨b, 0, none⟩)] w fun e w' => e = .returned (.tuple #[]) ∧ Bx w0 w' b (grownF F w w') l r [] ∧ Mod F w w' := by
  obtain ⟨mv, hd, hf⟩ := h.box
  refine (Clear_calls hd).mono ?_
  rintro e w' ⟨rfl, h1, h3⟩
  exact ⟨rfl, h.after hf h1 (fun g hg => by cases hg) h3⟩
end

end Go.Proofs.YtclgakdfeeefiaaDoor
