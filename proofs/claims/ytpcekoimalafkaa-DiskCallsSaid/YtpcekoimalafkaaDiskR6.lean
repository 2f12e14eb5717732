/- The document's device within a law. -/
import Derived.Test.YtpcekoimalafkaaDiskR5
namespace Go.Proofs.Ytpcekoimalafkaa
open Go.RowKit

structure Ref (w0 w : World) (b : Nat) (G : Nat → Prop) (s : State) : Prop where
  ref : ∃ sv cv R, RefAt w w0.heap.size b sv cv s.1 s.2 R ∧ ∀ k, rfoot b sv cv R k → G k
  low : ∀ k, G k → w0.heap.size ≤ k ∧ k < w.heap.size
  bel : Below w0.heap.size w0 w

theorem RefAt.mono {w : World} {B B' b : Nat} {sv cv : Value} {S : List (List Int)} {C : List (Int × List Int)} {R : Nat → Prop} (h : RefAt w B b sv cv S C R) (hB : B' ≤ B) : RefAt w B' b sv cv S C R where
  root := h.root
  safe := by
    obtain ⟨ps, h0, h1, h2⟩ := h.safe
    refine ⟨ps, h0, ⟨h1.1, ?_⟩, h2⟩
    rcases h1.2 with hn | ⟨g, cap, cur, e, hb, rest⟩
    · exact .inl hn
    · exact .inr ⟨g, cap, cur, e, by omega, rest⟩
  cache := by
    obtain ⟨ps, h0, h1, h2⟩ := h.cache
    refine ⟨ps, h0, ⟨h1.1, ?_⟩, h2⟩
    rcases h1.2 with hn | ⟨g, cap, cur, e, hb, rest⟩
    · exact .inl hn
    · exact .inr ⟨g, cap, cur, e, by omega, rest⟩
  rb := h.rb
  sb := h.sb
  cb := h.cb
  low := fun g hg => ⟨Nat.le_trans hB (h.low g hg).1, (h.low g hg).2⟩
  bb := Nat.le_trans hB h.bb
  wrs := h.wrs
  len := h.len

section
variable {w0 w w' : World} {b : Nat} {G : Nat → Prop} {s : State}
theorem Ref.step (h : Ref w0 w b G s) (hb : Below w.heap.size w w') : Ref w0 w' b G s where
  ref := by
    obtain ⟨sv, cv, R, hd, hf⟩ := h.ref
    exact ⟨sv, cv, R, hd.below hb, hf⟩
  low := fun k hk => ⟨(h.low k hk).1, Nat.lt_of_lt_of_le (h.low k hk).2 hb.size⟩
  bel := h.bel.trans (hb.mono h.bel.size)
theorem Ref.aside {F : Nat → Prop} (h : Ref w0 w b G s) (hm : Mod F w w') (ha : ∀ k, G k → ¬ F k) (hF : ∀ k, F k → w0.heap.size ≤ k) : Ref w0 w' b G s where
  ref := by
    obtain ⟨sv, cv, R, hd, hf⟩ := h.ref
    exact ⟨sv, cv, R, hd.keep hm.size fun k hk => hm.block k (hd.lt k hk).2 (ha k (hf k hk)), hf⟩
  low := fun k hk => ⟨(h.low k hk).1, Nat.lt_of_lt_of_le (h.low k hk).2 hm.size⟩
  bel := hm.below h.bel h.bel.size hF

theorem RNew_ref {n : Nat} (hw : Below w0.heap.size w0 w) (h1 : 1 ≤ n) (h2 : n ≤ 512) :
    Calls Try.prog 12 #[.int .i64 n] w fun e w' => ∃ b G, e = .returned (.tuple #[.pointer (some ⟨b, 0, none⟩), .int .i64 0]) ∧ Ref w0 w' b G (fresh n, []) ∧ (∀ k, G k → w.heap.size ≤ k) ∧ Below w.heap.size w w' := by
  refine (RNew_calls h1 h2).mono ?_
  rintro e w' ⟨b, sv, R, rfl, hd, hb⟩
  exact ⟨b, rfoot b sv (.slice none 0 0) R, rfl, ⟨⟨sv, _, R, hd.mono hw.size, fun _ h => h⟩, fun k hk => ⟨Nat.le_trans hw.size (hd.lt k hk).1, (hd.lt k hk).2⟩, hw.trans (hb.mono hw.size)⟩, fun k hk => (hd.lt k hk).1, hb⟩
theorem RRead_ref (h : Ref w0 w b G s) (hC : s.2.length ≤ 1000000) (k : Int) :
    Calls Try.prog 22 #[.pointer (some ⟨b, 0, none⟩), .int .i64 k] w fun e w' =>
      ∃ v, e = .returned (.tuple #[v, .int .i64 (readErr s k)]) ∧ Own w' w.heap.size 5 .u8 v (readOf s.1 s.2 k) ∧ Below w.heap.size w w' ∧ Ref w0 w' b G s := by
  obtain ⟨sv, cv, R, hd, hf⟩ := h.ref
  exact (RRead_calls hd hC k).mono fun e w' ⟨v, h1, h2, h3⟩ => ⟨v, h1, h2, h3, h.step h3⟩
theorem RImage_ref (h : Ref w0 w b G s) :
    Calls Try.prog 26 #[.pointer (some ⟨b, 0, none⟩)] w fun e w' => ∃ v, e = .returned v ∧ Own w' w.heap.size 5 .u8 v s.1.flatten ∧ Below w.heap.size w w' ∧ Ref w0 w' b G s := by
  obtain ⟨sv, cv, R, hd, hf⟩ := h.ref
  exact (RImage_calls hd).mono fun e w' ⟨v, h1, h2, h3⟩ => ⟨v, h1, h2, h3, h.step h3⟩
theorem Ref.after {sv cv sv' cv' : Value} {R R' : Nat → Prop} {s' : State} (h : Ref w0 w b G s) (hf : ∀ k, rfoot b sv cv R k → G k) (hd' : RefAt w' w0.heap.size b sv' cv' s'.1 s'.2 R')
    (hx : ∀ x, rfoot b sv' cv' R' x → rfoot b sv cv R x ∨ w.heap.size ≤ x) (hm : Mod (rfoot b sv cv R) w w') : Ref w0 w' b (grownF G w w') s' ∧ Mod G w w' := by
  have hm' : Mod G w w' := hm.mono fun x hx => hf x hx
  refine ⟨⟨⟨sv', cv', R', hd', fun k hk => ?_⟩, ?_, hm'.below h.bel h.bel.size fun x hx => (h.low x hx).1⟩, hm'⟩
  · rcases hx k hk with h1 | h1
    · exact .inl (hf k h1)
    · exact .inr ⟨h1, (hd'.lt k hk).2⟩
  · rintro k (hk | hk)
    · exact ⟨(h.low k hk).1, Nat.lt_of_lt_of_le (h.low k hk).2 hm'.size⟩
    · exact ⟨Nat.le_trans h.bel.size hk.1, hk.2⟩
theorem RWrite_ref (h : Ref w0 w b G s) (k : Int) {a : Option Addr} {n c : Nat} {zs : List Int} (hx : Ints w .u8 a n c zs) (hC : s.2.length ≤ 1000000) :
    Calls Try.prog 15 #[.pointer (some ⟨b, 0, none⟩), .int .i64 k, .slice a n c] w fun e w' =>
      e = .returned (.int .i64 (writeErr s.1 k n)) ∧ Ref w0 w' b (grownF G w w') (s.1, written s.1 s.2 k zs) ∧ Mod G w w' := by
  obtain ⟨sv, cv, R, hd, hf⟩ := h.ref
  refine (RWrite_calls hd k hx hC).mono ?_
  rintro e w' ⟨rfl, cv', R', h1, h2, h3⟩
  exact ⟨rfl, h.after hf h1 h2 h3⟩
theorem rfoot_flat {sv cv : Value} {R R' : Nat → Prop} (h : ∀ x, R' x → R x ∨ w.heap.size ≤ x) : ∀ x, rfoot b sv (.slice none 0 0) R' x → rfoot b sv cv R x ∨ w.heap.size ≤ x := by
  rintro x (rfl | hx | hx | hx)
  · exact .inl (.inl rfl)
  · exact .inl (.inr (.inl hx))
  · cases hx
  · exact (h x hx).imp (fun h => .inr (.inr (.inr h))) id
theorem RFlush_ref (h : Ref w0 w b G s) (hC : s.2.length ≤ 1000000) :
    Calls Try.prog 18 #[.pointer (some ⟨b, 0, none⟩)] w fun e w' =>
      e = .returned (.tuple #[]) ∧ Ref w0 w' b (grownF G w w') (settled s.1 s.2, []) ∧ Mod G w w' := by
  obtain ⟨sv, cv, R, hd, hf⟩ := h.ref
  refine (RFlush_calls hd hC).mono ?_
  rintro e w' ⟨rfl, R', h1, h2, h3⟩
  exact ⟨rfl, h.after (s' := (settled s.1 s.2, [])) hf h1 (rfoot_flat h2) h3⟩
theorem RCrash_ref (h : Ref w0 w b G s) (hC : s.2.length ≤ 1000000) (keep tear : Int) :
    Calls Try.prog 20 #[.pointer (some ⟨b, 0, none⟩), .int .i64 keep, .int .i64 tear] w fun e w' =>
      e = .returned (.tuple #[]) ∧ Ref w0 w' b (grownF G w w') (crashed s.1 s.2 keep tear, []) ∧ Mod G w w' := by
  obtain ⟨sv, cv, R, hd, hf⟩ := h.ref
  refine (RCrash_calls hd hC keep tear).mono ?_
  rintro e w' ⟨rfl, R', h1, h2, h3⟩
  exact ⟨rfl, h.after (s' := (crashed s.1 s.2 keep tear, [])) hf h1 (rfoot_flat h2) h3⟩
theorem Ref.cacheCell (h : Ref w0 w b G s) : ∃ a c, w.cell? ⟨b, 1, none⟩ = some (.slice a s.2.length c) ∧ b < w.heap.size := by
  obtain ⟨sv, cv, R, hd, hf⟩ := h.ref
  obtain ⟨a, c, rfl⟩ := hd.shape_c
  exact ⟨a, c, cells_at hd.root 1, (hd.lt b (.inl rfl)).2⟩
end
end Go.Proofs.Ytpcekoimalafkaa
