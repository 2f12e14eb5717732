/- The document's desk within a law; two desks. -/
import Derived.Test.YtdccocgdgcjfcaaDeskD
import Derived.Test.YtdccocgdgcjfcaaPhase
namespace Go.Proofs.Ytdccocgdgcjfcaa
open Go.RowKit

structure RDk (w0 w : World) (b : Nat) (F : Nat → Prop) (p : Pl) (es : List Ent) : Prop where
  desk : ∃ mv, RDeskAt w w0.heap.size b mv p es ∧ ∀ k, foot b mv k → F k
  low : ∀ k, F k → w0.heap.size ≤ k ∧ k < w.heap.size
  bel : Below w0.heap.size w0 w
theorem RDeskAt.mono {w : World} {B B' b : Nat} {mv : Value} {p : Pl} {es : List Ent} (h : RDeskAt w B b mv p es) (hB : B' ≤ B) : RDeskAt w B' b mv p es where
  root := h.root
  row := h.row.mono hB
  apart := h.apart
  bb := Nat.le_trans hB h.bb
  good := h.good
  len := h.len
  ok := h.ok
section
variable {w0 w w' : World} {b : Nat} {F : Nat → Prop} {p : Pl} {es : List Ent}
theorem RDk.step (h : RDk w0 w b F p es) (hb : Below w.heap.size w w') : RDk w0 w' b F p es where
  desk := by
    obtain ⟨mv, hd, hf⟩ := h.desk
    exact ⟨mv, hd.below hb, hf⟩
  low := fun k hk => ⟨(h.low k hk).1, Nat.lt_of_lt_of_le (h.low k hk).2 hb.size⟩
  bel := h.bel.trans (hb.mono h.bel.size)
theorem RDk.aside {G : Nat → Prop} (h : RDk w0 w b F p es) (hm : Mod G w w') (ha : ∀ k, F k → ¬ G k) (hG : ∀ k, G k → w0.heap.size ≤ k) : RDk w0 w' b F p es where
  desk := by
    obtain ⟨mv, hd, hf⟩ := h.desk
    exact ⟨mv, hd.keep fun k hk => hm.block k (hd.lt k hk).2 (ha k (hf k hk)), hf⟩
  low := fun k hk => ⟨(h.low k hk).1, Nat.lt_of_lt_of_le (h.low k hk).2 hm.size⟩
  bel := hm.below h.bel h.bel.size hG
theorem RDk.after {mv mv' : Value} {es' : List Ent} (h : RDk w0 w b F p es) (hf : ∀ k, foot b mv k → F k) (hd' : RDeskAt w' w0.heap.size b mv' p es') (hx : ∀ g, mv'.ownBlock = some g → mv.ownBlock = some g ∨ w.heap.size ≤ g) (hm : Mod (foot b mv) w w') :
    RDk w0 w' b (grownF F w w') p es' ∧ Mod F w w' := by
  have hm' : Mod F w w' := hm.mono fun x hx => hf x hx
  refine ⟨⟨⟨mv', hd', ?_⟩, ?_, hm'.below h.bel h.bel.size fun x hx => (h.low x hx).1⟩, hm'⟩
  · rintro k (rfl | hk)
    · exact .inl (hf _ (.inl rfl))
    · rcases hx k hk with h1 | h1
      · exact .inl (hf k (.inr h1))
      · exact .inr ⟨h1, (hd'.lt k (.inr hk)).2⟩
  · rintro k (hk | hk)
    · exact ⟨(h.low k hk).1, Nat.lt_of_lt_of_le (h.low k hk).2 hm'.size⟩
    · exact ⟨Nat.le_trans h.bel.size hk.1, hk.2⟩
theorem RDk.made (hw : Below w0.heap.size w0 w) (hp : p.good) : RDk w0 (w.alloc (.cells #[.int .i64 p.parts, .int .i64 p.window, .int .i64 p.delay, .slice none 0 0] 36 (0, 0))) w.heap.size (fun k => k = w.heap.size) p [] where
  desk := ⟨.slice none 0 0, ⟨heap_alloc_new w _, ROwn.nil _ _, (fun g hg => by cases hg), hw.size, hp, Nat.zero_le _, fun _ h => by cases h⟩, fun k hk => hk.elim id fun h => by cases h⟩
  low := fun k hk => ⟨by rw [hk]; exact hw.size, by rw [hk]; simp⟩
  bel := hw.alloc hw.size _

theorem ROf_rk (h : RDk w0 w b F p es) (c now : Int) : Calls Try.prog 15 #[.pointer (some ⟨b, 0, none⟩), .int .i64 c, .int .i64 now] w fun e w' =>
    e = .returned (.tuple #[.int .i64 (ofOf p es c now : Nat), .bool (decide (ofOf p es c now ≠ 0))]) ∧ Below w.heap.size w w' := by
  obtain ⟨mv, hd, hf⟩ := h.desk
  exact ROf_calls hd c now
theorem RMay_rk (h : RDk w0 w b F p es) (c part now : Int) : Calls Try.prog 13 #[.pointer (some ⟨b, 0, none⟩), .int .i64 c, .int .i64 part, .int .i64 now] w fun e w' =>
    e = .returned (.tuple #[.int .i64 ((mayOf p es c part now).1 : Nat), .int .i64 (mayOf p es c part now).2]) ∧ Below w.heap.size w w' := by
  obtain ⟨mv, hd, hf⟩ := h.desk
  exact RMay_calls hd c part now
theorem RBegin_rk (h : RDk w0 w b F p es) (c mask now : Int) (hm : (Lit.int .u16 mask).wf = true) :
    Calls Try.prog 11 #[.pointer (some ⟨b, 0, none⟩), .int .i64 c, .int .u16 mask, .int .i64 now] w fun e w' =>
      e = .returned (.tuple #[.int .i64 ((beginOf p es c mask now).1 : Nat), .int .i64 (beginOf p es c mask now).2.1]) ∧ RDk w0 w' b (grownF F w w') p (beginOf p es c mask now).2.2 ∧ Mod F w w' := by
  obtain ⟨mv, hd, hf⟩ := h.desk
  refine (RBegin_calls hd c mask now hm).mono ?_
  rintro e w' ⟨rfl, mv', h1, h2, h3⟩
  exact ⟨rfl, h.after hf h1 h2 h3⟩
theorem RIn_rk (h : RDk w0 w b F p es) (part : Int) : Calls Try.prog 19 #[.pointer (some ⟨b, 0, none⟩), .int .i64 part] w fun e w' => ∃ v, e = .returned v ∧ Own w' w.heap.size 3 .i64 v (inOf es part) ∧ Below w.heap.size w w' := by
  obtain ⟨mv, hd, hf⟩ := h.desk
  exact RIn_calls hd part
theorem ROver_rk (h : RDk w0 w b F p es) (now : Int) : Calls Try.prog 21 #[.pointer (some ⟨b, 0, none⟩), .int .i64 now] w fun e w' => ∃ v, e = .returned v ∧ Own w' w.heap.size 3 .i64 v (overOf p es now) ∧ Below w.heap.size w w' := by
  obtain ⟨mv, hd, hf⟩ := h.desk
  exact ROver_calls hd now
theorem RDk.root (h : RDk w0 w b F p es) : ∃ a c, w.cell? ⟨b, 3, none⟩ = some (.slice a es.length c) ∧ Recs entF w a es.length c es := by
  obtain ⟨mv, hd, hf⟩ := h.desk
  obtain ⟨a, c, rfl, hr, _⟩ := hd.row.recs
  exact ⟨a, c, cells_at hd.root 3, hr⟩
end

/-- Both desks, and a block aside. -/
structure Both (w0 w : World) (b1 b2 : Nat) (F1 F2 : Nat → Prop) (p : Pl) (es1 es2 : List Ent) : Prop where
  d : Dk w0 w b1 F1 p es1
  r : RDk w0 w b2 F2 p es2
  ap : ∀ k, F1 k → ¬ F2 k
structure Aside2 (w : World) (g : Nat) (o : Obj) (F1 F2 : Nat → Prop) : Prop where
  is : w.heap[g]? = some o
  o1 : ¬ F1 g
  o2 : ¬ F2 g
section
variable {w0 w w' : World} {b1 b2 g : Nat} {o : Obj} {F1 F2 : Nat → Prop} {p : Pl} {es1 es2 es' : List Ent}
theorem Both.step (h : Both w0 w b1 b2 F1 F2 p es1 es2) (hb : Below w.heap.size w w') : Both w0 w' b1 b2 F1 F2 p es1 es2 := ⟨h.d.step hb, h.r.step hb, h.ap⟩
theorem Both.left (h : Both w0 w b1 b2 F1 F2 p es1 es2) (hd : Dk w0 w' b1 (grownF F1 w w') p es') (hm : Mod F1 w w') : Both w0 w' b1 b2 (grownF F1 w w') F2 p es' es2 :=
  ⟨hd, h.r.aside hm (fun k h2 h1 => h.ap k h1 h2) (fun k hk => (h.d.low k hk).1), fun k hk h2 => hk.elim (fun h1 => h.ap k h1 h2) fun h1 => by have := (h.r.low k h2).2; omega⟩
theorem Both.right (h : Both w0 w b1 b2 F1 F2 p es1 es2) (hd : RDk w0 w' b2 (grownF F2 w w') p es') (hm : Mod F2 w w') : Both w0 w' b1 b2 F1 (grownF F2 w w') p es1 es' :=
  ⟨h.d.aside hm (fun k h1 h2 => h.ap k h1 h2) (fun k hk => (h.r.low k hk).1), hd, fun k h1 hk => hk.elim (fun h2 => h.ap k h1 h2) fun h2 => by have := (h.d.low k h1).2; omega⟩
theorem Aside2.lt (h : Aside2 w g o F1 F2) : g < w.heap.size := (Array.getElem?_eq_some_iff.1 h.is).1
theorem Aside2.step (h : Aside2 w g o F1 F2) (hb : Below w.heap.size w w') : Aside2 w' g o F1 F2 := ⟨(hb.block g h.lt).trans h.is, h.o1, h.o2⟩
theorem Aside2.left (h : Aside2 w g o F1 F2) (hm : Mod F1 w w') : Aside2 w' g o (grownF F1 w w') F2 := ⟨(hm.block g h.lt h.o1).trans h.is, fun hg => hg.elim h.o1 fun hg => by have := h.lt; omega, h.o2⟩
theorem Aside2.right (h : Aside2 w g o F1 F2) (hm : Mod F2 w w') : Aside2 w' g o F1 (grownF F2 w w') := ⟨(hm.block g h.lt h.o2).trans h.is, h.o1, fun hg => hg.elim h.o2 fun hg => by have := h.lt; omega⟩
end
end Go.Proofs.Ytdccocgdgcjfcaa
