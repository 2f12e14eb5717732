/- Rows of calls on timers, as they came in; the document's list beside the timers. -/
import Derived.Test.YtfldohfopileeaaSlotL1
namespace Go.Proofs.Ytfldohfopileeaa
open Go.RowKit Go.ChangeShapes Go.WideShapes

structure CallT where
  what : Int
  tick : Int
  id : Int
def CallT.cells (x : CallT) : List Value := [.int .i64 x.what, .int .i64 x.tick, .int .i64 x.id]
def CallT.ok (x : CallT) : Prop := (Lit.int .i64 x.what).wf = true ∧ (Lit.int .i64 x.tick).wf = true ∧ (Lit.int .i64 x.id).wf = true
def callTF : Fmt CallT := ⟨CallT.cells, 3, fun _ => rfl, by decide, fun x u hu => by simp [CallT.cells] at hu; rcases hu with rfl | rfl | rfl <;> rfl⟩
structure SRow (w : World) (a : Option Addr) (n c : Nat) (xs : List CallT) : Prop where
  recs : Recs callTF w a n c xs
  ok : ∀ x ∈ xs, x.ok
section
variable {H : Type} {enc : TypeId × Value → H} {w : World} {base : Nat} {held : Bool} {fuel : Nat}
theorem open_callT {cs : List Value} {x : DataW H × List MemPlace} (h : DataW.trod enc Try.prog w base (fun _ => true) held fuel 42 cs = some x) : ∃ v : CallT, cs = v.cells ∧ v.ok := by
  obtain ⟨hl, hf⟩ := open_parts Try.underlying42 h
  have hl3 : cs.length = 3 := hl.trans (by kernel_rfl)
  obtain ⟨n0, y0, h0⟩ := hf 0 _ rfl
  obtain ⟨n1, y1, h1⟩ := hf 1 _ rfl
  obtain ⟨n2, y2, h2⟩ := hf 2 _ rfl
  obtain ⟨z0, e0, _, w0⟩ := DataW.trod_int Try.underlying3 h0
  obtain ⟨z1, e1, _, w1⟩ := DataW.trod_int Try.underlying3 h1
  obtain ⟨z2, e2, _, w2⟩ := DataW.trod_int Try.underlying3 h2
  have c1 : Try.prog.cellsOf 3 = 1 := by kernel_rfl
  match cs, hl3 with
  | [v0, v1, v2], _ =>
    simp [c1] at e0 e1 e2
    subst e0 e1 e2
    exact ⟨⟨z0, z1, z2⟩, rfl, w0, w1, w2⟩
theorem open_srow {a : Option Addr} {n c : Nat} {x : DataW H × List MemPlace}
    (h : DataW.trod enc Try.prog w base (fun _ => true) held fuel 35 [.slice a n c] = some x) : ∃ xs, SRow w a n c xs := by
  obtain ⟨a', n', c', rs, e, hr, hx⟩ := open_rows Try.underlying35 (m := 3) (by kernel_rfl) (by decide) h
  cases e
  obtain ⟨xs, rfl, hok⟩ := list_map_choose (f := CallT.cells) (p := CallT.ok) rs fun r hr => by
    obtain ⟨f, y, h⟩ := hx r hr
    exact open_callT h
  exact ⟨xs, recs_of_rows (F := callTF) hr, hok⟩
end
/-- The document's list. -/
structure LR (w : World) (F : Nat → Prop) (a : Option Addr) (n c : Nat) (xs : List Tm) : Prop where
  recs : Recs tmF w a n c xs
  out : ∀ b o, a = some ⟨b, o, none⟩ → ¬ F b ∧ b < w.heap.size
section
variable {w w' w0 : World} {F : Nat → Prop} {a : Option Addr} {n c b : Nat} {xs ys : List Tm}
theorem LR.below (h : LR w F a n c xs) (hb : Below w.heap.size w w') : LR w' F a n c xs := ⟨h.recs.keep hb, fun b o e => ⟨(h.out b o e).1, Nat.lt_of_lt_of_le (h.out b o e).2 hb.size⟩⟩
theorem LR.mod (h : LR w F a n c xs) (hm : Mod F w w') : LR w' (grownF F w w') a n c xs :=
  ⟨h.recs.keepPos fun b o _ e hl => hm.block b hl (h.out b o e).1, fun b o e => ⟨fun hg => hg.elim (h.out b o e).1 fun hg => by have := (h.out b o e).2; omega, Nat.lt_of_lt_of_le (h.out b o e).2 hm.size⟩⟩
theorem lr_new {v : Value} (ht : Tim w0 w F b xs) (hr : RO w' w.heap.size v ys) (_hb : Below w.heap.size w w') : ∃ a c, v = .slice a ys.length c ∧ LR w' F a ys.length c ys := by
  obtain ⟨a, c, rfl, h, hl⟩ := hr.recs
  exact ⟨a, c, rfl, h, fun b o e => ⟨fun hF => by have := (ht.lt b hF).2; have := (hl b o e).1; omega, (hl b o e).2⟩⟩
end
end Go.Proofs.Ytfldohfopileeaa
