/- The desk's laws: rows of calls; a block aside. -/
import Derived.Test.YtdccocgdgcjfcaaDesk7
namespace Go.Proofs.Ytdccocgdgcjfcaa
open Go.RowKit Go.ChangeShapes Go.WideShapes

structure CallD where
  what : Int
  client : Int
  part : Int
  now : Int
  mask : Int
def CallD.cells (x : CallD) : List Value := [.int .i64 x.what, .int .i64 x.client, .int .i64 x.part, .int .i64 x.now, .int .u16 x.mask]
structure CallD.ok (x : CallD) : Prop where
  client : (Lit.int .i64 x.client).wf = true
  part : (Lit.int .i64 x.part).wf = true
  now : (Lit.int .i64 x.now).wf = true
  mask : (Lit.int .u16 x.mask).wf = true
def callF : Fmt CallD := ⟨CallD.cells, 5, fun _ => rfl, by decide, fun x u hu => by simp [CallD.cells] at hu; rcases hu with rfl | rfl | rfl | rfl | rfl <;> rfl⟩
structure DRow (w : World) (a : Option Addr) (n c : Nat) (xs : List CallD) : Prop where
  recs : Recs callF w a n c xs
  ok : ∀ x ∈ xs, x.ok
theorem DRow.keep {w w' : World} {a : Option Addr} {n c : Nat} {xs : List CallD} (h : DRow w a n c xs) (hb : Below w.heap.size w w') : DRow w' a n c xs := ⟨h.recs.keep hb, h.ok⟩

section
variable {H : Type} {enc : TypeId × Value → H} {w : World} {base : Nat} {held : Bool} {fuel : Nat}
theorem open_callD {cs : List Value} {x : DataW H × List MemPlace} (h : DataW.trod enc Try.prog w base (fun _ => true) held fuel 39 cs = some x) : ∃ v : CallD, cs = v.cells ∧ v.ok := by
  obtain ⟨hl, hf⟩ := open_parts Try.underlying39 h
  have hl5 : cs.length = 5 := hl.trans (by kernel_rfl)
  obtain ⟨n0, y0, h0⟩ := hf 0 _ rfl
  obtain ⟨n1, y1, h1⟩ := hf 1 _ rfl
  obtain ⟨n2, y2, h2⟩ := hf 2 _ rfl
  obtain ⟨n3, y3, h3⟩ := hf 3 _ rfl
  obtain ⟨n4, y4, h4⟩ := hf 4 _ rfl
  obtain ⟨z0, e0, _, w0⟩ := DataW.trod_int Try.underlying3 h0
  obtain ⟨z1, e1, _, w1⟩ := DataW.trod_int Try.underlying3 h1
  obtain ⟨z2, e2, _, w2⟩ := DataW.trod_int Try.underlying3 h2
  obtain ⟨z3, e3, _, w3⟩ := DataW.trod_int Try.underlying3 h3
  obtain ⟨z4, e4, _, w4⟩ := DataW.trod_int Try.underlying37 h4
  have c1 : Try.prog.cellsOf 3 = 1 := by kernel_rfl
  have c3 : Try.prog.cellsOf 37 = 1 := by kernel_rfl
  match cs, hl5 with
  | [v0, v1, v2, v3, v4], _ =>
    simp [c1, c3] at e0 e1 e2 e3 e4
    subst e0 e1 e2 e3 e4
    exact ⟨⟨z0, z1, z2, z3, z4⟩, rfl, w1, w2, w3, w4⟩
theorem open_drow {a : Option Addr} {n c : Nat} {x : DataW H × List MemPlace}
    (h : DataW.trod enc Try.prog w base (fun _ => true) held fuel 22 [.slice a n c] = some x) : ∃ xs, DRow w a n c xs := by
  obtain ⟨a', n', c', rs, e, hr, hx⟩ := open_rows Try.underlying22 (m := 5) (by kernel_rfl) (by decide) h
  cases e
  obtain ⟨xs, rfl, hok⟩ := list_map_choose (f := CallD.cells) (p := CallD.ok) rs fun r hr => by
    obtain ⟨f, y, h⟩ := hx r hr
    exact open_callD h
  exact ⟨xs, recs_of_rows (F := callF) hr, hok⟩
end

/-- A block that the desk does not own. -/
structure Lie (w : World) (g : Nat) (o : Obj) (F : Nat → Prop) : Prop where
  is : w.heap[g]? = some o
  out : ¬ F g
section
variable {w w' : World} {g : Nat} {o : Obj} {F : Nat → Prop}
theorem Lie.lt (h : Lie w g o F) : g < w.heap.size := (Array.getElem?_eq_some_iff.1 h.is).1
theorem Lie.step (h : Lie w g o F) (hb : Below w.heap.size w w') : Lie w' g o F := ⟨(hb.block g h.lt).trans h.is, h.out⟩
theorem Lie.mod (h : Lie w g o F) (hm : Mod F w w') : Lie w' g o (grownF F w w') := ⟨(hm.block g h.lt h.out).trans h.is, fun hg => hg.elim h.out fun hg => by have := h.lt; omega⟩
end
theorem small_good {P : Int} (h1 : ¬ P < 1) (h2 : ¬ 6 < P) : Pl.good (P, 1, 2) := by
  refine ⟨?_, ?_, ?_, ?_, ?_, ?_⟩ <;> simp only [Pl.parts, Pl.window, Pl.delay] <;> omega
end Go.Proofs.Ytdccocgdgcjfcaa
