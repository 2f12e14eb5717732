/- Records, and rows of them, as they came in. -/
import Derived.Test.YtiaocfeafkgbaaaRecA
import Derived.Laws.IdiomArrays
namespace Go.Proofs.Ytiaocfeafkgbaaa
open Go.RowKit Go.ChangeShapes Go.WideShapes

theorem wf_u16 {n : Int} (h : (Lit.int .u16 n).wf = true) : 0 ≤ n ∧ n ≤ 65535 := by
  have := wf_of h
  simpa [IntKind.min, IntKind.max, IntKind.signed, IntKind.bits] using this
section
variable {H : Type} {enc : TypeId × Value → H} {w : World} {base : Nat} {held : Bool} {fuel : Nat}
theorem open_val {v0 v1 : Value} {x : DataW H × List MemPlace} (h : DataW.trod enc Try.prog w base (fun _ => true) held fuel 32 [v0, v1] = some x) : ∃ (t : Bool) (n : Int), v0 = .bool t ∧ v1 = .int .i64 n ∧ (Lit.int .i64 n).wf = true := by
  obtain ⟨hl, hf⟩ := open_parts Try.underlying32 h
  obtain ⟨n0, y0, h0⟩ := hf 0 _ rfl
  obtain ⟨n1, y1, h1⟩ := hf 1 _ rfl
  obtain ⟨z0, e0, _⟩ := DataW.trod_bool Try.underlying4 h0
  obtain ⟨z1, e1, _, w1⟩ := DataW.trod_int Try.underlying3 h1
  have c1 : Try.prog.cellsOf 3 = 1 := by kernel_rfl
  have c2 : Try.prog.cellsOf 4 = 1 := by kernel_rfl
  simp [c1, c2] at e0 e1
  exact ⟨z0, z1, e0, e1, w1⟩
theorem open_rc {cs : List Value} {x : DataW H × List MemPlace} (h : DataW.trod enc Try.prog w base (fun _ => true) held fuel 34 cs = some x) : ∃ r : Rc, cs = r.cells ∧ r.ok := by
  obtain ⟨hl, hf⟩ := open_parts Try.underlying34 h
  have hl4 : cs.length = 11 := hl.trans (by kernel_rfl)
  obtain ⟨n0, y0, h0⟩ := hf 0 _ rfl
  obtain ⟨n1, y1, h1⟩ := hf 1 _ rfl
  obtain ⟨n2, y2, h2⟩ := hf 2 _ rfl
  obtain ⟨n3, y3, h3⟩ := hf 3 _ rfl
  obtain ⟨n4, y4, h4⟩ := hf 4 _ rfl
  obtain ⟨n5, y5, h5⟩ := hf 5 _ rfl
  obtain ⟨z0, e0, _, w0⟩ := DataW.trod_int Try.underlying3 h0
  obtain ⟨z1, e1, _, w1⟩ := DataW.trod_int Try.underlying3 h1
  obtain ⟨z2, e2, _, w2⟩ := DataW.trod_int Try.underlying28 h2
  have c1 : Try.prog.cellsOf 3 = 1 := by kernel_rfl
  have c2 : Try.prog.cellsOf 28 = 1 := by kernel_rfl
  have c3 : Try.prog.cellsOf 30 = 4 := by kernel_rfl
  have c4 : Try.prog.cellsOf 32 = 2 := by kernel_rfl
  have c5 : Try.prog.cellsOf 5 = 1 := by kernel_rfl
  match cs, hl4 with
  | [v0, v1, v2, v3, v4, v5, v6, v7, v8, v9, v10], _ =>
    replace e0 : ([v0, v1, v2, v3, v4, v5, v6, v7, v8, v9, v10].drop 0).take (Try.prog.cellsOf 3) = [.int .i64 z0] := e0
    replace e1 : ([v0, v1, v2, v3, v4, v5, v6, v7, v8, v9, v10].drop 1).take (Try.prog.cellsOf 3) = [.int .i64 z1] := e1
    replace e2 : ([v0, v1, v2, v3, v4, v5, v6, v7, v8, v9, v10].drop 2).take (Try.prog.cellsOf 28) = [.int .u16 z2] := e2
    replace h3 : DataW.trod enc Try.prog w base (fun _ => true) held n3 30 (([v0, v1, v2, v3, v4, v5, v6, v7, v8, v9, v10].drop 3).take (Try.prog.cellsOf 30)) = some y3 := h3
    replace h4 : DataW.trod enc Try.prog w base (fun _ => true) held n4 32 (([v0, v1, v2, v3, v4, v5, v6, v7, v8, v9, v10].drop 7).take (Try.prog.cellsOf 32)) = some y4 := h4
    replace h5 : DataW.trod enc Try.prog w base (fun _ => true) held n5 32 (([v0, v1, v2, v3, v4, v5, v6, v7, v8, v9, v10].drop 9).take (Try.prog.cellsOf 32)) = some y5 := h5
    rw [c1] at e0 e1
    rw [c2] at e2
    rw [c3] at h3
    rw [c4] at h4 h5
    simp at e0 e1 e2
    obtain ⟨a0, a1, a2, a3, nn, _, k0, k1, k2, k3⟩ := trod_array4 Try.underlying30 c5 h3
    obtain ⟨q0, f0, _, u0⟩ := DataW.trod_int Try.underlying5 k0
    obtain ⟨q1, f1, _, u1⟩ := DataW.trod_int Try.underlying5 k1
    obtain ⟨q2, f2, _, u2⟩ := DataW.trod_int Try.underlying5 k2
    obtain ⟨q3, f3, _, u3⟩ := DataW.trod_int Try.underlying5 k3
    obtain ⟨t4, m4, g7, g8, w4⟩ := open_val h4
    obtain ⟨t5, m5, g9, g10, w5⟩ := open_val h5
    simp at f0 f1 f2 f3
    subst e0 e1 e2 f0 f1 f2 f3 g7 g8 g9 g10
    exact ⟨⟨z0, z1, z2, q0, q1, q2, q3, t4, m4, t5, m5⟩, rfl, wf_i64 w0, wf_i64 w1, wf_u16 w2, wf_u8 u0, wf_u8 u1, wf_u8 u2, wf_u8 u3, wf_i64 w4, wf_i64 w5⟩
/-- A row of records. -/
structure RRow (w : World) (a : Option Addr) (n c : Nat) (xs : List Rc) : Prop where
  recs : Recs rcF w a n c xs
  ok : ∀ x ∈ xs, x.ok
theorem open_rrow {a : Option Addr} {n c : Nat} {x : DataW H × List MemPlace}
    (h : DataW.trod enc Try.prog w base (fun _ => true) held fuel 22 [.slice a n c] = some x) : ∃ xs, RRow w a n c xs := by
  obtain ⟨a', n', c', rs, e, hr, hx⟩ := open_rows Try.underlying22 (m := 11) (by kernel_rfl) (by decide) h
  cases e
  obtain ⟨xs, rfl, hok⟩ := list_map_choose (f := Rc.cells) (p := Rc.ok) rs fun r hr => by
    obtain ⟨f, y, h⟩ := hx r hr
    exact open_rc h
  exact ⟨xs, recs_of_rows (F := rcF) hr, hok⟩
end
end Go.Proofs.Ytiaocfeafkgbaaa
