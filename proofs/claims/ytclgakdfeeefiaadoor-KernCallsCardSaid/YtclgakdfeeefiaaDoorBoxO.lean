/- What came in: rows of messages, labels, messages, rows of calls. -/
import Derived.Test.YtclgakdfeeefiaaDoorOpen
import Derived.Test.YtclgakdfeeefiaaDoorBox3
namespace Go.Proofs.YtclgakdfeeefiaaDoor
open Go.RowKit Go.ChangeShapes Go.WideShapes

section
variable {H : Type} {enc : TypeId × Value → H} {w : World} {base : Nat} {held : Bool} {fuel : Nat}
set_option maxRecDepth 100000 in
theorem open_msg {cs : List Value} {x : DataW H × List MemPlace} (h : DataW.trod enc Tryd.prog w base (fun _ => true) held fuel 39 cs = some x) : ∃ m : Msg, cs = m.cells ∧ m.ok := by
  obtain ⟨hl, hf⟩ := open_parts Tryd.underlying39 h
  have hl4 : cs.length = 4 := hl.trans (by kernel_rfl)
  obtain ⟨n0, y0, h0⟩ := hf 0 _ rfl
  obtain ⟨n1, y1, h1⟩ := hf 1 _ rfl
  obtain ⟨n2, y2, h2⟩ := hf 2 _ rfl
  obtain ⟨n3, y3, h3⟩ := hf 3 _ rfl
  obtain ⟨z0, e0, _, w0⟩ := DataW.trod_int Tryd.underlying3 h0
  obtain ⟨z1, e1, _, w1⟩ := DataW.trod_int Tryd.underlying3 h1
  obtain ⟨z2, e2, _, w2⟩ := DataW.trod_int Tryd.underlying3 h2
  obtain ⟨z3, e3, _, w3⟩ := DataW.trod_int Tryd.underlying3 h3
  have c1 : Tryd.prog.cellsOf 3 = 1 := by kernel_rfl
  match cs, hl4 with
  | [v0, v1, v2, v3], _ =>
    simp [c1] at e0 e1 e2 e3
    subst e0 e1 e2 e3
    exact ⟨(z0, z1, z2, z3), rfl, w0, w1, w2, w3⟩
set_option maxRecDepth 100000 in
theorem open_label {cs : List Value} {x : DataW H × List MemPlace} (h : DataW.trod enc Tryd.prog w base (fun _ => true) held fuel 32 cs = some x) : ∃ l : Label, cs = l.cells ∧ l.ok := by
  obtain ⟨hl, hf⟩ := open_parts Tryd.underlying32 h
  have hl2 : cs.length = 2 := hl.trans (by kernel_rfl)
  obtain ⟨n0, y0, h0⟩ := hf 0 _ rfl
  obtain ⟨n1, y1, h1⟩ := hf 1 _ rfl
  obtain ⟨z0, e0, _, w0⟩ := DataW.trod_int Tryd.underlying30 h0
  obtain ⟨z1, e1, _, w1⟩ := DataW.trod_int Tryd.underlying30 h1
  have c1 : Tryd.prog.cellsOf 30 = 1 := by kernel_rfl
  match cs, hl2 with
  | [v0, v1], _ =>
    simp [c1] at e0 e1
    subst e0 e1
    exact ⟨(z0, z1), rfl, w0, w1⟩

theorem msgs_of_rows {a : Option Addr} {n c : Nat} {xs : List Msg} (hr : Rows w 4 a n c (xs.map Msg.cells)) : Msgs w a n c xs := by
  refine ⟨by simpa using hr.len, hr.le, hr.max, fun hn => ?_⟩
  obtain ⟨b, o, rfl, hc⟩ := hr.cell hn
  refine ⟨b, o, rfl, fun j u hu => ?_⟩
  have hj : j < xs.length * 4 := by have := (List.getElem?_eq_some_iff.1 hu).1; rwa [mrow_len] at this
  have hd : j / 4 < xs.length := by omega
  have hm : j % 4 < 4 := Nat.mod_lt _ (by decide)
  have h1 := hc (j / 4) (by simpa using hd) (j % 4) hm
  have h2 := mrow_at xs hd (j % 4) hm
  rw [show j / 4 * 4 + j % 4 = j by omega] at h1 h2
  rw [h1]
  rw [h2] at hu
  simpa using hu
set_option maxRecDepth 100000 in
theorem open_msgs {a : Option Addr} {n c : Nat} {x : DataW H × List MemPlace} (h : DataW.trod enc Tryd.prog w base (fun _ => true) held fuel 44 [.slice a n c] = some x) : ∃ xs, Msgs w a n c xs := by
  obtain ⟨a', n', c', rs, e, hr, hx⟩ := open_rows Tryd.underlying44 (m := 4) (by kernel_rfl) (by decide) h
  cases e
  obtain ⟨xs, rfl, hok⟩ := list_map_choose (f := Msg.cells) (p := Msg.ok) rs fun r hr => by
    obtain ⟨f, y, h⟩ := hx r hr
    exact open_msg h
  exact ⟨xs, msgs_of_rows hr⟩
end
end Go.Proofs.YtclgakdfeeefiaaDoor
