/- A row of calls, as it came in. -/
import Derived.Test.YtpcekoimalafkaaOpen
import Derived.Test.YtpcekoimalafkaaDisk7
namespace Go.Proofs.Ytpcekoimalafkaa
open Go.RowKit Go.ChangeShapes Go.WideShapes

theorem open_call {H : Type} {enc : TypeId × Value → H} {w : World} {base : Nat} {held : Bool} {fuel : Nat} {cs : List Value} {x : DataW H × List MemPlace}
    (h : DataW.trod enc Try.prog w base (fun _ => true) held fuel 34 cs = some x) : ∃ v : CallV, cs = v.cells ∧ CallOk w v := by
  obtain ⟨hl, hf⟩ := open_parts Try.underlying34 h
  have hl4 : cs.length = 4 := hl.trans (by kernel_rfl)
  obtain ⟨n0, y0, h0⟩ := hf 0 _ rfl
  obtain ⟨n1, y1, h1⟩ := hf 1 _ rfl
  obtain ⟨n2, y2, h2⟩ := hf 2 _ rfl
  obtain ⟨n3, y3, h3⟩ := hf 3 _ rfl
  obtain ⟨z0, e0, _, w0⟩ := DataW.trod_int Try.underlying3 h0
  obtain ⟨z1, e1, _, w1⟩ := DataW.trod_int Try.underlying3 h1
  obtain ⟨z2, e2, _, w2⟩ := DataW.trod_int Try.underlying3 h2
  obtain ⟨a, n, c, zs, e3, i3⟩ := piece_ints Try.underlying32 Try.underlying5 (by kernel_rfl) h3
  have c1 : Try.prog.cellsOf 3 = 1 := by kernel_rfl
  have c3 : Try.prog.cellsOf 32 = 1 := by kernel_rfl
  match cs, hl4 with
  | [v0, v1, v2, v3], _ =>
    simp [c1, c3] at e0 e1 e2 e3
    subst e0 e1 e2 e3
    exact ⟨⟨z0, z1, z2, a, n, c, zs⟩, rfl, ⟨i3, w0, w1, w2⟩⟩

theorem open_calls {H : Type} {enc : TypeId × Value → H} {w : World} {base : Nat} {held : Bool} {fuel : Nat} {a : Option Addr} {n c : Nat} {x : DataW H × List MemPlace}
    (h : DataW.trod enc Try.prog w base (fun _ => true) held fuel 22 [.slice a n c] = some x) : ∃ xs, CallRow w a n c xs := by
  obtain ⟨a', n', c', rs, e, hr, hx⟩ := open_rows Try.underlying22 (m := 4) (by kernel_rfl) (by decide) h
  cases e
  obtain ⟨xs, rfl, hok⟩ := list_map_choose (f := CallV.cells) (p := CallOk w) rs fun r hr => by
    obtain ⟨f, y, h⟩ := hx r hr
    exact open_call h
  refine ⟨xs, by simpa using hr.len, hr.le, hr.max, hok, fun hn => ?_⟩
  obtain ⟨b, o, rfl, hc⟩ := hr.cell hn
  exact ⟨b, o, rfl, fun j hj k hk => by have := hc j (by simpa using hj) k hk; simpa using this⟩
end Go.Proofs.Ytpcekoimalafkaa
