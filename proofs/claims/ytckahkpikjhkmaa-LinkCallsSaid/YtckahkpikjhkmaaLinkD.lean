/- Rows of calls on links, as they came in; great. -/
import Derived.Test.YtckahkpikjhkmaaLinkC
namespace Go.Proofs.Ytckahkpikjhkmaa
open Go.RowKit Go.ChangeShapes Go.WideShapes

structure CallL where
  what : Int
  part : Int
  pos : Int
  up : Bool
  stays : Bool
  la : Option Addr
  ln : Nat
  lc : Nat
  ms : List Msg
def CallL.cells (x : CallL) : List Value := [.int .i64 x.what, .int .i64 x.part, .int .i64 x.pos, .bool x.up, .bool x.stays, .slice x.la x.ln x.lc]
structure CallL.ok (w : World) (x : CallL) : Prop where
  what : (Lit.int .i64 x.what).wf = true
  part : (Lit.int .i64 x.part).wf = true
  pos : (Lit.int .i64 x.pos).wf = true
  list : Recs msgF w x.la x.ln x.lc x.ms
def callLF : Fmt CallL := ⟨CallL.cells, 6, fun _ => rfl, by decide, fun x u hu => by simp [CallL.cells] at hu; rcases hu with rfl | rfl | rfl | rfl | rfl | rfl <;> rfl⟩
structure LRow (w : World) (a : Option Addr) (n c : Nat) (xs : List CallL) : Prop where
  recs : Recs callLF w a n c xs
  ok : ∀ x ∈ xs, x.ok w
theorem CallL.ok.keep {w w' : World} {x : CallL} (h : x.ok w) (hb : Below w.heap.size w w') : x.ok w' := ⟨h.what, h.part, h.pos, h.list.keep hb⟩
theorem LRow.keep {w w' : World} {a : Option Addr} {n c : Nat} {xs : List CallL} (h : LRow w a n c xs) (hb : Below w.heap.size w w') : LRow w' a n c xs := ⟨h.recs.keep hb, fun x hx => (h.ok x hx).keep hb⟩

section
variable {H : Type} {enc : TypeId × Value → H} {w : World} {base : Nat} {held : Bool} {fuel : Nat}
theorem open_callL {cs : List Value} {x : DataW H × List MemPlace} (h : DataW.trod enc Try.prog w base (fun _ => true) held fuel 34 cs = some x) : ∃ v : CallL, cs = v.cells ∧ v.ok w := by
  obtain ⟨hl, hf⟩ := open_parts Try.underlying34 h
  have hl6 : cs.length = 6 := hl.trans (by kernel_rfl)
  obtain ⟨n0, y0, h0⟩ := hf 0 _ rfl
  obtain ⟨n1, y1, h1⟩ := hf 1 _ rfl
  obtain ⟨n2, y2, h2⟩ := hf 2 _ rfl
  obtain ⟨n3, y3, h3⟩ := hf 3 _ rfl
  obtain ⟨n4, y4, h4⟩ := hf 4 _ rfl
  obtain ⟨n5, y5, h5⟩ := hf 5 _ rfl
  obtain ⟨z0, e0, _, w0⟩ := DataW.trod_int Try.underlying3 h0
  obtain ⟨z1, e1, _, w1⟩ := DataW.trod_int Try.underlying3 h1
  obtain ⟨z2, e2, _, w2⟩ := DataW.trod_int Try.underlying3 h2
  obtain ⟨z3, e3, _⟩ := DataW.trod_bool Try.underlying4 h3
  obtain ⟨z4, e4, _⟩ := DataW.trod_bool Try.underlying4 h4
  obtain ⟨la, ln, lc, rs, e5, hr, hx⟩ := open_rows Try.underlying32 (m := 4) (by kernel_rfl) (by decide) h5
  obtain ⟨ms, rfl, -⟩ := list_map_choose (f := Msg.cells) (p := fun _ => True) rs fun r hr => by
    obtain ⟨f, y, h⟩ := hx r hr
    obtain ⟨v, hv⟩ := open_msg1 h
    exact ⟨v, hv, trivial⟩
  have c1 : Try.prog.cellsOf 3 = 1 := by kernel_rfl
  have c2 : Try.prog.cellsOf 4 = 1 := by kernel_rfl
  have c3 : Try.prog.cellsOf 32 = 1 := by kernel_rfl
  match cs, hl6 with
  | [v0, v1, v2, v3, v4, v5], _ =>
    simp [c1, c2, c3] at e0 e1 e2 e3 e4 e5
    subst e0 e1 e2 e3 e4 e5
    exact ⟨⟨z0, z1, z2, z3, z4, la, ln, lc, ms⟩, rfl, w0, w1, w2, recs_of_rows (F := msgF) hr⟩
theorem open_lrow {a : Option Addr} {n c : Nat} {x : DataW H × List MemPlace}
    (h : DataW.trod enc Try.prog w base (fun _ => true) held fuel 22 [.slice a n c] = some x) : ∃ xs, LRow w a n c xs := by
  obtain ⟨a', n', c', rs, e, hr, hx⟩ := open_rows Try.underlying22 (m := 6) (by kernel_rfl) (by decide) h
  cases e
  obtain ⟨xs, rfl, hok⟩ := list_map_choose (f := CallL.cells) (p := CallL.ok w) rs fun r hr => by
    obtain ⟨f, y, h⟩ := hx r hr
    exact open_callL h
  exact ⟨xs, recs_of_rows (F := callLF) hr, hok⟩
end

set_option maxHeartbeats 2000000 in
theorem great_calls {w : World} {a : Option Addr} {n c : Nat} {xs : List CallL} (hx : LRow w a n c xs) : Calls Try.prog 9 #[.slice a n c] w fun e w' =>
    ∃ G : Bool, e = .returned (.bool G) ∧ w' = w ∧ (G = false → n ≤ 100 ∧ ∀ x ∈ xs, x.ln ≤ 60) := by
  have hl := hx.recs.len
  have Hx := Lib.hid hx; clear hx
  have Hl := Lib.hid hl; clear hl
  go_enter Try.func9, Try.ntmps9
  by_cases h0 : 100 < n
  · have e0 : decide ((100 : Int) < (n : Int)) = true := decide_eq_true (by omega)
    go_wp2
    go_ret
    exact ⟨true, rfl, rfl, fun h => by cases h⟩
  have e0 : decide ((100 : Int) < (n : Int)) = false := decide_eq_false (by omega)
  have hn : n ≤ 100 := by omega
  clear h0
  go_wp2_with fail
  go_loopw [3] (fun i wr => ∃ j : Nat, j ≤ n ∧ i = .int .i64 j ∧ wr = w ∧ ∀ x ∈ xs.take j, x.ln ≤ 60) (fun i _ => n - (intOf i).toNat)
  case atStart => exact ⟨0, by omega, rfl, rfl, by simp⟩
  case round =>
    obtain ⟨j, hj, rfl, rfl, hs⟩ := hrel
    have Hs := Lib.hid hs; clear hs
    by_cases hlt : j < n
    · have hxr := Hx.out.recs
      obtain ⟨bx, ox, rfl⟩ := hxr.addr (by omega)
      have hjx : j < xs.length := by rw [Hl.out]; exact hlt
      have hcx := hxr.at hjx
      have x5 := hcx 5 _ rfl
      have hnext : xs[j].ln ≤ 60 → ∀ x ∈ xs.take (j + 1), x.ln ≤ 60 := fun h x hx => by
        rw [List.take_add_one, List.getElem?_eq_getElem hjx] at hx
        rcases List.mem_append.1 hx with hx | hx
        · exact Hs.out x hx
        · simp at hx; rw [hx]; exact h
      obtain ⟨m, hm⟩ : ∃ m, m = xs[j] := ⟨_, rfl⟩
      rw [← hm] at hnext x5
      clear hm hxr hcx
      have Hnext := Lib.hid hnext; clear hnext
      have i1 : (0 : Int) ≤ (j : Int) := by omega
      have i2 : (j : Int) < (n : Int) := by omega
      simp only [callLF] at x5
      by_cases h60 : 60 < m.ln
      · have e1 : decide ((60 : Int) < (m.ln : Int)) = true := decide_eq_true (by omega)
        go_wp2
        go_ret
        exact ⟨true, rfl, rfl, fun h => by cases h⟩
      · have e1 : decide ((60 : Int) < (m.ln : Int)) = false := decide_eq_false (by omega)
        go_wp2_with fail
        go_roundw
        case rel => exact ⟨j + 1, by omega, by go_num, trivial, Hnext.out (by omega)⟩
        case measure => simp [intOf]; omega
    · obtain rfl : j = n := by omega
      go_wp2
      go_ret
      exact ⟨false, rfl, rfl, fun _ => ⟨hn, fun x hx => Hs.out x (by rw [List.take_of_length_le (by rw [Hl.out]; exact Nat.le_refl _)]; exact hx)⟩⟩
end Go.Proofs.Ytckahkpikjhkmaa
