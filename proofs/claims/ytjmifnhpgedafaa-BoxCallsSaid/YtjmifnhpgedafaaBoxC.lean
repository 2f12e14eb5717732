/- Rows of calls; two boxes; blocks that lie aside. -/
import Derived.Test.YtjmifnhpgedafaaBoxA
import Derived.Test.YtjmifnhpgedafaaBoxO
namespace Go.Proofs.Ytjmifnhpgedafaa
open Go.RowKit Go.ChangeShapes Go.WideShapes

structure CallB where
  what : Int
  at_ : Int
  who : Label
  owned : Int
  msg : Msg
def CallB.cells (x : CallB) : List Value := [.int .i64 x.what, .int .i64 x.at_, .int .u64 x.who.1, .int .u64 x.who.2, .int .u64 x.owned, .int .i64 x.msg.1, .int .i64 x.msg.2.1, .int .i64 x.msg.2.2.1, .int .i64 x.msg.2.2.2]
structure CallB.ok (x : CallB) : Prop where
  who : x.who.ok
  owned : (Lit.int .u64 x.owned).wf = true
  at_ : (Lit.int .i64 x.at_).wf = true

structure CRow (w : World) (a : Option Addr) (n c : Nat) (xs : List CallB) : Prop where
  len : xs.length = n
  le : n ≤ c
  max : c ≤ 9223372036854775807
  ok : ∀ x ∈ xs, x.ok
  cell : 0 < n → ∃ b o, a = some ⟨b, o, none⟩ ∧ ∀ j (hj : j < xs.length) k, k < 9 → w.cell? ⟨b, o + (j * 9 + k), none⟩ = xs[j].cells[k]?
theorem CRow.keep {w w' : World} {a : Option Addr} {n c : Nat} {xs : List CallB} (h : CRow w a n c xs) (hb : Below w.heap.size w w') : CRow w' a n c xs := by
  refine ⟨h.len, h.le, h.max, h.ok, fun hn => ?_⟩
  obtain ⟨b, o, rfl, hc⟩ := h.cell hn
  have hl := h.len
  have h0 := hc 0 (by omega) 0 (by decide)
  have hlt := World.block_lt_of_cell? w _ (h0.trans (show _ = some _ from rfl))
  exact ⟨b, o, rfl, fun j hj k hk => (World.cell?_of_block (hb.block b hlt)).trans (hc j hj k hk)⟩
theorem CRow.addr {w : World} {a : Option Addr} {n c : Nat} {xs : List CallB} (h : CRow w a n c xs) (hn : 0 < n) : ∃ b o, a = some ⟨b, o, none⟩ := by
  obtain ⟨b, o, e, _⟩ := h.cell hn
  exact ⟨b, o, e⟩
theorem CRow.at {w : World} {b o n c : Nat} {xs : List CallB} (h : CRow w (some ⟨b, o, none⟩) n c xs) {j : Nat} (hj : j < xs.length) : ∀ k u, (xs[j].cells)[k]? = some u → w.cell? ⟨b, o + j * 9 + k, none⟩ = some u := fun k u hu => by
  have hk : k < 9 := (List.getElem?_eq_some_iff.1 hu).1
  have hl := h.len
  obtain ⟨b', o', e, hc⟩ := h.cell (by omega)
  cases e
  rw [Nat.add_assoc]
  exact (hc j hj k hk).trans hu

structure Two (w0 w : World) (b1 : Nat) (F1 : Nat → Prop) (b2 : Nat) (F2 : Nat → Prop) (l : Label) (r : Nat) (ms1 ms2 : List Msg) : Prop where
  x : Bx w0 w b1 F1 l r ms1
  y : Bx w0 w b2 F2 l r ms2
  dis : ∀ k, F1 k → ¬ F2 k
section
variable {w0 w w' : World} {b1 b2 : Nat} {F1 F2 : Nat → Prop} {l : Label} {r : Nat} {ms1 ms2 ms' : List Msg}
theorem Two.step (h : Two w0 w b1 F1 b2 F2 l r ms1 ms2) (hb : Below w.heap.size w w') : Two w0 w' b1 F1 b2 F2 l r ms1 ms2 := ⟨h.x.step hb, h.y.step hb, h.dis⟩
theorem Two.left (h : Two w0 w b1 F1 b2 F2 l r ms1 ms2) (hx : Bx w0 w' b1 (grownF F1 w w') l r ms') (hm : Mod F1 w w') : Two w0 w' b1 (grownF F1 w w') b2 F2 l r ms' ms2 where
  x := hx
  y := h.y.aside hm (fun k h2 h1 => h.dis k h1 h2) fun k hk => (h.x.low k hk).1
  dis := fun k h1 h2 => h1.elim (fun h1 => h.dis k h1 h2) fun h1 => by have := (h.y.low k h2).2; omega
theorem Two.right (h : Two w0 w b1 F1 b2 F2 l r ms1 ms2) (hy : Bx w0 w' b2 (grownF F2 w w') l r ms') (hm : Mod F2 w w') : Two w0 w' b1 F1 b2 (grownF F2 w w') l r ms1 ms' where
  x := h.x.aside hm (fun k h1 h2 => h.dis k h1 h2) fun k hk => (h.y.low k hk).1
  y := hy
  dis := fun k h1 h2 => h2.elim (fun h2 => h.dis k h1 h2) fun h2 => by have := (h.x.low k h1).2; omega

/-- Blocks that no box has. -/
def Lies (w : World) (L : List (Nat × Obj)) (F1 F2 : Nat → Prop) : Prop := ∀ p ∈ L, w.heap[p.1]? = some p.2 ∧ ¬ F1 p.1 ∧ ¬ F2 p.1
theorem Lies.lt {L : List (Nat × Obj)} (h : Lies w L F1 F2) {p : Nat × Obj} (hp : p ∈ L) : p.1 < w.heap.size := (Array.getElem?_eq_some_iff.1 (h p hp).1).1
theorem Lies.step {L : List (Nat × Obj)} (h : Lies w L F1 F2) (hb : Below w.heap.size w w') : Lies w' L F1 F2 := fun p hp => ⟨(hb.block p.1 (h.lt hp)).trans (h p hp).1, (h p hp).2⟩
theorem Lies.left {L : List (Nat × Obj)} (h : Lies w L F1 F2) (hm : Mod F1 w w') : Lies w' L (grownF F1 w w') F2 := fun p hp =>
  ⟨(hm.block p.1 (h.lt hp) (h p hp).2.1).trans (h p hp).1, fun hg => hg.elim (h p hp).2.1 fun hg => by have := h.lt hp; omega, (h p hp).2.2⟩
theorem Lies.right {L : List (Nat × Obj)} (h : Lies w L F1 F2) (hm : Mod F2 w w') : Lies w' L F1 (grownF F2 w w') := fun p hp =>
  ⟨(hm.block p.1 (h.lt hp) (h p hp).2.2).trans (h p hp).1, (h p hp).2.1, fun hg => hg.elim (h p hp).2.2 fun hg => by have := h.lt hp; omega⟩
theorem Lies.add {L : List (Nat × Obj)} (h : Lies w L F1 F2) (ht : Two w0 w b1 F1 b2 F2 l r ms1 ms2) (hb : Below w.heap.size w w') {o : Obj} (ho : w'.heap[w.heap.size]? = some o) : Lies w' ((w.heap.size, o) :: L) F1 F2 := fun p hp => by
  rcases List.mem_cons.1 hp with rfl | hp
  · exact ⟨ho, fun h1 => by have := (ht.x.low _ h1).2; simp at this, fun h2 => by have := (ht.y.low _ h2).2; simp at this⟩
  · exact h.step hb p hp
end

theorem put_blind {l f : Label} {o : Int} (h : withOf l f o = false) (r : Nat) (ms : List Msg) (m : Msg) : (putOf l r ms f o m).2.1 = if rightOf m then (if withOf f l o then 0 else 14) else 10 := by
  unfold putOf
  rw [h]
  split
  · split
    · split
      · rfl
      · simp
    · rfl
  · rfl
theorem take_blind {l f : Label} {o : Int} (h : withOf l f o = false) (ms : List Msg) (i : Int) : takeOf l ms f o i = (noMsg, 14, ms) := by
  unfold takeOf
  rw [h]
  simp

theorem open_callB {H : Type} {enc : TypeId × Value → H} {w : World} {base : Nat} {held : Bool} {fuel : Nat} {cs : List Value} {x : DataW H × List MemPlace}
    (h : DataW.trod enc Try.prog w base (fun _ => true) held fuel 36 cs = some x) : ∃ v : CallB, cs = v.cells ∧ v.ok := by
  obtain ⟨hl, hf⟩ := open_parts Try.underlying36 h
  have hl9 : cs.length = 9 := hl.trans (by kernel_rfl)
  obtain ⟨n0, y0, h0⟩ := hf 0 _ rfl
  obtain ⟨n1, y1, h1⟩ := hf 1 _ rfl
  obtain ⟨n2, y2, h2⟩ := hf 2 _ rfl
  obtain ⟨n3, y3, h3⟩ := hf 3 _ rfl
  obtain ⟨n4, y4, h4⟩ := hf 4 _ rfl
  obtain ⟨z0, e0, _, w0⟩ := DataW.trod_int Try.underlying3 h0
  obtain ⟨z1, e1, _, w1⟩ := DataW.trod_int Try.underlying3 h1
  obtain ⟨z2, e2, w2⟩ := open_label h2
  obtain ⟨z3, e3, _, w3⟩ := DataW.trod_int Try.underlying22 h3
  obtain ⟨z4, e4, _⟩ := open_msg h4
  have c1 : Try.prog.cellsOf 3 = 1 := by kernel_rfl
  have c2 : Try.prog.cellsOf 24 = 2 := by kernel_rfl
  have c3 : Try.prog.cellsOf 22 = 1 := by kernel_rfl
  have c4 : Try.prog.cellsOf 34 = 4 := by kernel_rfl
  match cs, hl9 with
  | [v0, v1, v2, v3, v4, v5, v6, v7, v8], _ =>
    simp [c1, c2, c3, c4, Label.cells, Msg.cells] at e0 e1 e2 e3 e4
    obtain ⟨rfl, rfl⟩ := e2
    obtain ⟨rfl, rfl, rfl, rfl⟩ := e4
    subst e0 e1 e3
    exact ⟨⟨z0, z1, z2, z3, z4⟩, rfl, ⟨w2, w3, w1⟩⟩
theorem open_crow {H : Type} {enc : TypeId × Value → H} {w : World} {base : Nat} {held : Bool} {fuel : Nat} {a : Option Addr} {n c : Nat} {x : DataW H × List MemPlace}
    (h : DataW.trod enc Try.prog w base (fun _ => true) held fuel 25 [.slice a n c] = some x) : ∃ xs, CRow w a n c xs := by
  obtain ⟨a', n', c', rs, e, hr, hx⟩ := open_rows Try.underlying25 (m := 9) (by kernel_rfl) (by decide) h
  cases e
  obtain ⟨xs, rfl, hok⟩ := list_map_choose (f := CallB.cells) (p := CallB.ok) rs fun r hr => by
    obtain ⟨f, y, h⟩ := hx r hr
    exact open_callB h
  refine ⟨xs, by simpa using hr.len, hr.le, hr.max, hok, fun hn => ?_⟩
  obtain ⟨b, o, rfl, hc⟩ := hr.cell hn
  exact ⟨b, o, rfl, fun j hj k hk => by have := hc j (by simpa using hj) k hk; simpa using this⟩
end Go.Proofs.Ytjmifnhpgedafaa
