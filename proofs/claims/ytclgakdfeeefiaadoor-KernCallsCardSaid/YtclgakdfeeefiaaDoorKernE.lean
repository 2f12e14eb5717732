/- A kernel, and a row of messages beside it. -/
import Derived.Test.YtclgakdfeeefiaaDoorKernD
namespace Go.Proofs.YtclgakdfeeefiaaDoor
open Go.RowKit

/-- A kernel, a row that the law owns, and cells: each apart from the others. -/
def KnV (w0 w : World) (kb n : Nat) (p : Pl) (st : Sta) (v : Value) (W : List Msg) (L : List (Nat × Obj)) : Prop :=
  ∃ F, Kn w0 w kb F n p st ∧ MOwn w w0.heap.size v W ∧ (∀ g, v.ownBlock = some g → ¬ F g) ∧ ∀ x ∈ L, w.heap[x.1]? = some x.2 ∧ ¬ F x.1 ∧ v.ownBlock ≠ some x.1
section
variable {w0 w w' : World} {kb n : Nat} {p : Pl} {st st' : Sta} {v : Value} {W : List Msg} {L : List (Nat × Obj)} {f : Nat} {args : Array Value} {P : Ending → Prop}
theorem KnV.step (h : KnV w0 w kb n p st v W L) (hb : Below w.heap.size w w') : KnV w0 w' kb n p st v W L := by
  obtain ⟨F, h1, h2, h3, h4⟩ := h
  exact ⟨F, h1.step hb, h2.keep fun g _ hl => hb.block g hl, h3, fun x hx => ⟨(hb.block _ (Array.getElem?_eq_some_iff.1 (h4 x hx).1).1).trans (h4 x hx).1, (h4 x hx).2⟩⟩
theorem KnV.bel (h : KnV w0 w kb n p st v W L) : Below w0.heap.size w0 w := by
  obtain ⟨F, h1, -⟩ := h
  exact h1.bel
theorem KnV.at (h : KnV w0 w kb n p st v W L) {g : Nat} {o : Obj} (hx : (g, o) ∈ L) : w.heap[g]? = some o := by
  obtain ⟨F, -, -, -, h4⟩ := h
  exact (h4 _ hx).1
theorem KnV.drop {x : Nat × Obj} (h : KnV w0 w kb n p st v W (x :: L)) : KnV w0 w kb n p st v W L := by
  obtain ⟨F, h1, h2, h3, h4⟩ := h
  exact ⟨F, h1, h2, h3, fun y hy => h4 y (.tail _ hy)⟩
theorem KnV.kl (h : KnV w0 w kb n p st v W L) : KnL w0 w kb n p st L := by
  obtain ⟨F, h1, h2, h3, h4⟩ := h
  exact ⟨F, h1, fun x hx => ⟨(h4 x hx).1, (h4 x hx).2.1⟩⟩
theorem KnV.msgs (h : KnV w0 w kb n p st v W L) : ∃ a c, v = .slice a W.length c ∧ Msgs w a W.length c W := by
  obtain ⟨F, h1, h2, h3, h4⟩ := h
  obtain ⟨a, k, c, rfl, hm, -⟩ := h2.msgs
  have := hm.len
  subst this
  exact ⟨a, c, rfl, hm⟩
theorem KnV.made (h : KnV w0 w kb n p st v W L) (o : Obj) : KnV w0 (w.alloc o) kb n p st v W ((w.heap.size, o) :: L) := by
  have hb : Below w.heap.size w (w.alloc o) := (Below.refl _ _).alloc (Nat.le_refl _) o
  obtain ⟨F, h1, h2, h3, h4⟩ := h
  refine ⟨F, h1.step hb, h2.keep fun g _ hl => hb.block g hl, h3, fun x hx => ?_⟩
  rcases List.mem_cons.1 hx with rfl | hx
  · exact ⟨heap_alloc_new w o, fun hf => Nat.lt_irrefl _ (h1.low _ hf).2, fun e => Nat.lt_irrefl _ (World.ownsRow.lt h2 _ e).2⟩
  · exact ⟨(hb.block _ (Array.getElem?_eq_some_iff.1 (h4 x hx).1).1).trans (h4 x hx).1, (h4 x hx).2⟩
/-- An empty row is made beside a kernel. -/
theorem KnL.row (h : KnL w0 w kb n p st L) : KnV w0 (w.alloc (.cells #[] 39)) kb n p st (.slice (some ⟨w.heap.size, 0, none⟩) 0 0) [] L := by
  have hb : Below w.heap.size w (w.alloc (.cells #[] 39)) := (Below.refl _ _).alloc (Nat.le_refl _) _
  have hbel := h.bel
  obtain ⟨F, h1, h2⟩ := h
  refine ⟨F, h1.step hb, World.ownsRow_made w #[] 0 hbel.size (by decide) rfl, fun g hg hf => ?_, fun x hx => ?_⟩
  · have e : w.heap.size = g := by injection hg
    have := (h1.low _ hf).2
    omega
  · have hl := (Array.getElem?_eq_some_iff.1 (h2 x hx).1).1
    exact ⟨(hb.block _ hl).trans (h2 x hx).1, (h2 x hx).2, fun e => by have e : w.heap.size = x.1 := by injection e
                                                                       omega⟩
theorem KnV.call (h : KnV w0 w kb n p st v W L) (hc : ∀ F, Kn w0 w kb F n p st → Calls Tryd.prog f args w fun e w' => P e ∧ Kn w0 w' kb (grownF F w w') n p st' ∧ Mod F w w') :
    Calls Tryd.prog f args w fun e w' => P e ∧ KnV w0 w' kb n p st' v W L := by
  obtain ⟨F, h1, h2, h3, h4⟩ := h
  refine (hc F h1).mono ?_
  rintro e w' ⟨hp, hk, hm⟩
  have hv : ∀ k, k < w.heap.size → ¬ F k → ¬ grownF F w w' k := by
    rintro k hl hf (hk | hk)
    · exact hf hk
    · omega
  refine ⟨hp, _, hk, h2.grown hm h3, fun g hg => hv g (World.ownsRow.lt h2 g hg).2 (h3 g hg), fun x hx => ?_⟩
  have hl := (Array.getElem?_eq_some_iff.1 (h4 x hx).1).1
  exact ⟨(hm.block _ hl (h4 x hx).2.1).trans (h4 x hx).1, hv _ hl (h4 x hx).2.1, (h4 x hx).2.2⟩
/-- The row has grown. -/
theorem KnV.more {v' : Value} {W' : List Msg} (h : KnV w0 w kb n p st v W L) (ho : MOwn w' w0.heap.size v' W') (hg : w.grownBy w' v.ownBlock) (hw : v'.ownBlock = v.ownBlock ∨ v'.ownBlock = some w.heap.size) : KnV w0 w' kb n p st v' W' L := by
  obtain ⟨F, h1, h2, h3, h4⟩ := h
  have hm : Mod (fun k => v.ownBlock = some k) w w' := Mod.of_grown hg fun _ h => h
  refine ⟨F, h1.aside hm (fun k hk e => h3 k e hk) (fun k e => (World.ownsRow.lt h2 k e).1), ho, fun g hgo hf => ?_, fun x hx => ?_⟩
  · rcases hw with e | e
    · exact h3 g (by rw [← e]; exact hgo) hf
    · have : w.heap.size = g := by rw [e] at hgo; injection hgo
      have := (h1.low _ hf).2
      omega
  · have hl := (Array.getElem?_eq_some_iff.1 (h4 x hx).1).1
    refine ⟨(hg.block _ hl fun e => (h4 x hx).2.2 e.symm).trans (h4 x hx).1, (h4 x hx).2.1, fun hgo => ?_⟩
    rcases hw with e | e
    · exact (h4 x hx).2.2 (by rw [← e]; exact hgo)
    · have : w.heap.size = x.1 := by rw [e] at hgo; injection hgo
      omega
end
end Go.Proofs.YtclgakdfeeefiaaDoor
