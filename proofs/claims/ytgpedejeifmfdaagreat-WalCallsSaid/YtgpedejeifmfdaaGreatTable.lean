/- A slice of slices of integers that a call has made: while it grows, and behind that. Of no program. -/
import Derived.Test.YtgpedejeifmfdaaGreatCells
namespace Go.Proofs.YtgpedejeifmfdaaGreat
open Go.RowKit

theorem ownsRow_keep {w w' : World} {B : Nat} {e : TypeId} {size : Nat} {v : Value} {n : Nat} {xs : List Value} (h : w.ownsRow B e size v n xs) (hk : ∀ g, v.ownBlock = some g → g < w.heap.size → w'.heap[g]? = w.heap[g]?) : w'.ownsRow B e size v n xs := by
  refine ⟨h.1, ?_⟩
  rcases h.2 with hn | ⟨g, cap, cur, e, hb, hg, rest⟩
  · exact .inl hn
  · exact .inr ⟨g, cap, cur, e, hb, (hk g (by rw [e]; rfl) (Array.getElem?_eq_some_iff.1 hg).1).trans hg, rest⟩

structure Growing (w : World) (B : Nat) (E : TypeId) (v : Value) (us : List Value) (f : Nat → List Int) : Prop where
  row : w.ownsRow B E 1 v us.length us
  elem : ∀ i, i < us.length → ∃ b n c, us[i]? = some (.slice (some ⟨b, 0, none⟩) n c) ∧ Ints w .u8 (some ⟨b, 0, none⟩) n c (f i) ∧ B ≤ b ∧ b < w.heap.size ∧ v.ownBlock ≠ some b

theorem Growing.keep {w w' : World} {B : Nat} {E : TypeId} {v : Value} {us : List Value} {f : Nat → List Int} (h : Growing w B E v us f) (hb : Below w.heap.size w w') : Growing w' B E v us f := by
  refine ⟨ownsRow_keep h.row fun g _ hlt => hb.block g hlt, fun i hi => ?_⟩
  obtain ⟨b, n, c, h1, h2, h3, h4, h5⟩ := h.elem i hi
  exact ⟨b, n, c, h1, h2.keep hb, h3, Nat.lt_of_lt_of_le h4 hb.size, h5⟩

/-- One more, behind what has been read into block b. -/
theorem Growing.push {w w' : World} {B : Nat} {E : TypeId} {v v' : Value} {us : List Value} {f : Nat → List Int} (h : Growing w B E v us f) {b n c : Nat}
    (hx : Ints w .u8 (some ⟨b, 0, none⟩) n c (f us.length)) (hB : B ≤ b) (hlt : b < w.heap.size) (hne : v.ownBlock ≠ some b)
    (hrow : w'.ownsRow B E 1 v' (us.length + 1) (us ++ [.slice (some ⟨b, 0, none⟩) n c])) (hg : w.grownBy w' v.ownBlock) (hv : v'.ownBlock = v.ownBlock ∨ v'.ownBlock = some w.heap.size) :
    Growing w' B E v' (us ++ [.slice (some ⟨b, 0, none⟩) n c]) f := by
  have kp : ∀ x, x < w.heap.size → v.ownBlock ≠ some x → w'.heap[x]? = w.heap[x]? := fun x hx hn => hg.block x hx fun e => hn e.symm
  have ne' : ∀ x, x < w.heap.size → v.ownBlock ≠ some x → v'.ownBlock ≠ some x := fun x hx hn e => by
    rcases hv with hv | hv
    · exact hn (hv ▸ e)
    · rw [hv] at e; cases e; omega
  refine ⟨by rw [List.length_append]; exact hrow, fun i hi => ?_⟩
  rw [List.length_append] at hi
  by_cases hil : i < us.length
  · obtain ⟨b', n', c', h1, h2, h3, h4, h5⟩ := h.elem i hil
    exact ⟨b', n', c', by rw [List.getElem?_append_left hil]; exact h1, h2.keepOn (fun x o e _ => by cases e; exact kp _ h4 h5), h3, Nat.lt_of_lt_of_le h4 hg.size, ne' _ h4 h5⟩
  · obtain rfl : i = us.length := by simp at hi; omega
    exact ⟨b, n, c, by simp, hx.keepOn (fun x o e _ => by cases e; exact kp _ hlt hne), hB, Nat.lt_of_lt_of_le hlt hg.size, ne' _ hlt hne⟩

structure Table (w : World) (lo hi : Nat) (v : Value) (N : Nat) (f : Nat → List Int) : Prop where
  fit : hi ≤ w.heap.size
  out : ∃ g c, v = .slice (some ⟨g, 0, none⟩) N c ∧ N ≤ c ∧ c ≤ 9223372036854775807 ∧ lo ≤ g ∧ g < hi ∧
    ∀ i, i < N → ∃ b n c', w.cell? ⟨g, i, none⟩ = some (.slice (some ⟨b, 0, none⟩) n c') ∧ Ints w .u8 (some ⟨b, 0, none⟩) n c' (f i) ∧ lo ≤ b ∧ b < hi

theorem Table.keep {w w' : World} {lo hi : Nat} {v : Value} {N : Nat} {f : Nat → List Int} (h : Table w lo hi v N f) (hs : w.heap.size ≤ w'.heap.size) (hk : ∀ b, lo ≤ b → b < hi → w'.heap[b]? = w.heap[b]?) : Table w' lo hi v N f := by
  obtain ⟨g, c, rfl, h1, h2, h3, h4, h5⟩ := h.out
  refine ⟨Nat.le_trans h.fit hs, g, c, rfl, h1, h2, h3, h4, fun i hi => ?_⟩
  obtain ⟨b, n, c', e1, e2, e3, e4⟩ := h5 i hi
  exact ⟨b, n, c', (World.cell?_of_block (hk g h3 h4)).trans e1, e2.keepOn (fun x o e _ => by cases e; exact hk _ e3 e4), e3, e4⟩
theorem Table.below {w w' : World} {lo hi : Nat} {v : Value} {N : Nat} {f : Nat → List Int} (h : Table w lo hi v N f) (hb : Below w.heap.size w w') : Table w' lo hi v N f :=
  h.keep hb.size fun b _ h2 => hb.block b (Nat.lt_of_lt_of_le h2 h.fit)
end Go.Proofs.YtgpedejeifmfdaaGreat
