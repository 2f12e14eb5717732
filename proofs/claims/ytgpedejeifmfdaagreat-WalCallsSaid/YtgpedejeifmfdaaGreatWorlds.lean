/- Worlds, blocks and rows: what a call may turn; numbers that a call owns. Of no program. -/
import Derived.Test.YtgpedejeifmfdaaGreatCells
namespace Go.Proofs.YtgpedejeifmfdaaGreat
open Go.RowKit

/-- rows of one length, one behind the other -/
theorem flatMap_len {α : Type} (f : α → List Value) (n : Nat) : ∀ (l : List α), (∀ x ∈ l, (f x).length = n) → (l.flatMap f).length = l.length * n
  | [], _ => by simp
  | x :: l, h => by
    rw [List.flatMap_cons, List.length_append, h x (.head _), flatMap_len f n l (fun y hy => h y (.tail _ hy)), List.length_cons, Nat.succ_mul, Nat.add_comm]
theorem flatMap_at {α : Type} (f : α → List Value) (n : Nat) : ∀ (l : List α), (∀ x ∈ l, (f x).length = n) → ∀ i (hi : i < l.length), ((l.flatMap f).drop (i * n)).take n = f l[i]
  | x :: l, h, 0, _ => by
    rw [List.flatMap_cons, Nat.zero_mul, List.drop_zero, List.take_append_of_le_length (by rw [h x (.head _)]; exact Nat.le_refl _), List.take_of_length_le (by rw [h x (.head _)]; exact Nat.le_refl _)]
    rfl
  | x :: l, h, i + 1, hi => by
    have hx := h x (.head _)
    rw [List.flatMap_cons, Nat.succ_mul, Nat.add_comm, List.drop_append, hx, show n + i * n - n = i * n by omega, List.drop_of_length_le (by omega), List.nil_append,
      flatMap_at f n l (fun y hy => h y (.tail _ hy)) i (by simpa using hi)]
    rfl
theorem flatMap_splice {α : Type} (f : α → List Value) (n : Nat) : ∀ (l : List α), (∀ x ∈ l, (f x).length = n) → ∀ i (_ : i < l.length) (y : α), (f y).length = n → splice (l.flatMap f) (i * n) (f y) = (l.set i y).flatMap f
  | x :: l, h, 0, _, y, hy => by
    have hx := h x (.head _)
    simp only [splice, List.flatMap_cons, Nat.zero_mul, List.take_zero, List.nil_append, Nat.zero_add, List.set_cons_zero, hy]
    rw [List.drop_append, hx, Nat.sub_self, List.drop_zero, List.drop_of_length_le (by omega), List.nil_append]
  | x :: l, h, i + 1, hi, y, hy => by
    have hx := h x (.head _)
    have ih := flatMap_splice f n l (fun y hy => h y (.tail _ hy)) i (by simpa using hi) y hy
    simp only [splice, List.flatMap_cons, List.set_cons_succ, hy] at ih ⊢
    rw [← ih, Nat.succ_mul, List.take_append, List.drop_append, hx, show i * n + n - n = i * n by omega, show i * n + n + n - n = i * n + n by omega,
      List.take_of_length_le (by omega), List.drop_of_length_le (by omega), List.nil_append, List.append_assoc]

structure Mod (F : Nat → Prop) (w w' : World) : Prop where
  os : w'.os = w.os
  tape : w'.tape = w.tape
  output : w'.output = w.output
  size : w.heap.size ≤ w'.heap.size
  block : ∀ k, k < w.heap.size → ¬ F k → w'.heap[k]? = w.heap[k]?
theorem Mod.refl (F : Nat → Prop) (w : World) : Mod F w w := ⟨rfl, rfl, rfl, Nat.le_refl _, fun _ _ _ => rfl⟩
theorem Mod.trans {F G H : Nat → Prop} {a b c : World} (h : Mod F a b) (k : Mod G b c) (hF : ∀ x, F x → H x) (hG : ∀ x, x < a.heap.size → G x → H x) : Mod H a c :=
  ⟨k.os.trans h.os, k.tape.trans h.tape, k.output.trans h.output, Nat.le_trans h.size k.size,
   fun i hi hn => (k.block i (Nat.lt_of_lt_of_le hi h.size) (fun hg => hn (hG i hi hg))).trans (h.block i hi (fun hf => hn (hF i hf)))⟩
theorem Mod.mono {F H : Nat → Prop} {a b : World} (h : Mod F a b) (hF : ∀ x, F x → H x) : Mod H a b :=
  ⟨h.os, h.tape, h.output, h.size, fun i hi hn => h.block i hi fun hf => hn (hF i hf)⟩
theorem Mod.of_grown {w w' : World} {row : Option Nat} {F : Nat → Prop} (h : w.grownBy w' row) (hF : ∀ k, row = some k → F k) : Mod F w w' :=
  ⟨h.os, h.tape, h.output, h.size, fun i hi hn => h.block i hi fun e => hn (hF i e.symm)⟩
theorem Mod.of_below {w w' : World} {F : Nat → Prop} (h : Below w.heap.size w w') : Mod F w w' :=
  ⟨h.os, h.tape, h.output, h.size, fun i hi _ => h.block i hi⟩
theorem Mod.below {F : Nat → Prop} {B : Nat} {w0 w w' : World} (h : Mod F w w') (hb : Below B w0 w) (hB : B ≤ w.heap.size) (hF : ∀ k, F k → B ≤ k) : Below B w0 w' :=
  hb.trans ⟨h.os, h.tape, h.output, h.size, fun i hi => h.block i (by omega) fun hf => by have := hF i hf; omega⟩
theorem Mod.ints {F : Nat → Prop} {w w' : World} (h : Mod F w w') {k : IntKind} {a : Option Addr} {n c : Nat} {zs : List Int} (hx : Ints w k a n c zs) (hn : ∀ b o, a = some ⟨b, o, none⟩ → ¬ F b) : Ints w' k a n c zs :=
  hx.keepOn fun b o e hlt => h.block b hlt (hn b o e)
theorem Mod.own {F : Nat → Prop} {w w' : World} (h : Mod F w w') {B : Nat} {E : TypeId} {k : IntKind} {v : Value} {zs : List Int} (hx : Own w B E k v zs) (hn : ∀ g, v.ownBlock = some g → ¬ F g) : Own w' B E k v zs :=
  hx.keep fun g e hlt => h.block g hlt (hn g e)

theorem cells_at {w : World} {b : Nat} {cs : Array Value} {t : TypeId} {fr : Nat × Nat} (h : w.heap[b]? = some (.cells cs t fr)) (i : Nat) : w.cell? ⟨b, i, none⟩ = cs[i]? := cell_of_row w b i cs t fr h

theorem Own.put {w : World} {B g : Nat} {E : TypeId} {k : IntKind} {n c : Nat} {zs : List Int} (h : Own w B E k (.slice (some ⟨g, 0, none⟩) n c) zs) (hn : zs.length = n) (j : Nat) {z : Int} (hz : (Lit.int k z).wf = true) :
    Own (w.setCell ⟨g, j, none⟩ (.int k z)) B E k (.slice (some ⟨g, 0, none⟩) n c) (zs.set j z) := by
  subst hn
  refine ⟨?_, fun y hy => ?_⟩
  · have := World.ownsRow.stored h.1 j (.int k z)
    rw [List.map_set, List.length_set]
    exact this.1
  · rcases List.mem_or_eq_of_mem_set hy with hy | rfl
    · exact h.2 y hy
    · exact hz

theorem Own.at {w : World} {B g : Nat} {E : TypeId} {k : IntKind} {n c : Nat} {zs : List Int} (h : Own w B E k (.slice (some ⟨g, 0, none⟩) n c) zs) (hn : zs.length = n) (j : Nat) (hj : j < n) :
    w.cell? ⟨g, j, none⟩ = some (.int k (zs.getD j 0)) ∧ w.frozen? ⟨g, j, none⟩ = false := by
  subst hn
  refine ⟨?_, h.1.frozenAt j⟩
  rw [h.1.cellAt j (by omega), List.getElem?_map, List.getD_eq_getElem?_getD, List.getElem?_eq_getElem hj]
  rfl
theorem Own.shape {w : World} {B : Nat} {E : TypeId} {k : IntKind} {v : Value} {n : Nat} {zs : List Int} (h : Own w B E k v zs) (hn : zs.length = n) (h0 : 0 < n) :
    ∃ g c, v = .slice (some ⟨g, 0, none⟩) n c ∧ n ≤ c ∧ c ≤ 9223372036854775807 ∧ B ≤ g ∧ g < w.heap.size ∧ Ints w k (some ⟨g, 0, none⟩) n c zs := by
  subst hn
  have hb := h.block
  obtain ⟨a, c', hv, hi, _⟩ := h.ints
  rcases h.1.2 with ⟨_, h1⟩ | ⟨g, cap, cur, rfl, _, _, h1, h2, _⟩
  · omega
  · simp only [Value.slice.injEq] at hv
    obtain ⟨rfl, _, rfl⟩ := hv
    exact ⟨g, cap, rfl, h1, hi.max, (hb g rfl).1, (hb g rfl).2, hi⟩


theorem Own.ofInts {w : World} {B : Nat} {E : TypeId} {k : IntKind} {v : Value} {zs : List Int} (h : Own w B E k v zs) {n : Nat} (hn : zs.length = n) (h0 : 0 < n) : ∃ g c, v = .slice (some ⟨g, 0, none⟩) n c ∧ Ints w k (some ⟨g, 0, none⟩) n c zs := by
  obtain ⟨g, c, rfl, _, _, _, _, i⟩ := h.shape hn h0
  exact ⟨g, c, rfl, i⟩

theorem Own.read {w : World} {B : Nat} {E : TypeId} {k : IntKind} {v : Value} {zs : List Int} (h : Own w B E k v zs) :
    ∃ a n c, v = .slice a n c ∧ Ints w k a n c zs ∧ (∀ b o, a = some ⟨b, o, none⟩ → B ≤ b ∧ b < w.heap.size) := by
  obtain ⟨a, c, h1, h2, h3⟩ := h.ints
  exact ⟨a, _, c, h1, h2, h3⟩

theorem Ints.keepPos {w w' : World} {k : IntKind} {a : Option Addr} {n c : Nat} {zs : List Int} (h : Ints w k a n c zs)
    (hk : ∀ b o, 0 < n → a = some ⟨b, o, none⟩ → b < w.heap.size → w'.heap[b]? = w.heap[b]?) : Ints w' k a n c zs := by
  refine ⟨h.len, h.le, h.max, h.fit, fun hn => ?_⟩
  obtain ⟨b, o, rfl, hc⟩ := h.cell hn
  have hb := World.block_lt_of_cell? w _ (hc 0 hn)
  exact ⟨b, o, rfl, fun j hj => (World.cell?_of_block (hk b o hn rfl hb)).trans (hc j hj)⟩
theorem Ints.block {w : World} {k : IntKind} {a : Option Addr} {n c : Nat} {zs : List Int} (h : Ints w k a n c zs) : ∀ b o, 0 < n → a = some ⟨b, o, none⟩ → b < w.heap.size := by
  rintro b o hn rfl
  obtain ⟨b', o', e, hc⟩ := h.cell hn
  cases e
  exact World.block_lt_of_cell? w _ (hc 0 hn)

def grownF (F : Nat → Prop) (w w' : World) (k : Nat) : Prop := F k ∨ w.heap.size ≤ k ∧ k < w'.heap.size
theorem below_drawn (w : World) (n : Nat) : Below w.heap.size w (w.drewN n) := ⟨rfl, rfl, rfl, Nat.le_refl _, fun _ _ => rfl⟩
theorem below_drew (w : World) : Below w.heap.size w w.drew := ⟨rfl, rfl, rfl, Nat.le_refl _, fun _ _ => rfl⟩
end Go.Proofs.YtgpedejeifmfdaaGreat
