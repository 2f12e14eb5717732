/- Rows of records of m cells each: reading, owning, append, clone. Of no program. -/
import Derived.Test.YtgpedejeifmfdaaGreatBase
import Derived.Test.YtgpedejeifmfdaaGreatCells
import Derived.Test.YtgpedejeifmfdaaGreatOpen
import Derived.Test.YtgpedejeifmfdaaGreatWorlds
import Derived.Test.YtgpedejeifmfdaaGreatTable
namespace Go.Proofs.YtgpedejeifmfdaaGreat
open Go.RowKit Go.ChangeShapes Go.WideShapes

structure Fmt (α : Type) where
  cells : α → List Value
  m : Nat
  len : ∀ x, (cells x).length = m
  pos : 0 < m
  one : ∀ x, ∀ u ∈ cells x, u.oneCell' = true

section
variable {α : Type} (F : Fmt α)
def Fmt.row (xs : List α) : List Value := xs.flatMap F.cells
theorem Fmt.row_len (xs : List α) : (F.row xs).length = xs.length * F.m := flatMap_len F.cells F.m xs fun x _ => F.len x
theorem Fmt.row_one (xs : List α) : ∀ u ∈ F.row xs, u.oneCell' = true := by
  intro u hu
  obtain ⟨x, _, hu⟩ := List.mem_flatMap.1 hu
  exact F.one x u hu
theorem Fmt.row_at (xs : List α) {i : Nat} (hi : i < xs.length) (j : Nat) (hj : j < F.m) : (F.row xs)[i * F.m + j]? = (F.cells xs[i])[j]? := by
  have := flatMap_at F.cells F.m xs (fun x _ => F.len x) i hi
  rw [← this, List.getElem?_take, if_pos hj, List.getElem?_drop]
  rfl
theorem Fmt.row_append (a b : List α) : F.row (a ++ b) = F.row a ++ F.row b := List.flatMap_append
theorem Fmt.row_drop (xs : List α) (i : Nat) : (F.row xs).drop (i * F.m) = F.row (xs.drop i) := by
  rcases Nat.le_total i xs.length with h | h
  · conv => lhs; rw [← List.take_append_drop i xs, F.row_append]
    rw [List.drop_append, List.drop_of_length_le (by rw [F.row_len, List.length_take, Nat.min_eq_left h]; exact Nat.le_refl _), List.nil_append, F.row_len, List.length_take, Nat.min_eq_left h, Nat.sub_self, List.drop_zero]
  · rw [List.drop_of_length_le h, List.drop_of_length_le (by rw [F.row_len]; exact Nat.mul_le_mul_right _ h)]; rfl

/-- A slice that reads so. -/
structure Recs (w : World) (a : Option Addr) (n c : Nat) (xs : List α) : Prop where
  len : xs.length = n
  le : n ≤ c
  max : c ≤ 9223372036854775807
  cell : 0 < n → ∃ b o, a = some ⟨b, o, none⟩ ∧ ∀ j u, (F.row xs)[j]? = some u → w.cell? ⟨b, o + j, none⟩ = some u
variable {F}
theorem Recs.len0 {w : World} {a : Option Addr} {n c : Nat} {xs : List α} (h : Recs F w a n c xs) (hn : 0 < n) : 0 < (F.row xs).length := by
  rw [F.row_len, h.len]; exact Nat.mul_pos hn F.pos
theorem Recs.keepPos {w w' : World} {a : Option Addr} {n c : Nat} {xs : List α} (h : Recs F w a n c xs) (hk : ∀ b o, 0 < n → a = some ⟨b, o, none⟩ → b < w.heap.size → w'.heap[b]? = w.heap[b]?) : Recs F w' a n c xs := by
  refine ⟨h.len, h.le, h.max, fun hn => ?_⟩
  obtain ⟨b, o, rfl, hc⟩ := h.cell hn
  have hb := World.block_lt_of_cell? w _ (hc 0 _ (List.getElem?_eq_getElem (h.len0 hn)))
  exact ⟨b, o, rfl, fun j u hu => (World.cell?_of_block (hk b o hn rfl hb)).trans (hc j u hu)⟩
theorem Recs.keep {w w' : World} {a : Option Addr} {n c : Nat} {xs : List α} (h : Recs F w a n c xs) (hb : Below w.heap.size w w') : Recs F w' a n c xs :=
  h.keepPos fun b _ _ _ hl => hb.block b hl
theorem Recs.block {w : World} {a : Option Addr} {n c : Nat} {xs : List α} (h : Recs F w a n c xs) : ∀ b o, 0 < n → a = some ⟨b, o, none⟩ → b < w.heap.size := by
  rintro b o hn rfl
  obtain ⟨b', o', e, hc⟩ := h.cell hn
  cases e
  exact World.block_lt_of_cell? w _ (hc 0 _ (List.getElem?_eq_getElem (h.len0 hn)))
theorem Recs.at {w : World} {b o n c : Nat} {xs : List α} (h : Recs F w (some ⟨b, o, none⟩) n c xs) {j : Nat} (hj : j < xs.length) : ∀ k u, (F.cells xs[j])[k]? = some u → w.cell? ⟨b, o + j * F.m + k, none⟩ = some u := fun k u hu => by
  have hk : k < F.m := by have := (List.getElem?_eq_some_iff.1 hu).1; rwa [F.len] at this
  have hl := h.len
  obtain ⟨b', o', e, hc⟩ := h.cell (by omega)
  cases e
  rw [Nat.add_assoc]
  exact hc _ _ ((F.row_at xs hj k hk).trans hu)
theorem Recs.addr {w : World} {a : Option Addr} {n c : Nat} {xs : List α} (h : Recs F w a n c xs) (hn : 0 < n) : ∃ b o, a = some ⟨b, o, none⟩ := by
  obtain ⟨b, o, e, _⟩ := h.cell hn
  exact ⟨b, o, e⟩
theorem Recs.from {w : World} {b o n c : Nat} {xs : List α} (h : Recs F w (some ⟨b, o, none⟩) n c xs) {i : Nat} (hi : i ≤ n) : Recs F w (some ⟨b, o + i * F.m, none⟩) (n - i) (c - i) (xs.drop i) := by
  have hl := h.len
  have h1 := h.le
  have h2 := h.max
  refine ⟨by rw [List.length_drop, hl], by omega, by omega, fun hn => ⟨b, _, rfl, fun j u hu => ?_⟩⟩
  obtain ⟨b', o', e, hc⟩ := h.cell (by omega)
  cases e
  rw [← F.row_drop, List.getElem?_drop] at hu
  rw [Nat.add_assoc]
  exact hc _ _ hu
theorem recs_of_rows {w : World} {a : Option Addr} {n c : Nat} {xs : List α} (hr : Rows w F.m a n c (xs.map F.cells)) : Recs F w a n c xs := by
  refine ⟨by simpa using hr.len, hr.le, hr.max, fun hn => ?_⟩
  obtain ⟨b, o, rfl, hc⟩ := hr.cell hn
  refine ⟨b, o, rfl, fun j u hu => ?_⟩
  have hj : j < xs.length * F.m := by have := (List.getElem?_eq_some_iff.1 hu).1; rwa [F.row_len] at this
  have hp := F.pos
  have hd : j / F.m < xs.length := Nat.div_lt_of_lt_mul (by rwa [Nat.mul_comm])
  have hm : j % F.m < F.m := Nat.mod_lt _ hp
  have h1 := hc (j / F.m) (by simpa using hd) (j % F.m) hm
  have h2 := F.row_at xs hd (j % F.m) hm
  rw [show j / F.m * F.m + j % F.m = j by rw [Nat.mul_comm]; exact Nat.div_add_mod j F.m] at h1 h2
  rw [h1]
  rw [h2] at hu
  simpa using hu

variable (F)
/-- A slice that the call owns. -/
def ROwn (E : TypeId) (w : World) (B : Nat) (v : Value) (xs : List α) : Prop := w.ownsRow B E F.m v xs.length (F.row xs)
variable {F} {E : TypeId}
theorem ROwn.recs {w : World} {B : Nat} {v : Value} {xs : List α} (h : ROwn F E w B v xs) : ∃ a c, v = .slice a xs.length c ∧ Recs F w a xs.length c xs ∧ ∀ b o, a = some ⟨b, o, none⟩ → B ≤ b ∧ b < w.heap.size := by
  have hlt := World.ownsRow.lt h
  rcases h.2 with ⟨rfl, h0⟩ | ⟨g, cap, cur, rfl, hb, hg, hn, hm, hs, ht⟩
  · obtain rfl : xs = [] := List.eq_nil_of_length_eq_zero h0
    exact ⟨none, 0, rfl, ⟨rfl, Nat.le_refl _, by omega, fun h => by simp at h⟩, fun _ _ e => by cases e⟩
  · refine ⟨_, _, rfl, ⟨rfl, hn, by simpa [maxLen] using hm, fun _ => ⟨g, 0, rfl, fun j u hu => ?_⟩⟩, fun b o e => by cases e; exact hlt g rfl⟩
    have hj : j < xs.length * F.m := by have := (List.getElem?_eq_some_iff.1 hu).1; rwa [F.row_len] at this
    rw [Nat.zero_add, World.ownsRow.cellAt h j hj, hu]
theorem ROwn.shape {w : World} {B : Nat} {v : Value} {xs : List α} (h : ROwn F E w B v xs) : ∃ a c, v = .slice a xs.length c := by
  obtain ⟨a, c, e, _⟩ := h.recs
  exact ⟨a, c, e⟩
theorem ROwn.keep {w w' : World} {B : Nat} {v : Value} {xs : List α} (h : ROwn F E w B v xs) (hk : ∀ g, v.ownBlock = some g → g < w.heap.size → w'.heap[g]? = w.heap[g]?) : ROwn F E w' B v xs := ownsRow_keep h hk
theorem ROwn.grown {w w' : World} {B : Nat} {v : Value} {xs : List α} {G : Nat → Prop} (h : ROwn F E w B v xs) (hm : Mod G w w') (hd : ∀ g, v.ownBlock = some g → ¬ G g) : ROwn F E w' B v xs :=
  h.keep fun g hg hl => hm.block g hl (hd g hg)
theorem ROwn.below {w w' : World} {B : Nat} {v : Value} {xs : List α} (h : ROwn F E w B v xs) (hb : Below w.heap.size w w') : ROwn F E w' B v xs := h.keep fun g _ hl => hb.block g hl
theorem ROwn.mono {w : World} {B B' : Nat} {v : Value} {xs : List α} (h : ROwn F E w B v xs) (hB : B' ≤ B) : ROwn F E w B' v xs :=
  ⟨h.1, h.2.imp id fun ⟨g, cap, cur, e, hb, rest⟩ => ⟨g, cap, cur, e, Nat.le_trans hB hb, rest⟩⟩
theorem ROwn.nil (w : World) (B : Nat) : ROwn F E w B (.slice none 0 0) ([] : List α) := ⟨by rw [F.row_len], .inl ⟨rfl, rfl⟩⟩
theorem ROwn.lt {w : World} {B : Nat} {v : Value} {xs : List α} (h : ROwn F E w B v xs) : ∀ g, v.ownBlock = some g → B ≤ g ∧ g < w.heap.size := World.ownsRow.lt h
theorem ROwn.made (w : World) : ROwn F E (w.alloc (.cells #[] E)) w.heap.size (.slice (some ⟨w.heap.size, 0, none⟩) 0 0) ([] : List α) :=
  World.ownsRow_made w #[] 0 (Nat.le_refl _) (by unfold maxLen; omega) (by rw [Nat.zero_mul]; rfl)

/-- The element's type, and its slice's. -/
structure Elem (P : Program) (F : Fmt α) (t E : TypeId) : Prop where
  sl : P.underlying t = some (.slice E)
  info : ∃ ti z, P.info? E = some ti ∧ ti.zero = some z ∧ ti.size = F.m ∧ z.cells.size = F.m ∧ ti.bytes ≤ 1000

variable {P : Program} {t : TypeId}
theorem wpList_append_recs (H : Elem P F t E) (w : World) {ops : Array Oper} {rest : List Oper} {o : Oper} {a : Act} {Q : Exit → Act → World → Prop} (hgd : Region.wanted o (yielded ops a.tmps) = true) (s x : Operand)
    (ho : o.op = .call { callee := .builtin .append, args := #[s, x], argTypes := #[t, t] })
    (B : Nat) (v : Value) (xs : List α) (hs : a.eval s = v) (hown : ROwn F E w B v xs)
    (xa : Option Addr) (k c : Nat) (ns : List α) (hx : a.eval x = .slice xa k c) (hm : Recs F w xa k c ns)
    (hmax : xs.length + k ≤ 1000000) (hbase : B ≤ w.heap.size)
    (h : ∀ v' w', ROwn F E w' B v' (xs ++ ns) → w.grownBy w' v.ownBlock → (v'.ownBlock = v.ownBlock ∨ v'.ownBlock = some w.heap.size) → wpList P ops Q rest (a.put o.dst v') w') : wpList P ops Q (o :: rest) a w := by
  obtain ⟨ti, z, hti, hz, hsz, hzc, hby⟩ := H.info
  rcases Nat.eq_zero_or_pos k with rfl | hk
  · have hn : ns = [] := List.eq_nil_of_length_eq_zero hm.len
    subst hn
    have hr : (Builtin.append_ #[t, t] o.type #[v, .slice xa 0 c]).run P w = .ok v w := by
      rcases hown.2 with ⟨rfl, h0⟩ | ⟨g, cap, cur, rfl, _, _, hnc, _⟩
      · cases xa <;> simp [Builtin.append_, run_underlying H.sl, sizeOf, typeInfo, hti, Builtin.lenOf, Builtin.firstCells, loadCells, loadCellsFrom]
      · cases xa <;> simp [Builtin.append_, run_underlying H.sl, sizeOf, typeInfo, hti, Builtin.lenOf, Builtin.firstCells, hnc, storeCells, loadCells, loadCellsFrom]
    refine BigFrame.wpList_want hgd fun K hK => ?_
    unfold Oper.wp execOp
    simp only [ho, resolve, invoke, builtin, Sem.run_bind, Sem.run_pure, Result.andThen_ok, List.map_toArray, List.map_cons, List.map_nil, hs, hx, hr]
    exact hK _ _ (h v w (by rw [List.append_nil]; exact hown) ⟨rfl, rfl, rfl, Nat.le_refl _, fun _ _ _ => rfl⟩ (.inl rfl))
  · obtain ⟨g, off, rfl, hc⟩ := hm.cell hk
    refine wpList_append_row w hgd s x t ho B E ti z F.m ti.bytes H.sl hti hz hsz rfl hzc F.pos v xs.length (F.row xs) hs hown g off k c (F.row ns) hx (by rw [F.row_len, hm.len]) hk hc
      (fun u hu => F.row_one ns u hu) (by unfold maxLen; omega) (Nat.le_trans (Nat.mul_le_mul hmax hby) (by decide)) hbase fun v' w' h1 h2 h3 => h v' w' ?_ h2 h3
    unfold ROwn
    rw [F.row_append, List.length_append, hm.len]
    exact h1
/-- append of one record that lies in a block of its own. -/
theorem wpList_append_rec1 (H : Elem P F t E) (w : World) {ops : Array Oper} {rest : List Oper} {o : Oper} {a : Act} {Q : Exit → Act → World → Prop} (hgd : Region.wanted o (yielded ops a.tmps) = true) (s x : Operand)
    (ho : o.op = .call { callee := .builtin .append, args := #[s, x], argTypes := #[t, t] })
    (B : Nat) (v : Value) (xs : List α) (hs : a.eval s = v) (hown : ROwn F E w B v xs)
    (g c : Nat) (hc1 : 1 ≤ c) (hc2 : c ≤ 1000) (y : α) (hx : a.eval x = .slice (some ⟨g, 0, none⟩) 1 c) {cs : Array Value} {ct : TypeId} (hg : w.heap[g]? = some (.cells cs ct (0, 0))) (hcs : ∀ (j : Nat) (u : Value), (F.cells y)[j]? = some u → cs[j]? = some u)
    (hmax : xs.length + 1 ≤ 1000000) (hbase : B ≤ w.heap.size)
    (h : ∀ v' w', ROwn F E w' B v' (xs ++ [y]) → w.grownBy w' v.ownBlock → (v'.ownBlock = v.ownBlock ∨ v'.ownBlock = some w.heap.size) → wpList P ops Q rest (a.put o.dst v') w') : wpList P ops Q (o :: rest) a w :=
  wpList_append_recs H w hgd s x ho B v xs hs hown _ 1 c [y] hx ⟨rfl, hc1, by omega, fun _ => ⟨g, 0, rfl, fun j u hu => by rw [Nat.zero_add]; exact (cells_at hg j).trans (hcs j u (by simpa [Fmt.row] using hu))⟩⟩ hmax hbase h
end
end Go.Proofs.YtgpedejeifmfdaaGreat
