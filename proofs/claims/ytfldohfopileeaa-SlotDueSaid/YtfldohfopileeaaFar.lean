/- Rows of records that begin anywhere in their block: reading, append, append of noughts, copy. Of no program. -/
import Derived.Test.YtfldohfopileeaaList
import Derived.Test.YtfldohfopileeaaDel
import Derived.Deep.AppendSrc
import Derived.Deep.RegionLaw
import Derived.Lib.AppendZerosOnto
namespace Go.Proofs.Ytfldohfopileeaa
open Go.RowKit

theorem splice_len {α : Type} (L : List α) (o : Nat) (cs : List α) (h : o + cs.length ≤ L.length) : (splice L o cs).length = L.length := by
  unfold splice; rw [List.length_append, List.length_append, List.length_take, List.length_drop]; omega
theorem splice_behind {α : Type} (A X : List α) (k : Nat) (cs : List α) : splice (A ++ X) (A.length + k) cs = A ++ splice X k cs := by
  unfold splice
  rw [List.take_length_add_append, List.append_assoc, Nat.add_assoc, List.drop_length_add_append]
theorem splice_mid {α : Type} (A B C cs : List α) (h : cs.length = B.length) : splice (A ++ (B ++ C)) A.length cs = A ++ (cs ++ C) := by
  unfold splice
  rw [List.take_left, h, List.drop_append, List.drop_of_length_le (Nat.le_add_right _ _), List.nil_append, show A.length + B.length - A.length = B.length by omega, List.drop_left]
/-- Room for one is made within a row, then it is written. -/
theorem splice_shift {α : Type} (A P Q R y : List α) (h : y.length ≤ R.length) :
    splice (splice (A ++ (P ++ (Q ++ R))) (A.length + (P.length + y.length)) Q) (A.length + P.length) y = A ++ (P ++ (y ++ (Q ++ R.drop y.length))) := by
  rw [splice_behind, splice_behind]
  congr 1
  have e1 : splice (P ++ (Q ++ R)) (P.length + y.length) Q = P ++ ((Q ++ R).take y.length ++ (Q ++ R.drop y.length)) := by
    rw [splice_behind]
    congr 1
    unfold splice
    congr 2
    rw [Nat.add_comm, List.drop_length_add_append]
  rw [e1]
  refine splice_mid P _ _ y ?_
  rw [List.length_take, List.length_append]; omega

section
variable {α : Type} (F : Fmt α) (E : TypeId)
structure FAt (w : World) (g off c : Nat) (xs : List α) (A R : List Value) : Prop where
  heap : w.heap[g]? = some (.cells (A ++ (F.row xs ++ R)).toArray E (0, 0))
  off : A.length = off
  le : xs.length ≤ c
  max : c ≤ 9223372036854775807
  spare : (c - xs.length) * F.m ≤ R.length
def FRow (w : World) (B : Nat) (v : Value) (xs : List α) : Prop :=
  (v = .slice none 0 0 ∧ xs = []) ∨ ∃ g off c A R, v = .slice (some ⟨g, off, none⟩) xs.length c ∧ B ≤ g ∧ FAt F E w g off c xs A R
variable {F E}
theorem FAt.lt {w : World} {g off c : Nat} {xs : List α} {A R : List Value} (h : FAt F E w g off c xs A R) : g < w.heap.size := (Array.getElem?_eq_some_iff.1 h.heap).1
theorem FAt.keep {w w' : World} {g off c : Nat} {xs : List α} {A R : List Value} (h : FAt F E w g off c xs A R) (hk : w'.heap[g]? = w.heap[g]?) : FAt F E w' g off c xs A R := ⟨hk.trans h.heap, h.off, h.le, h.max, h.spare⟩
theorem FAt.recs {w : World} {g off c : Nat} {xs : List α} {A R : List Value} (h : FAt F E w g off c xs A R) : Recs F w (some ⟨g, off, none⟩) xs.length c xs :=
  ⟨rfl, h.le, h.max, fun _ => ⟨g, off, rfl, fun j u hu => by
    rw [cells_at h.heap, List.getElem?_toArray, ← h.off, List.getElem?_append_right (Nat.le_add_right _ _), show A.length + j - A.length = j by omega, List.getElem?_append_left (List.getElem?_eq_some_iff.1 hu).1]
    exact hu⟩⟩
theorem FRow.lt {w : World} {B : Nat} {v : Value} {xs : List α} (h : FRow F E w B v xs) : ∀ g, v.ownBlock = some g → B ≤ g ∧ g < w.heap.size := by
  intro k hk
  rcases h with ⟨rfl, _⟩ | ⟨g, off, c, A, R, rfl, hb, hf⟩
  · cases hk
  · cases hk; exact ⟨hb, hf.lt⟩
theorem FRow.recs {w : World} {B : Nat} {v : Value} {xs : List α} (h : FRow F E w B v xs) : ∃ a c, v = .slice a xs.length c ∧ Recs F w a xs.length c xs ∧ ∀ b o, a = some ⟨b, o, none⟩ → B ≤ b ∧ b < w.heap.size := by
  have hlt := h.lt
  rcases h with ⟨rfl, rfl⟩ | ⟨g, off, c, A, R, rfl, hb, hf⟩
  · exact ⟨none, 0, rfl, ⟨rfl, Nat.le_refl _, by omega, fun h => by simp at h⟩, fun _ _ e => by cases e⟩
  · exact ⟨_, _, rfl, hf.recs, fun b o e => by cases e; exact hlt g rfl⟩
theorem FRow.keep {w w' : World} {B : Nat} {v : Value} {xs : List α} (h : FRow F E w B v xs) (hk : ∀ g, v.ownBlock = some g → g < w.heap.size → w'.heap[g]? = w.heap[g]?) : FRow F E w' B v xs := by
  have hlt := h.lt
  rcases h with h | ⟨g, off, c, A, R, rfl, hb, hf⟩
  · exact .inl h
  · exact .inr ⟨g, off, c, A, R, rfl, hb, hf.keep (hk g rfl (hlt g rfl).2)⟩
theorem FRow.below {w w' : World} {B : Nat} {v : Value} {xs : List α} (h : FRow F E w B v xs) (hb : Below w.heap.size w w') : FRow F E w' B v xs := h.keep fun g _ hl => hb.block g hl
theorem FRow.grown {w w' : World} {B : Nat} {v : Value} {xs : List α} {G : Nat → Prop} (h : FRow F E w B v xs) (hm : Mod G w w') (hd : ∀ g, v.ownBlock = some g → ¬ G g) : FRow F E w' B v xs :=
  h.keep fun g hg hl => hm.block g hl (hd g hg)
theorem FRow.mono {w : World} {B B' : Nat} {v : Value} {xs : List α} (h : FRow F E w B v xs) (hB : B' ≤ B) : FRow F E w B' v xs :=
  h.imp id fun ⟨g, off, c, A, R, e, hb, hf⟩ => ⟨g, off, c, A, R, e, Nat.le_trans hB hb, hf⟩
theorem FRow.nil (w : World) (B : Nat) : FRow F E w B (.slice none 0 0) ([] : List α) := .inl ⟨rfl, rfl⟩
/-- Behind its first element. -/
theorem FAt.tail {w : World} {g off c : Nat} {y : α} {ys : List α} {A R : List Value} (h : FAt F E w g off c (y :: ys) A R) : FAt F E w g (off + F.m) (c - 1) ys (A ++ F.cells y) R := by
  have hle := h.le
  have hsp := h.spare
  rw [List.length_cons] at hle hsp
  refine ⟨?_, by rw [List.length_append, h.off, F.len], by omega, by have := h.max; omega, by rw [show c - 1 - ys.length = c - (ys.length + 1) by omega]; exact hsp⟩
  rw [h.heap]
  congr 3
  show A ++ (F.cells y ++ F.row ys ++ R) = _
  simp only [List.append_assoc]
theorem FAt.void {w : World} {g off c : Nat} {xs : List α} {A R : List Value} (h : FAt F E w g off c xs A R) : FAt F E w g off 0 ([] : List α) A (F.row xs ++ R) :=
  ⟨h.heap, h.off, Nat.le_refl _, by omega, by simp⟩

variable {P : Program} {t : TypeId} {ti : TypeInfo}
theorem FAt.src {w : World} (ht : P.underlying t = some (.slice E)) {g off c : Nat} {xs : List α} {A R : List Value} (h : FAt F E w g off c xs A R) : Src P F.m t (.slice (some ⟨g, off, none⟩) xs.length c) xs.length (F.row xs) w :=
  Src.ofSlice w ht _ _ _ _ (F.row_len xs) (fun j u hu => by rw [Addr.add_lit, cells_at h.heap, List.getElem?_toArray, ← h.off, List.getElem?_append_right (Nat.le_add_right _ _), show A.length + j - A.length = j by omega, List.getElem?_append_left (List.getElem?_eq_some_iff.1 hu).1]; exact hu) (F.row_one xs)
/-- One more record, where there is room. -/
theorem run_append_far {w : World} (ht : P.underlying t = some (.slice E)) (hi : P.info? E = some ti) (hsz : ti.size = F.m) {g off c : Nat} {xs : List α} {A R : List Value} (h : FAt F E w g off c xs A R) {x : Value} {y : α} (hs : Src P F.m t x 1 (F.cells y) w) (hroom : xs.length + 1 ≤ c) :
    ∃ w', (∀ ty, (Builtin.append_ #[t, t] ty #[.slice (some ⟨g, off, none⟩) xs.length c, x]).run P w = .ok (.slice (some ⟨g, off, none⟩) (xs.length + 1) c) w') ∧ FAt F E w' g off c (xs ++ [y]) A (R.drop F.m) ∧ w.grownBy w' (some g) ∧ w'.heap.size = w.heap.size := by
  have hl := F.row_len xs
  have hy := F.len y
  have hsp := h.spare
  have hm1 : F.m ≤ R.length := Nat.le_trans (by rw [show c - xs.length = (c - xs.length - 1) + 1 by omega, Nat.succ_mul]; exact Nat.le_add_left _ _) hsp
  have hsize : (A ++ (F.row xs ++ R)).toArray.size = off + (xs.length * F.m + R.length) := by rw [List.size_toArray, List.length_append, List.length_append, hl, h.off]
  have hst := run_storeCells_at P g (off + xs.length * F.m) E (F.cells y) 0 _ w h.heap (by rw [hsize, hy]; omega) (F.one y)
  have hsp2 : A ++ (F.row (xs ++ [y]) ++ R.drop F.m) = splice (A ++ (F.row xs ++ R)) (off + xs.length * F.m) (F.cells y) := by
    rw [← h.off, splice_behind, ← hl]
    congr 1
    unfold splice
    rw [List.take_left, List.drop_length_add_append, F.row_append, hy, List.append_assoc]
    congr 1
    show F.row [y] ++ _ = _
    simp [Fmt.row]
  refine ⟨w.setRow g (splice (A ++ (F.row xs ++ R)) (off + xs.length * F.m) (F.cells y)).toArray, fun ty => ?_, ?_, grownBy_setRow _ _ _, by simp⟩
  · simp [Builtin.append_, run_underlying ht, sizeOf, typeInfo, hi, hs.len, hroom, hsz, hs.cells, Addr.add_lit, hst, splice]
  · refine ⟨?_, h.off, by rw [List.length_append]; exact hroom, h.max, ?_⟩
    · rw [hsp2]; exact setRow_heap w g _ _ E (0, 0) h.heap
    · rw [List.length_append, List.length_drop, List.length_singleton]
      have : (c - xs.length) * F.m = (c - (xs.length + 1)) * F.m + F.m := by rw [← Nat.succ_mul]; congr 1; omega
      omega
/-- Copy of records within a block, or out of another one. -/
theorem run_copy_far {w : World} (ht : P.underlying t = some (.slice E)) (hi : P.info? E = some ti) (hsz : ti.size = F.m) {g o dLen dCap sLen sCap k : Nat} {a : Addr} {cur : List Value} (hg : w.heap[g]? = some (.cells cur.toArray E (0, 0))) {cs : List Value} (hk : Nat.min sLen dLen = k) (hn : cs.length = k * F.m)
    (hsrc : ∀ j v, cs[j]? = some v → w.cell? (a.add j) = some v) (hfit : o + cs.length ≤ cur.length) (h1 : ∀ v ∈ cs, v.oneCell' = true) :
    ∃ w', (∀ ty, (Builtin.copy_ #[t, t] ty #[.slice (some ⟨g, o, none⟩) dLen dCap, .slice (some a) sLen sCap]).run P w = .ok (goInt k) w') ∧ w'.heap[g]? = some (.cells (splice cur o cs).toArray E (0, 0)) ∧ w.grownBy w' (some g) ∧ w'.heap.size = w.heap.size := by
  have hl := run_loadCells_list (P := P) w a cs hsrc
  have hst := run_storeCells_at P g o E cs 0 _ w hg (by simpa using hfit) h1
  refine ⟨w.setRow g (splice cur o cs).toArray, fun ty => ?_, setRow_heap w g _ _ E (0, 0) hg, grownBy_setRow _ _ _, by simp⟩
  have hk' : min sLen dLen = k := hk
  have hl' : (loadCells a (k * ti.size)).run P w = .ok cs.toArray w := by rw [hsz, ← hn]; exact hl
  simp [Builtin.copy_, run_underlying ht, Builtin.lenOf, Builtin.firstCells, sizeOf, typeInfo, hi, hk', hl', hst, splice]
/-- One more record, where there is none: a new row. -/
theorem run_append_grow1 {w : World} {z : Value} (ht : P.underlying t = some (.slice E)) (hi : P.info? E = some ti) (hsz : ti.size = F.m) (hz : ti.zero = some z) (hzc : z.cells.size = F.m) (hby : ti.bytes ≤ 1000) {a : Option Addr} {c : Nat} {xs : List α} (h : Recs F w a xs.length c xs) {x : Value} {y : α} (hs : Src P F.m t x 1 (F.cells y) w) (hroom : c < xs.length + 1) (hn : xs.length ≤ 1000000) :
    ∃ w' c' R', (∀ ty, (Builtin.append_ #[t, t] ty #[.slice a xs.length c, x]).run P w = .ok (.slice (some ⟨w.heap.size, 0, none⟩) (xs.length + 1) c') w') ∧ FAt F E w' w.heap.size 0 c' (xs ++ [y]) [] R' ∧ w.grownBy w' none := by
  have hold : (Builtin.firstCells ti.size xs.length (.slice a xs.length c)).run P w.drew = .ok (F.row xs).toArray w.drew := by
    rw [hsz]
    rcases Nat.eq_zero_or_pos xs.length with h0 | h0
    · have e : xs = [] := List.eq_nil_of_length_eq_zero h0
      subst e
      cases a with
      | none => exact run_firstCells_none w.drew F.m 0 0 c
      | some a => exact run_firstCells_some w.drew F.m 0 a 0 c [] (by simp) (fun j v hj => by cases hj)
    · obtain ⟨b, o, rfl, hc⟩ := h.cell h0
      exact run_firstCells_some w.drew F.m _ _ _ c (F.row xs) (F.row_len xs) (fun j v hj => by rw [Addr.add_lit]; exact hc j v hj)
  have hb2 : (xs.length + 1) * ti.bytes ≤ 140737488355328 := Nat.le_trans (Nat.mul_le_mul (Nat.succ_le_succ hn) hby) (by decide)
  have hs' : Src P ti.size t x 1 (F.cells y) w := by rw [hsz]; exact hs
  obtain ⟨G, hG⟩ : ∃ G, G = grownCap w (xs.length + 1) c E := ⟨_, rfl⟩
  have hge : xs.length + 1 ≤ G := by rw [hG]; exact grownCap_ge _ _ _ _
  have hmax : G ≤ 9223372036854775807 := by rw [hG]; exact grownCap_le_maxLen _ _ _ _ (by unfold maxLen; omega)
  refine ⟨w.drew.alloc (.cells ((F.row xs ++ F.cells y).toArray ++ Builtin.zeroCells z.cells (G - (xs.length + 1))) E), G, (Builtin.zeroCells z.cells (G - (xs.length + 1))).toList, fun ty => ?_, ⟨?_, rfl, by rw [List.length_append]; exact hge, hmax, ?_⟩, ?_⟩
  · rw [hG]; exact run_append_grow_src w t t ty E ti z ht hi hz a xs.length c _ hold x 1 _ hs' hroom (by omega) (growslice_fits hroom hb2)
  · have := heap_alloc_new w.drew (.cells ((F.row xs ++ F.cells y).toArray ++ Builtin.zeroCells z.cells (G - (xs.length + 1))) E)
    refine this.trans ?_
    congr 2
    apply Array.ext'
    simp [Fmt.row]
  · rw [List.length_append, List.length_singleton]
    simp [Builtin.zeroCells, hzc]
  · exact ⟨rfl, rfl, rfl, by simp, fun k hk _ => by simp only [World.alloc, World.drew, Array.getElem?_push]; rw [if_neg (by omega)]⟩
/-- Noughts behind the first records, where there is no room: a new row. -/
theorem run_append_noughts {w : World} {tn : TypeId} {z : Value} (ht : P.underlying t = some (.slice E)) (htn : P.underlying tn = some (.int .i64)) (hi : P.info? E = some ti) (hsz : ti.size = F.m) (hz : ti.zero = some z) (hzc : z.cells.size = F.m) (hby : ti.bytes ≤ 1000) {a : Option Addr} {i c : Nat} {xs : List α} (h : Recs F w a i c xs) {k : Nat} (hk : 0 < k) (hroom : c < i + k) (hn : i + k ≤ 1000000) :
    ∃ w' c' Z, (∀ ty, (Builtin.append_ #[t, tn] ty #[.slice a i c, .int .i64 (k : Int)]).run P w = .ok (.slice (some ⟨w.heap.size, 0, none⟩) (i + k) c') w') ∧ w'.heap[w.heap.size]? = some (.cells (F.row xs ++ Z).toArray E (0, 0)) ∧ Z.length = (c' - i) * F.m ∧ i + k ≤ c' ∧ c' ≤ 9223372036854775807 ∧ w.grownBy w' none := by
  have hl := h.len
  have hold : (Builtin.firstCells ti.size i (.slice a i c)).run P w.drew = .ok (F.row xs).toArray w.drew := by
    rw [hsz]
    rcases Nat.eq_zero_or_pos i with h0 | h0
    · subst h0
      have e : xs = [] := List.eq_nil_of_length_eq_zero hl
      subst e
      cases a with
      | none => exact run_firstCells_none w.drew F.m 0 0 c
      | some a => exact run_firstCells_some w.drew F.m 0 a 0 c [] (by simp) (fun j v hj => by cases hj)
    · obtain ⟨b, o, rfl, hc⟩ := h.cell h0
      exact run_firstCells_some w.drew F.m _ _ _ c (F.row xs) (by rw [F.row_len, hl]) (fun j v hj => by rw [Addr.add_lit]; exact hc j v hj)
  have hb2 : (i + k) * ti.bytes ≤ 140737488355328 := Nat.le_trans (Nat.mul_le_mul hn hby) (by decide)
  have hb3 : k * ti.bytes ≤ 281474976710656 := Nat.le_trans (Nat.mul_le_mul (show k ≤ 1000000 by omega) hby) (by decide)
  obtain ⟨G, hG⟩ : ∃ G, G = grownCap w (i + k) c E := ⟨_, rfl⟩
  have hge : i + k ≤ G := by rw [hG]; exact grownCap_ge _ _ _ _
  have hmax : G ≤ 9223372036854775807 := by rw [hG]; exact grownCap_le_maxLen _ _ _ _ (by unfold maxLen; omega)
  refine ⟨w.drew.alloc (.cells ((F.row xs).toArray ++ Builtin.zeroCells z.cells k ++ Builtin.zeroCells z.cells (G - (i + k))) E), G, (Builtin.zeroCells z.cells k).toList ++ (Builtin.zeroCells z.cells (G - (i + k))).toList, fun ty => ?_, ?_, ?_, hge, hmax, ?_⟩
  · rw [hG]; exact Lib.run_append_grow_zeros w t tn ty E ti z .i64 .i64 ht htn hi hz a i c _ hold k hk (by rw [hsz]; exact F.pos) hroom (by omega) hb3 (growslice_fits hroom hb2)
  · have := heap_alloc_new w.drew (.cells ((F.row xs).toArray ++ Builtin.zeroCells z.cells k ++ Builtin.zeroCells z.cells (G - (i + k))) E)
    refine this.trans ?_
    congr 2
    apply Array.ext'
    simp
  · rw [List.length_append]
    simp [Builtin.zeroCells, hzc]
    rw [← Nat.add_mul]
    congr 1
    omega
  · exact ⟨rfl, rfl, rfl, by simp, fun j hj _ => by simp only [World.alloc, World.drew, Array.getElem?_push]; rw [if_neg (by omega)]⟩
theorem step_copy_run {ops : Array Oper} {o : Oper} {a : Act} {w : World} {K : Act → World → Prop} {Q : Exit → Act → World → Prop} {E' : Prop}
    (hg : o.guard = none) (d x : Operand) (dT sT : TypeId) (hop : o.op = Op.call { callee := Callee.builtin Builtin.copy, args := #[d, x], argTypes := #[dT, sT] })
    (v u : Value) (hd : a.eval d = v) (hx : a.eval x = u) {v' : Value} {w' : World} (hr : ∀ ty, (Builtin.copy_ #[dT, sT] ty #[v, u]).run P w = .ok v' w') (hK : K (a.put o.dst v') w') :
    if Region.wanted o (yielded ops a.tmps) = true then Oper.wp P o a w K Q else E' := by
  have hw : Region.wanted o (yielded ops a.tmps) = true := by simp [Region.wanted, hg]
  rw [if_pos hw]
  unfold Oper.wp
  simp [execOp, hop, resolve, invoke, builtin, hd, hx, hr, Result.andThen]
  exact hK
theorem wpList_copy_run {ops : Array Oper} {rest : List Oper} {o : Oper} {a : Act} {w : World} {Q : Exit → Act → World → Prop} (hgd : o.guard = none) (d x : Operand) (dT sT : TypeId)
    (hop : o.op = .call { callee := .builtin .copy, args := #[d, x], argTypes := #[dT, sT] }) (v u : Value) (hd : a.eval d = v) (hx : a.eval x = u) {v' : Value} {w' : World}
    (hr : ∀ ty, (Builtin.copy_ #[dT, sT] ty #[v, u]).run P w = .ok v' w') (h : wpList P ops Q rest (a.put o.dst v') w') : wpList P ops Q (o :: rest) a w :=
  wpList_plain hgd fun _ hK => by
    unfold Oper.wp execOp
    simp only [hop, resolve, invoke, builtin, Sem.run_bind, Sem.run_pure, Result.andThen_ok, List.map_toArray, List.map_cons, List.map_nil, hd, hx, hr]
    exact hK _ _ h
end
end Go.Proofs.Ytfldohfopileeaa
