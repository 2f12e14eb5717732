/- Rows of many-celled elements: load, store, build; maps with integer keys. Of no program. -/
import Derived.Test.YtgpedejeifmfdaaGreatBase
import Derived.Test.YtgpedejeifmfdaaGreatPark
import Derived.MapKept
import Derived.Laws.CopyRow
import Derived.Laws.CopyOwn
import Derived.Laws.MakeOwn
namespace Go.Proofs.YtgpedejeifmfdaaGreat
open Go.RowKit

section
variable {P : Program}

theorem add_none (g o j : Nat) : (⟨g, o, none⟩ : Addr).add j = ⟨g, o + j, none⟩ := by unfold Addr.add; split <;> simp_all

theorem run_loadVar_at (w : World) (g off : Nat) (t ty : TypeId) (cs : Array Value) (fr : Nat × Nat) (d : TypeDesc) (n : Nat) (xs : List Value) (hg : w.heap[g]? = some (.cells cs t fr))
    (hu : P.underlying ty = some d) (hd : (match d with | .struct _ | .array _ _ => true | _ => false) = true) (hi : (P.info? ty).map (·.size) = some n)
    (hl : xs.length = n) (hx : (cs.toList.drop off).take n = xs) :
    (loadVar ty ⟨g, off, none⟩).run P w = .ok (.agg xs.toArray) w := by
  have hlc : (loadCells ⟨g, off, none⟩ xs.length).run P w = .ok xs.toArray w :=
    run_loadCells_list (P := P) w ⟨g, off, none⟩ xs (fun j v hv => by
      rw [add_none, cell_of_row w g (off + j) cs t fr hg]
      subst hx
      rw [List.getElem?_take] at hv
      split at hv
      · rw [List.getElem?_drop] at hv; rw [← Array.getElem?_toList]; exact hv
      · cases hv)
  cases hq : P.info? ty with
  | none => simp [hq] at hi
  | some i =>
    have hs : i.size = n := by simpa [hq] using hi
    have hagg : (isAgg ty).run P w = .ok true w := by
      unfold isAgg
      rw [Sem.run_bind, run_underlying hu w]
      cases d <;> simp_all
    rw [hl] at hlc
    simp [loadVar, Sem.run_bind, hagg, sizeOf, typeInfo, hq, hs, hlc]

theorem wpList_load_at {ops : Array Oper} {rest : List Oper} {o : Oper} {a : Act} {w : World} {Q : Exit → Act → World → Prop} (hgd : Region.wanted o (yielded ops a.tmps) = true) (ty : TypeId) (x : Operand) (ho : o.op = .load ty x)
    (g off : Nat) (hx : a.eval x = .pointer (some ⟨g, off, none⟩)) (t : TypeId) (cs : Array Value) (fr : Nat × Nat) (hg : w.heap[g]? = some (.cells cs t fr)) (n : Nat) (xs : List Value)
    (hl : xs.length = n) (hxs : (cs.toList.drop off).take n = xs)
    (d : TypeDesc) (hu : P.underlying ty = some d) (hd : (match d with | .struct _ | .array _ _ => true | _ => false) = true) (hi : (P.info? ty).map (·.size) = some n)
    (h : wpList P ops Q rest (a.put o.dst (.agg xs.toArray)) w) : wpList P ops Q (o :: rest) a w := by
  refine BigFrame.wpList_want hgd fun K hK => ?_
  unfold Oper.wp execOp
  simp only [ho, hx, Instr.loadAt, Instr.sureAddr, Sem.run_bind, Sem.run_pure, Result.andThen_ok, run_loadVar_at w g off t ty cs fr d n xs hg hu hd hi hl hxs]
  exact hK _ _ h

theorem run_loadVar_cells (w : World) (g off : Nat) (ty : TypeId) (d : TypeDesc) (n : Nat) (xs : List Value) (hc : ∀ j v, xs[j]? = some v → w.cell? ⟨g, off + j, none⟩ = some v)
    (hu : P.underlying ty = some d) (hd : (match d with | .struct _ | .array _ _ => true | _ => false) = true) (hi : (P.info? ty).map (·.size) = some n) (hl : xs.length = n) :
    (loadVar ty ⟨g, off, none⟩).run P w = .ok (.agg xs.toArray) w := by
  have hlc : (loadCells ⟨g, off, none⟩ xs.length).run P w = .ok xs.toArray w :=
    run_loadCells_list (P := P) w ⟨g, off, none⟩ xs (fun j v hv => by rw [add_none]; exact hc j v hv)
  cases hq : P.info? ty with
  | none => simp [hq] at hi
  | some i =>
    have hs : i.size = n := by simpa [hq] using hi
    have hagg : (isAgg ty).run P w = .ok true w := by
      unfold isAgg
      rw [Sem.run_bind, run_underlying hu w]
      cases d <;> simp_all
    rw [hl] at hlc
    simp [loadVar, Sem.run_bind, hagg, sizeOf, typeInfo, hq, hs, hlc]
theorem wpList_load_cells {ops : Array Oper} {rest : List Oper} {o : Oper} {a : Act} {w : World} {Q : Exit → Act → World → Prop} (hgd : Region.wanted o (yielded ops a.tmps) = true) (ty : TypeId) (x : Operand) (ho : o.op = .load ty x)
    (g off : Nat) (hx : a.eval x = .pointer (some ⟨g, off, none⟩)) (xs : List Value) (hc : ∀ j v, xs[j]? = some v → w.cell? ⟨g, off + j, none⟩ = some v) (n : Nat)
    (hl : xs.length = n) (d : TypeDesc) (hu : P.underlying ty = some d) (hd : (match d with | .struct _ | .array _ _ => true | _ => false) = true) (hi : (P.info? ty).map (·.size) = some n)
    (h : wpList P ops Q rest (a.put o.dst (.agg xs.toArray)) w) : wpList P ops Q (o :: rest) a w := by
  refine BigFrame.wpList_want hgd fun K hK => ?_
  unfold Oper.wp execOp
  simp only [ho, hx, Instr.loadAt, Instr.sureAddr, Sem.run_bind, Sem.run_pure, Result.andThen_ok, run_loadVar_cells w g off ty d n xs hc hu hd hi hl]
  exact hK _ _ h

theorem run_storeVar_at (w : World) (g off : Nat) (t ty : TypeId) (cs : Array Value) (n : Nat) (v : Value) (xs : List Value) (hv : v.cells = xs.toArray) (hg : w.heap[g]? = some (.cells cs t (0, 0)))
    (hi : (P.info? ty).map (·.size) = some n) (hl : xs.length = n) (hfit : off + n ≤ cs.size) (h1 : ∀ u ∈ xs, u.oneCell' = true) :
    (storeVar ty ⟨g, off, none⟩ v).run P w = .ok () (w.setRow g (splice cs.toList off xs).toArray) := by
  cases hq : P.info? ty with
  | none => simp [hq] at hi
  | some i =>
    have hs : i.size = n := by simpa [hq] using hi
    have := run_storeCells_at (P := P) g off t xs 0 cs w hg (by omega) h1
    unfold storeVar
    simp only [sizeOf, typeInfo, Sem.run_bind, run_program, Result.andThen_ok, hq, Sem.run_pure, hv, hs, List.size_toArray, hl, ne_eq, not_true_eq_false, if_false]
    rw [this]
    simp [splice]

theorem grownBy_setRow (w : World) (g : Nat) (cs : Array Value) : w.grownBy (w.setRow g cs) (some g) :=
  ⟨rfl, rfl, rfl, by simp, fun k _ hk => setRow_other w g k cs (fun e => hk (by rw [e]))⟩

theorem wpList_store_at {ops : Array Oper} {rest : List Oper} {o : Oper} {a : Act} {w : World} {Q : Exit → Act → World → Prop} (hgd : Region.wanted o (yielded ops a.tmps) = true) (ty : TypeId) (x y : Operand) (ho : o.op = .store ty x y)
    (g off : Nat) (hx : a.eval x = .pointer (some ⟨g, off, none⟩)) (v : Value) (hy : a.eval y = v) (xs : List Value) (hv : v.cells = xs.toArray) (t : TypeId) (cs : Array Value) (hg : w.heap[g]? = some (.cells cs t (0, 0))) (n : Nat)
    (hl : xs.length = n) (hfit : off + n ≤ cs.size) (h1 : ∀ u ∈ xs, u.oneCell' = true) (hi : (P.info? ty).map (·.size) = some n)
    (h : ∀ w', w'.heap[g]? = some (.cells (splice cs.toList off xs).toArray t (0, 0)) → w.grownBy w' (some g) → w'.heap.size = w.heap.size → wpList P ops Q rest (a.put o.dst undef) w') : wpList P ops Q (o :: rest) a w := by
  refine BigFrame.wpList_want hgd fun K hK => ?_
  unfold Oper.wp execOp
  simp only [ho, hx, hy, Instr.storeAt, Instr.sureAddr, Sem.run_bind, Sem.run_pure, Result.andThen_ok, run_storeVar_at w g off t ty cs n v xs hv hg hi hl hfit h1]
  exact hK _ _ (h _ (setRow_heap w g cs _ t _ hg) (grownBy_setRow w g _) (by simp))

/-! ### build -/
theorem run_value {w w' : World} {s : Sem Value} {v : Value} (h : s.run P w = .ok v w') : (do pure (Next.value (← s))).run P w = .ok (.value v) w' := by
  rw [Sem.run_bind, h]; rfl
theorem wpList_build2 {ops : Array Oper} {rest : List Oper} {o : Oper} {a : Act} {w : World} {Q : Exit → Act → World → Prop} (hgd : Region.wanted o (yielded ops a.tmps) = true) (t : TypeId) (i j : Nat) (x y : Operand) (ho : o.op = .build t #[(i, x), (j, y)])
    (u v : Value) (hx : a.eval x = u) (hy : a.eval y = v) (r : Value) (hr : (Instr.build t #[(i, u), (j, v)]).run P w = .ok r w) (h : wpList P ops Q rest (a.put o.dst r) w) : wpList P ops Q (o :: rest) a w := by
  refine BigFrame.wpList_want hgd fun K hK => ?_
  unfold Oper.wp execOp
  simp only [ho, List.map_toArray, List.map_cons, List.map_nil, hx, hy]
  rw [run_value hr]
  exact hK _ _ h
theorem wpList_buildSlice1 {ops : Array Oper} {rest : List Oper} {o : Oper} {a : Act} {w w' : World} {Q : Exit → Act → World → Prop} (hgd : Region.wanted o (yielded ops a.tmps) = true) (t : TypeId) (n i : Nat) (x : Operand) (ho : o.op = .buildSlice t n #[(i, x)])
    (u : Value) (hx : a.eval x = u) (r : Value) (hr : (Instr.buildSlice t n #[(i, u)]).run P w = .ok r w') (h : wpList P ops Q rest (a.put o.dst r) w') : wpList P ops Q (o :: rest) a w := by
  refine BigFrame.wpList_want hgd fun K hK => ?_
  unfold Oper.wp execOp
  simp only [ho, List.map_toArray, List.map_cons, List.map_nil, hx]
  rw [run_value hr]
  exact hK _ _ h

/-! ### append: where the row lies behind it -/
theorem run_append_where (w : World) (base : Nat) (t ty e : TypeId) (i : TypeInfo) (z : Value) (size bytes : Nat) (ht : P.underlying t = some (.slice e)) (hi : P.info? e = some i) (hz : i.zero = some z)
    (hsize : i.size = size) (hby : i.bytes = bytes) (v : Value) (n : Nat) (xs : List Value) (hown : w.ownsRow base e size v n xs)
    (a : Addr) (m c : Nat) (news : List Value) (hl : news.length = m * size) (hm : 0 < m) (hnews : ∀ j u, news[j]? = some u → w.cell? (a.add j) = some u) (h1 : ∀ u ∈ news, u.oneCell' = true)
    (h63 : n + m ≤ maxLen) (hbytes : (n + m) * bytes ≤ 140737488355328) :
    ∃ v' w', (Builtin.append_ #[t, t] ty #[v, .slice (some a) m c]).run P w = .ok v' w' ∧ (v'.ownBlock = v.ownBlock ∨ v'.ownBlock = some w.heap.size) := by
  subst hsize
  subst hby
  have hsmall : n + m ≤ 9223372036854775807 := by simp only [maxLen] at h63; omega
  rcases hown.2 with ⟨rfl, rfl⟩ | ⟨g, cap, cur, rfl, hbg, hg, hnc, hcm, hcs, htake⟩
  · exact ⟨_, _, run_append_nil (P := P) w t ty e i z ht hi hz a m c news hl hnews hm (by omega) (by have hb := hbytes; simp only [Nat.zero_add] at hb; omega), .inr rfl⟩
  · by_cases hroom : n + m ≤ cap
    · have hfit : n * i.size + news.length ≤ cur.size := by rw [hl, hcs, ← Nat.add_mul]; exact Nat.mul_le_mul_right _ hroom
      exact ⟨_, _, run_append_room (P := P) w t ty e i ht hi g n cap cur hg a m c news hl hnews h1 hroom hfit, .inl rfl⟩
    · have holds : ∀ j u, xs[j]? = some u → w.cell? ((⟨g, 0, none⟩ : Addr).add j) = some u := hown.cells (g := g) rfl
      exact ⟨_, _, run_append_grow (P := P) w t ty e i z ht hi hz ⟨g, 0, none⟩ n cap xs hown.1 holds a m c news hl hnews (by omega) (by omega) (growslice_fits (by omega) hbytes), .inr rfl⟩

theorem wpList_append_row (w : World) {ops : Array Oper} {rest : List Oper} {o : Oper} {a : Act} {Q : Exit → Act → World → Prop} (hgd : Region.wanted o (yielded ops a.tmps) = true) (s x : Operand) (t : TypeId)
    (ho : o.op = .call { callee := .builtin .append, args := #[s, x], argTypes := #[t, t] })
    (base : Nat) (e : TypeId) (i : TypeInfo) (z : Value) (size bytes : Nat) (ht : P.underlying t = some (.slice e)) (hi : P.info? e = some i) (hz : i.zero = some z)
    (hsize : i.size = size) (hby : i.bytes = bytes) (hzs : z.cells.size = size) (hsz : 0 < size)
    (v : Value) (n : Nat) (xs : List Value) (hs : a.eval s = v) (hown : w.ownsRow base e size v n xs)
    (g off m c : Nat) (news : List Value) (hx : a.eval x = .slice (some ⟨g, off, none⟩) m c) (hl : news.length = m * size) (hm : 0 < m) (hnews : ∀ j u, news[j]? = some u → w.cell? ⟨g, off + j, none⟩ = some u) (h1 : ∀ u ∈ news, u.oneCell' = true)
    (h63 : n + m ≤ maxLen) (hbytes : (n + m) * bytes ≤ 140737488355328) (hbase : base ≤ w.heap.size)
    (h : ∀ v' w', w'.ownsRow base e size v' (n + m) (xs ++ news) → w.grownBy w' v.ownBlock → (v'.ownBlock = v.ownBlock ∨ v'.ownBlock = some w.heap.size) → wpList P ops Q rest (a.put o.dst v') w') : wpList P ops Q (o :: rest) a w := by
  refine BigFrame.wpList_want hgd fun K hK => ?_
  have hn' : ∀ j u, news[j]? = some u → w.cell? ((⟨g, off, none⟩ : Addr).add j) = some u := fun j u hu => by rw [add_none]; exact hnews j u hu
  obtain ⟨v', w', hr, h2, h3, _⟩ := run_append_own (P := P) w base t o.type e i z size bytes ht hi hz hsize hby hzs hsz v n xs hown ⟨g, off, none⟩ m c news hl hn' h1 h63 hbytes hbase
  obtain ⟨v2, w2, hr2, hb⟩ := run_append_where (P := P) w base t o.type e i z size bytes ht hi hz hsize hby v n xs hown ⟨g, off, none⟩ m c news hl hm hn' h1 h63 hbytes
  rw [hr] at hr2
  cases hr2
  unfold Oper.wp execOp
  simp only [ho, resolve, invoke, builtin, Sem.run_bind, Sem.run_pure, Result.andThen_ok, List.map_toArray, List.map_cons, List.map_nil, hs, hx, hr]
  exact hK _ _ (h v' w' h2 h3 hb)

/-! ### maps with integer keys -/
def keyIs (k : Int) (e : MapEntry) : Bool := match e.key with | .int _ j => j == k | _ => false
/-- Block m is a map whose keys are integers; f is what it holds. -/
def MapI (w : World) (q : IntKind) (m : Nat) (f : Int → Option Value) : Prop :=
  ∃ es clock, w.heap[m]? = some (.map es clock) ∧ (∀ e ∈ es.toList, ∃ j, e.key = .int q j) ∧ ∀ k, f k = (es.toList.find? (keyIs k)).map (·.val)

theorem MapI.keep {w w' : World} {q : IntKind} {m : Nat} {f : Int → Option Value} (h : MapI w q m f) (hk : w'.heap[m]? = w.heap[m]?) : MapI w' q m f := by
  obtain ⟨es, clock, h1, h2⟩ := h
  exact ⟨es, clock, hk.trans h1, h2⟩
theorem MapI.lt {w : World} {q : IntKind} {m : Nat} {f : Int → Option Value} (h : MapI w q m f) : m < w.heap.size := by
  obtain ⟨es, clock, h1, _⟩ := h
  exact (Array.getElem?_eq_some_iff.1 h1).1
theorem MapI.made (w : World) (q : IntKind) : MapI (w.alloc (.map #[] 0)) q w.heap.size (fun _ => none) :=
  ⟨#[], 0, heap_alloc_new w _, by simp, by simp⟩

theorem findNow_int (q : IntKind) (k : Int) : ∀ (l : List MapEntry) (i : Nat), (∀ e ∈ l, ∃ j, e.key = .int q j) →
    (Instr.findNow (.int q) (.int q k) l i = some none ∧ l.find? (keyIs k) = none) ∨
    ∃ j e, Instr.findNow (.int q) (.int q k) l i = some (some (i + j, e.val)) ∧ l[j]? = some e ∧ keyIs k e = true ∧ l.find? (keyIs k) = some e ∧ ∀ j' e', j' < j → l[j']? = some e' → keyIs k e' = false
  | [], _, _ => .inl ⟨rfl, rfl⟩
  | e :: es, i, h => by
    obtain ⟨j, hj⟩ := h e (.head _)
    by_cases hkj : k = j
    · subst hkj
      have hk : keyIs k e = true := by simp [keyIs, hj]
      exact .inr ⟨0, e, by simp [Instr.findNow, Instr.sameNow, hj], rfl, hk, by simp [hk], fun j' _ h _ => absurd h (by omega)⟩
    · have hk : keyIs k e = false := by simp [keyIs, hj]; omega
      have hs : Instr.sameNow (.int q) (.int q k) e.key = some false := by simp [Instr.sameNow, hj]; omega
      rcases findNow_int q k es (i + 1) (fun x hx => h x (.tail _ hx)) with ⟨h1, h2⟩ | ⟨j2, e2, h1, h2, h3, h4, h5⟩
      · exact .inl ⟨by simp [Instr.findNow, hs, h1], by simp [hk, h2]⟩
      · refine .inr ⟨j2 + 1, e2, by simp [Instr.findNow, hs, h1]; omega, by simpa using h2, h3, by simp [hk, h4], fun j' e' hj' he' => ?_⟩
        cases j' with
        | zero => simp at he'; subst he'; exact hk
        | succ j' => exact h5 j' e' (by omega) (by simpa using he')

theorem MapI.lookup {w : World} {q : IntKind} {m : Nat} {f : Int → Option Value} (h : MapI w q m f) {t kt et : TypeId} (ht : P.underlying t = some (.map kt et)) (hk : P.underlying kt = some (.int q)) {z : Value} (hz : (zeroValue et).run P w = .ok z w) (k : Int) :
    (Instr.lookup t (.map (some m)) (.int q k) true).run P w = .ok (.tuple #[(f k).getD z, .bool (f k).isSome]) w := by
  obtain ⟨es, clock, h1, h2, h3⟩ := h
  have hck : ∀ (b : Bool), (Instr.checkKey b 10000 kt (.int q k)).run P w = .ok () w := fun b => MapKept.run_checkKey (P := P) hk (by simp [MapKept.IsKey]) b 9999
  rcases findNow_int q k es.toList 0 h2 with ⟨a1, a2⟩ | ⟨j, e, a1, a2, a3, a4, a5⟩
  · have hf := MapKept.run_findKey (P := P) (w := w) hk a1
    have hv : f k = none := by rw [h3, a2]; rfl
    simp [Instr.lookup, run_underlying ht, MapKept.run_getObj_map h1, hck, hf, hz, hv, Result.andThen]
  · have hf := MapKept.run_findKey (P := P) (w := w) hk a1
    have hv : f k = some e.val := by rw [h3, a4]; rfl
    simp [Instr.lookup, run_underlying ht, MapKept.run_getObj_map h1, hck, hf, hv, Result.andThen]

theorem find_modify {l : List MapEntry} {k : Int} {q : IntKind} {v : Value} {j : Nat} {e : MapEntry} (he : l[j]? = some e) (hke : keyIs k e = true) (hb : ∀ j' e', j' < j → l[j']? = some e' → keyIs k e' = false) (k' : Int) :
    ((l.modify j fun e => { e with key := .int q k, val := v }).find? (keyIs k')).map (·.val) = if k' = k then some v else (l.find? (keyIs k')).map (·.val) := by
  induction l generalizing j with
  | nil => simp at he
  | cons x l ih =>
    cases j with
    | zero =>
      simp at he
      subst he
      rw [List.modify_zero_cons]
      by_cases hk : k' = k
      · subst hk
        simp [keyIs]
      · have h1 : keyIs k' { x with key := .int q k, val := v } = false := by simp [keyIs]; omega
        have h2 : keyIs k' x = false := by
          unfold keyIs at hke ⊢
          split at hke <;> simp_all
          omega
        rw [if_neg hk, List.find?_cons_of_neg (by simp [h1]), List.find?_cons_of_neg (by simp [h2])]
    | succ j =>
      have hx : keyIs k x = false := hb 0 x (by omega) rfl
      rw [List.modify_succ_cons]
      have ih' := ih (j := j) (by simpa using he) (fun j' e' hj' he' => hb (j' + 1) e' (by omega) (by simpa using he'))
      by_cases hxk : keyIs k' x = true
      · have hne : k' ≠ k := fun e => by subst e; rw [hx] at hxk; cases hxk
        rw [if_neg hne, List.find?_cons_of_pos hxk, List.find?_cons_of_pos hxk]
      · rw [List.find?_cons_of_neg hxk, List.find?_cons_of_neg hxk]
        exact ih'

theorem MapI.update {w : World} {q : IntKind} {m : Nat} {f : Int → Option Value} (h : MapI w q m f) {t kt et : TypeId} (ht : P.underlying t = some (.map kt et)) (hk : P.underlying kt = some (.int q)) (k : Int) (v : Value) :
    ∃ w', (Instr.mapUpdate t (.map (some m)) (.int q k) v).run P w = .ok () w' ∧ MapI w' q m (fun k' => if k' = k then some v else f k') ∧ w.grownBy w' (some m) ∧ w'.heap.size = w.heap.size := by
  obtain ⟨es, clock, h1, h2, h3⟩ := h
  have hck : ∀ (b : Bool), (Instr.checkKey b 10000 kt (.int q k)).run P w = .ok () w := fun b => MapKept.run_checkKey (P := P) hk (by simp [MapKept.IsKey]) b 9999
  have grown : ∀ o', w.grownBy { w with heap := w.heap.setIfInBounds m o' } (some m) := fun o' =>
    ⟨rfl, rfl, rfl, by simp, fun i _ hi => (MapKept.heap_set (o' := o') h1).2 i (fun e => hi (by rw [e]))⟩
  rcases findNow_int q k es.toList 0 h2 with ⟨a1, a2⟩ | ⟨j, e, a1, a2, a3, a4, a5⟩
  · have hf := MapKept.run_findKey (P := P) (w := w) hk a1
    refine ⟨_, ?_, ⟨es.push { key := .int q k, val := v, born := clock }, clock + 1, (MapKept.heap_set h1).1, ?_, fun k' => ?_⟩, grown _, by simp⟩
    · simp [Instr.mapUpdate, run_underlying ht, MapKept.run_getObj_map h1, hck, hf, MapKept.run_setObj_map _ h1, Result.andThen]
    · intro e he
      simp at he
      rcases he with he | rfl
      · exact h2 e (by simpa using he)
      · exact ⟨k, rfl⟩
    · show (if k' = k then some v else f k') = _
      rw [Array.toList_push, List.find?_append, h3]
      by_cases hkk : k' = k
      · subst hkk
        rw [a2, if_pos rfl]
        simp [keyIs]
      · rw [if_neg hkk]
        have : keyIs k' { key := .int q k, val := v, born := clock } = false := by simp [keyIs]; omega
        rw [List.find?_cons_of_neg (by simp [this])]
        cases es.toList.find? (keyIs k') <;> rfl
  · have hf := MapKept.run_findKey (P := P) (w := w) hk a1
    have hek : e.key = .int q k := by
      obtain ⟨j2, hj2⟩ := h2 e (List.mem_of_getElem? a2)
      simp only [keyIs, hj2, beq_iff_eq] at a3
      rw [hj2, a3]
    have hst : (Instr.keyThatStays (((es[j]?).map (·.key)).getD (.int q k)) (.int q k)).run P w = .ok (.int q k) w := by
      have : es[j]? = some e := by rw [← Array.getElem?_toList]; exact a2
      rw [this]
      simp [Instr.keyThatStays, hek, Instr.sameBits]
    refine ⟨_, ?_, ⟨es.modify j (fun e => { e with key := .int q k, val := v }), clock, (MapKept.heap_set h1).1, ?_, fun k' => ?_⟩, grown _, by simp⟩
    · simp only [Nat.zero_add] at hf
      simp [Instr.mapUpdate, run_underlying ht, MapKept.run_getObj_map h1, hck, hf, hst, MapKept.run_setObj_map _ h1, Result.andThen]
    · intro x hx
      rw [Array.toList_modify] at hx
      obtain ⟨i, hi⟩ := List.mem_iff_getElem?.1 hx
      rw [List.getElem?_modify] at hi
      cases hxi : es.toList[i]? with
      | none => rw [hxi] at hi; cases hi
      | some x0 =>
        rw [hxi] at hi
        simp only [Option.map_eq_map, Option.map_some, Option.some.injEq] at hi
        split at hi
        · subst hi; exact ⟨k, rfl⟩
        · subst hi; exact h2 _ (List.mem_of_getElem? hxi)
    · show (if k' = k then some v else f k') = _
      rw [Array.toList_modify, find_modify a2 a3 a5 k', h3]

theorem MapI.clear {w : World} {q : IntKind} {m : Nat} {f : Int → Option Value} (h : MapI w q m f) {t kt et ty : TypeId} (ht : P.underlying t = some (.map kt et)) :
    ∃ w', (Builtin.clear_ #[t] ty #[.map (some m)]).run P w = .ok (.tuple #[]) w' ∧ MapI w' q m (fun _ => none) ∧ w.grownBy w' (some m) ∧ w'.heap.size = w.heap.size := by
  obtain ⟨es, clock, h1, h2, h3⟩ := h
  refine ⟨{ w with heap := w.heap.setIfInBounds m (.map #[] clock) }, ?_, ⟨#[], clock, (MapKept.heap_set h1).1, by simp, by simp⟩, ⟨rfl, rfl, rfl, by simp, fun i _ hi => (MapKept.heap_set h1).2 i (fun e => hi (by rw [e]))⟩, by simp⟩
  simp [Builtin.clear_, run_underlying ht, MapKept.run_getObj_map h1, MapKept.run_setObj_map _ h1, Result.andThen]

theorem wpList_mapUpdate_int {ops : Array Oper} {rest : List Oper} {o : Oper} {a : Act} {w : World} {Q : Exit → Act → World → Prop} (hgd : Region.wanted o (yielded ops a.tmps) = true) (t : TypeId) (m x y : Operand) (ho : o.op = .mapUpdate t m x y)
    (q : IntKind) (b : Nat) (f : Int → Option Value) (hM : MapI w q b f) (k : Int) (v : Value) (hm : a.eval m = .map (some b)) (hx : a.eval x = .int q k) (hy : a.eval y = v)
    (kt et : TypeId) (ht : P.underlying t = some (.map kt et)) (hk : P.underlying kt = some (.int q))
    (h : ∀ w', MapI w' q b (fun k' => if k' = k then some v else f k') → w.grownBy w' (some b) → w'.heap.size = w.heap.size → wpList P ops Q rest (a.put o.dst undef) w') : wpList P ops Q (o :: rest) a w := by
  refine BigFrame.wpList_want hgd fun K hK => ?_
  obtain ⟨w', hr, h1, h2, h3⟩ := hM.update (P := P) ht hk k v
  unfold Oper.wp execOp
  simp only [ho, hm, hx, hy, Sem.run_bind, hr, Result.andThen_ok, Sem.run_pure]
  exact hK _ _ (h w' h1 h2 h3)

theorem wpList_clear_int {ops : Array Oper} {rest : List Oper} {o : Oper} {a : Act} {w : World} {Q : Exit → Act → World → Prop} (hgd : Region.wanted o (yielded ops a.tmps) = true) (t : TypeId) (m : Operand)
    (ho : o.op = .call { callee := .builtin .clear, args := #[m], argTypes := #[t] })
    (q : IntKind) (b : Nat) (f : Int → Option Value) (hM : MapI w q b f) (hm : a.eval m = .map (some b))
    (kt et : TypeId) (ht : P.underlying t = some (.map kt et))
    (h : ∀ w', MapI w' q b (fun _ => none) → w.grownBy w' (some b) → w'.heap.size = w.heap.size → wpList P ops Q rest (a.put o.dst (.tuple #[])) w') : wpList P ops Q (o :: rest) a w := by
  refine BigFrame.wpList_want hgd fun K hK => ?_
  obtain ⟨w', hr, h1, h2, h3⟩ := hM.clear (P := P) (ty := o.type) ht
  unfold Oper.wp execOp
  simp only [ho, resolve, invoke, builtin, Sem.run_bind, Sem.run_pure, Result.andThen_ok, List.map_toArray, List.map_cons, List.map_nil, hm, hr]
  exact hK _ _ (h w' h1 h2 h3)

end

theorem splice_part {L old cs : List Value} {off T n : Nat} (ho : (L.drop off).take n = old) (hc : cs.length = T) (hT : T ≤ n) (hL : off + n ≤ L.length) : splice L off cs = splice L off (cs ++ old.drop T) := by
  have hlo : old.length = n := by rw [← ho, List.length_take, List.length_drop]; omega
  have h1 : L.drop off = old ++ L.drop (off + n) := by rw [← ho, ← List.drop_drop, List.take_append_drop]
  have h2 : L.drop (off + T) = old.drop T ++ L.drop (off + n) := by
    rw [← List.drop_drop, h1, List.drop_append_of_le_length (by omega)]
  unfold splice
  rw [List.length_append, List.length_drop, hc, hlo, show off + (T + (n - T)) = off + n by omega, h2, List.append_assoc]
theorem splice_all (L xs : List Value) (h : L.length = xs.length) : splice L 0 xs = xs := by
  simp [splice, h]
end Go.Proofs.YtgpedejeifmfdaaGreat
