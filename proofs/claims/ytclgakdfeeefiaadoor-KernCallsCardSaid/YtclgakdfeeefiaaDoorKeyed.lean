/- Maps whose keys are asked by '==' (structs): look-up, a store of a new key, range. Of no program. -/
import Derived.Test.YtclgakdfeeefiaaDoorBase
import Derived.Test.YtclgakdfeeefiaaDoorCells
import Derived.Test.YtclgakdfeeefiaaDoorPark
import Derived.Maps.Range
namespace Go.Proofs.YtclgakdfeeefiaaDoor
open Go.RowKit
set_option linter.unusedSectionVars false

/-- A key's type: how its values are written, and how they are asked. -/
structure KeyLaw (P : Program) (kt : TypeId) {κ : Type} [DecidableEq κ] (enc : κ → Value) : Prop where
  ck : ∀ (b : Bool) k w, (Instr.checkKey b 10000 kt (enc k)).run P w = .ok () w
  eq : ∀ k k' w, (Op.equal kt (enc k) (enc k')).run P w = .ok (decide (k = k')) w
  desc : ∃ d, P.underlying kt = some d ∧ ∀ k v, Instr.sameNow d (enc k) v = none

section
variable {κ : Type} [DecidableEq κ] {enc : κ → Value} {P : Program} {kt : TypeId}
/-- Where a key stands, and what lies there. -/
def askedAt (k : κ) : List (κ × Value) → Nat → Option (Nat × Value)
  | [], _ => none
  | p :: l, i => if k = p.1 then some (i, p.2) else askedAt k l (i + 1)
def valOf (ks : List (κ × Value)) (k : κ) : Option Value := (askedAt k ks 0).map (·.2)
theorem askedAt_val (k : κ) : ∀ (l : List (κ × Value)) (i j : Nat), (askedAt k l i).map (·.2) = (askedAt k l j).map (·.2)
  | [], _, _ => rfl
  | p :: l, i, j => by
    unfold askedAt
    split
    · rfl
    · exact askedAt_val k l _ _
theorem valOf_nil (k : κ) : valOf ([] : List (κ × Value)) k = none := rfl
theorem valOf_cons (p : κ × Value) (l : List (κ × Value)) (k : κ) : valOf (p :: l) k = if k = p.1 then some p.2 else valOf l k := by
  unfold valOf
  simp only [askedAt]
  split
  · rfl
  · exact askedAt_val k l _ _
theorem valOf_snoc (l : List (κ × Value)) (p : κ × Value) (k : κ) : valOf (l ++ [p]) k = match valOf l k with | some v => some v | none => if k = p.1 then some p.2 else none := by
  induction l with
  | nil => rw [List.nil_append, valOf_cons, valOf_nil]
  | cons q l ih =>
    rw [List.cons_append, valOf_cons, valOf_cons]
    by_cases h : k = q.1
    · rw [if_pos h, if_pos h]
    · rw [if_neg h, if_neg h, ih]
theorem valOf_none {ks : List (κ × Value)} {k : κ} (h : ∀ p ∈ ks, p.1 ≠ k) : valOf ks k = none := by
  induction ks with
  | nil => rfl
  | cons p l ih => rw [valOf_cons, if_neg fun e => h p (.head _) e.symm, ih fun q hq => h q (.tail _ hq)]
theorem valOf_mem {ks : List (κ × Value)} (hn : (ks.map (·.1)).Nodup) {p : κ × Value} (hp : p ∈ ks) : valOf ks p.1 = some p.2 := by
  induction ks with
  | nil => cases hp
  | cons q l ih =>
    rw [List.map_cons, List.nodup_cons] at hn
    rw [valOf_cons]
    rcases List.mem_cons.1 hp with rfl | h
    · rw [if_pos rfl]
    · rw [if_neg, ih hn.2 h]
      intro e
      exact hn.1 (by rw [← e]; exact List.mem_map_of_mem h)

theorem run_findAsking (L : KeyLaw P kt enc) (k : κ) : ∀ (es : List MapEntry) (ks : List (κ × Value)) (i : Nat) (w : World), es.map (fun e => (e.key, e.val)) = ks.map (fun p => (enc p.1, p.2)) →
    (Instr.findAsking kt (enc k) es i).run P w = .ok (askedAt k ks i) w
  | [], ks, i, w, h => by
    obtain rfl := List.map_eq_nil_iff.1 h.symm
    rfl
  | e :: es, ks, i, w, h => by
    cases ks with
    | nil => cases h
    | cons p l =>
      simp only [List.map_cons, List.cons.injEq, Prod.mk.injEq] at h
      obtain ⟨⟨h1, h2⟩, h3⟩ := h
      unfold Instr.findAsking askedAt
      simp only [Sem.run_bind, h1, L.eq, Result.andThen_ok]
      by_cases hk : k = p.1
      · simp [hk, h2]
      · simp only [hk, decide_false, Bool.false_eq_true, if_false]
        exact run_findAsking L k es l (i + 1) w h3
theorem run_findKeyed (L : KeyLaw P kt enc) (k : κ) {es : List MapEntry} {ks : List (κ × Value)} {w : World} (h : es.map (fun e => (e.key, e.val)) = ks.map (fun p => (enc p.1, p.2))) :
    (Instr.findKey kt (enc k) es).run P w = .ok (askedAt k ks 0) w := by
  obtain ⟨d, hd, hs⟩ := L.desc
  have ha := run_findAsking L k es ks 0 w h
  cases es with
  | nil =>
    obtain rfl := List.map_eq_nil_iff.1 h.symm
    simp [Instr.findKey, run_underlying hd, Instr.findNow, askedAt]
  | cons e es =>
    simp only [Instr.findKey, Sem.run_bind, run_underlying hd, Result.andThen_ok, Instr.findNow, hs, ha]

/-- Block m is a map that holds these keys, each once. -/
structure MapK (enc : κ → Value) (w : World) (m : Nat) (ks : List (κ × Value)) : Prop where
  is : ∃ es clock, w.heap[m]? = some (.map es clock) ∧ es.toList.map (fun e => (e.key, e.val)) = ks.map (fun p => (enc p.1, p.2)) ∧ (es.toList.map (·.born)).Nodup ∧ ∀ e ∈ es.toList, e.born < clock
  once : (ks.map (·.1)).Nodup
theorem MapK.keep {w w' : World} {m : Nat} {ks : List (κ × Value)} (h : MapK enc w m ks) (hk : w'.heap[m]? = w.heap[m]?) : MapK enc w' m ks := by
  obtain ⟨⟨es, clock, h1, h2⟩, h3⟩ := h
  exact ⟨⟨es, clock, hk.trans h1, h2⟩, h3⟩
theorem MapK.lt {w : World} {m : Nat} {ks : List (κ × Value)} (h : MapK enc w m ks) : m < w.heap.size := by
  obtain ⟨⟨es, clock, h1, _⟩, _⟩ := h
  exact (Array.getElem?_eq_some_iff.1 h1).1
theorem MapK.made (w : World) : MapK enc (w.alloc (.map #[] 0)) w.heap.size [] := ⟨⟨#[], 0, heap_alloc_new w _, by simp, by simp, by simp⟩, by simp⟩

theorem MapK.lookup {w : World} {m : Nat} {ks : List (κ × Value)} (h : MapK enc w m ks) (L : KeyLaw P kt enc) {t et : TypeId} (ht : P.underlying t = some (.map kt et)) {z : Value} (hz : (zeroValue et).run P w = .ok z w) (k : κ) :
    (Instr.lookup t (.map (some m)) (enc k) true).run P w = .ok (.tuple #[(valOf ks k).getD z, .bool (valOf ks k).isSome]) w := by
  obtain ⟨⟨es, clock, h1, h2, _⟩, _⟩ := h
  have hf := run_findKeyed L k (w := w) h2
  unfold valOf
  cases ha : askedAt k ks 0 with
  | none =>
    rw [ha] at hf
    simp [Instr.lookup, run_underlying ht, MapKept.run_getObj_map h1, L.ck, hf, hz, Result.andThen]
  | some r =>
    rw [ha] at hf
    simp [Instr.lookup, run_underlying ht, MapKept.run_getObj_map h1, L.ck, hf, Result.andThen]
theorem MapK.store {w : World} {m : Nat} {ks : List (κ × Value)} (h : MapK enc w m ks) (L : KeyLaw P kt enc) {t et : TypeId} (ht : P.underlying t = some (.map kt et)) (k : κ) (v : Value) (hk : ∀ p ∈ ks, p.1 ≠ k) :
    ∃ w', (Instr.mapUpdate t (.map (some m)) (enc k) v).run P w = .ok () w' ∧ MapK enc w' m (ks ++ [(k, v)]) ∧ w.grownBy w' (some m) ∧ w'.heap.size = w.heap.size := by
  obtain ⟨⟨es, clock, h1, h2, h3, h4⟩, h5⟩ := h
  have hf := run_findKeyed L k (w := w) h2
  have ha : askedAt k ks 0 = none := by
    have := valOf_none hk
    unfold valOf at this
    simpa using this
  rw [ha] at hf
  refine ⟨{ w with heap := w.heap.setIfInBounds m (.map (es.push { key := enc k, val := v, born := clock }) (clock + 1)) }, ?_, ⟨⟨_, _, (MapKept.heap_set h1).1, ?_, ?_, ?_⟩, ?_⟩,
    ⟨rfl, rfl, rfl, by simp, fun i _ hi => (MapKept.heap_set h1).2 i (fun e => hi (by rw [e]))⟩, by simp⟩
  · simp [Instr.mapUpdate, run_underlying ht, MapKept.run_getObj_map h1, L.ck, hf, MapKept.run_setObj_map _ h1, Result.andThen]
  · rw [Array.toList_push, List.map_append, List.map_append, h2]; rfl
  · rw [Array.toList_push, List.map_append, List.nodup_append]
    refine ⟨h3, by simp, ?_⟩
    intro a ha1 b hb
    simp at hb
    subst hb
    obtain ⟨e, he, rfl⟩ := List.mem_map.1 ha1
    have := h4 e he
    omega
  · intro e he
    rw [Array.toList_push] at he
    rcases List.mem_append.1 he with he | he
    · have := h4 e he; omega
    · simp at he; subst he; exact Nat.lt_succ_self _
  · rw [List.map_append, List.nodup_append]
    refine ⟨h5, by simp, ?_⟩
    intro a ha1 b hb
    simp at hb
    subst hb
    obtain ⟨p, hp, rfl⟩ := List.mem_map.1 ha1
    exact hk p hp

variable {ops : Array Oper} {rest : List Oper} {o : Oper} {a : Act} {w : World} {Q : Exit → Act → World → Prop}
theorem wpList_lookup_key (hgd : Region.wanted o (yielded ops a.tmps) = true) (L : KeyLaw P kt enc) (t : TypeId) (m x : Operand) (ho : o.op = .lookup t m x true) (b : Nat) (ks : List (κ × Value)) (hM : MapK enc w b ks) (k : κ)
    (hm : a.eval m = .map (some b)) (hx : a.eval x = enc k) (et : TypeId) (ht : P.underlying t = some (.map kt et)) (z : Value) (hz : (zeroValue et).run P w = .ok z w)
    (h : wpList P ops Q rest (a.put o.dst (.tuple #[(valOf ks k).getD z, .bool (valOf ks k).isSome])) w) : wpList P ops Q (o :: rest) a w := by
  refine BigFrame.wpList_want hgd fun K hK => ?_
  have hr := hM.lookup L ht hz k
  unfold Oper.wp execOp
  simp only [ho, hm, hx, Sem.run_bind, hr, Result.andThen_ok, Sem.run_pure]
  exact hK _ _ h
theorem wpList_store_key (hgd : Region.wanted o (yielded ops a.tmps) = true) (L : KeyLaw P kt enc) (t : TypeId) (m x y : Operand) (ho : o.op = .mapUpdate t m x y) (b : Nat) (ks : List (κ × Value)) (hM : MapK enc w b ks) (k : κ) (v : Value)
    (hm : a.eval m = .map (some b)) (hx : a.eval x = enc k) (hy : a.eval y = v) (et : TypeId) (ht : P.underlying t = some (.map kt et)) (hk : ∀ p ∈ ks, p.1 ≠ k)
    (h : ∀ w', MapK enc w' b (ks ++ [(k, v)]) → w.grownBy w' (some b) → w'.heap.size = w.heap.size → wpList P ops Q rest (a.put o.dst undef) w') : wpList P ops Q (o :: rest) a w := by
  refine BigFrame.wpList_want hgd fun K hK => ?_
  obtain ⟨w', hr, h1, h2, h3⟩ := hM.store (P := P) L ht k v hk
  unfold Oper.wp execOp
  simp only [ho, hm, hx, hy, Sem.run_bind, hr, Result.andThen_ok, Sem.run_pure]
  exact hK _ _ (h w' h1 h2 h3)

/-- 'range' under way: these keys have come. -/
structure RangeK (enc : κ → Value) (w : World) (m r : Nat) (ks : List (κ × Value)) (done : List κ) : Prop where
  is : ∃ es clock since seen c0, w.heap[m]? = some (.map es clock) ∧ es.toList.map (fun e => (e.key, e.val)) = ks.map (fun p => (enc p.1, p.2)) ∧ (es.toList.map (·.born)).Nodup ∧ (∀ e ∈ es.toList, e.born < since) ∧
    w.heap[r]? = some (.mapIter (some m) since seen c0) ∧ since ≤ c0 ∧ since ≤ clock ∧ ∀ (i : Nat) (e : MapEntry) (p : κ × Value), es.toList[i]? = some e → ks[i]? = some p → (seen.contains e.born = true ↔ p.1 ∈ done)
  once : (ks.map (·.1)).Nodup
  done : done.Nodup ∧ ∀ k ∈ done, k ∈ ks.map (·.1)
  ne : r ≠ m
theorem RangeK.keep {w w' : World} {m r : Nat} {ks : List (κ × Value)} {done : List κ} (h : RangeK enc w m r ks done) (hm : w'.heap[m]? = w.heap[m]?) (hr : w'.heap[r]? = w.heap[r]?) : RangeK enc w' m r ks done := by
  obtain ⟨⟨es, clock, since, seen, c0, h1, h2, h3, h4, h5, h6⟩, h7, h8, h9⟩ := h
  exact ⟨⟨es, clock, since, seen, c0, hm.trans h1, h2, h3, h4, hr.trans h5, h6⟩, h7, h8, h9⟩
theorem RangeK.map {w : World} {m r : Nat} {ks : List (κ × Value)} {done : List κ} (h : RangeK enc w m r ks done) : MapK enc w m ks := by
  obtain ⟨⟨es, clock, since, seen, c0, h1, h2, h3, h4, h5, h6, h7, _⟩, h8, _, _⟩ := h
  exact ⟨⟨es, clock, h1, h2, h3, fun e he => Nat.lt_of_lt_of_le (h4 e he) h7⟩, h8⟩
theorem MapK.range {w : World} {m : Nat} {ks : List (κ × Value)} (h : MapK enc w m ks) {t et : TypeId} (ht : P.underlying t = some (.map kt et)) :
    ∃ w', (Instr.range t (.map (some m))).run P w = .ok (.pointer (some ⟨w.heap.size, 0, none⟩)) w' ∧ RangeK enc w' m w.heap.size ks [] ∧ w.grownBy w' none ∧ w'.heap.size = w.heap.size + 1 := by
  have hlt := h.lt
  obtain ⟨⟨es, clock, h1, h2, h3, h4⟩, h5⟩ := h
  refine ⟨_, run_range_map w t kt et m es clock ht h1, ⟨⟨es, clock, clock, #[], clock, ((MapKept.heap_alloc w _).2 m hlt).trans h1, h2, h3, h4, (MapKept.heap_alloc w _).1, Nat.le_refl _, Nat.le_refl _, fun _ _ _ _ _ => by simp⟩, h5, ⟨by simp, fun _ h => by cases h⟩, by omega⟩, World.grownBy_alloc w _ none, by simp⟩
theorem RangeK.next {w : World} {m r : Nat} {ks : List (κ × Value)} {done : List κ} (h : RangeK enc w m r ks done) (ty : TypeId) :
    ((∀ p ∈ ks, p.1 ∈ done) ∧ (Instr.next (.pointer (some ⟨r, 0, none⟩)) false ty).run P w = .ok (.tuple #[.bool false]) w) ∨
    ∃ p ∈ ks, p.1 ∉ done ∧ ∃ w', (Instr.next (.pointer (some ⟨r, 0, none⟩)) false ty).run P w = .ok (.tuple #[.bool true, enc p.1, p.2]) w' ∧ RangeK enc w' m r ks (p.1 :: done) ∧ w'.rangeLeft m r < w.rangeLeft m r ∧ w.grownBy w' (some r) ∧ w'.heap.size = w.heap.size ∧
      (Instr.entry (.pointer (some ⟨r, 0, none⟩))).run P w' = .ok (.tuple #[enc p.1, p.2]) w' := by
  obtain ⟨⟨es, clock, since, seen, c0, h1, h2, h3, h4, h5, h6, h7, h8⟩, h9, h10, hne⟩ := h
  have hlen : es.toList.length = ks.length := by have := congrArg List.length h2; simpa using this
  have hat : ∀ (i : Nat) (e : MapEntry), es.toList[i]? = some e → ∃ p, ks[i]? = some p ∧ e.key = enc p.1 ∧ e.val = p.2 := fun i e he => by
    have hi := (List.getElem?_eq_some_iff.1 he).1
    have h := congrArg (fun l => l[i]?) h2
    simp only [List.getElem?_map, he, Option.map_some] at h
    cases hp : ks[i]? with
    | none => rw [hp] at h; cases h
    | some p =>
      rw [hp] at h
      simp at h
      exact ⟨p, rfl, h.1, h.2⟩
  rcases run_next_at (P := P) w ty r m since c0 seen es clock h5 h1 h4 h6 with ⟨h0, hrun⟩ | ⟨e, he, w1, hal, hrun⟩
  · refine .inl ⟨fun p hp => ?_, hrun⟩
    obtain ⟨i, hi, rfl⟩ := List.mem_iff_getElem.1 hp
    have hie : i < es.toList.length := by omega
    have hs := all_seen es seen h0 es.toList[i] (List.getElem_mem hie)
    exact (h8 i _ _ (List.getElem?_eq_getElem hie) (List.getElem?_eq_getElem hi)).1 hs
  · obtain ⟨hem, hes⟩ := mem_left he
    obtain ⟨i, hie, rfl⟩ := List.mem_iff_getElem.1 hem
    obtain ⟨p, hp, hk, hv⟩ := hat i _ (List.getElem?_eq_getElem hie)
    have hr1 : w1.heap[r]? = some (.mapIter (some m) since seen c0) := by rcases hal with rfl | rfl <;> exact h5
    have hm1 : w1.heap[m]? = some (.map es clock) := by rcases hal with rfl | rfl <;> exact h1
    have hset : (Go.ChangeMaps.setBlock w1 r (.mapIter (some m) since (seen.push es.toList[i].born) clock)).heap[r]? = some (.mapIter (some m) since (seen.push es.toList[i].born) clock) ∧ ∀ r', r' ≠ r → (Go.ChangeMaps.setBlock w1 r (.mapIter (some m) since (seen.push es.toList[i].born) clock)).heap[r']? = w1.heap[r']? := MapKept.heap_set hr1
    have hm' := (hset.2 m (fun e1 => hne e1.symm)).trans hm1
    have hnd : p.1 ∉ done := fun hd => by
      have := (h8 i _ _ (List.getElem?_eq_getElem hie) hp).2 hd
      rw [hes] at this
      cases this
    rw [hk, hv] at hrun
    refine .inr ⟨p, List.mem_of_getElem? hp, hnd, _, hrun, ⟨⟨es, clock, since, _, clock, hm', h2, h3, h4, hset.1, h7, h7, ?_⟩, h9, ⟨List.nodup_cons.2 ⟨hnd, h10.1⟩, fun k hk => ?_⟩, hne⟩, ?_, ?_, ?_, ?_⟩
    · intro i' e' p' he' hp'
      rw [contains_push, Bool.or_eq_true, h8 i' e' p' he' hp', List.mem_cons, Or.comm]
      refine or_congr ⟨fun hb => ?_, fun hb => ?_⟩ Iff.rfl
      · have hbe : e'.born = es.toList[i].born := by simpa using hb
        have hi' := (List.getElem?_eq_some_iff.1 he').1
        have : i' = i := by
          refine (List.getElem?_inj (l := es.toList.map (·.born)) (by simpa using hi') h3).1 ?_
          rw [List.getElem?_map, List.getElem?_map, he', List.getElem?_eq_getElem hie, Option.map_some, Option.map_some, hbe]
        subst this
        rw [hp] at hp'
        cases hp'
        rfl
      · have : i' = i := by
          have hi1 := (List.getElem?_eq_some_iff.1 hp').1
          refine (List.getElem?_inj (l := ks.map (·.1)) (by simpa using hi1) h9).1 ?_
          rw [List.getElem?_map, List.getElem?_map, hp', hp, Option.map_some, Option.map_some, hb]
        subst this
        rw [List.getElem?_eq_getElem hie] at he'
        cases he'
        simp
    · rcases List.mem_cons.1 hk with rfl | hk
      · exact List.mem_map_of_mem (List.mem_of_getElem? hp)
      · exact h10.2 k hk
    · simp only [World.rangeLeft, h1, h5, hm', hset.1]
      exact left_shrinks es seen _ he
    · rcases hal with rfl | rfl <;> exact ⟨rfl, rfl, rfl, by simp [Go.ChangeMaps.setBlock], fun i _ hi => hset.2 i (fun e1 => hi (by rw [e1]))⟩
    · rcases hal with rfl | rfl <;> simp [Go.ChangeMaps.setBlock]
    · have := run_entry_at (P := P) _ r m since seen es clock _ hset.1 hm' hem h3
      rw [hk, hv] at this
      exact this
theorem stop_range {dst : Option Tmp} {ty : TypeId} {pos : String} {after : Array Edge} {guard : Option (Nat × Bool)} (t : TypeId) {x : Operand} (h : Parked (wpList P ops Q (⟨dst, .range t x, ty, pos, after, guard⟩ :: rest) a w)) : wpList P ops Q (⟨dst, .range t x, ty, pos, after, guard⟩ :: rest) a w := h
theorem stop_next {dst : Option Tmp} {ty : TypeId} {pos : String} {after : Array Edge} {guard : Option (Nat × Bool)} {x : Operand} {s : Bool} (h : Parked (wpList P ops Q (⟨dst, .next x s, ty, pos, after, guard⟩ :: rest) a w)) : wpList P ops Q (⟨dst, .next x s, ty, pos, after, guard⟩ :: rest) a w := h
theorem wpList_range_key (hgd : Region.wanted o (yielded ops a.tmps) = true) (t : TypeId) (m : Operand) (ho : o.op = .range t m) (et : TypeId) (ht : P.underlying t = some (.map kt et)) (b : Nat) (ks : List (κ × Value)) (hm : a.eval m = .map (some b)) (hM : MapK enc w b ks)
    (h : ∀ w', RangeK enc w' b w.heap.size ks [] → w.grownBy w' none → w'.heap.size = w.heap.size + 1 → wpList P ops Q rest (a.put o.dst (.pointer (some ⟨w.heap.size, 0, none⟩))) w') : wpList P ops Q (o :: rest) a w := by
  refine BigFrame.wpList_want hgd fun K hK => ?_
  obtain ⟨w', hr, h1, h2, h3⟩ := hM.range (P := P) ht
  unfold Oper.wp execOp
  simp only [ho, hm, Sem.run_bind, hr, Result.andThen_ok, Sem.run_pure]
  exact hK _ _ (h w' h1 h2 h3)
theorem wpList_next_key (hgd : Region.wanted o (yielded ops a.tmps) = true) (it : Operand) (ho : o.op = .next it false) (m r : Nat) (ks : List (κ × Value)) (done : List κ) (hit : a.eval it = .pointer (some ⟨r, 0, none⟩)) (hR : RangeK enc w m r ks done)
    (hDone : (∀ p ∈ ks, p.1 ∈ done) → wpList P ops Q rest (a.put o.dst (.tuple #[.bool false])) w)
    (hMore : ∀ p ∈ ks, p.1 ∉ done → ∀ w', RangeK enc w' m r ks (p.1 :: done) → w'.rangeLeft m r < w.rangeLeft m r → w.grownBy w' (some r) → w'.heap.size = w.heap.size → (Instr.entry (.pointer (some ⟨r, 0, none⟩))).run P w' = .ok (.tuple #[enc p.1, p.2]) w' →
      wpList P ops Q rest (a.put o.dst (.tuple #[.bool true, enc p.1, p.2])) w') : wpList P ops Q (o :: rest) a w := by
  refine BigFrame.wpList_want hgd fun K hK => ?_
  unfold Oper.wp execOp
  rcases hR.next (P := P) o.type with ⟨hd, hr⟩ | ⟨p, hp, hn, w', hr, h1, h2, h3, h4, h5⟩
  · simp only [ho, hit, Sem.run_bind, hr, Result.andThen_ok, Sem.run_pure]
    exact hK _ _ (hDone hd)
  · simp only [ho, hit, Sem.run_bind, hr, Result.andThen_ok, Sem.run_pure]
    exact hK _ _ (hMore p hp hn w' h1 h2 h3 h4 h5)
end
end Go.Proofs.YtclgakdfeeefiaaDoor
