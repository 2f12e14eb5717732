/- Kernels: ends of ways, labels; what a kernel is in memory. -/
import Derived.Test.YtclgakdfeeefiaaDoorKern1
import Derived.Test.YtclgakdfeeefiaaDoorKeyed
import Derived.Laws.StructEq
namespace Go.Proofs.YtclgakdfeeefiaaDoor
open Go.RowKit

/-- A way's end: its part; 1: up. -/
abbrev End := Int × Int
def endV (k : End) : Value := .agg #[.int .i64 k.1, .int .i64 k.2]
theorem end_ck (b : Bool) (k : End) (w : World) : (Instr.checkKey b 10000 84 (endV k)).run Tryd.prog w = .ok () w := by
  obtain ⟨p, u⟩ := k
  kernel_rfl
set_option maxRecDepth 100000 in
theorem end_eq (k k' : End) (w : World) : (Op.equal 84 (endV k) (endV k')).run Tryd.prog w = .ok (decide (k = k')) w := by
  obtain ⟨p, u⟩ := k
  obtain ⟨p', u'⟩ := k'
  show (Op.equalIn 10000 84 (.agg #[.int .i64 p, .int .i64 u]) (.agg #[.int .i64 p', .int .i64 u'])).run Tryd.prog w = _
  rw [run_equalIn_struct w 9999 84 _ _ (by kernel_rfl) (by kernel_rfl)]
  have hl : ((Tryd.prog.fieldsOf 84).toList).map (fun f => (f.name != "_", f.type, f.offset)) = [(true, 3, 0), (true, 75, 1)] := by kernel_rfl
  generalize (Tryd.prog.fieldsOf 84).toList = fs at hl
  obtain ⟨f0, fs, rfl, h0, hl⟩ := List.map_eq_cons_iff.1 hl
  obtain ⟨f1, fs, rfl, h1, hl⟩ := List.map_eq_cons_iff.1 hl
  obtain rfl := List.map_eq_nil_iff.1 hl
  simp only [Prod.mk.injEq, bne_iff_ne, ne_eq] at h0 h1
  obtain ⟨n0, t0, o0⟩ := h0
  obtain ⟨n1, t1, o1⟩ := h1
  have hp0 : ∀ (x v : Int) (w : World), (part 3 #[.int .i64 x, .int .i64 v] 0).run Tryd.prog w = .ok (.int .i64 x) w := fun _ _ _ => rfl
  have hp1 : ∀ (x v : Int) (w : World), (part 75 #[.int .i64 x, .int .i64 v] 1).run Tryd.prog w = .ok (.int .i64 v) w := fun _ _ _ => rfl
  have he := fun (w : World) (a b : Int) => run_equalIn_int (P := Tryd.prog) w 9998 3 .i64 .i64 a b Tryd.underlying3
  have hd := fun (w : World) (a b : Int) => run_equalIn_int (P := Tryd.prog) w 9998 75 .i64 .i64 a b Tryd.underlying75
  by_cases h1 : p = p' <;> by_cases h2 : u = u' <;> simp [Op.eqFields, n0, n1, t0, t1, o0, o1, hp0, hp1, he, hd, h1, h2]
theorem endLaw : KeyLaw Tryd.prog 84 endV where
  ck := end_ck
  eq := end_eq
  desc := ⟨_, Tryd.underlying84, fun _ _ => rfl⟩
section
variable {κ : Type} [DecidableEq κ] {enc : κ → Value} {P : Program} {kt : TypeId}
theorem MapK.look {w : World} {m : Nat} {ks : List (κ × Value)} (h : MapK enc w m ks) (L : KeyLaw P kt enc) {t et : TypeId} (ht : P.underlying t = some (.map kt et)) {z : Value} (hz : (zeroValue et).run P w = .ok z w) (k : κ) :
    (Instr.lookup t (.map (some m)) (enc k) false).run P w = .ok ((valOf ks k).getD z) w := by
  obtain ⟨⟨es, clock, h1, h2, _⟩, _⟩ := h
  have hf := run_findKeyed L k (w := w) h2
  unfold valOf
  cases ha : askedAt k ks 0 with
  | none =>
    rw [ha] at hf
    simp [Instr.lookup, run_underlying ht, MapKept.run_getObj_map h1, L.ck, hf, hz, Result.andThen]
  | some r =>
    rw [ha] at hf
    simp [Instr.lookup, run_underlying ht, MapKept.run_getObj_map h1, L.ck, hf, Result.andThen]
variable {ops : Array Oper} {rest : List Oper} {o : Oper} {a : Act} {w : World} {Q : Exit → Act → World → Prop}
theorem wpList_look_key (hgd : Region.wanted o (yielded ops a.tmps) = true) (L : KeyLaw P kt enc) (t : TypeId) (m x : Operand) (ho : o.op = .lookup t m x false) (b : Nat) (ks : List (κ × Value)) (hM : MapK enc w b ks) (k : κ)
    (hm : a.eval m = .map (some b)) (hx : a.eval x = enc k) (et : TypeId) (ht : P.underlying t = some (.map kt et)) (z : Value) (hz : (zeroValue et).run P w = .ok z w)
    (h : wpList P ops Q rest (a.put o.dst ((valOf ks k).getD z)) w) : wpList P ops Q (o :: rest) a w := by
  refine BigFrame.wpList_want hgd fun K hK => ?_
  have hr := hM.look L ht hz k
  unfold Oper.wp execOp
  simp only [ho, hm, hx, Sem.run_bind, hr, Result.andThen_ok, Sem.run_pure]
  exact hK _ _ h
end
/-- Who's label; n parts there are. -/
def labOf (n : Nat) (q : Int) : Label := if q = (n : Int) then (((allOf n : Nat) : Int), 0) else (((2 ^ q.toNat : Nat) : Int), 0)
def labF : Fmt Label := ⟨Label.cells, 2, fun _ => rfl, by decide, fun x u hu => by
  simp [Label.cells] at hu
  rcases hu with rfl | rfl <;> rfl⟩
def labs (n : Nat) : List Label := (List.range (n + 1)).map fun (j : Nat) => labOf n (j : Int)
/-- Is an end one of a part that there is? -/
def Inside (n : Nat) (e : End) : Prop := 0 ≤ e.1 ∧ e.1 < (n : Int) ∧ (e.2 = 0 ∨ e.2 = 1)
instance (n : Nat) (e : End) : Decidable (Inside n e) := inferInstanceAs (Decidable (_ ∧ _ ∧ _))
def ptrs (ws : List (End × Nat)) : List (End × Value) := ws.map fun q => (q.1, .pointer (some ⟨q.2, 0, none⟩))
/-- A way, whose blocks are those of F: what is out, and the box at its end. -/
structure Way (w0 w : World) (b : Nat) (F : Nat → Prop) (l : Label) (os ms : List Msg) : Prop where
  is : ∃ ov xb Fb, w.heap[b]? = some (.cells #[ov, .pointer (some ⟨xb, 0, none⟩)] 82 (0, 0)) ∧ MOwn w w0.heap.size ov os ∧ Bx w0 w xb Fb l 8 ms ∧
    (∀ k, Fb k → F k) ∧ F b ∧ (∀ g, ov.ownBlock = some g → F g ∧ ¬ Fb g ∧ g ≠ b) ∧ ¬ Fb b
  low : ∀ k, F k → w0.heap.size ≤ k ∧ k < w.heap.size
section
variable {w0 w w' : World} {b : Nat} {F : Nat → Prop} {l : Label} {os ms : List Msg}
theorem Way.step (h : Way w0 w b F l os ms) (hb : Below w.heap.size w w') : Way w0 w' b F l os ms where
  is := by
    obtain ⟨ov, xb, Fb, h1, h2, h3, h4⟩ := h.is
    exact ⟨ov, xb, Fb, (hb.block _ (Array.getElem?_eq_some_iff.1 h1).1).trans h1, h2.keep fun g _ hl => hb.block g hl, h3.step hb, h4⟩
  low := fun k hk => ⟨(h.low k hk).1, Nat.lt_of_lt_of_le (h.low k hk).2 hb.size⟩
theorem Way.aside {G : Nat → Prop} (h : Way w0 w b F l os ms) (hm : Mod G w w') (ha : ∀ k, F k → ¬ G k) (hG : ∀ k, G k → w0.heap.size ≤ k) : Way w0 w' b F l os ms where
  is := by
    obtain ⟨ov, xb, Fb, h1, h2, h3, h4, h5, h6, h7⟩ := h.is
    exact ⟨ov, xb, Fb, (hm.block _ (Array.getElem?_eq_some_iff.1 h1).1 (ha b h5)).trans h1, h2.keep fun g hg hl => hm.block g hl (ha g (h6 g hg).1), h3.aside hm (fun k hk => ha k (h4 k hk)) hG, h4, h5, h6, h7⟩
  low := fun k hk => ⟨(h.low k hk).1, Nat.lt_of_lt_of_le (h.low k hk).2 hm.size⟩
end
def updE {α : Type} (f : End → α) (e : End) (v : α) : End → α := fun x => if x = e then v else f x
theorem updE_same {α : Type} (f : End → α) (e : End) (v : α) : updE f e v e = v := if_pos rfl
theorem updE_other {α : Type} (f : End → α) {e x : End} (v : α) (h : x ≠ e) : updE f e v x = f x := if_neg h
/-- What changes of a kernel's blocks. -/
def KF (FW : End → Nat → Prop) (k : Nat) : Prop := ∃ e, FW e k
structure KnAt (w0 w : World) (kb gb tb tc mb n : Nat) (ws : List (End × Nat)) (FW : End → Nat → Prop) (p : Pl) (st : End → List Msg × List Msg) : Prop where
  root : w.heap[kb]? = some (.cells #[.int .i64 p.parts, .int .i64 p.window, .int .i64 p.delay, .pointer (some ⟨gb, 0, none⟩), .slice (some ⟨tb, 0, none⟩) (n + 1) tc, .int .u64 (allOf n : Nat), .map (some mb)] 67 (0, 0))
  gate : GateAt w gb (allOf n : Nat)
  tags : Recs labF w (some ⟨tb, 0, none⟩) (n + 1) tc (labs n)
  map : MapK endV w mb (ptrs ws)
  dom : ∀ e, Inside n e ↔ ∃ b, (e, b) ∈ ws
  way : ∀ q ∈ ws, Way w0 w q.2 (FW q.1) (labOf n q.1.1) (st q.1).1 (st q.1).2
  off : ∀ e k, FW e k → Inside n e
  apart : ∀ e e' k, e ≠ e' → FW e k → ¬ FW e' k
  own : ∀ e k, FW e k → k ≠ kb ∧ k ≠ gb ∧ k ≠ tb ∧ k ≠ mb
  low : w0.heap.size ≤ kb ∧ w0.heap.size ≤ gb ∧ w0.heap.size ≤ tb ∧ w0.heap.size ≤ mb
  good : p.good
  num : p.parts = (n : Int)
  bel : Below w0.heap.size w0 w
section
variable {w0 w w' : World} {kb gb tb tc mb n : Nat} {ws : List (End × Nat)} {FW : End → Nat → Prop} {p : Pl} {st : End → List Msg × List Msg}
theorem KnAt.lt (h : KnAt w0 w kb gb tb tc mb n ws FW p st) : kb < w.heap.size ∧ gb < w.heap.size ∧ tb < w.heap.size ∧ mb < w.heap.size :=
  ⟨(Array.getElem?_eq_some_iff.1 h.root).1, h.gate.lt, h.tags.block tb 0 (Nat.succ_pos n) rfl, h.map.lt⟩
theorem KnAt.flow (h : KnAt w0 w kb gb tb tc mb n ws FW p st) {e : End} {k : Nat} (hk : FW e k) : w0.heap.size ≤ k ∧ k < w.heap.size := by
  obtain ⟨b, hb⟩ := (h.dom e).1 (h.off e k hk)
  exact (h.way _ hb).low k hk
theorem KnAt.six (h : KnAt w0 w kb gb tb tc mb n ws FW p st) : 1 ≤ n ∧ n ≤ 6 := by
  obtain ⟨h1, h2, -⟩ := h.good
  have := h.num
  omega
theorem KnAt.step (h : KnAt w0 w kb gb tb tc mb n ws FW p st) (hb : Below w.heap.size w w') : KnAt w0 w' kb gb tb tc mb n ws FW p st where
  root := (hb.block _ h.lt.1).trans h.root
  gate := h.gate.keep (hb.block _ h.lt.2.1)
  tags := h.tags.keep hb
  map := h.map.keep (hb.block _ h.lt.2.2.2)
  dom := h.dom
  way := fun q hq => (h.way q hq).step hb
  off := h.off
  apart := h.apart
  own := h.own
  low := h.low
  good := h.good
  num := h.num
  bel := h.bel.trans (hb.mono h.bel.size)
/-- The blocks of a kernel. -/
def KA (kb gb tb mb : Nat) (FW : End → Nat → Prop) (k : Nat) : Prop := (k = kb ∨ k = gb ∨ k = tb ∨ k = mb) ∨ KF FW k
theorem KnAt.aside {G : Nat → Prop} (h : KnAt w0 w kb gb tb tc mb n ws FW p st) (hm : Mod G w w') (ha : ∀ k, KA kb gb tb mb FW k → ¬ G k) (hG : ∀ k, G k → w0.heap.size ≤ k) : KnAt w0 w' kb gb tb tc mb n ws FW p st where
  root := (hm.block _ h.lt.1 (ha kb (.inl (.inl rfl)))).trans h.root
  gate := h.gate.keep (hm.block _ h.lt.2.1 (ha gb (.inl (.inr (.inl rfl)))))
  tags := h.tags.keepPos fun b o _ e hl => by cases e; exact hm.block _ hl (ha _ (.inl (.inr (.inr (.inl rfl)))))
  map := h.map.keep (hm.block _ h.lt.2.2.2 (ha mb (.inl (.inr (.inr (.inr rfl))))))
  dom := h.dom
  way := fun q hq => (h.way q hq).aside hm (fun k hk => ha k (.inr ⟨_, hk⟩)) hG
  off := h.off
  apart := h.apart
  own := h.own
  low := h.low
  good := h.good
  num := h.num
  bel := hm.below h.bel h.bel.size hG
/-- One way has turned. -/
theorem KnAt.set (h : KnAt w0 w kb gb tb tc mb n ws FW p st) {e : End} {b : Nat} (he : (e, b) ∈ ws) {os ms : List Msg} (hw : Way w0 w' b (grownF (FW e) w w') (labOf n e.1) os ms) (hm : Mod (FW e) w w') :
    KnAt w0 w' kb gb tb tc mb n ws (updE FW e (grownF (FW e) w w')) p (updE st e (os, ms)) ∧ Mod (KF FW) w w' ∧ ∀ k, KF (updE FW e (grownF (FW e) w w')) k → grownF (KF FW) w w' k := by
  have hG : ∀ k, FW e k → w0.heap.size ≤ k := fun k hk => (h.flow hk).1
  have hu : ∀ b', (e, b') ∈ ws → b' = b := fun b' hb' => by
    have hn := h.map.once
    have m1 : (e, Value.pointer (some ⟨b', 0, none⟩)) ∈ ptrs ws := List.mem_map.2 ⟨_, hb', rfl⟩
    have m2 : (e, Value.pointer (some ⟨b, 0, none⟩)) ∈ ptrs ws := List.mem_map.2 ⟨_, he, rfl⟩
    have e1 := valOf_mem hn m1
    have e2 := valOf_mem hn m2
    simp only at e1 e2
    rw [e1] at e2
    cases e2
    rfl
  have hgr : ∀ e' k, updE FW e (grownF (FW e) w w') e' k → FW e' k ∨ (e' = e ∧ w.heap.size ≤ k ∧ k < w'.heap.size) := fun e' k hk => by
    by_cases hee : e' = e
    · subst hee
      rw [updE_same] at hk
      exact hk.elim .inl fun hk => .inr ⟨rfl, hk⟩
    · rw [updE_other _ _ hee] at hk
      exact .inl hk
  refine ⟨⟨?_, ?_, ?_, ?_, h.dom, ?_, ?_, ?_, ?_, h.low, h.good, h.num, hm.below h.bel h.bel.size hG⟩, hm.mono fun k hk => ⟨e, hk⟩, ?_⟩
  · exact (hm.block _ h.lt.1 fun hk => (h.own e _ hk).1 rfl).trans h.root
  · exact h.gate.keep (hm.block _ h.lt.2.1 fun hk => (h.own e _ hk).2.1 rfl)
  · exact h.tags.keepPos fun b o _ e' hl => by cases e'; exact hm.block _ hl fun hk => (h.own e _ hk).2.2.1 rfl
  · exact h.map.keep (hm.block _ h.lt.2.2.2 fun hk => (h.own e _ hk).2.2.2 rfl)
  · rintro ⟨e', b'⟩ hq
    by_cases hee : e' = e
    · subst hee
      obtain rfl := hu b' hq
      show Way w0 w' b' (updE FW e' _ e') _ (updE st e' _ e').1 (updE st e' _ e').2
      rw [updE_same, updE_same]
      exact hw
    · show Way w0 w' b' (updE FW e _ e') _ (updE st e _ e').1 (updE st e _ e').2
      rw [updE_other _ _ hee, updE_other _ _ hee]
      exact (h.way _ hq).aside hm (fun k hk hk' => h.apart _ _ k hee hk hk') hG
  · intro e' k hk
    rcases hgr e' k hk with hk | ⟨rfl, -⟩
    · exact h.off e' k hk
    · exact (h.dom _).2 ⟨b, he⟩
  · intro e1 e2 k hne h1 h2
    have a1 := hgr e1 k h1
    have a2 := hgr e2 k h2
    clear h1 h2
    rcases a1 with b1 | ⟨c1, b1, -⟩
    · rcases a2 with b2 | ⟨-, b2, -⟩
      · exact h.apart e1 e2 k hne b1 b2
      · have := (h.flow b1).2; omega
    · rcases a2 with b2 | ⟨c2, -, -⟩
      · have := (h.flow b2).2; omega
      · exact hne (c1.trans c2.symm)
  · intro e' k hk
    rcases hgr e' k hk with hk | ⟨-, hk, -⟩
    · exact h.own e' k hk
    · have := h.lt
      omega
  · rintro k ⟨e', hk⟩
    rcases hgr e' k hk with hk | ⟨-, hk⟩
    · exact .inl ⟨e', hk⟩
    · exact .inr hk
end
end Go.Proofs.YtclgakdfeeefiaaDoor
