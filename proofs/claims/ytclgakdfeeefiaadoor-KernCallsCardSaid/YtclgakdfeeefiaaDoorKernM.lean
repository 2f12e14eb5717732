/- Plans compared; a kernel, and cells beside it. -/
import Derived.Test.YtclgakdfeeefiaaDoorKernC
import Derived.Test.YtclgakdfeeefiaaDoorBoxO
import Derived.Test.YtclgakdfeeefiaaDoorEq
namespace Go.Proofs.YtclgakdfeeefiaaDoor
open Go.RowKit

set_option maxRecDepth 100000 in
theorem pl_equal (w : World) (a b : Pl) : (Op.equalIn 10000 28 (.agg a.cells.toArray) (.agg b.cells.toArray)).run Tryd.prog w = .ok (decide (a = b)) w := by
  obtain ⟨a1, a2, a3⟩ := a
  obtain ⟨b1, b2, b3⟩ := b
  rw [run_equalIn_struct w 9999 28 _ _ (by kernel_rfl) (by kernel_rfl)]
  rw [eq_ints [(3, .i64, 0, a1, b1), (3, .i64, 1, a2, b2), (3, .i64, 2, a3, b3)] _ w (by kernel_rfl) fun x hx => ?_]
  · congr 1
    rw [Bool.eq_iff_iff]
    simp
  · simp only [List.mem_cons, List.not_mem_nil, or_false] at hx
    rcases hx with rfl | rfl | rfl
    all_goals exact ⟨Tryd.underlying3, fun _ => rfl, fun _ => rfl⟩
theorem pl_eql (w : World) (a b : Pl) : (binOp .eql 28 (.agg a.cells.toArray) (.agg b.cells.toArray)).run Tryd.prog w = .ok (.bool (decide (a = b))) w := by
  rw [run_eql_struct, pl_equal]; rfl
theorem pl_guard (op : BinOp) (x y : Operand) (a b : Pl) (w : World) : (eqGuard op 28 x y (.agg a.cells.toArray) (.agg b.cells.toArray)).run Tryd.prog w = .ok () w := run_eqGuard_agg w op _ x y _ _ (by kernel_rfl)

/-- No way has more than so many messages out. -/
def Outs (N : Nat) (st : Sta) : Prop := ∀ e, (st e).1.length ≤ N
section
variable {N n : Nat} {st : Sta} {p : Pl}
theorem outs0 : Outs 0 st0 := fun _ => Nat.le_refl _
theorem Outs.mono {M : Nat} (h : Outs N st) (hM : N ≤ M) : Outs M st := fun e => Nat.le_trans (h e) hM
theorem Outs.upd (h : Outs N st) {M : Nat} (hM : N ≤ M) (e : End) (a b : List Msg) (ha : a.length ≤ M) : Outs M (updE st e (a, b)) := fun x => by
  by_cases hx : x = e
  · subst hx; rw [updE_same]; exact ha
  · rw [updE_other _ _ hx]; exact Nat.le_trans (h x) hM
theorem Outs.send (h : Outs N st) (who to : Int) (m : Msg) (now : Int) : Outs (N + 1) (sendK n p st who to m now).2 := by
  have h1 : Outs (N + 1) st := h.mono (Nat.le_succ _)
  have h2 : ∀ e : End, Outs (N + 1) (if fitsOf e m = true then ((0 : Int), updE st e ((st e).1 ++ [m], (st e).2)) else (10, st)).2 := fun e => by
    split
    · refine h.upd (Nat.le_succ _) _ _ _ ?_
      rw [List.length_append]
      exact Nat.add_le_add_right (h e) 1
    · exact h1
  unfold sendK
  split
  · split
    · split
      · exact h2 _
      · exact h1
    · exact h1
  · exact h1
theorem Outs.out (h : Outs N st) (e : End) : Outs N (outK n st e).2 := by
  unfold outK
  split
  · exact h.upd (Nat.le_refl _) _ _ _ (Nat.zero_le _)
  · exact h
theorem Outs.carry (h : Outs N st) (e : End) (m : Msg) : Outs N (carryK n st e m).2 := by
  unfold carryK
  split
  · exact h.upd (Nat.le_refl _) _ _ _ (h e)
  · exact h
theorem Outs.recv (h : Outs N st) (who q i now : Int) : Outs N (recvK n p st who q i now).2 := by
  unfold recvK
  simp only
  split
  · split
    · exact h.upd (Nat.le_refl _) _ _ _ (h _)
    · exact h
  · exact h
theorem Outs.clear (h : Outs N st) (who : Int) : Outs N (clearK n st who) := fun e => by
  unfold clearK clearE
  simp only
  split
  · exact Nat.zero_le _
  · exact h e
end
/-- A kernel, and cells that are none of its own. -/
def KnL (w0 w : World) (kb n : Nat) (p : Pl) (st : Sta) (L : List (Nat × Obj)) : Prop := ∃ F, Kn w0 w kb F n p st ∧ ∀ x ∈ L, w.heap[x.1]? = some x.2 ∧ ¬ F x.1
section
variable {w0 w w' : World} {kb n : Nat} {p : Pl} {st st' : Sta} {L : List (Nat × Obj)} {f : Nat} {args : Array Value} {P : Ending → Prop}
theorem KnL.step (h : KnL w0 w kb n p st L) (hb : Below w.heap.size w w') : KnL w0 w' kb n p st L := by
  obtain ⟨F, h1, h2⟩ := h
  exact ⟨F, h1.step hb, fun x hx => ⟨(hb.block _ (Array.getElem?_eq_some_iff.1 (h2 x hx).1).1).trans (h2 x hx).1, (h2 x hx).2⟩⟩
theorem KnL.bel (h : KnL w0 w kb n p st L) : Below w0.heap.size w0 w := by
  obtain ⟨F, h1, h2⟩ := h
  exact h1.bel
theorem KnL.at (h : KnL w0 w kb n p st L) {g : Nat} {o : Obj} (hx : (g, o) ∈ L) : w.heap[g]? = some o := by
  obtain ⟨F, h1, h2⟩ := h
  exact (h2 _ hx).1
/-- A cell more is made. -/
theorem KnL.made (h : KnL w0 w kb n p st L) (o : Obj) : KnL w0 (w.alloc o) kb n p st ((w.heap.size, o) :: L) := by
  obtain ⟨F, h1, h2⟩ := (h.step ((Below.refl _ _).alloc (Nat.le_refl _) o) : KnL w0 (w.alloc o) kb n p st L)
  obtain ⟨F', h1', h2'⟩ := h
  refine ⟨F', h1'.step ((Below.refl _ _).alloc (Nat.le_refl _) o), fun x hx => ?_⟩
  rcases List.mem_cons.1 hx with rfl | hx
  · exact ⟨heap_alloc_new w o, fun hf => Nat.lt_irrefl _ (h1'.low _ hf).2⟩
  · exact ⟨(h2 x hx).1, (h2' x hx).2⟩
theorem KnL.call (h : KnL w0 w kb n p st L) (hc : ∀ F, Kn w0 w kb F n p st → Calls Tryd.prog f args w fun e w' => P e ∧ Kn w0 w' kb (grownF F w w') n p st' ∧ Mod F w w') :
    Calls Tryd.prog f args w fun e w' => P e ∧ KnL w0 w' kb n p st' L := by
  obtain ⟨F, h1, h2⟩ := h
  refine (hc F h1).mono ?_
  rintro e w' ⟨hp, hk, hm⟩
  refine ⟨hp, _, hk, fun x hx => ?_⟩
  have hl := (Array.getElem?_eq_some_iff.1 (h2 x hx).1).1
  refine ⟨(hm.block _ hl (h2 x hx).2).trans (h2 x hx).1, ?_⟩
  rintro (hf | hf)
  · exact (h2 x hx).2 hf
  · omega
theorem KnL.ask (h : KnL w0 w kb n p st L) (hc : ∀ F, Kn w0 w kb F n p st → Calls Tryd.prog f args w fun e w' => P e ∧ Below w.heap.size w w') :
    Calls Tryd.prog f args w fun e w' => P e ∧ Below w.heap.size w w' := by
  obtain ⟨F, h1, h2⟩ := h
  exact hc F h1
theorem Send_kl (h : KnL w0 w kb n p st L) {N : Nat} (ho : Outs N st) (hN : N ≤ 1000000) (who to : Int) (m : Msg) (now : Int) : Calls Tryd.prog 15 #[.pointer (some ⟨kb, 0, none⟩), .int .i64 who, .int .i64 to, .agg m.cells.toArray, .int .i64 now] w fun e w' =>
    e = .returned (.int .i64 (sendK n p st who to m now).1) ∧ KnL w0 w' kb n p (sendK n p st who to m now).2 L := h.call fun _ h => Send_kn h (fun e => Nat.le_trans (ho e) hN) who to m now
theorem Carry_kl (h : KnL w0 w kb n p st L) (q : Int) (u : Bool) (m : Msg) : Calls Tryd.prog 17 #[.pointer (some ⟨kb, 0, none⟩), .int .i64 q, .bool u, .agg m.cells.toArray] w fun e w' =>
    e = .returned (.bool (carryK n st (q, dirOf u) m).1) ∧ KnL w0 w' kb n p (carryK n st (q, dirOf u) m).2 L := h.call fun _ h => Carry_kn h q u m
theorem Recv_kl (h : KnL w0 w kb n p st L) (who q i now : Int) : Calls Tryd.prog 16 #[.pointer (some ⟨kb, 0, none⟩), .int .i64 who, .int .i64 q, .int .i64 i, .int .i64 now] w fun e w' =>
    e = .returned (.tuple #[.agg (recvK n p st who q i now).1.1.cells.toArray, .int .i64 (recvK n p st who q i now).1.2]) ∧ KnL w0 w' kb n p (recvK n p st who q i now).2 L := h.call fun _ h => Recv_kn h who q i now
theorem Clear_kl (h : KnL w0 w kb n p st L) (who : Int) : Calls Tryd.prog 26 #[.pointer (some ⟨kb, 0, none⟩), .int .i64 who] w fun e w' => e = .returned (.tuple #[]) ∧ KnL w0 w' kb n p (clearK n st who) L := h.call fun _ h => Clear_kn h who
theorem Out_kl (h : KnL w0 w kb n p st L) (q : Int) (u : Bool) : Calls Tryd.prog 22 #[.pointer (some ⟨kb, 0, none⟩), .int .i64 q, .bool u] w fun e w' =>
    ∃ a c, e = .returned (.slice a (outK n st (q, dirOf u)).1.length c) ∧ Msgs w' a (outK n st (q, dirOf u)).1.length c (outK n st (q, dirOf u)).1 ∧ KnL w0 w' kb n p (outK n st (q, dirOf u)).2 L := by
  obtain ⟨F, h1, h2⟩ := h
  refine (Out_kn h1 q u).mono ?_
  rintro e w' ⟨v, rfl, hv, hg, hk, hm⟩
  obtain ⟨a, k, c, rfl, hms, -⟩ := hv.msgs
  have hl := hms.len
  subst hl
  refine ⟨a, c, rfl, hms, _, hk, fun x hx => ?_⟩
  have hl := (Array.getElem?_eq_some_iff.1 (h2 x hx).1).1
  refine ⟨(hm.block _ hl (h2 x hx).2).trans (h2 x hx).1, ?_⟩
  rintro (hf | hf)
  · exact (h2 x hx).2 hf
  · omega
theorem Label_kl (h : KnL w0 w kb n p st L) (q : Int) : Calls Tryd.prog 12 #[.pointer (some ⟨kb, 0, none⟩), .int .i64 q] w fun e w' => e = .returned (.agg (labelOf n q).cells.toArray) ∧ Below w.heap.size w w' := h.ask fun _ h => Label_kn h q
theorem Plan_kl (h : KnL w0 w kb n p st L) : Calls Tryd.prog 34 #[.pointer (some ⟨kb, 0, none⟩)] w fun e w' => e = .returned (.agg p.cells.toArray) ∧ Below w.heap.size w w' := h.ask fun _ h => Plan_kn h
theorem Flow_kl (h : KnL w0 w kb n p st L) (a b : Int) : Calls Tryd.prog 11 #[.pointer (some ⟨kb, 0, none⟩), .int .i64 a, .int .i64 b] w fun e w' => e = .returned (.bool (flowOf n a b)) ∧ Below w.heap.size w w' := h.ask fun _ h => Flow_kn h a b
theorem Box_kl (h : KnL w0 w kb n p st L) (q : Int) (u : Bool) : Calls Tryd.prog 19 #[.pointer (some ⟨kb, 0, none⟩), .int .i64 q, .bool u] w fun e w' =>
    ∃ v, e = .returned v ∧ MOwn w' w.heap.size v (boxK n st (q, dirOf u)) ∧ Below w.heap.size w w' := by
  obtain ⟨F, h1, h2⟩ := h
  exact Box_kn h1 q u
theorem New_kl (hw : Below w0.heap.size w0 w) (hT : TabOk w) (h0 : 0 < w.heap.size) (p : Pl) (hp : p.good) {n : Nat} (hn : p.parts = (n : Int)) {L : List (Nat × Obj)} (hL : ∀ x ∈ L, w.heap[x.1]? = some x.2) : Calls Tryd.prog 10 #[.agg p.cells.toArray] w fun e w' =>
    ∃ kb, e = .returned (.tuple #[.pointer (some ⟨kb, 0, none⟩), .int .i64 0]) ∧ KnL w0 w' kb n p st0 L ∧ Below w.heap.size w w' := by
  refine (New_kn hw hT h0 p hp hn).mono ?_
  rintro e w' ⟨kb, F, rfl, hk, hf, hb⟩
  refine ⟨kb, rfl, ⟨F, hk, fun x hx => ?_⟩, hb⟩
  have hl := (Array.getElem?_eq_some_iff.1 (hL x hx)).1
  exact ⟨(hb.block _ hl).trans (hL x hx), fun h => by have := hf _ h; omega⟩
end
end Go.Proofs.YtclgakdfeeefiaaDoor
