/- Kernels within a law. -/
import Derived.Test.YtclgakdfeeefiaaDoorKernB
namespace Go.Proofs.YtclgakdfeeefiaaDoor
open Go.RowKit

theorem Bx.base {w1 w0 w : World} {b : Nat} {F : Nat → Prop} {l : Label} {r : Nat} {ms : List Msg} (h : Bx w1 w b F l r ms) (hb : Below w0.heap.size w0 w1) : Bx w0 w b F l r ms where
  box := by
    obtain ⟨mv, h1, h2⟩ := h.box
    exact ⟨mv, h1.mono hb.size, h2⟩
  low := fun k hk => ⟨Nat.le_trans hb.size (h.low k hk).1, (h.low k hk).2⟩
  bel := hb.trans (h.bel.mono hb.size)
theorem Way.base {w1 w0 w : World} {b : Nat} {F : Nat → Prop} {l : Label} {os ms : List Msg} (h : Way w1 w b F l os ms) (hb : Below w0.heap.size w0 w1) : Way w0 w b F l os ms where
  is := by
    obtain ⟨ov, xb, Fb, h1, h2, h3, h4⟩ := h.is
    exact ⟨ov, xb, Fb, h1, h2.mono hb.size, h3.base hb, h4⟩
  low := fun k hk => ⟨Nat.le_trans hb.size (h.low k hk).1, (h.low k hk).2⟩
theorem KnAt.base {w1 w0 w : World} {kb gb tb tc mb n : Nat} {ws : List (End × Nat)} {FW : End → Nat → Prop} {p : Pl} {st : End → List Msg × List Msg} (h : KnAt w1 w kb gb tb tc mb n ws FW p st) (hb : Below w0.heap.size w0 w1) : KnAt w0 w kb gb tb tc mb n ws FW p st :=
  ⟨h.root, h.gate, h.tags, h.map, h.dom, fun q hq => (h.way q hq).base hb, h.off, h.apart, h.own, ⟨Nat.le_trans hb.size h.low.1, Nat.le_trans hb.size h.low.2.1, Nat.le_trans hb.size h.low.2.2.1, Nat.le_trans hb.size h.low.2.2.2⟩, h.good, h.num, hb.trans (h.bel.mono hb.size)⟩
abbrev Sta := End → List Msg × List Msg
def st0 : Sta := fun _ => ([], [])
/-- A kernel within a law: its blocks are those of F. -/
structure Kn (w0 w : World) (kb : Nat) (F : Nat → Prop) (n : Nat) (p : Pl) (st : Sta) : Prop where
  is : ∃ gb tb tc mb ws FW, KnAt w0 w kb gb tb tc mb n ws FW p st ∧ ∀ k, KA kb gb tb mb FW k → F k
  low : ∀ k, F k → w0.heap.size ≤ k ∧ k < w.heap.size
  bel : Below w0.heap.size w0 w
  six : 1 ≤ n ∧ n ≤ 6
  good : p.good
  num : p.parts = (n : Int)
/-- What is told of what is out, and what the ways are then. -/
def outK (n : Nat) (st : Sta) (e : End) : List Msg × Sta := if Inside n e then ((st e).1, updE st e ([], (st e).2)) else ([], st)
def boxK (n : Nat) (st : Sta) (e : End) : List Msg := if Inside n e then (st e).2 else []
section
variable {w0 w w' : World} {kb n : Nat} {F : Nat → Prop} {p : Pl} {st st' : Sta}
theorem Kn.step (h : Kn w0 w kb F n p st) (hb : Below w.heap.size w w') : Kn w0 w' kb F n p st where
  is := by
    obtain ⟨gb, tb, tc, mb, ws, FW, h1, h2⟩ := h.is
    exact ⟨gb, tb, tc, mb, ws, FW, h1.step hb, h2⟩
  low := fun k hk => ⟨(h.low k hk).1, Nat.lt_of_lt_of_le (h.low k hk).2 hb.size⟩
  bel := h.bel.trans (hb.mono h.bel.size)
  six := h.six
  good := h.good
  num := h.num
theorem Kn.aside {G : Nat → Prop} (h : Kn w0 w kb F n p st) (hm : Mod G w w') (ha : ∀ k, F k → ¬ G k) (hG : ∀ k, G k → w0.heap.size ≤ k) : Kn w0 w' kb F n p st where
  is := by
    obtain ⟨gb, tb, tc, mb, ws, FW, h1, h2⟩ := h.is
    exact ⟨gb, tb, tc, mb, ws, FW, h1.aside hm (fun k hk => ha k (h2 k hk)) hG, h2⟩
  low := fun k hk => ⟨(h.low k hk).1, Nat.lt_of_lt_of_le (h.low k hk).2 hm.size⟩
  bel := hm.below h.bel h.bel.size hG
  six := h.six
  good := h.good
  num := h.num
theorem Kn.after {gb tb tc mb : Nat} {ws : List (End × Nat)} {FW : End → Nat → Prop} (h : Kn w0 w kb F n p st) (h2 : ∀ k, KA kb gb tb mb FW k → F k) (hn : KnNext w0 w w' kb gb tb tc mb n ws FW p st') : Kn w0 w' kb (grownF F w w') n p st' ∧ Mod F w w' := by
  obtain ⟨FW', k1, k2, k3⟩ := hn
  have hm : Mod F w w' := k2.mono fun k hk => h2 k (.inr hk)
  refine ⟨⟨⟨gb, tb, tc, mb, ws, FW', k1, ?_⟩, ?_, k1.bel, h.six, h.good, h.num⟩, hm⟩
  · rintro k (hk | hk)
    · exact .inl (h2 k (.inl hk))
    · rcases k3 k hk with hk | hk
      · exact .inl (h2 k (.inr hk))
      · exact .inr hk
  · rintro k (hk | hk)
    · exact ⟨(h.low k hk).1, Nat.lt_of_lt_of_le (h.low k hk).2 hm.size⟩
    · exact ⟨Nat.le_trans h.bel.size hk.1, hk.2⟩
theorem KnAt.kn {gb tb tc mb : Nat} {ws : List (End × Nat)} {FW : End → Nat → Prop} (h : KnAt w0 w kb gb tb tc mb n ws FW p st) : Kn w0 w kb (KA kb gb tb mb FW) n p st := by
  have hl := h.lt
  refine ⟨⟨gb, tb, tc, mb, ws, FW, h, fun _ h => h⟩, ?_, h.bel, h.six, h.good, h.num⟩
  rintro k ((rfl | rfl | rfl | rfl) | ⟨e, hk⟩)
  · exact ⟨h.low.1, hl.1⟩
  · exact ⟨h.low.2.1, hl.2.1⟩
  · exact ⟨h.low.2.2.1, hl.2.2.1⟩
  · exact ⟨h.low.2.2.2, hl.2.2.2⟩
  · exact h.flow hk
theorem New_kn (hw : Below w0.heap.size w0 w) (hT : TabOk w) (h0 : 0 < w.heap.size) (p : Pl) (hp : p.good) {n : Nat} (hn : p.parts = (n : Int)) : Calls Tryd.prog 10 #[.agg p.cells.toArray] w fun e w' =>
    ∃ kb F, e = .returned (.tuple #[.pointer (some ⟨kb, 0, none⟩), .int .i64 0]) ∧ Kn w0 w' kb F n p st0 ∧ (∀ k, F k → w.heap.size ≤ k) ∧ Below w.heap.size w w' := by
  refine (New_kgood hT h0 p hp hn).mono ?_
  rintro e w' ⟨kb, gb, tb, tc, mb, ws, FW, rfl, h⟩
  refine ⟨kb, KA kb gb tb mb FW, rfl, (h.base hw).kn, fun k hk => (h.kn.low k hk).1, h.bel⟩
theorem Gate_kn (h : Kn w0 w kb F n p st) : Calls Tryd.prog 13 #[.pointer (some ⟨kb, 0, none⟩)] w fun e w' => ∃ gb, e = .returned (.pointer (some ⟨gb, 0, none⟩)) ∧ GateAt w gb (allOf n : Nat) ∧ w = w' := by
  obtain ⟨gb, tb, tc, mb, ws, FW, h1, h2⟩ := h.is
  refine (Gate_calls h1).mono ?_
  rintro e w' ⟨rfl, rfl⟩
  exact ⟨gb, rfl, h1.gate, rfl⟩
theorem Plan_kn (h : Kn w0 w kb F n p st) : Calls Tryd.prog 34 #[.pointer (some ⟨kb, 0, none⟩)] w fun e w' => e = .returned (.agg p.cells.toArray) ∧ Below w.heap.size w w' := by
  obtain ⟨gb, tb, tc, mb, ws, FW, h1, h2⟩ := h.is
  exact Plan_calls h1
theorem Label_kn (h : Kn w0 w kb F n p st) (q : Int) : Calls Tryd.prog 12 #[.pointer (some ⟨kb, 0, none⟩), .int .i64 q] w fun e w' => e = .returned (.agg (labelOf n q).cells.toArray) ∧ Below w.heap.size w w' := by
  obtain ⟨gb, tb, tc, mb, ws, FW, h1, h2⟩ := h.is
  exact Label_calls' h1 q
theorem Flow_kn (h : Kn w0 w kb F n p st) (a b : Int) : Calls Tryd.prog 11 #[.pointer (some ⟨kb, 0, none⟩), .int .i64 a, .int .i64 b] w fun e w' => e = .returned (.bool (flowOf n a b)) ∧ Below w.heap.size w w' := by
  obtain ⟨gb, tb, tc, mb, ws, FW, h1, h2⟩ := h.is
  exact Flow_calls h1 a b
theorem Send_kn (h : Kn w0 w kb F n p st) (hbd : ∀ e, (st e).1.length ≤ 1000000) (who to : Int) (m : Msg) (now : Int) : Calls Tryd.prog 15 #[.pointer (some ⟨kb, 0, none⟩), .int .i64 who, .int .i64 to, .agg m.cells.toArray, .int .i64 now] w fun e w' =>
    e = .returned (.int .i64 (sendK n p st who to m now).1) ∧ Kn w0 w' kb (grownF F w w') n p (sendK n p st who to m now).2 ∧ Mod F w w' := by
  obtain ⟨gb, tb, tc, mb, ws, FW, h1, h2⟩ := h.is
  refine (Send_calls h1 hbd who to m now).mono ?_
  rintro e w' ⟨rfl, hn⟩
  exact ⟨rfl, h.after h2 hn⟩
theorem Out_kn (h : Kn w0 w kb F n p st) (q : Int) (u : Bool) : Calls Tryd.prog 22 #[.pointer (some ⟨kb, 0, none⟩), .int .i64 q, .bool u] w fun e w' =>
    ∃ v, e = .returned v ∧ MOwn w' w0.heap.size v (outK n st (q, dirOf u)).1 ∧ (∀ g, v.ownBlock = some g → F g) ∧ Kn w0 w' kb (grownF F w w') n p (outK n st (q, dirOf u)).2 ∧ Mod F w w' := by
  obtain ⟨gb, tb, tc, mb, ws, FW, h1, h2⟩ := h.is
  unfold outK
  by_cases hi : Inside n (q, dirOf u)
  · rw [if_pos hi]
    obtain ⟨b, he⟩ := (h1.dom _).1 hi
    refine (Out_yes h1 he).mono ?_
    rintro e w' ⟨v, rfl, hv, hg, hn⟩
    exact ⟨v, rfl, hv, fun g hg' => h2 g (.inr (hg g hg')), h.after h2 hn⟩
  · rw [if_neg hi]
    refine (Out_no h1 q u hi).mono ?_
    rintro e w' ⟨rfl, hb⟩
    exact ⟨_, rfl, MOwn.nil _ _, (fun g hg => by cases hg), h.after h2 (KnNext.below h1 hb)⟩
theorem Carry_kn (h : Kn w0 w kb F n p st) (q : Int) (u : Bool) (m : Msg) : Calls Tryd.prog 17 #[.pointer (some ⟨kb, 0, none⟩), .int .i64 q, .bool u, .agg m.cells.toArray] w fun e w' =>
    e = .returned (.bool (carryK n st (q, dirOf u) m).1) ∧ Kn w0 w' kb (grownF F w w') n p (carryK n st (q, dirOf u) m).2 ∧ Mod F w w' := by
  obtain ⟨gb, tb, tc, mb, ws, FW, h1, h2⟩ := h.is
  refine (Carry_calls h1 q u m).mono ?_
  rintro e w' ⟨rfl, hn⟩
  exact ⟨rfl, h.after h2 hn⟩
theorem Recv_kn (h : Kn w0 w kb F n p st) (who q i now : Int) : Calls Tryd.prog 16 #[.pointer (some ⟨kb, 0, none⟩), .int .i64 who, .int .i64 q, .int .i64 i, .int .i64 now] w fun e w' =>
    e = .returned (.tuple #[.agg (recvK n p st who q i now).1.1.cells.toArray, .int .i64 (recvK n p st who q i now).1.2]) ∧ Kn w0 w' kb (grownF F w w') n p (recvK n p st who q i now).2 ∧ Mod F w w' := by
  obtain ⟨gb, tb, tc, mb, ws, FW, h1, h2⟩ := h.is
  refine (Recv_calls h1 who q i now).mono ?_
  rintro e w' ⟨rfl, hn⟩
  exact ⟨rfl, h.after h2 hn⟩
theorem Box_kn (h : Kn w0 w kb F n p st) (q : Int) (u : Bool) : Calls Tryd.prog 19 #[.pointer (some ⟨kb, 0, none⟩), .int .i64 q, .bool u] w fun e w' =>
    ∃ v, e = .returned v ∧ MOwn w' w.heap.size v (boxK n st (q, dirOf u)) ∧ Below w.heap.size w w' := by
  obtain ⟨gb, tb, tc, mb, ws, FW, h1, h2⟩ := h.is
  unfold boxK
  by_cases hi : Inside n (q, dirOf u)
  · rw [if_pos hi]
    obtain ⟨b, he⟩ := (h1.dom _).1 hi
    exact Box_yes h1 he
  · rw [if_neg hi]
    refine (Box_no h1 q u hi).mono ?_
    rintro e w' ⟨rfl, hb⟩
    exact ⟨_, rfl, MOwn.nil _ _, hb⟩
theorem Clear_kn (h : Kn w0 w kb F n p st) (who : Int) : Calls Tryd.prog 26 #[.pointer (some ⟨kb, 0, none⟩), .int .i64 who] w fun e w' => e = .returned (.tuple #[]) ∧ Kn w0 w' kb (grownF F w w') n p (clearK n st who) ∧ Mod F w w' := by
  obtain ⟨gb, tb, tc, mb, ws, FW, h1, h2⟩ := h.is
  refine (kClear_calls h1 who).mono ?_
  rintro e w' ⟨rfl, hn⟩
  exact ⟨rfl, h.after h2 hn⟩
theorem Kn.small (h : Kn w0 w kb F n p st) {e : End} (he : Inside n e) : (st e).2.length ≤ 8 := by
  obtain ⟨gb, tb, tc, mb, ws, FW, h1, h2⟩ := h.is
  obtain ⟨b, hb⟩ := (h1.dom e).1 he
  obtain ⟨ov, xb, Fb, -, h3, -⟩ := (h1.fit hb).boxed
  exact h3.room.2
end
end Go.Proofs.YtclgakdfeeefiaaDoor
