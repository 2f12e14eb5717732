/- The link within a law. -/
import Derived.Test.YtckahkpikjhkmaaLink9
import Derived.Test.YtckahkpikjhkmaaEq
namespace Go.Proofs.Ytckahkpikjhkmaa
open Go.RowKit

structure Lk (w0 w : World) (b : Nat) (F : Nat → Prop) (n : Nat) (ls : Pla → List Msg) : Prop where
  link : ∃ m bs mv, LinkAt w w0.heap.size b m bs mv ls ∧ bs.map (·.1) = keysOf n ∧ ∀ k, lfoot b m bs mv k → F k
  low : ∀ k, F k → w0.heap.size ≤ k ∧ k < w.heap.size
  bel : Below w0.heap.size w0 w
  few : n ≤ 6
def clearN (n : Nat) (ls : Pla → List Msg) (k : Pla) : Nat × (Pla → List Msg) := if k ∈ keysOf n then ((ls k).length, upd ls k []) else (0, ls)
def takeN (n : Nat) (ls : Pla → List Msg) (k : Pla) (i : Int) (stays : Bool) : Msg × Int × (Pla → List Msg) :=
  if k ∈ keysOf n then if 0 ≤ i ∧ i < (ls k).length then ((ls k).getD i.toNat noMsg, 0, if stays then ls else upd ls k ((ls k).eraseIdx i.toNat)) else (noMsg, 12, ls) else (noMsg, 11, ls)
def putN (n : Nat) (ls : Pla → List Msg) (k : Pla) (xs : List Msg) : Nat × Int × (Pla → List Msg) :=
  if k ∈ keysOf n then (min (xs.filter rightOf).length (16 - (ls k).length), if min (xs.filter rightOf).length (16 - (ls k).length) < (xs.filter rightOf).length then 15 else 0, upd ls k (ls k ++ (xs.filter rightOf).take (16 - (ls k).length))) else (0, 11, ls)
theorem keys_len : ∀ n, (keysOf n).length = 2 * n
  | 0 => rfl
  | n + 1 => by unfold keysOf; rw [List.length_append, keys_len n]; simp; omega
section
variable {w0 w w' : World} {b n : Nat} {F : Nat → Prop} {ls ls' : Pla → List Msg}
theorem Lk.step (h : Lk w0 w b F n ls) (hb : Below w.heap.size w w') : Lk w0 w' b F n ls where
  link := by
    obtain ⟨m, bs, mv, h1, h2, h3⟩ := h.link
    exact ⟨m, bs, mv, h1.below hb, h2, h3⟩
  low := fun k hk => ⟨(h.low k hk).1, Nat.lt_of_lt_of_le (h.low k hk).2 hb.size⟩
  bel := h.bel.trans (hb.mono h.bel.size)
  few := h.few
theorem Lk.aside {G : Nat → Prop} (h : Lk w0 w b F n ls) (hm : Mod G w w') (ha : ∀ k, F k → ¬ G k) (hG : ∀ k, G k → w0.heap.size ≤ k) : Lk w0 w' b F n ls where
  link := by
    obtain ⟨m, bs, mv, h1, h2, h3⟩ := h.link
    exact ⟨m, bs, mv, h1.keep fun k hk => hm.block k (h1.lt k hk).2 (ha k (h3 k hk)), h2, h3⟩
  low := fun k hk => ⟨(h.low k hk).1, Nat.lt_of_lt_of_le (h.low k hk).2 hm.size⟩
  bel := hm.below h.bel h.bel.size hG
  few := h.few
theorem Lk.after {m : Nat} {bs : List (Pla × Nat)} {mv mv' : Pla → Value} (h : Lk w0 w b F n ls) (hk : bs.map (·.1) = keysOf n) (hf : ∀ k, lfoot b m bs mv k → F k) (hl : Left w w' w0.heap.size b m bs mv mv' ls') :
    Lk w0 w' b (grownF F w w') n ls' ∧ Mod F w w' := by
  have hm : Mod F w w' := hl.mod.mono hf
  refine ⟨⟨⟨m, bs, mv', hl.link, hk, fun k hk => ?_⟩, ?_, hm.below h.bel h.bel.size fun k hk => (h.low k hk).1, h.few⟩, hm⟩
  · rcases hl.foot k hk with h1 | h1
    · exact .inl (hf k h1)
    · exact .inr ⟨h1, (hl.link.lt k hk).2⟩
  · rintro k (hk | hk)
    · exact ⟨(h.low k hk).1, Nat.lt_of_lt_of_le (h.low k hk).2 hm.size⟩
    · exact ⟨Nat.le_trans h.bel.size hk.1, hk.2⟩

theorem New_lk (hw : Below w0.heap.size w0 w) (h1 : 1 ≤ n) (h6 : n ≤ 6) : Calls Try.prog 10 #[.int .i64 (n : Int)] w fun e w' => ∃ b F, e = .returned (.tuple #[ptrTo b, .int .i64 0]) ∧ Lk w0 w' b F n ls0 ∧ (∀ k, F k → w.heap.size ≤ k) ∧ Below w.heap.size w w' := by
  refine (New_calls h1 h6).mono ?_
  rintro e w' ⟨b, m, bs, rfl, hl, hk, hb⟩
  exact ⟨b, lfoot b m bs mv0, rfl, ⟨⟨m, bs, mv0, hl.mono hw.size, hk, fun _ h => h⟩, fun k hk => ⟨Nat.le_trans hw.size (hl.lt k hk).1, (hl.lt k hk).2⟩, hw.trans (hb.mono hw.size), h6⟩, fun k hk => (hl.lt k hk).1, hb⟩
theorem Clear_lk (h : Lk w0 w b F n ls) (k : Pla) : Calls Try.prog 18 #[ptrTo b, .int .i64 k.1, .bool k.2] w fun e w' => e = .returned (.int .i64 ((clearN n ls k).1 : Nat)) ∧ Lk w0 w' b (grownF F w w') n (clearN n ls k).2 ∧ Mod F w w' := by
  obtain ⟨m, bs, mv, h1, h2, h3⟩ := h.link
  have e : clearN n ls k = clearOf bs ls k := by unfold clearN clearOf; rw [h2]
  rw [e]
  refine (Clear_calls h1 k).mono ?_
  rintro e w' ⟨rfl, mv', hl⟩
  exact ⟨rfl, h.after h2 h3 hl⟩
theorem Take_lk (h : Lk w0 w b F n ls) (k : Pla) (i : Int) (s : Bool) : Calls Try.prog 14 #[ptrTo b, .int .i64 k.1, .bool k.2, .int .i64 i, .bool s] w fun e w' =>
    e = .returned (.tuple #[.agg (takeN n ls k i s).1.cells.toArray, .int .i64 (takeN n ls k i s).2.1]) ∧ Lk w0 w' b (grownF F w w') n (takeN n ls k i s).2.2 ∧ Mod F w w' := by
  obtain ⟨m, bs, mv, h1, h2, h3⟩ := h.link
  have e : takeN n ls k i s = takeOf bs ls k i s := by unfold takeN takeOf; rw [h2]
  rw [e]
  refine (Take_calls h1 k i s).mono ?_
  rintro e w' ⟨rfl, mv', hl⟩
  exact ⟨rfl, h.after h2 h3 hl⟩
theorem Drop_lk (h : Lk w0 w b F n ls) (k : Pla) (i : Int) : Calls Try.prog 16 #[ptrTo b, .int .i64 k.1, .bool k.2, .int .i64 i] w fun e w' =>
    e = .returned (.int .i64 (takeN n ls k i false).2.1) ∧ Lk w0 w' b (grownF F w w') n (takeN n ls k i false).2.2 ∧ Mod F w w' := by
  obtain ⟨m, bs, mv, h1, h2, h3⟩ := h.link
  have e : takeN n ls k i false = takeOf bs ls k i false := by unfold takeN takeOf; rw [h2]
  rw [e]
  refine (Drop_calls h1 k i).mono ?_
  rintro e w' ⟨rfl, mv', hl⟩
  exact ⟨rfl, h.after h2 h3 hl⟩
theorem Put_lk (h : Lk w0 w b F n ls) (k : Pla) {a : Option Addr} {N c : Nat} {xs : List Msg} (hx : Recs msgF w a N c xs) (hn : N ≤ 1000) :
    Calls Try.prog 12 #[ptrTo b, .int .i64 k.1, .bool k.2, .slice a N c] w fun e w' =>
      e = .returned (.tuple #[.int .i64 ((putN n ls k xs).1 : Nat), .int .i64 (putN n ls k xs).2.1]) ∧ Lk w0 w' b (grownF F w w') n (putN n ls k xs).2.2 ∧ Mod F w w' := by
  obtain ⟨m, bs, mv, h1, h2, h3⟩ := h.link
  have e : putN n ls k xs = putOf bs ls k xs := by unfold putN putOf; rw [h2]
  rw [e]
  refine (Put_calls h1 h.bel.size k hx hn).mono ?_
  rintro e w' ⟨rfl, mv', hl⟩
  exact ⟨rfl, h.after h2 h3 hl⟩
theorem Bag_lk (h : Lk w0 w b F n ls) (k : Pla) : Calls Try.prog 20 #[ptrTo b, .int .i64 k.1, .bool k.2] w fun e w' => ∃ v, e = .returned v ∧ Mo w' w.heap.size v (if k ∈ keysOf n then ls k else []) ∧ Below w.heap.size w w' := by
  obtain ⟨m, bs, mv, h1, h2, h3⟩ := h.link
  rw [← h2]
  exact Bag_calls h1 k
theorem Total_lk (h : Lk w0 w b F n ls) : Calls Try.prog 21 #[ptrTo b] w fun e w' => e = .returned (.int .i64 (sumOf ls (keysOf n) : Nat)) ∧ Below w.heap.size w w' := by
  obtain ⟨m, bs, mv, h1, h2, h3⟩ := h.link
  rw [← h2]
  refine Total_calls h1 ?_
  have := keys_len n
  rw [← h2, List.length_map] at this
  have := h.few
  omega
theorem Lk.small (h : Lk w0 w b F n ls) {k : Pla} (hk : k ∈ keysOf n) : (ls k).length ≤ 16 := by
  obtain ⟨m, bs, mv, h1, h2, h3⟩ := h.link
  rw [← h2] at hk
  obtain ⟨p, hp, rfl⟩ := List.mem_map.1 hk
  exact h1.small p hp
end

theorem msg_equal (w : World) (a b : Msg) : (Op.equalIn 10000 38 (.agg a.cells.toArray) (.agg b.cells.toArray)).run Try.prog w = .ok (decide (a = b)) w := by
  obtain ⟨a1, a2, a3, a4⟩ := a
  obtain ⟨b1, b2, b3, b4⟩ := b
  rw [run_equalIn_struct w 9999 38 _ _ (by kernel_rfl) (by kernel_rfl)]
  rw [eq_ints [(3, .i64, 0, a1, b1), (3, .i64, 1, a2, b2), (3, .i64, 2, a3, b3), (3, .i64, 3, a4, b4)] _ w (by kernel_rfl) fun x hx => ?_]
  · congr 1
    rw [Bool.eq_iff_iff]
    simp
  · simp only [List.mem_cons, List.not_mem_nil, or_false] at hx
    rcases hx with rfl | rfl | rfl | rfl
    all_goals exact ⟨Try.underlying3, fun _ => rfl, fun _ => rfl⟩
theorem msg_neq (w : World) (a b : Msg) : (binOp .neq 38 (.agg a.cells.toArray) (.agg b.cells.toArray)).run Try.prog w = .ok (.bool (!decide (a = b))) w := by
  rw [run_neq_struct, msg_equal]; rfl
theorem msg_eql (w : World) (a b : Msg) : (binOp .eql 38 (.agg a.cells.toArray) (.agg b.cells.toArray)).run Try.prog w = .ok (.bool (decide (a = b))) w := by
  rw [run_eql_struct, msg_equal]; rfl
theorem msg_guard (op : BinOp) (x y : Operand) (a b : Msg) (w : World) : (eqGuard op 38 x y (.agg a.cells.toArray) (.agg b.cells.toArray)).run Try.prog w = .ok () w := run_eqGuard_agg w op _ x y _ _ (by kernel_rfl)
end Go.Proofs.Ytckahkpikjhkmaa
