/- The desk within a law; SameInts; alive. -/
import Derived.Test.YtdccocgdgcjfcaaDesk5
import Derived.Test.YtdccocgdgcjfcaaAlts
namespace Go.Proofs.Ytdccocgdgcjfcaa
open Go.RowKit

structure Dk (w0 w : World) (b : Nat) (F : Nat → Prop) (p : Pl) (es : List Ent) : Prop where
  desk : ∃ mv, DeskAt w w0.heap.size b mv p es ∧ ∀ k, foot b mv k → F k
  low : ∀ k, F k → w0.heap.size ≤ k ∧ k < w.heap.size
  bel : Below w0.heap.size w0 w

theorem DeskAt.mono {w : World} {B B' b : Nat} {mv : Value} {p : Pl} {es : List Ent} (h : DeskAt w B b mv p es) (hB : B' ≤ B) : DeskAt w B' b mv p es where
  root := h.root
  row := h.row.mono hB
  apart := h.apart
  bb := Nat.le_trans hB h.bb
  good := h.good
  len := h.len
  ok := h.ok

section
variable {w0 w w' : World} {b : Nat} {F : Nat → Prop} {p : Pl} {es : List Ent}
theorem Dk.step (h : Dk w0 w b F p es) (hb : Below w.heap.size w w') : Dk w0 w' b F p es where
  desk := by
    obtain ⟨mv, hd, hf⟩ := h.desk
    exact ⟨mv, hd.below hb, hf⟩
  low := fun k hk => ⟨(h.low k hk).1, Nat.lt_of_lt_of_le (h.low k hk).2 hb.size⟩
  bel := h.bel.trans (hb.mono h.bel.size)
theorem Dk.drawn (h : Dk w0 w b F p es) (n : Nat) : Dk w0 (w.drewN n) b F p es := h.step (below_drawn w n)
theorem Dk.aside {G : Nat → Prop} (h : Dk w0 w b F p es) (hm : Mod G w w') (ha : ∀ k, F k → ¬ G k) (hG : ∀ k, G k → w0.heap.size ≤ k) : Dk w0 w' b F p es where
  desk := by
    obtain ⟨mv, hd, hf⟩ := h.desk
    exact ⟨mv, hd.keep fun k hk => hm.block k (hd.lt k hk).2 (ha k (hf k hk)), hf⟩
  low := fun k hk => ⟨(h.low k hk).1, Nat.lt_of_lt_of_le (h.low k hk).2 hm.size⟩
  bel := hm.below h.bel h.bel.size hG
theorem Dk.facts (h : Dk w0 w b F p es) : p.good ∧ es.length ≤ 64 ∧ ∀ e ∈ es, e.ok := by
  obtain ⟨mv, hd, hf⟩ := h.desk
  exact ⟨hd.good, hd.len, hd.ok⟩
theorem Dk.after {mv mv' : Value} {es' : List Ent} (h : Dk w0 w b F p es) (hf : ∀ k, foot b mv k → F k) (hd' : DeskAt w' w0.heap.size b mv' p es') (hx : ∀ g, mv'.ownBlock = some g → mv.ownBlock = some g ∨ w.heap.size ≤ g) (hm : Mod (foot b mv) w w') :
    Dk w0 w' b (grownF F w w') p es' ∧ Mod F w w' := by
  have hm' : Mod F w w' := hm.mono fun x hx => hf x hx
  refine ⟨⟨⟨mv', hd', ?_⟩, ?_, hm'.below h.bel h.bel.size fun x hx => (h.low x hx).1⟩, hm'⟩
  · rintro k (rfl | hk)
    · exact .inl (hf _ (.inl rfl))
    · rcases hx k hk with h1 | h1
      · exact .inl (hf k (.inr h1))
      · exact .inr ⟨h1, (hd'.lt k (.inr hk)).2⟩
  · rintro k (hk | hk)
    · exact ⟨(h.low k hk).1, Nat.lt_of_lt_of_le (h.low k hk).2 hm'.size⟩
    · exact ⟨Nat.le_trans h.bel.size hk.1, hk.2⟩

theorem New_dk (hw : Below w0.heap.size w0 w) (hn : p.good) :
    Calls Try.prog 8 #[.agg p.cells.toArray] w fun e w' => ∃ b F, e = .returned (.tuple #[.pointer (some ⟨b, 0, none⟩), .int .i64 0]) ∧ Dk w0 w' b F p [] ∧ (∀ k, F k → w.heap.size ≤ k) ∧ Below w.heap.size w w' := by
  refine (New_calls hn).mono ?_
  rintro e w' ⟨b, rfl, hd, hb⟩
  exact ⟨b, foot b (.slice none 0 0), rfl, ⟨⟨_, hd.mono hw.size, fun _ h => h⟩, fun k hk => ⟨Nat.le_trans hw.size (hd.lt k hk).1, (hd.lt k hk).2⟩, hw.trans (hb.mono hw.size)⟩, fun k hk => (hd.lt k hk).1, hb⟩
theorem Count_dk (h : Dk w0 w b F p es) : Calls Try.prog 16 #[.pointer (some ⟨b, 0, none⟩)] w fun e w' => e = .returned (.int .i64 (es.length : Int)) ∧ w = w' := by
  obtain ⟨mv, hd, hf⟩ := h.desk
  exact (Count_calls hd).mono fun _ _ h => ⟨h.1, h.2.symm⟩
theorem Entry_dk (h : Dk w0 w b F p es) (tx : Int) (htx : (Lit.int .i64 tx).wf = true) : Calls Try.prog 22 #[.pointer (some ⟨b, 0, none⟩), .int .i64 tx] w fun e w' =>
    e = .returned (.tuple #[.agg (entAt es tx).cells.toArray, .bool (decide (1 ≤ tx ∧ tx ≤ (es.length : Int)))]) ∧ Below w.heap.size w w' ∧ Dk w0 w' b F p es := by
  obtain ⟨mv, hd, hf⟩ := h.desk
  exact (Entry_calls hd tx htx).mono fun _ _ h' => ⟨h'.1, h'.2, h.step h'.2⟩
theorem Of_dk (h : Dk w0 w b F p es) (c now : Int) (hc : (Lit.int .i64 c).wf = true) : Calls Try.prog 14 #[.pointer (some ⟨b, 0, none⟩), .int .i64 c, .int .i64 now] w fun e w' =>
    e = .returned (.tuple #[.int .i64 (ofOf p es c now : Nat), .bool (decide (ofOf p es c now ≠ 0))]) ∧ Below w.heap.size w w' ∧ Dk w0 w' b F p es := by
  obtain ⟨mv, hd, hf⟩ := h.desk
  exact (Of_calls hd c now hc).mono fun _ _ h' => ⟨h'.1, h'.2, h.step h'.2⟩
theorem May_dk (h : Dk w0 w b F p es) (c part now : Int) (hc : (Lit.int .i64 c).wf = true) : Calls Try.prog 12 #[.pointer (some ⟨b, 0, none⟩), .int .i64 c, .int .i64 part, .int .i64 now] w fun e w' =>
    e = .returned (.tuple #[.int .i64 ((mayOf p es c part now).1 : Nat), .int .i64 (mayOf p es c part now).2]) ∧ Below w.heap.size w w' ∧ Dk w0 w' b F p es := by
  obtain ⟨mv, hd, hf⟩ := h.desk
  exact (May_calls hd c part now hc).mono fun _ _ h' => ⟨h'.1, h'.2, h.step h'.2⟩
theorem Begin_dk (h : Dk w0 w b F p es) (c mask now : Int) (hc : (Lit.int .i64 c).wf = true) (hm : (Lit.int .u16 mask).wf = true) :
    Calls Try.prog 10 #[.pointer (some ⟨b, 0, none⟩), .int .i64 c, .int .u16 mask, .int .i64 now] w fun e w' =>
      e = .returned (.tuple #[.int .i64 ((beginOf p es c mask now).1 : Nat), .int .i64 (beginOf p es c mask now).2.1]) ∧ Dk w0 w' b (grownF F w w') p (beginOf p es c mask now).2.2 ∧ Mod F w w' := by
  obtain ⟨mv, hd, hf⟩ := h.desk
  refine (Begin_calls hd c mask now hc hm).mono ?_
  rintro e w' ⟨rfl, mv', h1, h2, h3⟩
  exact ⟨rfl, h.after hf h1 h2 h3⟩
theorem In_dk (h : Dk w0 w b F p es) (part : Int) : Calls Try.prog 18 #[.pointer (some ⟨b, 0, none⟩), .int .i64 part] w fun e w' => ∃ v, e = .returned v ∧ Own w' w.heap.size 3 .i64 v (inOf es part) ∧ Below w.heap.size w w' ∧ Dk w0 w' b F p es := by
  obtain ⟨mv, hd, hf⟩ := h.desk
  exact (In_calls hd part).mono fun _ _ ⟨v, h1, h2, h3⟩ => ⟨v, h1, h2, h3, h.step h3⟩
theorem Over_dk (h : Dk w0 w b F p es) (now : Int) : Calls Try.prog 20 #[.pointer (some ⟨b, 0, none⟩), .int .i64 now] w fun e w' => ∃ v, e = .returned v ∧ Own w' w.heap.size 3 .i64 v (overOf p es now) ∧ Below w.heap.size w w' ∧ Dk w0 w' b F p es := by
  obtain ⟨mv, hd, hf⟩ := h.desk
  exact (Over_calls hd now).mono fun _ _ ⟨v, h1, h2, h3⟩ => ⟨v, h1, h2, h3, h.step h3⟩
end

set_option maxHeartbeats 1000000 in
theorem SameInts_calls {a1 a2 : Option Addr} {n1 n2 c1 c2 : Nat} {xs ys : List Int} {w : World} (hx : Ints w .i64 a1 n1 c1 xs) (hy : Ints w .i64 a2 n2 c2 ys) (he : xs = ys) :
    Calls Try.prog 17 #[.slice a1 n1 c1, .slice a2 n2 c2] w fun e w' => e = .returned (.bool true) ∧ ∃ n, w' = w.drewN n := by
  subst he
  have hl1 := hx.len
  have hl2 := hy.len
  have m1 := hx.max
  have m2 := hy.max
  have p1 := hx.le
  have p2 := hy.le
  obtain rfl : n1 = n2 := by omega
  have hne : ((n1 : Int) != (n1 : Int)) = false := by simp
  have Hl1 := Lib.hid hl1; clear hl1
  have Hl2 := Lib.hid hl2; clear hl2
  go_enter Try.func17, Try.ntmps17
  go_wp2_with fail
  go_loopw [5] (fun i wr => ∃ k : Nat, k ≤ n1 ∧ i = .int .i64 k ∧ ∃ n, wr = w.drewN n) (fun i _ => n1 - (intOf i).toNat)
  case atStart => exact ⟨0, by omega, rfl, 0, rfl⟩
  case round =>
    obtain ⟨k, hk, rfl, nd, rfl⟩ := hrel
    by_cases hlt : k < n1
    · obtain ⟨b1, o1, rfl, cx⟩ := hx.cell (by omega)
      obtain ⟨b2, o2, rfl, cy⟩ := hy.cell (by omega)
      have hcx := cx k hlt
      have hcy := cy k hlt
      generalize xs.getD k 0 = z at hcx hcy
      have hq : (z != z) = false := by simp
      have i1 : (0 : Int) ≤ (k : Int) := by omega
      have i2 : (k : Int) < (n1 : Int) := by omega
      clear cx cy
      go_wp2_with fail
      go_quiet (fail)
      go_wp2_with fail
      go_roundw
      case rel => exact ⟨k + 1, by omega, by go_num, _, rfl⟩
      case measure => simp [intOf]; omega
    · obtain rfl : k = n1 := by omega
      go_wp2
      go_ret
      exact ⟨rfl, _, rfl⟩
end Go.Proofs.Ytdccocgdgcjfcaa
