/- The document's link within a law; both links. -/
import Derived.Test.YtckahkpikjhkmaaLinkH
namespace Go.Proofs.Ytckahkpikjhkmaa
open Go.RowKit

structure Rk (w0 w : World) (b : Nat) (F : Nat → Prop) (n : Nat) (ls : Pla → List Msg) : Prop where
  link : ∃ g1 g2 mv, RAt w w0.heap.size b g1 g2 n mv ls ∧ ∀ k, rfoot b g1 g2 n mv k → F k
  low : ∀ k, F k → w0.heap.size ≤ k ∧ k < w.heap.size
  bel : Below w0.heap.size w0 w
def bagN (n : Nat) (ls : Pla → List Msg) (k : Pla) : List Msg := if k ∈ keysOf n then ls k else []
section
variable {w0 w w' : World} {b n : Nat} {F : Nat → Prop} {ls ls' : Pla → List Msg}
theorem Rk.step (h : Rk w0 w b F n ls) (hb : Below w.heap.size w w') : Rk w0 w' b F n ls where
  link := by
    obtain ⟨g1, g2, mv, h1, h2⟩ := h.link
    exact ⟨g1, g2, mv, h1.below hb, h2⟩
  low := fun k hk => ⟨(h.low k hk).1, Nat.lt_of_lt_of_le (h.low k hk).2 hb.size⟩
  bel := h.bel.trans (hb.mono h.bel.size)
theorem Rk.aside {G : Nat → Prop} (h : Rk w0 w b F n ls) (hm : Mod G w w') (ha : ∀ k, F k → ¬ G k) (hG : ∀ k, G k → w0.heap.size ≤ k) : Rk w0 w' b F n ls where
  link := by
    obtain ⟨g1, g2, mv, h1, h2⟩ := h.link
    exact ⟨g1, g2, mv, h1.keep fun k hk => hm.block k (h1.lt k hk).2 (ha k (h2 k hk)), h2⟩
  low := fun k hk => ⟨(h.low k hk).1, Nat.lt_of_lt_of_le (h.low k hk).2 hm.size⟩
  bel := hm.below h.bel h.bel.size hG
theorem Rk.after {g1 g2 : Nat} {mv : Pla → Value} (h : Rk w0 w b F n ls) (hf : ∀ k, rfoot b g1 g2 n mv k → F k) (hl : RLeft w w' w.heap.size w0.heap.size b g1 g2 n mv ls') : Rk w0 w' b (grownF F w w') n ls' ∧ Mod F w w' := by
  have hm : Mod F w w' := hl.mod.mono hf
  obtain ⟨mv', h1, h2⟩ := hl.ex
  refine ⟨⟨⟨g1, g2, mv', h1, fun k hk => ?_⟩, ?_, hm.below h.bel h.bel.size fun k hk => (h.low k hk).1⟩, hm⟩
  · rcases h2 k hk with h3 | h3
    · exact .inl (hf k h3)
    · exact .inr ⟨h3, (h1.lt k hk).2⟩
  · rintro k (hk | hk)
    · exact ⟨(h.low k hk).1, Nat.lt_of_lt_of_le (h.low k hk).2 hm.size⟩
    · exact ⟨Nat.le_trans h.bel.size hk.1, hk.2⟩
theorem RNew_rk (hw : Below w0.heap.size w0 w) (h1 : 1 ≤ n) (h6 : n ≤ 6) : Calls Try.prog 11 #[.int .i64 (n : Int)] w fun e w' => ∃ b F, e = .returned (.tuple #[ptrTo b, .int .i64 0]) ∧ Rk w0 w' b F n ls0 ∧ (∀ k, F k → w.heap.size ≤ k) ∧ Below w.heap.size w w' := by
  refine (RNew_calls h1 h6).mono ?_
  rintro e w' ⟨b, g1, g2, rfl, hl, hb⟩
  exact ⟨b, rfoot b g1 g2 n mv0, rfl, ⟨⟨g1, g2, mv0, hl.mono hw.size, fun _ h => h⟩, fun k hk => ⟨Nat.le_trans hw.size (hl.lt k hk).1, (hl.lt k hk).2⟩, hw.trans (hb.mono hw.size)⟩, fun k hk => (hl.lt k hk).1, hb⟩
theorem RTake_rk (h : Rk w0 w b F n ls) (k : Pla) (i : Int) (s : Bool) : Calls Try.prog 15 #[ptrTo b, .int .i64 k.1, .bool k.2, .int .i64 i, .bool s] w fun e w' =>
    e = .returned (.tuple #[.agg (takeN n ls k i s).1.cells.toArray, .int .i64 (takeN n ls k i s).2.1]) ∧ Rk w0 w' b (grownF F w w') n (takeN n ls k i s).2.2 ∧ Mod F w w' := by
  obtain ⟨g1, g2, mv, h1, h2⟩ := h.link
  refine (RTake_calls h1 k i s).mono ?_
  rintro e w' ⟨rfl, hl⟩
  exact ⟨rfl, h.after h2 hl⟩
theorem RPut_rk (h : Rk w0 w b F n ls) (k : Pla) {a : Option Addr} {N c : Nat} {xs : List Msg} (hx : Recs msgF w a N c xs) (hn : N ≤ 1000) :
    Calls Try.prog 13 #[ptrTo b, .int .i64 k.1, .bool k.2, .slice a N c] w fun e w' =>
      e = .returned (.tuple #[.int .i64 ((putN n ls k xs).1 : Nat), .int .i64 (putN n ls k xs).2.1]) ∧ Rk w0 w' b (grownF F w w') n (putN n ls k xs).2.2 ∧ Mod F w w' := by
  obtain ⟨g1, g2, mv, h1, h2⟩ := h.link
  refine (RPut_calls h1 k hx hn).mono ?_
  rintro e w' ⟨rfl, hl⟩
  exact ⟨rfl, h.after h2 hl⟩
theorem RBag_rk (h : Rk w0 w b F n ls) (k : Pla) : Calls Try.prog 17 #[ptrTo b, .int .i64 k.1, .bool k.2] w fun e w' => ∃ a c, e = .returned (.slice a (bagN n ls k).length c) ∧ w' = w ∧ Recs msgF w a (bagN n ls k).length c (bagN n ls k) := by
  obtain ⟨g1, g2, mv, h1, h2⟩ := h.link
  refine (RBag_calls h1 k).mono ?_
  rintro e w' ⟨rfl, rfl⟩
  unfold bagN
  by_cases hk : k ∈ keysOf n
  · simp only [if_pos hk]
    obtain ⟨a, c, hm, hr, -⟩ := (h1.bag k hk).recs
    exact ⟨a, c, by rw [hm], trivial, hr⟩
  · simp only [if_neg hk]
    exact ⟨none, 0, rfl, trivial, Recs.none0 (by omega)⟩
theorem RTotal_rk (h : Rk w0 w b F n ls) : Calls Try.prog 22 #[ptrTo b] w fun e w' => e = .returned (.int .i64 (sumOf ls (keysOf n) : Nat)) ∧ Below w.heap.size w w' := by
  obtain ⟨g1, g2, mv, h1, h2⟩ := h.link
  exact RTotal_calls h1
/-- How many messages a bag of it has, read in memory. -/
def bagLen (w : World) (b : Nat) (k : Pla) : Nat :=
  match w.cell? ⟨b, if k.2 then 0 else 1, none⟩ with
  | some (.slice (some a) m _) => if 0 ≤ k.1 ∧ k.1.toNat < m then (match w.cell? ⟨a.block, k.1.toNat, none⟩ with | some (.slice _ l _) => l | _ => 0) else 0
  | _ => 0
theorem Rk.len (h : Rk w0 w b F n ls) (k : Pla) : bagLen w b k = (bagN n ls k).length := by
  obtain ⟨g1, g2, mv, h1, h2⟩ := h.link
  obtain ⟨p, u⟩ := k
  have r0 : w.cell? ⟨b, if u then 0 else 1, none⟩ = some (.slice (some ⟨gOf g1 g2 u, 0, none⟩) n n) := by
    cases u
    · exact cells_at h1.root 1
    · exact cells_at h1.root 0
  unfold bagLen bagN
  simp only [r0]
  rcases places (n := n) (p, u) with ⟨i, hi, hk, hm⟩ | ⟨h0, hm⟩ | ⟨h0, hn, hm⟩
  · simp only at hk
    subst hk
    rw [if_pos hm, if_pos ⟨by omega, by simpa using hi⟩]
    obtain ⟨a, c, hmv, -, -⟩ := (h1.bag _ hm).recs
    have := h1.cell hi u
    rw [hmv] at this
    simp only [Int.toNat_natCast, this]
  · simp only at h0
    rw [if_neg hm, if_neg (by omega)]
    rfl
  · simp only at h0 hn
    rw [if_neg hm, if_neg (by omega)]
    rfl
end
def dropN (n : Nat) (ls : Pla → List Msg) (k : Pla) (q : Nat) : Pla → List Msg := if k ∈ keysOf n then upd ls k ((ls k).drop q) else ls
section
variable {n : Nat} {ls : Pla → List Msg} {k : Pla} {q : Nat}
theorem drop_zero' : dropN n ls k 0 = ls := by
  unfold dropN
  split
  · funext x; unfold upd; split
    · rename_i h; rw [h]; rfl
    · rfl
  · rfl
theorem drop_bag : bagN n (dropN n ls k q) k = (bagN n ls k).drop q := by
  unfold bagN dropN
  split
  · rw [upd_same]
  · exact List.drop_nil.symm
theorem drop_next (hq : q < (bagN n ls k).length) : (takeN n (dropN n ls k q) k 0 false).2.2 = dropN n ls k (q + 1) := by
  unfold bagN at hq
  unfold takeN dropN
  by_cases hk : k ∈ keysOf n
  · rw [if_pos hk] at hq
    simp only [if_pos hk, upd_same]
    rw [if_pos ⟨by omega, by rw [List.length_drop]; omega⟩]
    simp only [Bool.false_eq_true, if_false, Int.toNat_zero, upd_upd]
    congr 1
    rw [List.eraseIdx_zero, List.tail_drop]
  · rw [if_neg hk] at hq
    exact absurd hq (Nat.not_lt_zero _)
theorem drop_all : dropN n ls k (bagN n ls k).length = (clearN n ls k).2 ∧ (clearN n ls k).1 = (bagN n ls k).length := by
  unfold dropN bagN clearN
  split
  · exact ⟨by rw [List.drop_length], rfl⟩
  · exact ⟨rfl, rfl⟩
end
/-- The link, and the document's. -/
structure Trio (w0 w : World) (b1 b2 : Nat) (F1 F2 : Nat → Prop) (n : Nat) (ls1 ls2 : Pla → List Msg) : Prop where
  a : Lk w0 w b1 F1 n ls1
  b : Rk w0 w b2 F2 n ls2
  ap : ∀ k, F1 k → ¬ F2 k
section
variable {w0 w w' : World} {b1 b2 n : Nat} {F1 F2 : Nat → Prop} {ls1 ls2 ls' : Pla → List Msg}
theorem Trio.step (h : Trio w0 w b1 b2 F1 F2 n ls1 ls2) (hb : Below w.heap.size w w') : Trio w0 w' b1 b2 F1 F2 n ls1 ls2 := ⟨h.a.step hb, h.b.step hb, h.ap⟩
theorem Trio.left (h : Trio w0 w b1 b2 F1 F2 n ls1 ls2) (hd : Lk w0 w' b1 (grownF F1 w w') n ls') (hm : Mod F1 w w') : Trio w0 w' b1 b2 (grownF F1 w w') F2 n ls' ls2 :=
  ⟨hd, h.b.aside hm (fun k h2 h1 => h.ap k h1 h2) (fun k hk => (h.a.low k hk).1), fun k hk h2 => hk.elim (fun h1 => h.ap k h1 h2) fun h1 => by have := (h.b.low k h2).2; omega⟩
theorem Trio.right (h : Trio w0 w b1 b2 F1 F2 n ls1 ls2) (hd : Rk w0 w' b2 (grownF F2 w w') n ls') (hm : Mod F2 w w') : Trio w0 w' b1 b2 F1 (grownF F2 w w') n ls1 ls' :=
  ⟨h.a.aside hm (fun k h1 h2 => h.ap k h1 h2) (fun k hk => (h.b.low k hk).1), hd, fun k h1 hk => hk.elim (fun h2 => h.ap k h1 h2) fun h2 => by have := (h.a.low k h1).2; omega⟩
end
end Go.Proofs.Ytckahkpikjhkmaa
