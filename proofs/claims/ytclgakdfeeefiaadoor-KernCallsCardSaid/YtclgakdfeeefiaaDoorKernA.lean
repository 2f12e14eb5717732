/- Kernels: New. -/
import Derived.Test.YtclgakdfeeefiaaDoorKern9
namespace Go.Proofs.YtclgakdfeeefiaaDoor
open Go.RowKit

set_option maxRecDepth 100000 in
theorem labElem : Elem Tryd.prog labF 65 32 := ⟨Tryd.underlying65, ⟨_, _, rfl, rfl, rfl, rfl, by decide⟩⟩
abbrev LOwn := ROwn labF 32
theorem New_kbad {w : World} (p : Pl) (hp : ¬ p.good) : Calls Tryd.prog 10 #[.agg p.cells.toArray] w fun e w' => e = .returned (.tuple #[.pointer none, .int .i64 11]) ∧ Below w.heap.size w w' := by
  have hs := fun w : World => slotNew_calls (w := w) p
  rw [if_neg hp, if_neg hp] at hs
  obtain ⟨a, b, c⟩ := p
  simp only [Pl.cells, Pl.parts, Pl.window, Pl.delay] at hs ⊢
  obtain ⟨w1, hw1⟩ : ∃ w1, w1 = w.alloc (.cells #[.int .i64 a, .int .i64 b, .int .i64 c] 28) := ⟨_, rfl⟩
  have c1 : Below w.heap.size w w1 := by rw [hw1]; exact (Below.refl _ _).alloc (Nat.le_refl _) _
  have z1 : w1.heap[w.heap.size]? = some (.cells #[.int .i64 a, .int .i64 b, .int .i64 c] 28 (0, 0)) := by rw [hw1]; exact heap_alloc_new w _
  have y0 := cells_at z1 0
  have y1 := cells_at z1 1
  have y2 := cells_at z1 2
  rw [hw1] at y0 y1 y2
  have C1 := Lib.hid c1; clear c1 z1
  have Hs := Lib.hid hs; clear hs hp
  go_enter Tryd.func10, Tryd.ntmps10
  go_wp2_with fail
  rw [← hw1]
  clear hw1 y0 y1 y2
  refine (Hs.out _).mono ?_
  rintro e w2 ⟨rfl, b2⟩
  have b3 := (Below.refl w2.heap.size w2).alloc (Nat.le_refl _) (.cells #[.int .i64 0, .int .i64 0, .int .i64 0] 28)
  have hb := C1.out.trans ((b2.trans (b3.mono b2.size)).mono C1.out.size)
  clear C1 b2 b3
  have Hb := Lib.hid hb; clear hb
  go_wp2
  go_ret2
  exact ⟨rfl, Hb.out⟩
/-- The labels of the first parts. -/
abbrev plabs (j : Nat) : List Label := (List.range j).map fun (q : Nat) => (((2 ^ q : Nat) : Int), 0)
/-- The kernel that New makes, of whose parts j have their ways; its labels are i. -/
structure NewI (w0 w : World) (kb pb mb j : Nat) (i : List Label) (gp : Value) (al : Int) (p : Pl) (tv : Value) (ws : List (End × Nat)) (FW : End → Nat → Prop) : Prop where
  root : w.heap[kb]? = some (.cells #[.int .i64 p.parts, .int .i64 p.window, .int .i64 p.delay, gp, tv, .int .u64 al, .map (some mb)] 67 (0, 0))
  pool : w.heap[pb]? = some (.cells #[.int .u64 (allOf j : Nat)] 113 (0, 0))
  tags : LOwn w w0.heap.size tv i
  map : MapK endV w mb (ptrs ws)
  way : ∀ q ∈ ws, Way w0 w q.2 (FW q.1) (((2 ^ q.1.1.toNat : Nat) : Int), 0) [] []
  apart : ∀ e e' k, e ≠ e' → FW e k → ¬ FW e' k
  own : ∀ e k, FW e k → k ≠ kb ∧ k ≠ pb ∧ k ≠ mb ∧ tv.ownBlock ≠ some k ∧ w0.heap.size ≤ k ∧ k < w.heap.size
  off : ∀ e k, FW e k → ∃ b, (e, b) ∈ ws
  three : kb ≠ pb ∧ kb ≠ mb ∧ pb ≠ mb ∧ tv.ownBlock ≠ some kb ∧ tv.ownBlock ≠ some pb ∧ tv.ownBlock ≠ some mb
  low : w0.heap.size ≤ kb ∧ w0.heap.size ≤ pb ∧ w0.heap.size ≤ mb
  bel : Below w0.heap.size w0 w
section
variable {w0 w w' : World} {kb pb mb j : Nat} {i : List Label} {gp : Value} {al : Int} {p : Pl} {tv : Value} {ws : List (End × Nat)} {FW : End → Nat → Prop}
theorem NewI.lt (h : NewI w0 w kb pb mb j i gp al p tv ws FW) : kb < w.heap.size ∧ pb < w.heap.size ∧ mb < w.heap.size :=
  ⟨(Array.getElem?_eq_some_iff.1 h.root).1, (Array.getElem?_eq_some_iff.1 h.pool).1, h.map.lt⟩
theorem NewI.step (h : NewI w0 w kb pb mb j i gp al p tv ws FW) (hb : Below w.heap.size w w') : NewI w0 w' kb pb mb j i gp al p tv ws FW where
  root := (hb.block _ h.lt.1).trans h.root
  pool := (hb.block _ h.lt.2.1).trans h.pool
  tags := h.tags.below hb
  map := h.map.keep (hb.block _ h.lt.2.2)
  way := fun q hq => (h.way q hq).step hb
  apart := h.apart
  own := fun e k hk => by obtain ⟨a, b, c, d, e, f⟩ := h.own e k hk; exact ⟨a, b, c, d, e, Nat.lt_of_lt_of_le f hb.size⟩
  off := h.off
  three := h.three
  low := h.low
  bel := h.bel.trans (hb.mono h.bel.size)
/-- A category more is taken. -/
theorem NewI.taken (h : NewI w0 w kb pb mb j i gp al p tv ws FW) (hp : w'.heap[pb]? = some (.cells #[.int .u64 (allOf (j + 1) : Nat)] 113 (0, 0))) (hm : Mod (fun k => k = pb) w w') : NewI w0 w' kb pb mb (j + 1) i gp al p tv ws FW where
  root := (hm.block _ h.lt.1 h.three.1).trans h.root
  pool := hp
  tags := h.tags.grown hm fun g hg e => h.three.2.2.2.2.1 (by rw [hg]; exact congrArg some e)
  map := h.map.keep (hm.block _ h.lt.2.2 (fun e => h.three.2.2.1 e.symm))
  way := fun q hq => (h.way q hq).aside hm (fun k hk e => (h.own _ k hk).2.1 e) fun k e => by rw [show k = pb from e]; exact h.low.2.1
  apart := h.apart
  own := fun e k hk => by obtain ⟨a, b, c, d, e, f⟩ := h.own e k hk; exact ⟨a, b, c, d, e, Nat.lt_of_lt_of_le f hm.size⟩
  off := h.off
  three := h.three
  low := h.low
  bel := hm.below h.bel h.bel.size fun k e => by rw [show k = pb from e]; exact h.low.2.1
/-- A label more stands in the row. -/
theorem NewI.tagged {tv' : Value} {i' : List Label} (h : NewI w0 w kb pb mb j i gp al p tv ws FW) (hr : w'.heap[kb]? = some (.cells #[.int .i64 p.parts, .int .i64 p.window, .int .i64 p.delay, gp, tv', .int .u64 al, .map (some mb)] 67 (0, 0)))
    (ht : LOwn w' w0.heap.size tv' i') (hm : Mod (fun k => k = kb ∨ tv.ownBlock = some k) w w') (hv : ∀ g, tv'.ownBlock = some g → tv.ownBlock = some g ∨ w.heap.size ≤ g) : NewI w0 w' kb pb mb j i' gp al p tv' ws FW := by
  have hl := h.lt
  have hG : ∀ k, (k = kb ∨ tv.ownBlock = some k) → w0.heap.size ≤ k := fun k hk => hk.elim (fun e => by rw [e]; exact h.low.1) fun e => (h.tags.lt k e).1
  refine ⟨hr, ?_, ht, ?_, fun q hq => (h.way q hq).aside hm (fun k hk hk' => ?_) hG, h.apart, fun e k hk => ?_, h.off, ⟨h.three.1, h.three.2.1, h.three.2.2.1, ?_, ?_, ?_⟩, h.low, hm.below h.bel h.bel.size hG⟩
  · exact (hm.block _ hl.2.1 (fun hk => hk.elim (fun e => h.three.1 e.symm) fun e => h.three.2.2.2.2.1 e)).trans h.pool
  · exact h.map.keep (hm.block _ hl.2.2 (fun hk => hk.elim (fun e => h.three.2.1 e.symm) fun e => h.three.2.2.2.2.2 e))
  · rcases hk' with e | e
    · exact (h.own _ k hk).1 e
    · exact (h.own _ k hk).2.2.2.1 e
  · obtain ⟨a, b, c, d, e', f⟩ := h.own e k hk
    refine ⟨a, b, c, fun e => ?_, e', Nat.lt_of_lt_of_le f hm.size⟩
    rcases hv k e with e | e
    · exact d e
    · omega
  · intro e
    rcases hv _ e with e | e
    · exact h.three.2.2.2.1 e
    · omega
  · intro e
    rcases hv _ e with e | e
    · exact h.three.2.2.2.2.1 e
    · omega
  · intro e
    rcases hv _ e with e | e
    · exact h.three.2.2.2.2.2 e
    · omega
/-- The gate's pointer, or all, is stored. -/
theorem NewI.turned {gp' : Value} {al' : Int} (h : NewI w0 w kb pb mb j i gp al p tv ws FW) (hr : w'.heap[kb]? = some (.cells #[.int .i64 p.parts, .int .i64 p.window, .int .i64 p.delay, gp', tv, .int .u64 al', .map (some mb)] 67 (0, 0)))
    (hg : w.grownBy w' (some kb)) : NewI w0 w' kb pb mb j i gp' al' p tv ws FW := by
  have hm : Mod (fun k => k = kb) w w' := Mod.of_grown hg fun k e => by cases e; rfl
  have hl := h.lt
  have hG : ∀ k, k = kb → w0.heap.size ≤ k := fun k e => by rw [e]; exact h.low.1
  exact ⟨hr, (hm.block _ hl.2.1 fun e => h.three.1 e.symm).trans h.pool, h.tags.grown hm fun g hg e => h.three.2.2.2.1 (by rw [hg]; exact congrArg some e), h.map.keep (hm.block _ hl.2.2 fun e => h.three.2.1 e.symm),
    fun q hq => (h.way q hq).aside hm (fun k hk e => (h.own _ k hk).1 e) hG, h.apart, fun e k hk => (by obtain ⟨a1, a2, a3, a4, a5, a6⟩ := h.own e k hk; exact ⟨a1, a2, a3, a4, a5, Nat.lt_of_lt_of_le a6 hm.size⟩), h.off, h.three, h.low, hm.below h.bel h.bel.size hG⟩
/-- A way more stands in the map. -/
theorem NewI.more {e : End} {b B : Nat} {F : Nat → Prop} (h : NewI w0 w kb pb mb j i gp al p tv ws FW) (hB : ∀ e k, FW e k → k < B) (hB3 : kb < B ∧ pb < B ∧ mb < B) (hBt : ∀ g, tv.ownBlock = some g → g < B) (hw : Way w0 w b F (((2 ^ e.1.toNat : Nat) : Int), 0) [] []) (hF : ∀ k, F k → B ≤ k) (hFl : ∀ k, F k → w0.heap.size ≤ k ∧ k < w.heap.size)
    (hne : ∀ b', (e, b') ∉ ws) (hm : MapK endV w' mb (ptrs ws ++ [(e, .pointer (some ⟨b, 0, none⟩))])) (hg : w.grownBy w' (some mb)) : NewI w0 w' kb pb mb j i gp al p tv (ws ++ [(e, b)]) (updE FW e F) := by
  have hmo : Mod (fun k => k = mb) w w' := Mod.of_grown hg fun k e => by cases e; rfl
  have hl := h.lt
  have hG : ∀ k, k = mb → w0.heap.size ≤ k := fun k e => by rw [e]; exact h.low.2.2
  have hold : ∀ k, ¬ FW e k := fun k hk => by obtain ⟨b', hb'⟩ := h.off e k hk; exact hne b' hb'
  have hcase : ∀ e' k, updE FW e F e' k → (e' ≠ e ∧ FW e' k) ∨ (e' = e ∧ F k) := fun e' k hk => by
    by_cases hee : e' = e
    · subst hee; rw [updE_same] at hk; exact .inr ⟨rfl, hk⟩
    · rw [updE_other _ _ hee] at hk; exact .inl ⟨hee, hk⟩
  refine ⟨(hmo.block _ hl.1 h.three.2.1).trans h.root, (hmo.block _ hl.2.1 h.three.2.2.1).trans h.pool, h.tags.grown hmo fun g hg e => h.three.2.2.2.2.2 (by rw [hg]; exact congrArg some e), ?_, ?_, ?_, ?_, ?_, h.three, h.low, hmo.below h.bel h.bel.size hG⟩
  · rw [show ptrs (ws ++ [(e, b)]) = ptrs ws ++ [(e, .pointer (some ⟨b, 0, none⟩))] by unfold ptrs; rw [List.map_append]; rfl]
    exact hm
  · intro q hq
    rcases List.mem_append.1 hq with hq | hq
    · have hqe : q.1 ≠ e := fun hh => hne q.2 (by rw [← hh]; exact hq)
      rw [updE_other _ _ hqe]
      exact (h.way q hq).aside hmo (fun k hk e => (h.own _ k hk).2.2.1 e) hG
    · rw [List.mem_singleton] at hq
      subst hq
      show Way w0 w' b (updE FW e F e) _ [] []
      rw [updE_same]
      exact hw.aside hmo (fun k hk hk' => by have := hF k hk; have : k = mb := hk'; omega) hG
  · intro e1 e2 k hne' h1 h2
    rcases hcase e1 k h1 with ⟨c1, d1⟩ | ⟨c1, d1⟩
    · rcases hcase e2 k h2 with ⟨c2, d2⟩ | ⟨c2, d2⟩
      · exact h.apart e1 e2 k hne' d1 d2
      · have := hB e1 k d1; have := hF k d2; omega
    · rcases hcase e2 k h2 with ⟨c2, d2⟩ | ⟨c2, d2⟩
      · have := hB e2 k d2; have := hF k d1; omega
      · exact hne' (c1.trans c2.symm)
  · intro e' k hk
    rcases hcase e' k hk with ⟨c, d⟩ | ⟨c, d⟩
    · obtain ⟨a1, a2, a3, a4, a5, a6⟩ := h.own e' k d
      exact ⟨a1, a2, a3, a4, a5, Nat.lt_of_lt_of_le a6 hmo.size⟩
    · have h1 := hF k d
      have h2 := hFl k d
      exact ⟨by omega, by omega, by omega, fun ht => by have := hBt k ht; omega, h2.1, Nat.lt_of_lt_of_le h2.2 hmo.size⟩
  · intro e' k hk
    rcases hcase e' k hk with ⟨c, d⟩ | ⟨c, d⟩
    · obtain ⟨b', hb'⟩ := h.off e' k d
      exact ⟨b', List.mem_append_left _ hb'⟩
    · exact ⟨b, by rw [c]; exact List.mem_append_right _ (.head _)⟩
end
theorem labs_split (n : Nat) : labs n = plabs n ++ [(((allOf n : Nat) : Int), 0)] := by
  unfold labs plabs
  rw [List.range_succ, List.map_append]
  congr 1
  · refine List.map_congr_left fun q hq => ?_
    have := List.mem_range.1 hq
    unfold labOf
    rw [if_neg (by omega), Int.toNat_natCast]
  · simp [labOf]
/-- All stands: the kernel. -/
theorem NewI.done {w0 w1 w w' : World} {kb pb mb n gb : Nat} {p : Pl} {tv : Value} {ws : List (End × Nat)} {FW : End → Nat → Prop} (h : NewI w0 w1 kb pb mb n (labs n) (.pointer none) (allOf n : Nat) p tv ws FW) (hd : ∀ e, Inside n e ↔ ∃ b, (e, b) ∈ ws)
    (hp : p.good) (hn : p.parts = (n : Int)) (hb : Below w1.heap.size w1 w) (hgb : w1.heap.size ≤ gb) (hG : GateAt w gb (allOf n : Nat))
    (hr : w'.heap[kb]? = some (.cells #[.int .i64 p.parts, .int .i64 p.window, .int .i64 p.delay, .pointer (some ⟨gb, 0, none⟩), tv, .int .u64 (allOf n : Nat), .map (some mb)] 67 (0, 0))) (hg : w.grownBy w' (some kb)) :
    ∃ tb tc, KnAt w0 w' kb gb tb tc mb n ws FW p (fun _ => ([], [])) := by
  have hl1 := h.lt
  have h2 := h.step hb
  have hm : Mod (fun k => k = kb) w w' := Mod.of_grown hg fun k e => by cases e; rfl
  have hG0 : ∀ k, k = kb → w0.heap.size ≤ k := fun k e => by rw [e]; exact h.low.1
  have ht2 : LOwn w' w0.heap.size tv (labs n) := h2.tags.grown hm fun g hg e => h.three.2.2.2.1 (by rw [hg]; exact congrArg some e)
  have hth := h.three
  have htl := h.tags.lt
  rcases ht2.2 with ⟨-, e0⟩ | ⟨tb, tc, cur, etv, htb, -⟩
  · rw [labs_len] at e0; cases e0
  rw [labs_len] at etv
  subst etv
  obtain ⟨a', c', e', hrec, -⟩ := ht2.recs
  rw [labs_len] at e' hrec
  cases e'
  refine ⟨tb, tc, ⟨hr, hG.keep (hm.block _ hG.lt fun e => by have : gb = kb := e; omega), hrec, h2.map.keep (hm.block _ h2.lt.2.2 fun e => hth.2.1 (show kb = mb from (show mb = kb from e).symm)), hd, fun q hq => ?_, fun e k hk => (hd e).2 (h.off e k hk), h.apart, fun e k hk => ?_, ⟨h.low.1, Nat.le_trans (Nat.le_trans h.bel.size (Nat.le_refl _)) hgb, (htl tb rfl).1, h.low.2.2⟩, hp, hn, hm.below h2.bel h2.bel.size hG0⟩⟩
  · have hin := (hd q.1).2 ⟨q.2, hq⟩
    have hlab : labOf n q.1.1 = (((2 ^ q.1.1.toNat : Nat) : Int), 0) := if_neg (by unfold Inside at hin; omega)
    rw [hlab]
    exact (h2.way q hq).aside hm (fun k hk e => (h2.own _ k hk).1 e) hG0
  · obtain ⟨a1, a2, a3, a4, a5, a6⟩ := h.own e k hk
    exact ⟨a1, by omega, fun e => a4 (by rw [e]; rfl), a3⟩
set_option maxRecDepth 100000 in
set_option maxHeartbeats 16000000 in
theorem New_kgood {w : World} (hT : TabOk w) (h0 : 0 < w.heap.size) (p : Pl) (hp : p.good) {n : Nat} (hn : p.parts = (n : Int)) : Calls Tryd.prog 10 #[.agg p.cells.toArray] w fun e w' =>
    ∃ kb gb tb tc mb ws FW, e = .returned (.tuple #[.pointer (some ⟨kb, 0, none⟩), .int .i64 0]) ∧ KnAt w w' kb gb tb tc mb n ws FW p (fun _ => ([], [])) := by
  have hs := fun w : World => slotNew_calls (w := w) p
  rw [if_pos hp, if_pos hp] at hs
  have hn6 : 1 ≤ n ∧ n ≤ 6 := by obtain ⟨h1, h2, -⟩ := hp; omega
  obtain ⟨a, b, c⟩ := p
  simp only [Pl.cells, Pl.parts, Pl.window, Pl.delay] at hs hn ⊢
  obtain ⟨w1, hw1⟩ : ∃ w1, w1 = w.alloc (.cells #[.int .i64 a, .int .i64 b, .int .i64 c] 28) := ⟨_, rfl⟩
  have c1 : Below w.heap.size w w1 := by rw [hw1]; exact (Below.refl _ _).alloc (Nat.le_refl _) _
  have z1 : w1.heap[w.heap.size]? = some (.cells #[.int .i64 a, .int .i64 b, .int .i64 c] 28 (0, 0)) := by rw [hw1]; exact heap_alloc_new w _
  have y0 := cells_at z1 0
  have y1 := cells_at z1 1
  have y2 := cells_at z1 2
  rw [hw1] at y0 y1 y2
  have C1 := Lib.hid c1; clear c1
  have Z1 := Lib.hid z1; clear z1
  have Hs := Lib.hid hs; clear hs
  have HP := Lib.hid hp; clear hp
  have HN := Lib.hid hn; clear hn
  have HT := Lib.hid hT; clear hT
  have hmm := @run_makeMap Tryd.prog
  go_enter Tryd.func10, Tryd.ntmps10
  go_wp2_with fail
  rw [← hw1]
  clear hw1 y0 y1 y2
  refine (Hs.out _).mono ?_
  rintro e w2 ⟨rfl, b2⟩
  have hb := C1.out.trans (b2.mono C1.out.size)
  have hz := (b2.block _ (Array.getElem?_eq_some_iff.1 Z1.out).1).trans Z1.out
  clear C1 b2 Z1
  have HB := Lib.hid hb; clear hb
  have HZ := Lib.hid hz; clear hz
  obtain ⟨w3, hw3⟩ : ∃ w3, w3 = w2.alloc (.cells #[.int .i64 a, .int .i64 b, .int .i64 c] 28) := ⟨_, rfl⟩
  have b3 : Below w2.heap.size w2 w3 := by rw [hw3]; exact (Below.refl _ _).alloc (Nat.le_refl _) _
  have hz := (b3.block _ (Array.getElem?_eq_some_iff.1 HZ.out).1).trans HZ.out
  have hb := HB.out.trans (b3.mono HB.out.size)
  have y0 := cells_at hz 0
  have y1 := cells_at hz 1
  have y2 := cells_at hz 2
  rw [hw3] at y0 y1 y2
  clear HZ HB b3
  have HB := Lib.hid hb; clear hb
  have HZ := Lib.hid hz; clear hz
  obtain ⟨w4, hw4⟩ : ∃ w4, w4 = w3.alloc (.map #[] 0) := ⟨_, rfl⟩
  have b4 : Below w3.heap.size w3 w4 := by rw [hw4]; exact (Below.refl _ _).alloc (Nat.le_refl _) _
  have m4 : MapK endV w4 w3.heap.size (ptrs []) := by rw [hw4]; exact MapK.made w3
  have s3 : w3.heap.size = w2.heap.size + 1 := by rw [hw3, World.size_alloc]
  have s4 : w4.heap.size = w2.heap.size + 1 + 1 := by rw [hw4, World.size_alloc, s3]
  obtain ⟨w5, hw5⟩ : ∃ w5, w5 = w4.alloc (.cells #[.int .i64 a, .int .i64 b, .int .i64 c, .pointer none, .slice none 0 0, .int .u64 0, .map (some (w2.heap.size + 1))] 67) := ⟨_, rfl⟩
  have b5 : Below w4.heap.size w4 w5 := by rw [hw5]; exact (Below.refl _ _).alloc (Nat.le_refl _) _
  have k5 : w5.heap[w4.heap.size]? = some (.cells #[.int .i64 a, .int .i64 b, .int .i64 c, .pointer none, .slice none 0 0, .int .u64 0, .map (some (w2.heap.size + 1))] 67 (0, 0)) := by rw [hw5]; exact heap_alloc_new w4 _
  have s5 : w5.heap.size = w2.heap.size + 1 + 1 + 1 := by rw [hw5, World.size_alloc, s4]
  obtain ⟨w6, hw6⟩ : ∃ w6, w6 = w5.alloc (.cells #[.int .u64 0] 113) := ⟨_, rfl⟩
  have b6 : Below w5.heap.size w5 w6 := by rw [hw6]; exact (Below.refl _ _).alloc (Nat.le_refl _) _
  have p6 : w6.heap[w5.heap.size]? = some (.cells #[.int .u64 (allOf 0 : Nat)] 113 (0, 0)) := by rw [hw6]; exact heap_alloc_new w5 _
  have b46 := b5.trans (b6.mono b5.size)
  have k6 := (b6.block _ (Array.getElem?_eq_some_iff.1 k5).1).trans k5
  have m6 := m4.keep (b46.block _ (by omega))
  have b36 := b4.trans (b46.mono b4.size)
  have hb6 := HB.out.trans (b36.mono HB.out.size)
  have z6 := (b36.block _ (Array.getElem?_eq_some_iff.1 HZ.out).1).trans HZ.out
  rw [s3] at m6
  rw [s4] at k6
  have hsz := HB.out.size
  have hi : NewI w w6 (w2.heap.size + 1 + 1) w5.heap.size (w2.heap.size + 1) 0 (plabs 0) (.pointer none) 0 (a, b, c) (.slice none 0 0) [] (fun _ _ => False) := ⟨k6, p6, ROwn.nil _ _, m6, fun _ hq => (by cases hq), fun _ _ _ _ h => h.elim, fun _ _ h => h.elim, fun _ _ h => h.elim,
    ⟨by omega, by omega, by omega, (by intro h; cases h), (by intro h; cases h), (by intro h; cases h)⟩, ⟨by omega, by omega, by omega⟩, hb6⟩
  clear b4 b5 b6 m4 k5 p6 b46 k6 m6 b36 hb6
  have HI := Lib.hid hi; clear hi
  have Z6 := Lib.hid z6; clear z6
  have SZ := Lib.hid (And.intro s3 (And.intro s4 s5)); clear s3 s4 s5 hsz
  go_wp2_with fail
  rw [← hw3, ← hw4, ← hw5]
  clear hw3 hw4 hw5 y0 y1 y2 HB HZ
  refine (NewPool_calls 0).mono ?_
  rintro e w7 ⟨rfl, hw7⟩
  rw [← hw6] at hw7
  subst hw7
  clear hw6
  have y0 := cells_at Z6.out 0
  generalize w5.heap.size = pb at *
  generalize w2.heap.size + 1 + 1 = kb at *
  generalize w2.heap.size + 1 = mb at *
  go_wp2_with fail
  go_loopw [38] (fun s wr => ∃ (j : Nat) (tv : Value) (ws : List (End × Nat)) (FW : End → Nat → Prop), j ≤ n ∧ s = .int .i64 j ∧ NewI w wr kb pb mb j (plabs j) (.pointer none) 0 (a, b, c) tv ws FW ∧ (∀ e, Inside j e ↔ ∃ b, (e, b) ∈ ws)) (fun s _ => n - (intOf s).toNat)
  case atStart => exact ⟨0, .slice none 0 0, [], fun _ _ => False, Nat.zero_le _, rfl, HI.out, fun e => ⟨fun h => by unfold Inside at h; omega, fun ⟨_, h⟩ => by cases h⟩⟩
  case round =>
    clear HI y0 Z6
    obtain ⟨j, tv, ws, FW, hj, rfl, hi, hdom⟩ := hrel
    obtain ⟨wo, rfl⟩ : ∃ wo, wo = wr := ⟨_, rfl⟩
    have ha : a = (n : Int) := HN.out
    have HDom := Lib.hid hdom; clear hdom
    by_cases hlt : j < n
    · have d1 : decide ((j : Int) < a) = true := decide_eq_true (by omega)
      have htk := Take_pool (HT.out.below hi.bel) (by omega) (by have := hi.low.2.1; omega) hi.pool
      have HI := Lib.hid hi; clear hi
      have HTk := Lib.hid htk; clear htk
      have HA := Lib.hid ha; clear ha
      go_wp2_with fail
      refine HTk.out.mono ?_
      rintro e w8 ⟨rfl, hp8, hm8⟩
      have hi8 := HI.out.taken hp8 hm8
      clear hp8 hm8 HTk HI
      have HI := Lib.hid hi8; clear hi8
      obtain ⟨w9, hw9⟩ : ∃ w9, w9 = w8.alloc (.cells #[.int .i64 (j : Int)] 3) := ⟨_, rfl⟩
      have b9 : Below w8.heap.size w8 w9 := by rw [hw9]; exact (Below.refl _ _).alloc (Nat.le_refl _) _
      have z9 : w9.heap[w8.heap.size]? = some (.cells #[.int .i64 (j : Int)] 3 (0, 0)) := by rw [hw9]; exact heap_alloc_new w8 _
      have hof := Of_one (g := w8.heap.size) (c := 1) (n := j) (by omega) (cells_at z9 0)
      have hi9 := HI.out.step b9
      clear HI b9 z9
      have HI := Lib.hid hi9; clear hi9
      have HOf := Lib.hid hof; clear hof
      go_wp2_with fail
      rw [← hw9]
      clear hw9
      refine HOf.out.mono ?_
      rintro e w10 ⟨rfl, rfl⟩
      clear HOf
      obtain ⟨Q, hQ⟩ : ∃ Q : Nat, Q = 2 ^ j := ⟨_, rfl⟩
      rw [← hQ]
      have HQ := Lib.hid hQ; clear hQ
      obtain ⟨w11, hw11⟩ : ∃ w11, w11 = w10.alloc (.cells #[.int .u64 (Q : Int), .int .u64 0] 32) := ⟨_, rfl⟩
      have b11 : Below w10.heap.size w10 w11 := by rw [hw11]; exact (Below.refl _ _).alloc (Nat.le_refl _) _
      have z11 : w11.heap[w10.heap.size]? = some (.cells #[.int .u64 (Q : Int), .int .u64 0] 32 (0, 0)) := by rw [hw11]; exact heap_alloc_new w10 _
      have hgt0 : tv.ownBlock ≠ some w10.heap.size := fun e => by have := (HI.out.tags.lt _ e).2; omega
      have HG0 := Lib.hid hgt0; clear hgt0
      have hi11 := HI.out.step b11
      clear HI b11
      have HI := Lib.hid hi11; clear hi11
      have Z11 := Lib.hid z11; clear z11
      go_wp2_with fail
      rw [← hw11]
      clear hw11
      generalize w10.heap.size = gl at *
      refine wp_region_free [0, 1, 2, 3, 4, 5, 6, 7, 8, 9, 10] (by kernel_rfl) (by kernel_rfl) rfl (by kernel_rfl) (fun _ _ _ h => by obtain ⟨_, _, _, _, _, _, _, _, h, _⟩ := h; cases h) (fun _ _ h => by obtain ⟨_, _, _, _, _, _, _, h, _⟩ := h; cases h) ?_
      simp only [List.map_cons, List.map_nil, List.getD_cons_zero, List.getD_cons_succ]
      have b12 := below_drew w11
      generalize w11.drew = w12 at b12 ⊢
      have hi12 := HI.out.step b12
      have z12 := (b12.block _ (Array.getElem?_eq_some_iff.1 Z11.out).1).trans Z11.out
      clear HI Z11 b12
      obtain ⟨ta, tc, htv⟩ := hi12.tags.shape
      rw [List.length_map, List.length_range] at htv
      subst htv
      have c4 : w12.cell? ⟨kb, 4, none⟩ = some (.slice ta j tc) := cells_at hi12.root 4
      have d0 : w12.cell? ⟨gl, 0, none⟩ = some (.int .u64 (Q : Int)) := cells_at z12 0
      have d1' : w12.cell? ⟨gl, 1, none⟩ = some (.int .u64 0) := cells_at z12 1
      have HI := Lib.hid hi12; clear hi12
      have Z12 := Lib.hid z12; clear z12
      go_wp2_with (with_reducible refine stop_builtin .append ?_)
      refine unpark ?_
      have x13 := heap_alloc_new w12 (.cells #[.int .u64 (Q : Int), .int .u64 0] 32)
      have b13 : Below w12.heap.size w12 (w12.alloc (.cells #[.int .u64 (Q : Int), .int .u64 0] 32)) := (Below.refl _ _).alloc (Nat.le_refl _) _
      have s13 : (w12.alloc (.cells #[.int .u64 (Q : Int), .int .u64 0] 32)).heap.size = w12.heap.size + 1 := by simp
      generalize w12.alloc (.cells #[.int .u64 (Q : Int), .int .u64 0] 32) = w13 at x13 b13 s13 ⊢
      have o13 := HI.out.tags.below b13
      refine wpList_append_rec1 labElem _ rfl _ _ rfl w.heap.size (.slice ta j tc) ((List.range j).map fun (q : Nat) => (((2 ^ q : Nat) : Int), 0)) rfl o13 w12.heap.size 1 (by decide) (by decide) ((Q : Int), 0) rfl x13 (fun j' u hu => by rw [List.getElem?_toArray]; exact hu) (by rw [List.length_map, List.length_range]; omega) (HI.out.step b13).bel.size ?_
      intro tv' w14 o14 g14 wh14
      have hkb := HI.out.lt
      have htr := HI.out.three
      have hall : (List.range (j + 1)).map (fun (q : Nat) => ((((2 ^ q : Nat) : Int), (0 : Int)) : Label)) = ((List.range j).map fun (q : Nat) => (((2 ^ q : Nat) : Int), 0)) ++ [((Q : Int), 0)] := by rw [List.range_succ, List.map_append, HQ.out]; rfl
      rw [← hall] at o14
      have k14 : w14.heap[kb]? = w12.heap[kb]? := (g14.block _ (by omega) fun e => htr.2.2.2.1 e.symm).trans (b13.block _ hkb.1)
      have r14 := k14.trans HI.out.root
      have m14 : Mod (fun k => k = kb ∨ (Value.slice ta j tc).ownBlock = some k) w12 w14 := ⟨g14.os.trans b13.os, g14.tape.trans b13.tape, g14.output.trans b13.output, Nat.le_trans b13.size g14.size, fun y hy hn => (g14.block y (by omega) fun e => hn (.inr e.symm)).trans (b13.block y hy)⟩
      have hv14 : ∀ g, tv'.ownBlock = some g → (Value.slice ta j tc).ownBlock = some g ∨ w12.heap.size ≤ g := fun g hg => by
        rcases wh14 with e | e
        · rw [e] at hg; exact .inl hg
        · rw [e] at hg; cases hg; exact .inr (by omega)
      have hgl := (Array.getElem?_eq_some_iff.1 Z12.out).1
      have hglk : gl ≠ kb := fun e => by
        have h1 := Z12.out
        rw [e, HI.out.root] at h1
        simp at h1
      have hglt : (Value.slice ta j tc).ownBlock ≠ some gl := HG0.out
      have z14 := (g14.block gl (by omega) fun e => hglt e.symm).trans ((b13.block gl hgl).trans Z12.out)
      clear x13 b13 s13 o13 g14 wh14 c4 d0 d1' hall k14 hkb htr
      have R14 := Lib.hid r14; clear r14
      have M14 := Lib.hid m14; clear m14
      have V14 := Lib.hid hv14; clear hv14
      have O14 := Lib.hid o14; clear o14
      have Z14 := Lib.hid z14; clear z14
      go_wp2_with (with_reducible refine stop_store 65 ?_)
      refine unpark ?_
      obtain ⟨ta', tc', htv'⟩ := O14.out.shape
      refine wpList_store_at rfl _ _ _ rfl kb 4 rfl tv' rfl [tv'] (by rw [htv']; rfl) _ _ R14.out 1 rfl (by simp) (fun u hu => by rw [List.mem_singleton] at hu; rw [hu, htv']; rfl) (by kernel_rfl) ?_
      intro w15 hz15 hg15 hs15
      clear hs15
      have mz : Mod (fun k => k = kb ∨ (Value.slice ta j tc).ownBlock = some k) w14 w15 := Mod.of_grown hg15 fun k e => by cases e; exact .inl rfl
      have htk' : tv'.ownBlock ≠ some kb := fun e => by
        rcases V14.out kb e with h | h
        · exact HI.out.three.2.2.2.1 h
        · have := HI.out.lt.1; omega
      have o15 : LOwn w15 w.heap.size tv' ((List.range (j + 1)).map fun (q : Nat) => (((2 ^ q : Nat) : Int), 0)) := O14.out.keep fun g hgo hl => hg15.block g hl fun e => htk' (by rw [hgo, e])
      have hi15 := HI.out.tagged hz15 o15 (M14.out.trans mz (fun _ h => h) (fun _ _ h => h)) V14.out
      have z15 := (hg15.block gl (Array.getElem?_eq_some_iff.1 Z14.out).1 (by intro e; exact hglk (by cases e; rfl))).trans Z14.out
      clear hz15 hg15 mz htk' o15 HI M14 V14 O14 Z14 R14 Z12 htv' hglt hglk hgl HG0
      have HI := Lib.hid hi15; clear hi15
      have Z15 := Lib.hid z15; clear z15
      obtain ⟨w16, hw16⟩ : ∃ w16, w16 = w15.alloc (.cells #[.int .i64 0, .int .i64 1] 75) := ⟨_, rfl⟩
      have b16 : Below w15.heap.size w15 w16 := by rw [hw16]; exact (Below.refl _ _).alloc (Nat.le_refl _) _
      have z16 : w16.heap[w15.heap.size]? = some (.cells #[.int .i64 0, .int .i64 1] 75 (0, 0)) := by rw [hw16]; exact heap_alloc_new w15 _
      have hi16 := HI.out.step b16
      have l16 := (b16.block _ (Array.getElem?_eq_some_iff.1 Z15.out).1).trans Z15.out
      clear HI Z15 b16
      have HI := Lib.hid hi16; clear hi16
      have HL := Lib.hid l16; clear l16
      have HD := Lib.hid z16; clear z16
      go_wp2_with fail
      rw [← hw16]
      clear hw16
      generalize w15.heap.size = gd at *
      refine wp_loop_rounds 3 ?_
      rw [rounds_succ]
      have x0 : w16.cell? ⟨gd, 0, none⟩ = some (.int .i64 0) := cells_at HD.out 0
      have x1 : w16.cell? ⟨gl, 0, none⟩ = some (.int .u64 (Q : Int)) := cells_at HL.out 0
      have x2 : w16.cell? ⟨gl, 1, none⟩ = some (.int .u64 0) := cells_at HL.out 1
      have hne : Calls Tryd.prog 38 #[.agg #[.int .u64 (Q : Int), .int .u64 0], .int .i64 8] w16 fun e w' => ∃ b F, e = .returned (.tuple #[.pointer (some ⟨b, 0, none⟩), .int .i64 0]) ∧ Bx w w' b F ((Q : Int), 0) 8 [] ∧ (∀ k, F k → w16.heap.size ≤ k) ∧ Below w16.heap.size w16 w' := New_bx HI.out.bel ((Q : Int), 0) (n := 8) (by decide) (by decide)
      have HNe := Lib.hid hne; clear hne
      go_wp2_with fail
      clear x0 x1 x2
      refine HNe.out.mono ?_
      rintro e w17 ⟨xb17, Fx17, rfl, hbx, hfx, b17⟩
      have hi17 := HI.out.step b17
      have r17 : w17.cell? ⟨kb, 6, none⟩ = some (.map (some mb)) := cells_at hi17.root 6
      clear HNe
      have HI17 := Lib.hid hi17; clear hi17
      have HBx := Lib.hid (And.intro hbx (And.intro hfx b17)); clear hbx hfx b17
      go_wp2_with (with_reducible refine stop_mapUpdate 64 ?_)
      refine unpark ?_
      obtain ⟨hbx, hfx, b17⟩ := HBx.out
      have b18 : Below w17.heap.size w17 (w17.alloc (.cells #[.slice none 0 0, .pointer (some ⟨xb17, 0, none⟩)] 82)) := (Below.refl _ _).alloc (Nat.le_refl _) _
      have z18 := heap_alloc_new w17 (.cells #[.slice none 0 0, .pointer (some ⟨xb17, 0, none⟩)] 82)
      have s18 : (w17.alloc (.cells #[.slice none 0 0, .pointer (some ⟨xb17, 0, none⟩)] 82)).heap.size = w17.heap.size + 1 := by simp
      generalize w17.alloc (.cells #[.slice none 0 0, .pointer (some ⟨xb17, 0, none⟩)] 82) = w18 at b18 z18 s18 ⊢
      have hi18 := HI17.out.step b18
      have hs17 := b17.size
      have hway : Way w w18 w17.heap.size (fun k => Fx17 k ∨ k = w17.heap.size) ((Q : Int), 0) [] [] := ⟨⟨.slice none 0 0, xb17, Fx17, z18, MOwn.nil _ _, hbx.step b18, fun k hk => .inl hk, .inr rfl, (fun g hg => by cases hg), fun hk => by have := (hbx.low _ hk).2; omega⟩, fun k hk => by
        rcases hk with hk | hk
        · have := hbx.low k hk; omega
        · have := hbx.bel.size; omega⟩
      have hq2 : (((2 ^ ((j : Int), (0 : Int)).1.toNat : Nat) : Int), (0 : Int)) = ((Q : Int), 0) := by rw [HQ.out]; rfl
      rw [← hq2] at hway
      have hnew : ∀ b', (((j : Int), (0 : Int)), b') ∉ ws := fun b' hb' => by
        have := (HDom.out ((j : Int), 0)).2 ⟨b', hb'⟩
        unfold Inside at this
        simp only at this
        omega
      refine wpList_store_key rfl endLaw _ _ _ _ rfl mb (ptrs (ws)) hi18.map ((j : Int), 0) _ rfl rfl rfl _ Tryd.underlying64 (fun q hq e => by obtain ⟨⟨e', b'⟩, hb', rfl⟩ := List.mem_map.1 hq; exact hnew b' (by rw [← e]; exact hb')) ?_
      intro w19 hm19 hg19 hs19
      have hi19 := hi18.more (e := ((j : Int), 0)) (b := w17.heap.size) (B := w16.heap.size) (F := fun k => Fx17 k ∨ k = w17.heap.size) (fun e k hk => (HI.out.own e k hk).2.2.2.2.2) ⟨HI.out.lt.1, HI.out.lt.2.1, HI.out.lt.2.2⟩ (fun g hg => (HI.out.tags.lt g hg).2) hway
        (fun k hk => by rcases hk with hk | hk; exact hfx k hk; omega) hway.low hnew hm19 hg19
      have hmm1 : ∀ (k : Nat) (cs : Array Value) (t : TypeId), w16.heap[k]? = some (Obj.cells cs t (0, 0)) → w19.heap[k]? = some (Obj.cells cs t (0, 0)) := fun k cs t hk => by
        have hl := (Array.getElem?_eq_some_iff.1 hk).1
        have hkm : k ≠ mb := fun e => by
          obtain ⟨⟨es, cl, h1, _⟩, _⟩ := HI.out.map
          rw [e, h1] at hk
          cases hk
        exact (hg19.block k (by have := b18.size; omega) (by intro e; exact hkm (by cases e; rfl))).trans ((b18.block k (by omega)).trans ((b17.block k hl).trans hk))
      have l19 := hmm1 _ _ _ HL.out
      have z19 := hmm1 _ _ _ HD.out
      clear HL HD HI HI17 HBx hbx hfx b17 b18 z18 s18 hi18 hs17 hway hq2 hnew hm19 hg19 hs19 hmm1 r17
      have HL := Lib.hid l19; clear l19
      have HD := Lib.hid z19; clear z19
      have HI := Lib.hid hi19; clear hi19
      go_wp2_with fail
      rw [rounds_succ]
      have x0 : w19.cell? ⟨gd, 1, none⟩ = some (.int .i64 1) := cells_at HD.out 1
      have x1 : w19.cell? ⟨gl, 0, none⟩ = some (.int .u64 (Q : Int)) := cells_at HL.out 0
      have x2 : w19.cell? ⟨gl, 1, none⟩ = some (.int .u64 0) := cells_at HL.out 1
      have hne : Calls Tryd.prog 38 #[.agg #[.int .u64 (Q : Int), .int .u64 0], .int .i64 8] w19 fun e w' => ∃ b F, e = .returned (.tuple #[.pointer (some ⟨b, 0, none⟩), .int .i64 0]) ∧ Bx w w' b F ((Q : Int), 0) 8 [] ∧ (∀ k, F k → w19.heap.size ≤ k) ∧ Below w19.heap.size w19 w' := New_bx HI.out.bel ((Q : Int), 0) (n := 8) (by decide) (by decide)
      have HNe := Lib.hid hne; clear hne
      go_wp2_with fail
      clear x0 x1 x2
      refine HNe.out.mono ?_
      rintro e w20 ⟨xb20, Fx20, rfl, hbx, hfx, b17⟩
      have hi17 := HI.out.step b17
      have r17 : w20.cell? ⟨kb, 6, none⟩ = some (.map (some mb)) := cells_at hi17.root 6
      clear HNe
      have HI17 := Lib.hid hi17; clear hi17
      have HBx := Lib.hid (And.intro hbx (And.intro hfx b17)); clear hbx hfx b17
      go_wp2_with (with_reducible refine stop_mapUpdate 64 ?_)
      refine unpark ?_
      obtain ⟨hbx, hfx, b17⟩ := HBx.out
      have b18 : Below w20.heap.size w20 (w20.alloc (.cells #[.slice none 0 0, .pointer (some ⟨xb20, 0, none⟩)] 82)) := (Below.refl _ _).alloc (Nat.le_refl _) _
      have z18 := heap_alloc_new w20 (.cells #[.slice none 0 0, .pointer (some ⟨xb20, 0, none⟩)] 82)
      have s18 : (w20.alloc (.cells #[.slice none 0 0, .pointer (some ⟨xb20, 0, none⟩)] 82)).heap.size = w20.heap.size + 1 := by simp
      generalize w20.alloc (.cells #[.slice none 0 0, .pointer (some ⟨xb20, 0, none⟩)] 82) = w21 at b18 z18 s18 ⊢
      have hi18 := HI17.out.step b18
      have hs17 := b17.size
      have hway : Way w w21 w20.heap.size (fun k => Fx20 k ∨ k = w20.heap.size) ((Q : Int), 0) [] [] := ⟨⟨.slice none 0 0, xb20, Fx20, z18, MOwn.nil _ _, hbx.step b18, fun k hk => .inl hk, .inr rfl, (fun g hg => by cases hg), fun hk => by have := (hbx.low _ hk).2; omega⟩, fun k hk => by
        rcases hk with hk | hk
        · have := hbx.low k hk; omega
        · have := hbx.bel.size; omega⟩
      have hq2 : (((2 ^ ((j : Int), (1 : Int)).1.toNat : Nat) : Int), (0 : Int)) = ((Q : Int), 0) := by rw [HQ.out]; rfl
      rw [← hq2] at hway
      have hnew : ∀ b', (((j : Int), (1 : Int)), b') ∉ ws ++ [(((j : Int), (0 : Int)), w17.heap.size)] := fun b' hb' => by
        rcases List.mem_append.1 hb' with hb' | hb'
        · have := (HDom.out ((j : Int), 1)).2 ⟨b', hb'⟩
          unfold Inside at this
          simp only at this
          omega
        · rw [List.mem_singleton] at hb'
          cases hb' 
      refine wpList_store_key rfl endLaw _ _ _ _ rfl mb (ptrs (ws ++ [(((j : Int), (0 : Int)), w17.heap.size)])) hi18.map ((j : Int), 1) _ rfl rfl rfl _ Tryd.underlying64 (fun q hq e => by obtain ⟨⟨e', b'⟩, hb', rfl⟩ := List.mem_map.1 hq; exact hnew b' (by rw [← e]; exact hb')) ?_
      intro w22 hm19 hg19 hs19
      have hi19 := hi18.more (e := ((j : Int), 1)) (b := w20.heap.size) (B := w19.heap.size) (F := fun k => Fx20 k ∨ k = w20.heap.size) (fun e k hk => (HI.out.own e k hk).2.2.2.2.2) ⟨HI.out.lt.1, HI.out.lt.2.1, HI.out.lt.2.2⟩ (fun g hg => (HI.out.tags.lt g hg).2) hway
        (fun k hk => by rcases hk with hk | hk; exact hfx k hk; omega) hway.low hnew hm19 hg19
      have hmm1 : ∀ (k : Nat) (cs : Array Value) (t : TypeId), w19.heap[k]? = some (Obj.cells cs t (0, 0)) → w22.heap[k]? = some (Obj.cells cs t (0, 0)) := fun k cs t hk => by
        have hl := (Array.getElem?_eq_some_iff.1 hk).1
        have hkm : k ≠ mb := fun e => by
          obtain ⟨⟨es, cl, h1, _⟩, _⟩ := HI.out.map
          rw [e, h1] at hk
          cases hk
        exact (hg19.block k (by have := b18.size; omega) (by intro e; exact hkm (by cases e; rfl))).trans ((b18.block k (by omega)).trans ((b17.block k hl).trans hk))
      have l19 := hmm1 _ _ _ HL.out
      have z19 := hmm1 _ _ _ HD.out
      clear HL HD HI HI17 HBx hbx hfx b17 b18 z18 s18 hi18 hs17 hway hq2 hnew hm19 hg19 hs19 hmm1 r17
      have HL := Lib.hid l19; clear l19
      have HD := Lib.hid z19; clear z19
      have HI := Lib.hid hi19; clear hi19
      go_wp2_with fail
      rw [rounds_succ]
      go_wp2_with fail
      go_roundw
      case rel => exact ⟨j + 1, tv', _, _, by omega, by go_num, HI.out, fun e => by
        rw [show (∃ b, (e, b) ∈ ws ++ [(((j : Int), (0 : Int)), w17.heap.size)] ++ [(((j : Int), (1 : Int)), w20.heap.size)]) ↔ ((∃ b, (e, b) ∈ ws) ∨ e = ((j : Int), 0) ∨ e = ((j : Int), 1)) by
          constructor
          · rintro ⟨b', hb'⟩
            simp only [List.mem_append, List.mem_singleton, Prod.mk.injEq] at hb'
            rcases hb' with (h | ⟨h, -⟩) | ⟨h, -⟩
            · exact .inl ⟨b', h⟩
            · exact .inr (.inl h)
            · exact .inr (.inr h)
          · rintro (⟨b', h⟩ | rfl | rfl)
            · exact ⟨b', List.mem_append_left _ (List.mem_append_left _ h)⟩
            · exact ⟨_, List.mem_append_left _ (List.mem_append_right _ (.head _))⟩
            · exact ⟨_, List.mem_append_right _ (.head _)⟩, ← HDom.out e]
        obtain ⟨e1, e2⟩ := e
        unfold Inside
        simp only [Prod.mk.injEq]
        omega⟩
      case measure => simp [intOf]; omega
    · obtain rfl : j = n := by omega
      have d1 : decide ((j : Int) < a) = false := decide_eq_false (by omega)
      have htn := Taken_calls hi.pool
      have HI := Lib.hid hi; clear hi
      have HTn := Lib.hid htn; clear htn
      have HA := Lib.hid ha; clear ha
      go_wp2_with fail
      refine HTn.out.mono ?_
      rintro e w8 ⟨rfl, rfl⟩
      clear HTn
      go_wp2_with (with_reducible refine stop_store 30 ?_)
      refine unpark ?_
      refine wpList_store_at rfl _ _ _ rfl kb 5 rfl _ rfl [.int .u64 (allOf j : Nat)] rfl _ _ HI.out.root 1 rfl (by simp) (by simp [Value.oneCell']) (by kernel_rfl) ?_
      intro w9 hz9 hg9 hs9
      clear hs9
      have hi9 := HI.out.turned (gp' := .pointer none) (al' := (allOf j : Nat)) hz9 hg9
      clear HI hz9 hg9
      have HI := Lib.hid hi9; clear hi9
      go_wp2_with fail
      refine wp_region_free [0, 1, 2, 3, 4, 5, 6, 7, 8, 9, 10, 11, 12, 13, 14] (by kernel_rfl) (by kernel_rfl) rfl (by kernel_rfl) (fun _ _ _ h => by obtain ⟨_, _, _, _, _, _, _, _, h, _⟩ := h; cases h) (fun _ _ h => by obtain ⟨_, _, _, _, _, _, _, h, _⟩ := h; cases h) ?_
      simp only [List.map_cons, List.map_nil, List.getD_cons_zero, List.getD_cons_succ]
      have b10 := below_drew w9
      generalize w9.drew = w10 at b10 ⊢
      have hi10 := HI.out.step b10
      clear HI b10
      obtain ⟨ta, tc, htv⟩ := hi10.tags.shape
      rw [List.length_map, List.length_range] at htv
      subst htv
      obtain ⟨A, hA⟩ : ∃ A : Nat, A = allOf j := ⟨_, rfl⟩
      have c4 : w10.cell? ⟨kb, 4, none⟩ = some (.slice ta j tc) := cells_at hi10.root 4
      have c5 : w10.cell? ⟨kb, 5, none⟩ = some (.int .u64 (A : Int)) := by rw [hA]; exact cells_at hi10.root 5
      have HI := Lib.hid hi10; clear hi10
      have HAl := Lib.hid hA; clear hA
      go_wp2_with (with_reducible refine stop_builtin .append ?_)
      refine unpark ?_
      have x13 := heap_alloc_new w10 (.cells #[.int .u64 (A : Int), .int .u64 0] 32)
      have b13 : Below w10.heap.size w10 (w10.alloc (.cells #[.int .u64 (A : Int), .int .u64 0] 32)) := (Below.refl _ _).alloc (Nat.le_refl _) _
      have s13 : (w10.alloc (.cells #[.int .u64 (A : Int), .int .u64 0] 32)).heap.size = w10.heap.size + 1 := by simp
      generalize w10.alloc (.cells #[.int .u64 (A : Int), .int .u64 0] 32) = w13 at x13 b13 s13 ⊢
      have o13 := HI.out.tags.below b13
      refine wpList_append_rec1 labElem _ rfl _ _ rfl w.heap.size (.slice ta j tc) (plabs j) rfl o13 w10.heap.size 1 (by decide) (by decide) ((A : Int), 0) rfl x13 (fun j' u hu => by rw [List.getElem?_toArray]; exact hu) (by rw [List.length_map, List.length_range]; omega) (HI.out.step b13).bel.size ?_
      intro tv' w14 o14 g14 wh14
      have hkb := HI.out.lt
      have htr := HI.out.three
      have hall : labs j = plabs j ++ [((A : Int), 0)] := by rw [HAl.out]; exact labs_split j
      rw [← hall] at o14
      have k14 : w14.heap[kb]? = w10.heap[kb]? := (g14.block _ (by omega) fun e => htr.2.2.2.1 e.symm).trans (b13.block _ hkb.1)
      have r14 := k14.trans HI.out.root
      have m14 : Mod (fun k => k = kb ∨ (Value.slice ta j tc).ownBlock = some k) w10 w14 := ⟨g14.os.trans b13.os, g14.tape.trans b13.tape, g14.output.trans b13.output, Nat.le_trans b13.size g14.size, fun y hy hn => (g14.block y (by omega) fun e => hn (.inr e.symm)).trans (b13.block y hy)⟩
      have hv14 : ∀ g, tv'.ownBlock = some g → (Value.slice ta j tc).ownBlock = some g ∨ w10.heap.size ≤ g := fun g hg => by
        rcases wh14 with e | e
        · rw [e] at hg; exact .inl hg
        · rw [e] at hg; cases hg; exact .inr (by omega)
      clear x13 b13 s13 o13 g14 wh14 c4 c5 hall k14 hkb htr
      have R14 := Lib.hid r14; clear r14
      have M14 := Lib.hid m14; clear m14
      have V14 := Lib.hid hv14; clear hv14
      have O14 := Lib.hid o14; clear o14
      go_wp2_with (with_reducible refine stop_store 65 ?_)
      refine unpark ?_
      obtain ⟨ta', tc', htv'⟩ := O14.out.shape
      refine wpList_store_at rfl _ _ _ rfl kb 4 rfl tv' rfl [tv'] (by rw [htv']; rfl) _ _ R14.out 1 rfl (by simp) (fun u hu => by rw [List.mem_singleton] at hu; rw [hu, htv']; rfl) (by kernel_rfl) ?_
      intro w15 hz15 hg15 hs15
      clear hs15
      have mz : Mod (fun k => k = kb ∨ (Value.slice ta j tc).ownBlock = some k) w14 w15 := Mod.of_grown hg15 fun k e => by cases e; exact .inl rfl
      have htk' : tv'.ownBlock ≠ some kb := fun e => by
        rcases V14.out kb e with h | h
        · exact HI.out.three.2.2.2.1 h
        · have := HI.out.lt.1; omega
      have o15 : LOwn w15 w.heap.size tv' (labs j) := O14.out.keep fun g hgo hl => hg15.block g hl fun e => htk' (by rw [hgo, e])
      have hi15 := HI.out.tagged hz15 o15 (M14.out.trans mz (fun _ h => h) (fun _ _ h => h)) V14.out
      clear hz15 hg15 mz htk' o15 HI M14 V14 O14 R14 htv'
      have c5 : w15.cell? ⟨kb, 5, none⟩ = some (.int .u64 (A : Int)) := by rw [HAl.out]; exact cells_at hi15.root 5
      have HI := Lib.hid hi15; clear hi15
      go_wp2_with fail
      refine (GateNew_calls (A : Int)).mono ?_
      rintro e w16 ⟨gb, rfl, hgb, hG, b16⟩
      have r16 := (b16.block _ HI.out.lt.1).trans HI.out.root
      clear c5
      have BG := Lib.hid (And.intro hgb (And.intro hG b16)); clear hgb hG b16
      have R16 := Lib.hid r16; clear r16
      go_wp2_with (with_reducible refine stop_store 34 ?_)
      refine unpark ?_
      refine wpList_store_at rfl _ _ _ rfl kb 3 rfl (.pointer (some ⟨gb, 0, none⟩)) rfl [.pointer (some ⟨gb, 0, none⟩)] rfl _ _ R16.out 1 rfl (by simp) (by simp [Value.oneCell']) (by kernel_rfl) ?_
      intro w17 hz17 hg17 hs17
      clear hs17
      obtain ⟨hgb, hG, b16⟩ := BG.out
      rw [HAl.out] at hG
      obtain ⟨tb, tcc, hk⟩ := HI.out.done HDom.out HP.out HN.out b16 hgb hG hz17 hg17
      clear HI hgb hG b16 BG R16 hz17 hg17 HAl
      have HK := Lib.hid hk; clear hk
      go_wp2_with fail
      go_ret2
      exact ⟨_, _, _, _, _, _, _, rfl, HK.out⟩
end Go.Proofs.YtclgakdfeeefiaaDoor
