/- The desk: New, Of, May. -/
import Derived.Test.YtdccocgdgcjfcaaDesk2
namespace Go.Proofs.Ytdccocgdgcjfcaa
open Go.RowKit

section
variable {w w' : World} {B b : Nat} {mv : Value} {p : Pl} {es : List Ent}
set_option maxHeartbeats 1000000 in
theorem New_bad {w : World} {p : Pl} (hn : ¬ p.good) : Calls Try.prog 8 #[.agg p.cells.toArray] w fun e w' => e = .returned (.tuple #[.pointer none, .int .i64 11]) ∧ Below w.heap.size w w' := by
  have hc := fun w : World => slotNew_calls (w := w) p
  simp only [if_neg hn] at hc
  clear hn
  obtain ⟨a, c, d⟩ := p
  simp only [Pl.cells, Pl.parts, Pl.window, Pl.delay] at hc ⊢
  have Hc := Lib.hid hc; clear hc
  go_enter Try.func8, Try.ntmps8
  go_wp2_with fail
  refine (Hc.out _).mono ?_
  rintro e w1 ⟨rfl, b1⟩
  have b0 := ((Below.refl w.heap.size w).alloc (Nat.le_refl _) (.cells #[.int .i64 a, .int .i64 c, .int .i64 d] 29))
  have bb := b0.trans (b1.mono b0.size)
  clear b1 b0
  have b2 := bb.alloc bb.size (.cells #[.int .i64 0, .int .i64 0, .int .i64 0] 29)
  have Hb2 := Lib.hid b2; clear b2
  have Hb := Lib.hid bb; clear bb
  go_wp2
  go_ret2
  exact ⟨rfl, Hb2.out⟩
set_option maxHeartbeats 1000000 in
theorem New_calls {w : World} {p : Pl} (hn : p.good) : Calls Try.prog 8 #[.agg p.cells.toArray] w fun e w' => ∃ b, e = .returned (.tuple #[.pointer (some ⟨b, 0, none⟩), .int .i64 0]) ∧ DeskAt w' w.heap.size b (.slice none 0 0) p [] ∧ Below w.heap.size w w' := by
  have hc := fun w : World => slotNew_calls (w := w) p
  simp only [if_pos hn] at hc
  have Hn := Lib.hid hn; clear hn
  obtain ⟨a, c, d⟩ := p
  simp only [Pl.cells, Pl.parts, Pl.window, Pl.delay] at hc ⊢
  have Hc := Lib.hid hc; clear hc
  have b0 := ((Below.refl w.heap.size w).alloc (Nat.le_refl _) (.cells #[.int .i64 a, .int .i64 c, .int .i64 d] 29))
  have hx := heap_alloc_new w (.cells #[.int .i64 a, .int .i64 c, .int .i64 d] 29)
  have Hb0 := Lib.hid b0; clear b0
  have Hx := Lib.hid hx; clear hx
  go_enter Try.func8, Try.ntmps8
  go_wp2_with fail
  generalize w.alloc (.cells #[.int .i64 a, .int .i64 c, .int .i64 d] 29) = w0 at Hb0 Hx ⊢
  refine (Hc.out _).mono ?_
  rintro e w1 ⟨rfl, b1⟩
  have bb := Hb0.out.trans (b1.mono Hb0.out.size)
  have hx1 := (b1.block w.heap.size (Array.getElem?_eq_some_iff.1 Hx.out).1).trans Hx.out
  clear b1 Hb0 Hx
  have x0 : w1.cell? ⟨w.heap.size, 0, none⟩ = some (.int .i64 a) := cells_at hx1 0
  have x1 : w1.cell? ⟨w.heap.size, 1, none⟩ = some (.int .i64 c) := cells_at hx1 1
  have x2 : w1.cell? ⟨w.heap.size, 2, none⟩ = some (.int .i64 d) := cells_at hx1 2
  have hlt : w.heap.size < w1.heap.size := (Array.getElem?_eq_some_iff.1 hx1).1
  clear hx1
  have Hb := Lib.hid bb; clear bb
  go_wp2
  have bz := Hb.out.alloc Hb.out.size (.cells #[.int .i64 a, .int .i64 c, .int .i64 d] 29)
  generalize hw2 : w1.alloc (.cells #[.int .i64 a, .int .i64 c, .int .i64 d] 29) = w2 at bz ⊢
  have hz : w2.heap.size = w1.heap.size + 1 := by rw [← hw2]; simp
  rw [← hz]
  go_ret2
  refine ⟨w2.heap.size, rfl, ⟨heap_alloc_new w2 _, ROwn.nil _ _, (fun g hg => by cases hg), bz.size, Hn.out, Nat.zero_le _, fun _ h => by cases h⟩, bz.alloc bz.size _⟩

def ofOf (p : Pl) (es : List Ent) (c now : Int) : Nat :=
  if lastOf es c = 0 then 0 else if releaseOf p (es.getD (lastOf es c - 1) noEnt).begin ≤ now then 0 else lastOf es c
theorem lastOf_unknown {es : List Ent} (h : ∀ e ∈ es, e.ok) {c : Int} (hc : ¬ (0 ≤ c ∧ c < 8)) : lastOf es c = 0 := by
  refine lastOf_zero es c fun j hj e => ?_
  have := (h _ (List.getElem_mem hj)).client
  rw [e] at this
  exact hc this

set_option maxHeartbeats 2000000 in
theorem Of_calls (h : DeskAt w B b mv p es) (c now : Int) (hc : (Lit.int .i64 c).wf = true) : Calls Try.prog 14 #[.pointer (some ⟨b, 0, none⟩), .int .i64 c, .int .i64 now] w fun e w' =>
    e = .returned (.tuple #[.int .i64 (ofOf p es c now : Nat), .bool (decide (ofOf p es c now ≠ 0))]) ∧ Below w.heap.size w w' := by
  have hk := fun w : World => known_calls (w := w) c
  by_cases hin : 0 ≤ c ∧ c < 8
  · simp only [decide_eq_true hin] at hk
    obtain ⟨C, rfl⟩ : ∃ C : Nat, c = C := ⟨c.toNat, by omega⟩
    have hC : C < 8 := by omega
    have i1 : (0 : Int) ≤ (C : Int) := hin.1
    have i2 : (C : Int) < 8 := hin.2
    have cl : w.cell? ⟨b, 4 + C, none⟩ = some (.int .i64 (lastOf es (C : Int) : Nat)) := (cells_at h.root (4 + C)).trans (dcells_at p mv es C hC)
    have hbl := (h.lt b (.inl rfl)).2
    obtain ⟨K, hK⟩ : ∃ K, K = lastOf es (C : Int) := ⟨_, rfl⟩
    have hle := lastOf_le es (C : Int)
    have h64 := h.len
    have he := Entry_calls h (K : Int) (by simp [Lit.wf, IntKind.min, IntKind.max, IntKind.signed, IntKind.bits]; omega)
    rw [← hK] at cl hle
    have Hk := Lib.hid hk; clear hk
    have hR : ofOf p es (C : Int) now = if K = 0 then 0 else if releaseOf p (es.getD (K - 1) noEnt).begin ≤ now then 0 else K := by unfold ofOf; rw [← hK]
    obtain ⟨R, hRR⟩ : ∃ R, R = ofOf p es (C : Int) now := ⟨_, rfl⟩
    rw [← hRR] at hR ⊢
    have HR := Lib.hid hR; clear hR hRR hK
    have Hh := Lib.hid h; clear h
    clear hin hc
    rcases Nat.eq_zero_or_pos K with h0 | h0
    · subst h0
      have hent : ¬ (1 ≤ ((0 : Nat) : Int) ∧ ((0 : Nat) : Int) ≤ (es.length : Int)) := by omega
      unfold entAt at he
      rw [if_neg hent, decide_eq_false hent] at he
      have e0 : R = 0 := by rw [HR.out]; rfl
      subst e0
      simp only [Ent.cells, noEnt, Ent.client, Ent.begin, Ent.mask] at he
      have He := Lib.hid he; clear he hent HR
      go_enter Try.func14, Try.ntmps14
      go_wp2_with fail
      refine (Hk.out _).mono ?_
      rintro e w1 ⟨rfl, rfl⟩
      go_wp2_with fail
      refine He.out.mono ?_
      rintro e w1 ⟨rfl, b1⟩
      have b2 := b1.alloc b1.size (.cells #[.int .i64 0, .int .i64 0, .int .u16 0] 50)
      have Hb2 := Lib.hid b2; clear b2
      have Hb1 := Lib.hid b1; clear b1
      go_wp2_with fail
      generalize w1.alloc (.cells #[.int .i64 0, .int .i64 0, .int .u16 0] 50) = w2 at Hb2 ⊢
      refine wp_region_quiet_below (by kernel_rfl) (by kernel_rfl) ?_
      repeat (any_goals (first | go_big_quiet_step (fail) | quiet_step (fail)))
      refine wpQuiet_nil ?_
      intro w3 hw3
      have bf : Below w2.heap.size w2 w3 := by obtain ⟨q, rfl⟩ := hw3; exact below_regrown _ _ _
      clear hw3
      have bz := Hb2.out.trans (bf.mono Hb2.out.size)
      clear bf
      have Hbz := Lib.hid bz; clear bz
      go_wp2
      go_ret2
      exact ⟨rfl, Hbz.out⟩
    · obtain ⟨i, rfl⟩ : ∃ i, K = i + 1 := ⟨K - 1, by omega⟩
      have hent : (1 ≤ ((i + 1 : Nat) : Int) ∧ ((i + 1 : Nat) : Int) ≤ (es.length : Int)) := by omega
      unfold entAt at he
      rw [if_pos hent, decide_eq_true hent, show (((i + 1 : Nat) : Int) - 1).toNat = i by omega] at he
      have hR : R = if releaseOf p (es.getD i noEnt).begin ≤ now then 0 else i + 1 := by rw [HR.out, if_neg (by omega)]; rfl
      clear HR hent
      generalize es.getD i noEnt = en at he hR
      have hrel := fun w : World => Release_calls (w := w) p Hh.out.good en.begin
      obtain ⟨L, hL⟩ : ∃ L, L = releaseOf p en.begin := ⟨_, rfl⟩
      rw [← hL] at hrel hR
      clear hL
      have p0 : w.cell? ⟨b, 0, none⟩ = some (.int .i64 p.parts) := cells_at Hh.out.root 0
      have p1 : w.cell? ⟨b, 1, none⟩ = some (.int .i64 p.window) := cells_at Hh.out.root 1
      have p2 : w.cell? ⟨b, 2, none⟩ = some (.int .i64 p.delay) := cells_at Hh.out.root 2
      obtain ⟨x, y, z⟩ := en
      obtain ⟨a, d, f⟩ := p
      simp only [Ent.cells, Ent.client, Ent.begin, Ent.mask, Pl.cells, Pl.parts, Pl.window, Pl.delay] at he hrel p0 p1 p2
      have He := Lib.hid he; clear he
      have Hrel := Lib.hid hrel; clear hrel
      have HR := Lib.hid hR; clear hR
      go_enter Try.func14, Try.ntmps14
      go_wp2_with fail
      refine (Hk.out _).mono ?_
      rintro e w1 ⟨rfl, rfl⟩
      go_wp2_with fail
      refine He.out.mono ?_
      rintro e w1 ⟨rfl, b1⟩
      have b2 := b1.alloc b1.size (.cells #[.int .i64 x, .int .i64 y, .int .u16 z] 50)
      have hx := heap_alloc_new w1 (.cells #[.int .i64 x, .int .i64 y, .int .u16 z] 50)
      have Hb2 := Lib.hid b2; clear b2 b1
      have Hx := Lib.hid hx; clear hx
      go_wp2_with fail
      generalize w1.alloc (.cells #[.int .i64 x, .int .i64 y, .int .u16 z] 50) = w2 at Hb2 Hx ⊢
      have q0 := cell_regrown ((Hb2.out.cell hbl).trans p0)
      have q1 := cell_regrown ((Hb2.out.cell hbl).trans p1)
      have q2 := cell_regrown ((Hb2.out.cell hbl).trans p2)
      have k1 : ∀ (n : Nat) (os : Array Obj), (Go.Sort.grow (redrawn w2 n) os).cell? ⟨w1.heap.size, 1, none⟩ = some (.int .i64 y) := cell_regrown (cells_at Hx.out 1)
      have hd : (decide (L ≤ now) = true ∧ R = 0) ∨ (decide (L ≤ now) = false ∧ R = i + 1) := by
        by_cases hn : L ≤ now
        · exact .inl ⟨decide_eq_true hn, by rw [HR.out, if_pos hn]⟩
        · exact .inr ⟨decide_eq_false hn, by rw [HR.out, if_neg hn]⟩
      clear HR
      have e1 : decide (i + 1 ≠ 0) = true := decide_eq_true (by omega)
      rcases hd with ⟨d1, rfl⟩ | ⟨d1, rfl⟩
      all_goals
        first | rw [e1] | skip
        refine wp_region_quiet_below (by kernel_rfl) (by kernel_rfl) ?_
        repeat (any_goals (first | go_big_quiet_step ((go_at_call 24; exact Calls.regrown_of (Hrel.out _))) | quiet_step ((go_at_call 24; exact Calls.regrown_of (Hrel.out _)))))
        refine wpQuiet_nil ?_
        intro w3 hw3
        have bf : Below w2.heap.size w2 w3 := by obtain ⟨q, rfl⟩ := hw3; exact below_regrown _ _ _
        clear hw3
        have bz := Hb2.out.trans (bf.mono Hb2.out.size)
        clear bf q0 q1 q2 k1 Hx
        have Hbz := Lib.hid bz; clear bz
        go_wp2
        go_ret2
        first | exact ⟨rfl, Hbz.out⟩ | (rw [e1]; exact ⟨rfl, Hbz.out⟩)
  · simp only [decide_eq_false hin] at hk
    have e0 : ofOf p es c now = 0 := by unfold ofOf; rw [if_pos (lastOf_unknown h.ok hin)]
    rw [e0]
    have Hk := Lib.hid hk; clear hk h hin
    go_enter Try.func14, Try.ntmps14
    go_wp2_with fail
    refine (Hk.out _).mono ?_
    rintro e w1 ⟨rfl, rfl⟩
    go_wp2
    go_ret2
    exact ⟨rfl, Below.refl _ _⟩

theorem mask_has {m : Int} (hm : 0 ≤ m ∧ m ≤ 65535) {k : Nat} (hk : 16 ≤ k) : has m k = false := by
  obtain ⟨n, rfl⟩ : ∃ n : Nat, m = n := ⟨m.toNat, by omega⟩
  unfold has
  rw [Int.toNat_natCast]
  exact Nat.testBit_lt_two_pow (Nat.lt_of_lt_of_le (show n < 2 ^ 16 by omega) (Nat.pow_le_pow_right (by decide) hk))
def inMask (m k : Int) : Bool := decide (0 ≤ k ∧ k < 16) && has m k.toNat
theorem inMask_64 {m : Int} (hm : 0 ≤ m ∧ m ≤ 65535) (k : Int) : (decide (0 ≤ k ∧ k < 64) && has m k.toNat) = inMask m k := by
  unfold inMask
  by_cases h : 0 ≤ k ∧ k < 16
  · rw [decide_eq_true h, decide_eq_true (by omega)]
  · rw [decide_eq_false h]
    by_cases h2 : 0 ≤ k ∧ k < 64
    · rw [mask_has hm (by omega)]; simp
    · rw [decide_eq_false h2]
theorem maskHas_calls {w : World} {m : Int} (hm : 0 ≤ m ∧ m ≤ 65535) (k : Int) : Calls Try.prog 28 #[.int .u64 m, .int .i64 k] w fun e w' => e = .returned (.bool (inMask m k)) ∧ w' = w := by
  rw [← inMask_64 hm]
  exact setHas_calls (by simp [Lit.wf, IntKind.min, IntKind.max, IntKind.signed, IntKind.bits]; omega) k

/-- The transaction with which one may do something, and the answer's error. -/
def mayOf (p : Pl) (es : List Ent) (c part now : Int) : Nat × Int :=
  if ofOf p es c now = 0 then (0, 12) else
  if inMask (es.getD (ofOf p es c now - 1) noEnt).mask part = false then (0, 14) else
  if deadOf p (es.getD (ofOf p es c now - 1) noEnt).begin ≤ now then (0, 19) else (ofOf p es c now, 0)
theorem ofOf_le (p : Pl) (es : List Ent) (c now : Int) : ofOf p es c now ≤ es.length := by
  have := lastOf_le es c
  unfold ofOf
  split
  · omega
  · split <;> omega
set_option maxHeartbeats 2000000 in
theorem May_calls (h : DeskAt w B b mv p es) (c part now : Int) (hc : (Lit.int .i64 c).wf = true) : Calls Try.prog 12 #[.pointer (some ⟨b, 0, none⟩), .int .i64 c, .int .i64 part, .int .i64 now] w fun e w' =>
    e = .returned (.tuple #[.int .i64 ((mayOf p es c part now).1 : Nat), .int .i64 (mayOf p es c part now).2]) ∧ Below w.heap.size w w' := by
  have ho := Of_calls h c now hc
  have hle := ofOf_le p es c now
  obtain ⟨R, hR⟩ : ∃ R, R = mayOf p es c part now := ⟨_, rfl⟩
  rw [← hR]
  unfold mayOf at hR
  generalize ofOf p es c now = K at ho hle hR
  have he := fun (w1 : World) (b1 : Below w.heap.size w w1) => Entry_calls (h.below b1) (K : Int) (by simp [Lit.wf, IntKind.min, IntKind.max, IntKind.signed, IntKind.bits]; have := h.len; omega)
  have hbl := (h.lt b (.inl rfl)).2
  have Ho := Lib.hid ho; clear ho
  have Hh := Lib.hid h; clear h
  have HR := Lib.hid hR; clear hR
  rcases Nat.eq_zero_or_pos K with h0 | h0
  · subst h0
    have hent : ¬ (1 ≤ ((0 : Nat) : Int) ∧ ((0 : Nat) : Int) ≤ (es.length : Int)) := by omega
    unfold entAt at he
    simp only [if_neg hent, decide_eq_false hent, Ent.cells, noEnt, Ent.client, Ent.begin, Ent.mask] at he
    have e0 : R = (0, 12) := by rw [HR.out]; rfl
    subst e0
    have He := Lib.hid he; clear he hent HR
    go_enter Try.func12, Try.ntmps12
    go_wp2_with fail
    refine Ho.out.mono ?_
    rintro e w1 ⟨rfl, b1⟩
    have Hb1 := Lib.hid b1; clear b1
    go_wp2_with fail
    refine (He.out _ Hb1.out).mono ?_
    rintro e w2 ⟨rfl, b2⟩
    have b3 := Hb1.out.trans (b2.mono Hb1.out.size)
    have b4 := b3.alloc b3.size (.cells #[.int .i64 0, .int .i64 0, .int .u16 0] 50)
    have Hb4 := Lib.hid b4; clear b4 b3 b2 He Hb1
    go_wp2
    go_ret2
    exact ⟨rfl, Hb4.out⟩
  · obtain ⟨i, rfl⟩ : ∃ i, K = i + 1 := ⟨K - 1, by omega⟩
    have hi : i < es.length := by omega
    have hent : (1 ≤ ((i + 1 : Nat) : Int) ∧ ((i + 1 : Nat) : Int) ≤ (es.length : Int)) := by omega
    unfold entAt at he
    simp only [if_pos hent, decide_eq_true hent, show (((i + 1 : Nat) : Int) - 1).toNat = i by omega] at he
    have eb : decide (i + 1 ≠ 0) = true := decide_eq_true (by omega)
    have hok : (es.getD i noEnt).ok := by rw [List.getD_eq_getElem?_getD, List.getElem?_eq_getElem hi, Option.getD_some]; exact Hh.out.ok _ (List.getElem_mem hi)
    have hR := HR.out
    rw [if_neg (by omega), show i + 1 - 1 = i by omega] at hR
    clear HR hent
    generalize es.getD i noEnt = en at he hR hok
    have hm := hok.mask
    have hdl := fun w : World => Deadline_calls (w := w) p Hh.out.good en.begin
    have hhas := fun w : World => maskHas_calls (w := w) hm part
    generalize deadOf p en.begin = D at hdl hR
    generalize inMask en.mask part = I at hhas hR
    have p0 : w.cell? ⟨b, 0, none⟩ = some (.int .i64 p.parts) := cells_at Hh.out.root 0
    have p1 : w.cell? ⟨b, 1, none⟩ = some (.int .i64 p.window) := cells_at Hh.out.root 1
    have p2 : w.cell? ⟨b, 2, none⟩ = some (.int .i64 p.delay) := cells_at Hh.out.root 2
    clear hok
    obtain ⟨x, y, z⟩ := en
    obtain ⟨a, d, f⟩ := p
    simp only [Ent.cells, Ent.client, Ent.begin, Ent.mask, Pl.cells, Pl.parts, Pl.window, Pl.delay] at he hdl hhas hm p0 p1 p2
    have He := Lib.hid he; clear he
    have Hdl := Lib.hid hdl; clear hdl
    have Hhas := Lib.hid hhas; clear hhas
    have HR := Lib.hid hR; clear hR
    rw [eb] at Ho
    go_enter Try.func12, Try.ntmps12
    go_wp2_with fail
    refine Ho.out.mono ?_
    rintro e w1 ⟨rfl, b1⟩
    have Hb1 := Lib.hid b1; clear b1
    go_wp2_with fail
    refine (He.out _ Hb1.out).mono ?_
    rintro e w2 ⟨rfl, b2⟩
    have b3 := Hb1.out.trans (b2.mono Hb1.out.size)
    have b4 := b3.alloc b3.size (.cells #[.int .i64 x, .int .i64 y, .int .u16 z] 50)
    have hx := heap_alloc_new w2 (.cells #[.int .i64 x, .int .i64 y, .int .u16 z] 50)
    have Hb4 := Lib.hid b4; clear b4 b3 b2 He Hb1
    have Hx := Lib.hid hx; clear hx
    go_wp2_with fail
    refine (Hhas.out _).mono ?_
    rintro e w5 ⟨rfl, rfl⟩
    cases I with
    | false =>
      have e0 : R = (0, 14) := by rw [HR.out]; rfl
      subst e0
      clear HR
      go_wp2
      go_ret2
      exact ⟨rfl, Hb4.out⟩
    | true =>
      have hR := HR.out
      simp only [Bool.true_eq_false, if_false] at hR
      clear HR
      have HR := Lib.hid hR; clear hR
      go_wp2_with fail
      generalize w2.alloc (.cells #[.int .i64 x, .int .i64 y, .int .u16 z] 50) = w5 at Hb4 Hx ⊢
      have q0 := cell_regrown ((Hb4.out.cell hbl).trans p0)
      have q1 := cell_regrown ((Hb4.out.cell hbl).trans p1)
      have q2 := cell_regrown ((Hb4.out.cell hbl).trans p2)
      have k1 : ∀ (n : Nat) (os : Array Obj), (Go.Sort.grow (redrawn w5 n) os).cell? ⟨w2.heap.size, 1, none⟩ = some (.int .i64 y) := cell_regrown (cells_at Hx.out 1)
      have hd : (decide (D ≤ now) = true ∧ R = (0, 19)) ∨ (decide (D ≤ now) = false ∧ R = (i + 1, 0)) := by
        by_cases hn : D ≤ now
        · exact .inl ⟨decide_eq_true hn, by rw [HR.out, if_pos hn]⟩
        · exact .inr ⟨decide_eq_false hn, by rw [HR.out, if_neg hn]⟩
      clear HR
      rcases hd with ⟨d1, rfl⟩ | ⟨d1, rfl⟩
      all_goals
        refine wp_region_quiet_below (by kernel_rfl) (by kernel_rfl) ?_
        repeat (any_goals (first | go_big_quiet_step ((go_at_call 23; exact Calls.regrown_of (Hdl.out _))) | quiet_step ((go_at_call 23; exact Calls.regrown_of (Hdl.out _)))))
        refine wpQuiet_nil ?_
        intro w3 hw3
        have bf : Below w5.heap.size w5 w3 := by obtain ⟨q, rfl⟩ := hw3; exact below_regrown _ _ _
        clear hw3
        have bz := Hb4.out.trans (bf.mono Hb4.out.size)
        clear bf q0 q1 q2 k1 Hx
        have Hbz := Lib.hid bz; clear bz
        go_wp2
        go_ret2
        exact ⟨rfl, Hbz.out⟩
end
end Go.Proofs.Ytdccocgdgcjfcaa
