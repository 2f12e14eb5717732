/- The law RecPlain. -/
import Derived.Test.YtiaocfeafkgbaaaRecO
namespace Go.Proofs.Ytiaocfeafkgbaaa
open Go.RowKit

set_option maxHeartbeats 1000000 in
theorem right_cases (k t m k0 k1 k2 k3 : Int) (ot : Bool) (o : Int) (nt : Bool) (n : Int) : RightRc ⟨k, t, m, k0, k1, k2, k3, ot, o, nt, n⟩ ↔
    (k = 1 ∧ m = 0 ∧ (1 ≤ t ∧ t ≤ 1048576) ∧ (ot = true ∨ o = 0) ∧ (nt = true ∨ n = 0)) ∨
    (k = 2 ∧ (k0 = 0 ∧ k1 = 0 ∧ k2 = 0 ∧ k3 = 0) ∧ (ot = false ∧ o = 0 ∧ nt = false ∧ n = 0) ∧ (1 ≤ t ∧ t ≤ 1048576) ∧ m ≠ 0) ∨
    (k = 7 ∧ t = 0 ∧ m = 0 ∧ ot = false ∧ o = 0 ∧ nt = true) ∨
    (k = 8 ∧ t = 0 ∧ (k0 = 0 ∧ k1 = 0 ∧ k2 = 0 ∧ k3 = 0) ∧ (ot = false ∧ o = 0 ∧ nt = false ∧ n = 0) ∧ m ≤ 64) ∨
    ((3 ≤ k ∧ k ≤ 6) ∧ m = 0 ∧ (k0 = 0 ∧ k1 = 0 ∧ k2 = 0 ∧ k3 = 0) ∧ (ot = false ∧ o = 0 ∧ nt = false ∧ n = 0) ∧ (1 ≤ t ∧ t ≤ 1048576)) := by
  rw [right_iffs]
  by_cases h1 : k = 1
  · subst h1
    simp [partRc]
    intros
    exact eq_comm
  by_cases h2 : k = 2
  · subst h2
    simp [partRc]
    constructor
    · rintro ⟨⟨rfl, rfl, rfl, rfl, rfl, rfl, rfl, rfl⟩, h, h'⟩; exact ⟨⟨rfl, rfl, rfl, rfl⟩, ⟨rfl, rfl, rfl, rfl⟩, h, h'⟩
    · rintro ⟨⟨rfl, rfl, rfl, rfl⟩, ⟨rfl, rfl, rfl, rfl⟩, h, h'⟩; exact ⟨⟨rfl, rfl, rfl, rfl, rfl, rfl, rfl, rfl⟩, h, h'⟩
  by_cases h7 : k = 7
  · subst h7
    simp [partRc]
    constructor
    · rintro ⟨⟨rfl, rfl, rfl, rfl⟩, h⟩; exact ⟨rfl, rfl, rfl, rfl, h⟩
    · rintro ⟨rfl, rfl, rfl, rfl, h⟩; exact ⟨⟨rfl, rfl, rfl, rfl⟩, h⟩
  by_cases h8 : k = 8
  · subst h8
    simp [partRc]
    constructor
    · rintro ⟨⟨rfl, rfl, rfl, rfl, rfl, rfl, rfl, rfl, rfl⟩, h⟩; exact ⟨rfl, ⟨rfl, rfl, rfl, rfl⟩, ⟨rfl, rfl, rfl, rfl⟩, h⟩
    · rintro ⟨rfl, ⟨rfl, rfl, rfl, rfl⟩, ⟨rfl, rfl, rfl, rfl⟩, h⟩; exact ⟨⟨rfl, rfl, rfl, rfl, rfl, rfl, rfl, rfl, rfl⟩, h⟩
  rw [part_other (r := ⟨k, t, m, k0, k1, k2, k3, ot, o, nt, n⟩) h1 h2 h7 h8, if_neg h1, if_neg h2, if_neg h7, if_neg h8]
  simp [h1, h2, h7, h8]
  constructor
  · rintro ⟨⟨g1, g2⟩, ⟨rfl, rfl, rfl, rfl, rfl, rfl, rfl, rfl, rfl⟩, h⟩; exact ⟨⟨by omega, by omega⟩, rfl, ⟨rfl, rfl, rfl, rfl⟩, ⟨rfl, rfl, rfl, rfl⟩, h⟩
  · rintro ⟨⟨g1, g2⟩, rfl, ⟨rfl, rfl, rfl, rfl⟩, ⟨rfl, rfl, rfl, rfl⟩, h⟩; exact ⟨⟨by omega, by omega⟩, ⟨rfl, rfl, rfl, rfl, rfl, rfl, rfl, rfl, rfl⟩, h⟩
section
variable {k t m k0 k1 k2 k3 o n : Int} {ot nt : Bool}
set_option maxHeartbeats 1000000 in
theorem plain0 (h : RightRc (⟨k, t, m, k0, k1, k2, k3, ot, o, nt, n⟩ : Rc)) {x : Int} (hx : k3 = 0 → x ≠ 0) : rightRc ⟨k, t, m, k0, k1, k2, x, ot, o, nt, n⟩ = decide (k = 1 ∨ k = 7) := by
  unfold rightRc
  rw [decide_eq_decide, right_cases]
  rw [right_cases] at h
  constructor
  · intro g
    rcases g with g | g | g | g | g
    · exact .inl g.1
    · rcases h with h | h | h | h | h
      · omega
      · exact absurd g.2.1.2.2.2 (hx h.2.1.2.2.2)
      · omega
      · omega
      · omega
    · exact .inr g.1
    · rcases h with h | h | h | h | h
      · omega
      · omega
      · omega
      · exact absurd g.2.2.1.2.2.2 (hx h.2.2.1.2.2.2)
      · omega
    · rcases h with h | h | h | h | h
      · omega
      · omega
      · omega
      · omega
      · exact absurd g.2.2.1.2.2.2 (hx h.2.2.1.2.2.2)
  · intro g
    rcases h with h | h | h | h | h
    · exact .inl h
    · omega
    · exact .inr (.inr (.inl h))
    · omega
    · omega
set_option maxHeartbeats 1000000 in
theorem plain1 (h : RightRc (⟨k, t, m, k0, k1, k2, k3, ot, o, nt, n⟩ : Rc)) (hm : ¬ (k = 2 ∨ k = 8)) : m = 0 ∧ ∀ x : Int, x ≠ 0 → rightRc ⟨k, t, x, k0, k1, k2, k3, ot, o, nt, n⟩ = false := by
  rw [right_cases] at h
  refine ⟨by rcases h with h | h | h | h | h <;> omega, fun x hx => decide_eq_false fun g => ?_⟩
  rw [right_cases] at g
  rcases g with g | g | g | g | g <;> omega
set_option maxHeartbeats 1000000 in
theorem plain2 (h : RightRc (⟨k, t, m, k0, k1, k2, k3, ot, o, nt, n⟩ : Rc)) : rightRc ⟨k, t, m, k0, k1, k2, k3, true, 0, nt, n⟩ = decide (k = 1) := by
  unfold rightRc
  rw [decide_eq_decide, right_cases]
  rw [right_cases] at h
  constructor
  · intro g
    rcases g with g | g | g | g | g
    · exact g.1
    · exact absurd g.2.2.1.1 (by decide)
    · exact absurd g.2.2.2.1 (by decide)
    · exact absurd g.2.2.2.1.1 (by decide)
    · exact absurd g.2.2.2.1.1 (by decide)
  · intro g
    rcases h with h | h | h | h | h
    · exact .inl ⟨h.1, h.2.1, h.2.2.1, .inl rfl, h.2.2.2.2⟩
    all_goals omega
theorem plain3 (k t m k0 k1 k2 k3 : Int) (ot : Bool) (o : Int) : rightRc ⟨k, t, m, k0, k1, k2, k3, ot, o, false, 1⟩ = false := by
  refine decide_eq_false fun g => ?_
  rw [right_cases] at g
  rcases g with g | g | g | g | g
  · rcases g.2.2.2.2 with h | h
    · cases h
    · omega
  · omega
  · cases g.2.2.2.2.2
  · omega
  · omega
set_option maxHeartbeats 1000000 in
theorem plain4 (h : RightRc (⟨k, t, m, k0, k1, k2, k3, ot, o, nt, n⟩ : Rc)) : rightRc ⟨k, 0, m, k0, k1, k2, k3, ot, o, nt, n⟩ = decide (k = 7 ∨ k = 8) := by
  unfold rightRc
  rw [decide_eq_decide, right_cases]
  rw [right_cases] at h
  constructor
  · intro g
    rcases g with g | g | g | g | g <;> omega
  · intro g
    rcases h with h | h | h | h | h
    · omega
    · omega
    · exact .inr (.inr (.inl ⟨h.1, rfl, h.2.2⟩))
    · exact .inr (.inr (.inr (.inl ⟨h.1, rfl, h.2.2⟩)))
    · omega
end
set_option maxHeartbeats 8000000 in
theorem lawRecPlain {w : World} {r : Rc} {what : Int} (_hr : r.ok) (_hw : (Lit.int .i64 what).wf = true) : Calls Try.prog 5 #[.agg r.cells.toArray, .int .i64 what] w fun e w' => e = .returned (.bool true) ∧ Below w.heap.size w w' := by
  have q0 := fun w : World => Right_calls (w := w) r
  obtain ⟨R, hR⟩ : ∃ R, R = rightRc r := ⟨_, rfl⟩
  rw [← hR] at q0
  have hright : R = true → RightRc r := fun h => by rw [hR] at h; exact of_decide_eq_true h
  clear hR
  have hok := _hr
  clear _hr _hw
  obtain ⟨k, t, m, k0, k1, k2, k3, ot, o, nt, n⟩ := r
  have hk3 := hok.2.2.2.2.2.2.1
  have hm16 := hok.2.2.1
  simp only at hk3 hm16
  clear hok
  simp only [Rc.cells] at q0 ⊢
  have Q0 := Lib.hid q0; clear q0
  obtain ⟨w1, hw1⟩ : ∃ w1, w1 = w.alloc (.cells #[.int .i64 k, .int .i64 t, .int .u16 m, .int .u8 k0, .int .u8 k1, .int .u8 k2, .int .u8 k3, .bool ot, .int .i64 o, .bool nt, .int .i64 n] 34) := ⟨_, rfl⟩
  have b1 : Below w.heap.size w w1 := by rw [hw1]; exact (Below.refl _ _).alloc (Nat.le_refl _) _
  have x1 : w1.heap[w.heap.size]? = some (.cells #[.int .i64 k, .int .i64 t, .int .u16 m, .int .u8 k0, .int .u8 k1, .int .u8 k2, .int .u8 k3, .bool ot, .int .i64 o, .bool nt, .int .i64 n] 34 (0, 0)) := by rw [hw1]; exact heap_alloc_new w _
  have XA := Lib.hid x1; clear x1
  have Hb := Lib.hid b1; clear b1
  cases R with
  | false =>
    clear hright
    go_enter Try.func5, Try.ntmps5
    go_wp2_with fail
    rw [← hw1]
    clear hw1
    refine alive_calls.mono ?_
    rintro e w2 ⟨rfl, bk⟩
    have xa := (bk.block _ (Array.getElem?_eq_some_iff.1 XA.out).1).trans XA.out
    have hb := Hb.out.trans (bk.mono Hb.out.size)
    clear XA Hb bk
    have XA := Lib.hid xa; clear xa
    have Hb := Lib.hid hb; clear hb
    have y0 := cells_at XA.out 0
    have y1 := cells_at XA.out 1
    have y2 := cells_at XA.out 2
    have y3 := cells_at XA.out 3
    have y4 := cells_at XA.out 4
    have y5 := cells_at XA.out 5
    have y6 := cells_at XA.out 6
    have y7 := cells_at XA.out 7
    have y8 := cells_at XA.out 8
    have y9 := cells_at XA.out 9
    have y10 := cells_at XA.out 10
    go_wp2_with fail
    clear y0 y1 y2 y3 y4 y5 y6 y7 y8 y9 y10
    refine (Q0.out _).mono ?_
    rintro e w3 ⟨rfl, bk⟩
    have xa := (bk.block _ (Array.getElem?_eq_some_iff.1 XA.out).1).trans XA.out
    have hb := Hb.out.trans (bk.mono Hb.out.size)
    clear XA Hb bk
    have XA := Lib.hid xa; clear xa
    have Hb := Lib.hid hb; clear hb
    go_wp2
    go_ret
    exact ⟨rfl, Hb.out⟩
  | true =>
    have hright := hright rfl
    have E0 := Lib.hid (fun (x : Int) (hx : k3 = 0 → x ≠ 0) => plain0 hright hx)
    have E1 := Lib.hid (fun hm => plain1 hright hm)
    have E2 := Lib.hid (plain2 hright)
    have E4 := Lib.hid (plain4 hright)
    clear hright
    by_cases w0 : what = 0
    · subst w0
      by_cases c1 : k = 1
      · subst c1
        go_enter Try.func5, Try.ntmps5
        go_wp2_with fail
        rw [← hw1]
        clear hw1
        refine alive_calls.mono ?_
        rintro e w2 ⟨rfl, bk⟩
        have xa := (bk.block _ (Array.getElem?_eq_some_iff.1 XA.out).1).trans XA.out
        have hb := Hb.out.trans (bk.mono Hb.out.size)
        clear XA Hb bk
        have XA := Lib.hid xa; clear xa
        have Hb := Lib.hid hb; clear hb
        have y0 := cells_at XA.out 0
        have y1 := cells_at XA.out 1
        have y2 := cells_at XA.out 2
        have y3 := cells_at XA.out 3
        have y4 := cells_at XA.out 4
        have y5 := cells_at XA.out 5
        have y6 := cells_at XA.out 6
        have y7 := cells_at XA.out 7
        have y8 := cells_at XA.out 8
        have y9 := cells_at XA.out 9
        have y10 := cells_at XA.out 10
        go_wp2_with fail
        clear y0 y1 y2 y3 y4 y5 y6 y7 y8 y9 y10
        refine (Q0.out _).mono ?_
        rintro e w3 ⟨rfl, bk⟩
        have xa := (bk.block _ (Array.getElem?_eq_some_iff.1 XA.out).1).trans XA.out
        have hb := Hb.out.trans (bk.mono Hb.out.size)
        clear XA Hb bk
        have XA := Lib.hid xa; clear xa
        have Hb := Lib.hid hb; clear hb
        obtain ⟨x3, hx3⟩ : ∃ x, x = IntKind.u8.wrap (k3 + 1) := ⟨_, rfl⟩
        have hx0 : k3 = 0 → x3 ≠ 0 := fun h => by rw [hx3, h]; decide
        have hv : rightRc ⟨1, t, m, k0, k1, k2, x3, ot, o, nt, n⟩ = true := (E0.out x3 hx0).trans (by simp)
        have qx := fun w : World => Right_calls (w := w) ⟨1, t, m, k0, k1, k2, x3, ot, o, nt, n⟩
        rw [hv] at qx
        simp only [Rc.cells] at qx
        have QX := Lib.hid qx; clear qx
        obtain ⟨w4, hw4⟩ : ∃ w4, w4 = w3.alloc (.cells #[.int .i64 1, .int .i64 t, .int .u16 m, .int .u8 k0, .int .u8 k1, .int .u8 k2, .int .u8 x3, .bool ot, .int .i64 o, .bool nt, .int .i64 n] 34) := ⟨_, rfl⟩
        have bk : Below w3.heap.size w3 w4 := by rw [hw4]; exact (Below.refl _ _).alloc (Nat.le_refl _) _
        have xx : w4.heap[w3.heap.size]? = some (.cells #[.int .i64 1, .int .i64 t, .int .u16 m, .int .u8 k0, .int .u8 k1, .int .u8 k2, .int .u8 x3, .bool ot, .int .i64 o, .bool nt, .int .i64 n] 34 (0, 0)) := by rw [hw4]; exact heap_alloc_new w3 _
        replace hx3 := hx3.symm
        have y0 := cells_at XA.out 0
        have y1 := cells_at XA.out 1
        have y2 := cells_at XA.out 2
        have y3 := cells_at XA.out 3
        have y4 := cells_at XA.out 4
        have y5 := cells_at XA.out 5
        have y6 := cells_at XA.out 6
        have y7 := cells_at XA.out 7
        have y8 := cells_at XA.out 8
        have y9 := cells_at XA.out 9
        have y10 := cells_at XA.out 10
        have xa := (bk.block _ (Array.getElem?_eq_some_iff.1 XA.out).1).trans XA.out
        have hb := Hb.out.trans (bk.mono Hb.out.size)
        clear XA Hb bk
        have XA := Lib.hid xa; clear xa
        have Hb := Lib.hid hb; clear hb
        go_wp2_with fail
        rw [← hw4]
        clear hw4 hx3 y0 y1 y2 y3 y4 y5 y6 y7 y8 y9 y10
        refine (QX.out _).mono ?_
        rintro e w5 ⟨rfl, bk⟩
        have xa := (bk.block _ (Array.getElem?_eq_some_iff.1 XA.out).1).trans XA.out
        have hb := Hb.out.trans (bk.mono Hb.out.size)
        clear XA Hb bk
        have XA := Lib.hid xa; clear xa
        have Hb := Lib.hid hb; clear hb
        go_wp2
        go_ret
        exact ⟨rfl, Hb.out⟩
      by_cases c2 : k = 2
      · subst c2
        go_enter Try.func5, Try.ntmps5
        go_wp2_with fail
        rw [← hw1]
        clear hw1
        refine alive_calls.mono ?_
        rintro e w2 ⟨rfl, bk⟩
        have xa := (bk.block _ (Array.getElem?_eq_some_iff.1 XA.out).1).trans XA.out
        have hb := Hb.out.trans (bk.mono Hb.out.size)
        clear XA Hb bk
        have XA := Lib.hid xa; clear xa
        have Hb := Lib.hid hb; clear hb
        have y0 := cells_at XA.out 0
        have y1 := cells_at XA.out 1
        have y2 := cells_at XA.out 2
        have y3 := cells_at XA.out 3
        have y4 := cells_at XA.out 4
        have y5 := cells_at XA.out 5
        have y6 := cells_at XA.out 6
        have y7 := cells_at XA.out 7
        have y8 := cells_at XA.out 8
        have y9 := cells_at XA.out 9
        have y10 := cells_at XA.out 10
        go_wp2_with fail
        clear y0 y1 y2 y3 y4 y5 y6 y7 y8 y9 y10
        refine (Q0.out _).mono ?_
        rintro e w3 ⟨rfl, bk⟩
        have xa := (bk.block _ (Array.getElem?_eq_some_iff.1 XA.out).1).trans XA.out
        have hb := Hb.out.trans (bk.mono Hb.out.size)
        clear XA Hb bk
        have XA := Lib.hid xa; clear xa
        have Hb := Lib.hid hb; clear hb
        obtain ⟨x3, hx3⟩ : ∃ x, x = IntKind.u8.wrap (k3 + 1) := ⟨_, rfl⟩
        have hx0 : k3 = 0 → x3 ≠ 0 := fun h => by rw [hx3, h]; decide
        have hv : rightRc ⟨2, t, m, k0, k1, k2, x3, ot, o, nt, n⟩ = false := (E0.out x3 hx0).trans (by simp)
        have qx := fun w : World => Right_calls (w := w) ⟨2, t, m, k0, k1, k2, x3, ot, o, nt, n⟩
        rw [hv] at qx
        simp only [Rc.cells] at qx
        have QX := Lib.hid qx; clear qx
        obtain ⟨w4, hw4⟩ : ∃ w4, w4 = w3.alloc (.cells #[.int .i64 2, .int .i64 t, .int .u16 m, .int .u8 k0, .int .u8 k1, .int .u8 k2, .int .u8 x3, .bool ot, .int .i64 o, .bool nt, .int .i64 n] 34) := ⟨_, rfl⟩
        have bk : Below w3.heap.size w3 w4 := by rw [hw4]; exact (Below.refl _ _).alloc (Nat.le_refl _) _
        have xx : w4.heap[w3.heap.size]? = some (.cells #[.int .i64 2, .int .i64 t, .int .u16 m, .int .u8 k0, .int .u8 k1, .int .u8 k2, .int .u8 x3, .bool ot, .int .i64 o, .bool nt, .int .i64 n] 34 (0, 0)) := by rw [hw4]; exact heap_alloc_new w3 _
        replace hx3 := hx3.symm
        have y0 := cells_at XA.out 0
        have y1 := cells_at XA.out 1
        have y2 := cells_at XA.out 2
        have y3 := cells_at XA.out 3
        have y4 := cells_at XA.out 4
        have y5 := cells_at XA.out 5
        have y6 := cells_at XA.out 6
        have y7 := cells_at XA.out 7
        have y8 := cells_at XA.out 8
        have y9 := cells_at XA.out 9
        have y10 := cells_at XA.out 10
        have xa := (bk.block _ (Array.getElem?_eq_some_iff.1 XA.out).1).trans XA.out
        have hb := Hb.out.trans (bk.mono Hb.out.size)
        clear XA Hb bk
        have XA := Lib.hid xa; clear xa
        have Hb := Lib.hid hb; clear hb
        go_wp2_with fail
        rw [← hw4]
        clear hw4 hx3 y0 y1 y2 y3 y4 y5 y6 y7 y8 y9 y10
        refine (QX.out _).mono ?_
        rintro e w5 ⟨rfl, bk⟩
        have xa := (bk.block _ (Array.getElem?_eq_some_iff.1 XA.out).1).trans XA.out
        have hb := Hb.out.trans (bk.mono Hb.out.size)
        clear XA Hb bk
        have XA := Lib.hid xa; clear xa
        have Hb := Lib.hid hb; clear hb
        go_wp2
        go_ret
        exact ⟨rfl, Hb.out⟩
      by_cases c7 : k = 7
      · subst c7
        go_enter Try.func5, Try.ntmps5
        go_wp2_with fail
        rw [← hw1]
        clear hw1
        refine alive_calls.mono ?_
        rintro e w2 ⟨rfl, bk⟩
        have xa := (bk.block _ (Array.getElem?_eq_some_iff.1 XA.out).1).trans XA.out
        have hb := Hb.out.trans (bk.mono Hb.out.size)
        clear XA Hb bk
        have XA := Lib.hid xa; clear xa
        have Hb := Lib.hid hb; clear hb
        have y0 := cells_at XA.out 0
        have y1 := cells_at XA.out 1
        have y2 := cells_at XA.out 2
        have y3 := cells_at XA.out 3
        have y4 := cells_at XA.out 4
        have y5 := cells_at XA.out 5
        have y6 := cells_at XA.out 6
        have y7 := cells_at XA.out 7
        have y8 := cells_at XA.out 8
        have y9 := cells_at XA.out 9
        have y10 := cells_at XA.out 10
        go_wp2_with fail
        clear y0 y1 y2 y3 y4 y5 y6 y7 y8 y9 y10
        refine (Q0.out _).mono ?_
        rintro e w3 ⟨rfl, bk⟩
        have xa := (bk.block _ (Array.getElem?_eq_some_iff.1 XA.out).1).trans XA.out
        have hb := Hb.out.trans (bk.mono Hb.out.size)
        clear XA Hb bk
        have XA := Lib.hid xa; clear xa
        have Hb := Lib.hid hb; clear hb
        obtain ⟨x3, hx3⟩ : ∃ x, x = IntKind.u8.wrap (k3 + 1) := ⟨_, rfl⟩
        have hx0 : k3 = 0 → x3 ≠ 0 := fun h => by rw [hx3, h]; decide
        have hv : rightRc ⟨7, t, m, k0, k1, k2, x3, ot, o, nt, n⟩ = true := (E0.out x3 hx0).trans (by simp)
        have qx := fun w : World => Right_calls (w := w) ⟨7, t, m, k0, k1, k2, x3, ot, o, nt, n⟩
        rw [hv] at qx
        simp only [Rc.cells] at qx
        have QX := Lib.hid qx; clear qx
        obtain ⟨w4, hw4⟩ : ∃ w4, w4 = w3.alloc (.cells #[.int .i64 7, .int .i64 t, .int .u16 m, .int .u8 k0, .int .u8 k1, .int .u8 k2, .int .u8 x3, .bool ot, .int .i64 o, .bool nt, .int .i64 n] 34) := ⟨_, rfl⟩
        have bk : Below w3.heap.size w3 w4 := by rw [hw4]; exact (Below.refl _ _).alloc (Nat.le_refl _) _
        have xx : w4.heap[w3.heap.size]? = some (.cells #[.int .i64 7, .int .i64 t, .int .u16 m, .int .u8 k0, .int .u8 k1, .int .u8 k2, .int .u8 x3, .bool ot, .int .i64 o, .bool nt, .int .i64 n] 34 (0, 0)) := by rw [hw4]; exact heap_alloc_new w3 _
        replace hx3 := hx3.symm
        have y0 := cells_at XA.out 0
        have y1 := cells_at XA.out 1
        have y2 := cells_at XA.out 2
        have y3 := cells_at XA.out 3
        have y4 := cells_at XA.out 4
        have y5 := cells_at XA.out 5
        have y6 := cells_at XA.out 6
        have y7 := cells_at XA.out 7
        have y8 := cells_at XA.out 8
        have y9 := cells_at XA.out 9
        have y10 := cells_at XA.out 10
        have xa := (bk.block _ (Array.getElem?_eq_some_iff.1 XA.out).1).trans XA.out
        have hb := Hb.out.trans (bk.mono Hb.out.size)
        clear XA Hb bk
        have XA := Lib.hid xa; clear xa
        have Hb := Lib.hid hb; clear hb
        go_wp2_with fail
        rw [← hw4]
        clear hw4 hx3 y0 y1 y2 y3 y4 y5 y6 y7 y8 y9 y10
        refine (QX.out _).mono ?_
        rintro e w5 ⟨rfl, bk⟩
        have xa := (bk.block _ (Array.getElem?_eq_some_iff.1 XA.out).1).trans XA.out
        have hb := Hb.out.trans (bk.mono Hb.out.size)
        clear XA Hb bk
        have XA := Lib.hid xa; clear xa
        have Hb := Lib.hid hb; clear hb
        go_wp2
        go_ret
        exact ⟨rfl, Hb.out⟩
      by_cases c8 : k = 8
      · subst c8
        go_enter Try.func5, Try.ntmps5
        go_wp2_with fail
        rw [← hw1]
        clear hw1
        refine alive_calls.mono ?_
        rintro e w2 ⟨rfl, bk⟩
        have xa := (bk.block _ (Array.getElem?_eq_some_iff.1 XA.out).1).trans XA.out
        have hb := Hb.out.trans (bk.mono Hb.out.size)
        clear XA Hb bk
        have XA := Lib.hid xa; clear xa
        have Hb := Lib.hid hb; clear hb
        have y0 := cells_at XA.out 0
        have y1 := cells_at XA.out 1
        have y2 := cells_at XA.out 2
        have y3 := cells_at XA.out 3
        have y4 := cells_at XA.out 4
        have y5 := cells_at XA.out 5
        have y6 := cells_at XA.out 6
        have y7 := cells_at XA.out 7
        have y8 := cells_at XA.out 8
        have y9 := cells_at XA.out 9
        have y10 := cells_at XA.out 10
        go_wp2_with fail
        clear y0 y1 y2 y3 y4 y5 y6 y7 y8 y9 y10
        refine (Q0.out _).mono ?_
        rintro e w3 ⟨rfl, bk⟩
        have xa := (bk.block _ (Array.getElem?_eq_some_iff.1 XA.out).1).trans XA.out
        have hb := Hb.out.trans (bk.mono Hb.out.size)
        clear XA Hb bk
        have XA := Lib.hid xa; clear xa
        have Hb := Lib.hid hb; clear hb
        obtain ⟨x3, hx3⟩ : ∃ x, x = IntKind.u8.wrap (k3 + 1) := ⟨_, rfl⟩
        have hx0 : k3 = 0 → x3 ≠ 0 := fun h => by rw [hx3, h]; decide
        have hv : rightRc ⟨8, t, m, k0, k1, k2, x3, ot, o, nt, n⟩ = false := (E0.out x3 hx0).trans (by simp)
        have qx := fun w : World => Right_calls (w := w) ⟨8, t, m, k0, k1, k2, x3, ot, o, nt, n⟩
        rw [hv] at qx
        simp only [Rc.cells] at qx
        have QX := Lib.hid qx; clear qx
        obtain ⟨w4, hw4⟩ : ∃ w4, w4 = w3.alloc (.cells #[.int .i64 8, .int .i64 t, .int .u16 m, .int .u8 k0, .int .u8 k1, .int .u8 k2, .int .u8 x3, .bool ot, .int .i64 o, .bool nt, .int .i64 n] 34) := ⟨_, rfl⟩
        have bk : Below w3.heap.size w3 w4 := by rw [hw4]; exact (Below.refl _ _).alloc (Nat.le_refl _) _
        have xx : w4.heap[w3.heap.size]? = some (.cells #[.int .i64 8, .int .i64 t, .int .u16 m, .int .u8 k0, .int .u8 k1, .int .u8 k2, .int .u8 x3, .bool ot, .int .i64 o, .bool nt, .int .i64 n] 34 (0, 0)) := by rw [hw4]; exact heap_alloc_new w3 _
        replace hx3 := hx3.symm
        have y0 := cells_at XA.out 0
        have y1 := cells_at XA.out 1
        have y2 := cells_at XA.out 2
        have y3 := cells_at XA.out 3
        have y4 := cells_at XA.out 4
        have y5 := cells_at XA.out 5
        have y6 := cells_at XA.out 6
        have y7 := cells_at XA.out 7
        have y8 := cells_at XA.out 8
        have y9 := cells_at XA.out 9
        have y10 := cells_at XA.out 10
        have xa := (bk.block _ (Array.getElem?_eq_some_iff.1 XA.out).1).trans XA.out
        have hb := Hb.out.trans (bk.mono Hb.out.size)
        clear XA Hb bk
        have XA := Lib.hid xa; clear xa
        have Hb := Lib.hid hb; clear hb
        go_wp2_with fail
        rw [← hw4]
        clear hw4 hx3 y0 y1 y2 y3 y4 y5 y6 y7 y8 y9 y10
        refine (QX.out _).mono ?_
        rintro e w5 ⟨rfl, bk⟩
        have xa := (bk.block _ (Array.getElem?_eq_some_iff.1 XA.out).1).trans XA.out
        have hb := Hb.out.trans (bk.mono Hb.out.size)
        clear XA Hb bk
        have XA := Lib.hid xa; clear xa
        have Hb := Lib.hid hb; clear hb
        go_wp2
        go_ret
        exact ⟨rfl, Hb.out⟩
      have d1 : (k == 1) = false := by simpa using c1
      have d2 : (k == 2) = false := by simpa using c2
      have d7 : (k == 7) = false := by simpa using c7
      have d8 : (k == 8) = false := by simpa using c8
      go_enter Try.func5, Try.ntmps5
      go_wp2_with fail
      rw [← hw1]
      clear hw1
      refine alive_calls.mono ?_
      rintro e w2 ⟨rfl, bk⟩
      have xa := (bk.block _ (Array.getElem?_eq_some_iff.1 XA.out).1).trans XA.out
      have hb := Hb.out.trans (bk.mono Hb.out.size)
      clear XA Hb bk
      have XA := Lib.hid xa; clear xa
      have Hb := Lib.hid hb; clear hb
      have y0 := cells_at XA.out 0
      have y1 := cells_at XA.out 1
      have y2 := cells_at XA.out 2
      have y3 := cells_at XA.out 3
      have y4 := cells_at XA.out 4
      have y5 := cells_at XA.out 5
      have y6 := cells_at XA.out 6
      have y7 := cells_at XA.out 7
      have y8 := cells_at XA.out 8
      have y9 := cells_at XA.out 9
      have y10 := cells_at XA.out 10
      go_wp2_with fail
      clear y0 y1 y2 y3 y4 y5 y6 y7 y8 y9 y10
      refine (Q0.out _).mono ?_
      rintro e w3 ⟨rfl, bk⟩
      have xa := (bk.block _ (Array.getElem?_eq_some_iff.1 XA.out).1).trans XA.out
      have hb := Hb.out.trans (bk.mono Hb.out.size)
      clear XA Hb bk
      have XA := Lib.hid xa; clear xa
      have Hb := Lib.hid hb; clear hb
      obtain ⟨x3, hx3⟩ : ∃ x, x = IntKind.u8.wrap (k3 + 1) := ⟨_, rfl⟩
      have hx0 : k3 = 0 → x3 ≠ 0 := fun h => by rw [hx3, h]; decide
      have hv : rightRc ⟨k, t, m, k0, k1, k2, x3, ot, o, nt, n⟩ = false := (E0.out x3 hx0).trans (decide_eq_false (show ¬ (k = 1 ∨ k = 7) by omega))
      have qx := fun w : World => Right_calls (w := w) ⟨k, t, m, k0, k1, k2, x3, ot, o, nt, n⟩
      rw [hv] at qx
      simp only [Rc.cells] at qx
      have QX := Lib.hid qx; clear qx
      obtain ⟨w4, hw4⟩ : ∃ w4, w4 = w3.alloc (.cells #[.int .i64 k, .int .i64 t, .int .u16 m, .int .u8 k0, .int .u8 k1, .int .u8 k2, .int .u8 x3, .bool ot, .int .i64 o, .bool nt, .int .i64 n] 34) := ⟨_, rfl⟩
      have bk : Below w3.heap.size w3 w4 := by rw [hw4]; exact (Below.refl _ _).alloc (Nat.le_refl _) _
      have xx : w4.heap[w3.heap.size]? = some (.cells #[.int .i64 k, .int .i64 t, .int .u16 m, .int .u8 k0, .int .u8 k1, .int .u8 k2, .int .u8 x3, .bool ot, .int .i64 o, .bool nt, .int .i64 n] 34 (0, 0)) := by rw [hw4]; exact heap_alloc_new w3 _
      replace hx3 := hx3.symm
      have y0 := cells_at XA.out 0
      have y1 := cells_at XA.out 1
      have y2 := cells_at XA.out 2
      have y3 := cells_at XA.out 3
      have y4 := cells_at XA.out 4
      have y5 := cells_at XA.out 5
      have y6 := cells_at XA.out 6
      have y7 := cells_at XA.out 7
      have y8 := cells_at XA.out 8
      have y9 := cells_at XA.out 9
      have y10 := cells_at XA.out 10
      have xa := (bk.block _ (Array.getElem?_eq_some_iff.1 XA.out).1).trans XA.out
      have hb := Hb.out.trans (bk.mono Hb.out.size)
      clear XA Hb bk
      have XA := Lib.hid xa; clear xa
      have Hb := Lib.hid hb; clear hb
      go_wp2_with fail
      rw [← hw4]
      clear hw4 hx3 y0 y1 y2 y3 y4 y5 y6 y7 y8 y9 y10
      refine (QX.out _).mono ?_
      rintro e w5 ⟨rfl, bk⟩
      have xa := (bk.block _ (Array.getElem?_eq_some_iff.1 XA.out).1).trans XA.out
      have hb := Hb.out.trans (bk.mono Hb.out.size)
      clear XA Hb bk
      have XA := Lib.hid xa; clear xa
      have Hb := Lib.hid hb; clear hb
      go_wp2
      go_ret
      exact ⟨rfl, Hb.out⟩
    by_cases w1 : what = 1
    · subst w1
      by_cases c2 : k = 2
      · subst c2
        go_enter Try.func5, Try.ntmps5
        go_wp2_with fail
        rw [← hw1]
        clear hw1
        refine alive_calls.mono ?_
        rintro e w2 ⟨rfl, bk⟩
        have xa := (bk.block _ (Array.getElem?_eq_some_iff.1 XA.out).1).trans XA.out
        have hb := Hb.out.trans (bk.mono Hb.out.size)
        clear XA Hb bk
        have XA := Lib.hid xa; clear xa
        have Hb := Lib.hid hb; clear hb
        have y0 := cells_at XA.out 0
        have y1 := cells_at XA.out 1
        have y2 := cells_at XA.out 2
        have y3 := cells_at XA.out 3
        have y4 := cells_at XA.out 4
        have y5 := cells_at XA.out 5
        have y6 := cells_at XA.out 6
        have y7 := cells_at XA.out 7
        have y8 := cells_at XA.out 8
        have y9 := cells_at XA.out 9
        have y10 := cells_at XA.out 10
        go_wp2_with fail
        clear y0 y1 y2 y3 y4 y5 y6 y7 y8 y9 y10
        refine (Q0.out _).mono ?_
        rintro e w3 ⟨rfl, bk⟩
        have xa := (bk.block _ (Array.getElem?_eq_some_iff.1 XA.out).1).trans XA.out
        have hb := Hb.out.trans (bk.mono Hb.out.size)
        clear XA Hb bk
        have XA := Lib.hid xa; clear xa
        have Hb := Lib.hid hb; clear hb
        obtain ⟨x3, hx3⟩ : ∃ x, bits .xor .u16 m 1 = x := ⟨_, rfl⟩
        obtain ⟨w4, hw4⟩ : ∃ w4, w4 = w3.alloc (.cells #[.int .i64 2, .int .i64 t, .int .u16 x3, .int .u8 k0, .int .u8 k1, .int .u8 k2, .int .u8 k3, .bool ot, .int .i64 o, .bool nt, .int .i64 n] 34) := ⟨_, rfl⟩
        have bk : Below w3.heap.size w3 w4 := by rw [hw4]; exact (Below.refl _ _).alloc (Nat.le_refl _) _
        have y0 := cells_at XA.out 0
        have y1 := cells_at XA.out 1
        have y2 := cells_at XA.out 2
        have y3 := cells_at XA.out 3
        have y4 := cells_at XA.out 4
        have y5 := cells_at XA.out 5
        have y6 := cells_at XA.out 6
        have y7 := cells_at XA.out 7
        have y8 := cells_at XA.out 8
        have y9 := cells_at XA.out 9
        have y10 := cells_at XA.out 10
        have xa := (bk.block _ (Array.getElem?_eq_some_iff.1 XA.out).1).trans XA.out
        have hb := Hb.out.trans (bk.mono Hb.out.size)
        clear XA Hb bk
        have XA := Lib.hid xa; clear xa
        have Hb := Lib.hid hb; clear hb
        go_wp2_with fail
        rw [← hw4]
        clear hw4
        go_ret
        exact ⟨rfl, Hb.out⟩
      by_cases c8 : k = 8
      · subst c8
        go_enter Try.func5, Try.ntmps5
        go_wp2_with fail
        rw [← hw1]
        clear hw1
        refine alive_calls.mono ?_
        rintro e w2 ⟨rfl, bk⟩
        have xa := (bk.block _ (Array.getElem?_eq_some_iff.1 XA.out).1).trans XA.out
        have hb := Hb.out.trans (bk.mono Hb.out.size)
        clear XA Hb bk
        have XA := Lib.hid xa; clear xa
        have Hb := Lib.hid hb; clear hb
        have y0 := cells_at XA.out 0
        have y1 := cells_at XA.out 1
        have y2 := cells_at XA.out 2
        have y3 := cells_at XA.out 3
        have y4 := cells_at XA.out 4
        have y5 := cells_at XA.out 5
        have y6 := cells_at XA.out 6
        have y7 := cells_at XA.out 7
        have y8 := cells_at XA.out 8
        have y9 := cells_at XA.out 9
        have y10 := cells_at XA.out 10
        go_wp2_with fail
        clear y0 y1 y2 y3 y4 y5 y6 y7 y8 y9 y10
        refine (Q0.out _).mono ?_
        rintro e w3 ⟨rfl, bk⟩
        have xa := (bk.block _ (Array.getElem?_eq_some_iff.1 XA.out).1).trans XA.out
        have hb := Hb.out.trans (bk.mono Hb.out.size)
        clear XA Hb bk
        have XA := Lib.hid xa; clear xa
        have Hb := Lib.hid hb; clear hb
        obtain ⟨x3, hx3⟩ : ∃ x, bits .xor .u16 m 1 = x := ⟨_, rfl⟩
        obtain ⟨w4, hw4⟩ : ∃ w4, w4 = w3.alloc (.cells #[.int .i64 8, .int .i64 t, .int .u16 x3, .int .u8 k0, .int .u8 k1, .int .u8 k2, .int .u8 k3, .bool ot, .int .i64 o, .bool nt, .int .i64 n] 34) := ⟨_, rfl⟩
        have bk : Below w3.heap.size w3 w4 := by rw [hw4]; exact (Below.refl _ _).alloc (Nat.le_refl _) _
        have y0 := cells_at XA.out 0
        have y1 := cells_at XA.out 1
        have y2 := cells_at XA.out 2
        have y3 := cells_at XA.out 3
        have y4 := cells_at XA.out 4
        have y5 := cells_at XA.out 5
        have y6 := cells_at XA.out 6
        have y7 := cells_at XA.out 7
        have y8 := cells_at XA.out 8
        have y9 := cells_at XA.out 9
        have y10 := cells_at XA.out 10
        have xa := (bk.block _ (Array.getElem?_eq_some_iff.1 XA.out).1).trans XA.out
        have hb := Hb.out.trans (bk.mono Hb.out.size)
        clear XA Hb bk
        have XA := Lib.hid xa; clear xa
        have Hb := Lib.hid hb; clear hb
        go_wp2_with fail
        rw [← hw4]
        clear hw4
        go_ret
        exact ⟨rfl, Hb.out⟩
      have d2 : (k == 2) = false := by simpa using c2
      have d8 : (k == 8) = false := by simpa using c8
      obtain ⟨hm0, hx1⟩ := E1.out (by omega)
      subst hm0
      clear E0 E2 E4 E1
      by_cases c1 : k = 1
      · subst c1
        go_enter Try.func5, Try.ntmps5
        go_wp2_with fail
        rw [← hw1]
        clear hw1
        refine alive_calls.mono ?_
        rintro e w2 ⟨rfl, bk⟩
        have xa := (bk.block _ (Array.getElem?_eq_some_iff.1 XA.out).1).trans XA.out
        have hb := Hb.out.trans (bk.mono Hb.out.size)
        clear XA Hb bk
        have XA := Lib.hid xa; clear xa
        have Hb := Lib.hid hb; clear hb
        have y0 := cells_at XA.out 0
        have y1 := cells_at XA.out 1
        have y2 := cells_at XA.out 2
        have y3 := cells_at XA.out 3
        have y4 := cells_at XA.out 4
        have y5 := cells_at XA.out 5
        have y6 := cells_at XA.out 6
        have y7 := cells_at XA.out 7
        have y8 := cells_at XA.out 8
        have y9 := cells_at XA.out 9
        have y10 := cells_at XA.out 10
        go_wp2_with fail
        clear y0 y1 y2 y3 y4 y5 y6 y7 y8 y9 y10
        refine (Q0.out _).mono ?_
        rintro e w3 ⟨rfl, bk⟩
        have xa := (bk.block _ (Array.getElem?_eq_some_iff.1 XA.out).1).trans XA.out
        have hb := Hb.out.trans (bk.mono Hb.out.size)
        clear XA Hb bk
        have XA := Lib.hid xa; clear xa
        have Hb := Lib.hid hb; clear hb
        have hv := hx1 1 (by decide)
        have hbx : bits .xor .u16 0 1 = 1 := by decide
        have qx := fun w : World => Right_calls (w := w) ⟨1, t, 1, k0, k1, k2, k3, ot, o, nt, n⟩
        rw [hv] at qx
        simp only [Rc.cells] at qx
        have QX := Lib.hid qx; clear qx
        obtain ⟨w4, hw4⟩ : ∃ w4, w4 = w3.alloc (.cells #[.int .i64 1, .int .i64 t, .int .u16 1, .int .u8 k0, .int .u8 k1, .int .u8 k2, .int .u8 k3, .bool ot, .int .i64 o, .bool nt, .int .i64 n] 34) := ⟨_, rfl⟩
        have bk : Below w3.heap.size w3 w4 := by rw [hw4]; exact (Below.refl _ _).alloc (Nat.le_refl _) _
        have xx : w4.heap[w3.heap.size]? = some (.cells #[.int .i64 1, .int .i64 t, .int .u16 1, .int .u8 k0, .int .u8 k1, .int .u8 k2, .int .u8 k3, .bool ot, .int .i64 o, .bool nt, .int .i64 n] 34 (0, 0)) := by rw [hw4]; exact heap_alloc_new w3 _
        have y0 := cells_at XA.out 0
        have y1 := cells_at XA.out 1
        have y2 := cells_at XA.out 2
        have y3 := cells_at XA.out 3
        have y4 := cells_at XA.out 4
        have y5 := cells_at XA.out 5
        have y6 := cells_at XA.out 6
        have y7 := cells_at XA.out 7
        have y8 := cells_at XA.out 8
        have y9 := cells_at XA.out 9
        have y10 := cells_at XA.out 10
        have xa := (bk.block _ (Array.getElem?_eq_some_iff.1 XA.out).1).trans XA.out
        have hb := Hb.out.trans (bk.mono Hb.out.size)
        clear XA Hb bk
        have XA := Lib.hid xa; clear xa
        have Hb := Lib.hid hb; clear hb
        go_wp2_with fail
        rw [← hw4]
        clear hw4 y0 y1 y2 y3 y4 y5 y6 y7 y8 y9 y10
        refine (QX.out _).mono ?_
        rintro e w5 ⟨rfl, bk⟩
        have xa := (bk.block _ (Array.getElem?_eq_some_iff.1 XA.out).1).trans XA.out
        have hb := Hb.out.trans (bk.mono Hb.out.size)
        clear XA Hb bk
        have XA := Lib.hid xa; clear xa
        have Hb := Lib.hid hb; clear hb
        go_wp2
        go_ret
        exact ⟨rfl, Hb.out⟩
      by_cases c7 : k = 7
      · subst c7
        go_enter Try.func5, Try.ntmps5
        go_wp2_with fail
        rw [← hw1]
        clear hw1
        refine alive_calls.mono ?_
        rintro e w2 ⟨rfl, bk⟩
        have xa := (bk.block _ (Array.getElem?_eq_some_iff.1 XA.out).1).trans XA.out
        have hb := Hb.out.trans (bk.mono Hb.out.size)
        clear XA Hb bk
        have XA := Lib.hid xa; clear xa
        have Hb := Lib.hid hb; clear hb
        have y0 := cells_at XA.out 0
        have y1 := cells_at XA.out 1
        have y2 := cells_at XA.out 2
        have y3 := cells_at XA.out 3
        have y4 := cells_at XA.out 4
        have y5 := cells_at XA.out 5
        have y6 := cells_at XA.out 6
        have y7 := cells_at XA.out 7
        have y8 := cells_at XA.out 8
        have y9 := cells_at XA.out 9
        have y10 := cells_at XA.out 10
        go_wp2_with fail
        clear y0 y1 y2 y3 y4 y5 y6 y7 y8 y9 y10
        refine (Q0.out _).mono ?_
        rintro e w3 ⟨rfl, bk⟩
        have xa := (bk.block _ (Array.getElem?_eq_some_iff.1 XA.out).1).trans XA.out
        have hb := Hb.out.trans (bk.mono Hb.out.size)
        clear XA Hb bk
        have XA := Lib.hid xa; clear xa
        have Hb := Lib.hid hb; clear hb
        have hv := hx1 1 (by decide)
        have hbx : bits .xor .u16 0 1 = 1 := by decide
        have qx := fun w : World => Right_calls (w := w) ⟨7, t, 1, k0, k1, k2, k3, ot, o, nt, n⟩
        rw [hv] at qx
        simp only [Rc.cells] at qx
        have QX := Lib.hid qx; clear qx
        obtain ⟨w4, hw4⟩ : ∃ w4, w4 = w3.alloc (.cells #[.int .i64 7, .int .i64 t, .int .u16 1, .int .u8 k0, .int .u8 k1, .int .u8 k2, .int .u8 k3, .bool ot, .int .i64 o, .bool nt, .int .i64 n] 34) := ⟨_, rfl⟩
        have bk : Below w3.heap.size w3 w4 := by rw [hw4]; exact (Below.refl _ _).alloc (Nat.le_refl _) _
        have xx : w4.heap[w3.heap.size]? = some (.cells #[.int .i64 7, .int .i64 t, .int .u16 1, .int .u8 k0, .int .u8 k1, .int .u8 k2, .int .u8 k3, .bool ot, .int .i64 o, .bool nt, .int .i64 n] 34 (0, 0)) := by rw [hw4]; exact heap_alloc_new w3 _
        have y0 := cells_at XA.out 0
        have y1 := cells_at XA.out 1
        have y2 := cells_at XA.out 2
        have y3 := cells_at XA.out 3
        have y4 := cells_at XA.out 4
        have y5 := cells_at XA.out 5
        have y6 := cells_at XA.out 6
        have y7 := cells_at XA.out 7
        have y8 := cells_at XA.out 8
        have y9 := cells_at XA.out 9
        have y10 := cells_at XA.out 10
        have xa := (bk.block _ (Array.getElem?_eq_some_iff.1 XA.out).1).trans XA.out
        have hb := Hb.out.trans (bk.mono Hb.out.size)
        clear XA Hb bk
        have XA := Lib.hid xa; clear xa
        have Hb := Lib.hid hb; clear hb
        go_wp2_with fail
        rw [← hw4]
        clear hw4 y0 y1 y2 y3 y4 y5 y6 y7 y8 y9 y10
        refine (QX.out _).mono ?_
        rintro e w5 ⟨rfl, bk⟩
        have xa := (bk.block _ (Array.getElem?_eq_some_iff.1 XA.out).1).trans XA.out
        have hb := Hb.out.trans (bk.mono Hb.out.size)
        clear XA Hb bk
        have XA := Lib.hid xa; clear xa
        have Hb := Lib.hid hb; clear hb
        go_wp2
        go_ret
        exact ⟨rfl, Hb.out⟩
      have d1 : (k == 1) = false := by simpa using c1
      have d7 : (k == 7) = false := by simpa using c7
      go_enter Try.func5, Try.ntmps5
      go_wp2_with fail
      rw [← hw1]
      clear hw1
      refine alive_calls.mono ?_
      rintro e w2 ⟨rfl, bk⟩
      have xa := (bk.block _ (Array.getElem?_eq_some_iff.1 XA.out).1).trans XA.out
      have hb := Hb.out.trans (bk.mono Hb.out.size)
      clear XA Hb bk
      have XA := Lib.hid xa; clear xa
      have Hb := Lib.hid hb; clear hb
      have y0 := cells_at XA.out 0
      have y1 := cells_at XA.out 1
      have y2 := cells_at XA.out 2
      have y3 := cells_at XA.out 3
      have y4 := cells_at XA.out 4
      have y5 := cells_at XA.out 5
      have y6 := cells_at XA.out 6
      have y7 := cells_at XA.out 7
      have y8 := cells_at XA.out 8
      have y9 := cells_at XA.out 9
      have y10 := cells_at XA.out 10
      go_wp2_with fail
      clear y0 y1 y2 y3 y4 y5 y6 y7 y8 y9 y10
      refine (Q0.out _).mono ?_
      rintro e w3 ⟨rfl, bk⟩
      have xa := (bk.block _ (Array.getElem?_eq_some_iff.1 XA.out).1).trans XA.out
      have hb := Hb.out.trans (bk.mono Hb.out.size)
      clear XA Hb bk
      have XA := Lib.hid xa; clear xa
      have Hb := Lib.hid hb; clear hb
      have hv := hx1 1 (by decide)
      have hbx : bits .xor .u16 0 1 = 1 := by decide
      have qx := fun w : World => Right_calls (w := w) ⟨k, t, 1, k0, k1, k2, k3, ot, o, nt, n⟩
      rw [hv] at qx
      simp only [Rc.cells] at qx
      have QX := Lib.hid qx; clear qx
      obtain ⟨w4, hw4⟩ : ∃ w4, w4 = w3.alloc (.cells #[.int .i64 k, .int .i64 t, .int .u16 1, .int .u8 k0, .int .u8 k1, .int .u8 k2, .int .u8 k3, .bool ot, .int .i64 o, .bool nt, .int .i64 n] 34) := ⟨_, rfl⟩
      have bk : Below w3.heap.size w3 w4 := by rw [hw4]; exact (Below.refl _ _).alloc (Nat.le_refl _) _
      have xx : w4.heap[w3.heap.size]? = some (.cells #[.int .i64 k, .int .i64 t, .int .u16 1, .int .u8 k0, .int .u8 k1, .int .u8 k2, .int .u8 k3, .bool ot, .int .i64 o, .bool nt, .int .i64 n] 34 (0, 0)) := by rw [hw4]; exact heap_alloc_new w3 _
      have y0 := cells_at XA.out 0
      have y1 := cells_at XA.out 1
      have y2 := cells_at XA.out 2
      have y3 := cells_at XA.out 3
      have y4 := cells_at XA.out 4
      have y5 := cells_at XA.out 5
      have y6 := cells_at XA.out 6
      have y7 := cells_at XA.out 7
      have y8 := cells_at XA.out 8
      have y9 := cells_at XA.out 9
      have y10 := cells_at XA.out 10
      have xa := (bk.block _ (Array.getElem?_eq_some_iff.1 XA.out).1).trans XA.out
      have hb := Hb.out.trans (bk.mono Hb.out.size)
      clear XA Hb bk
      have XA := Lib.hid xa; clear xa
      have Hb := Lib.hid hb; clear hb
      go_wp2_with fail
      rw [← hw4]
      clear hw4 y0 y1 y2 y3 y4 y5 y6 y7 y8 y9 y10
      refine (QX.out _).mono ?_
      rintro e w5 ⟨rfl, bk⟩
      have xa := (bk.block _ (Array.getElem?_eq_some_iff.1 XA.out).1).trans XA.out
      have hb := Hb.out.trans (bk.mono Hb.out.size)
      clear XA Hb bk
      have XA := Lib.hid xa; clear xa
      have Hb := Lib.hid hb; clear hb
      go_wp2
      go_ret
      exact ⟨rfl, Hb.out⟩
    by_cases w2 : what = 2
    · subst w2
      by_cases c1 : k = 1
      · subst c1
        go_enter Try.func5, Try.ntmps5
        go_wp2_with fail
        rw [← hw1]
        clear hw1
        refine alive_calls.mono ?_
        rintro e w2 ⟨rfl, bk⟩
        have xa := (bk.block _ (Array.getElem?_eq_some_iff.1 XA.out).1).trans XA.out
        have hb := Hb.out.trans (bk.mono Hb.out.size)
        clear XA Hb bk
        have XA := Lib.hid xa; clear xa
        have Hb := Lib.hid hb; clear hb
        have y0 := cells_at XA.out 0
        have y1 := cells_at XA.out 1
        have y2 := cells_at XA.out 2
        have y3 := cells_at XA.out 3
        have y4 := cells_at XA.out 4
        have y5 := cells_at XA.out 5
        have y6 := cells_at XA.out 6
        have y7 := cells_at XA.out 7
        have y8 := cells_at XA.out 8
        have y9 := cells_at XA.out 9
        have y10 := cells_at XA.out 10
        go_wp2_with fail
        clear y0 y1 y2 y3 y4 y5 y6 y7 y8 y9 y10
        refine (Q0.out _).mono ?_
        rintro e w3 ⟨rfl, bk⟩
        have xa := (bk.block _ (Array.getElem?_eq_some_iff.1 XA.out).1).trans XA.out
        have hb := Hb.out.trans (bk.mono Hb.out.size)
        clear XA Hb bk
        have XA := Lib.hid xa; clear xa
        have Hb := Lib.hid hb; clear hb
        have hv : rightRc ⟨1, t, m, k0, k1, k2, k3, true, 0, nt, n⟩ = true := E2.out.trans (by simp)
        have qx := fun w : World => Right_calls (w := w) ⟨1, t, m, k0, k1, k2, k3, true, 0, nt, n⟩
        rw [hv] at qx
        simp only [Rc.cells] at qx
        have QX := Lib.hid qx; clear qx
        obtain ⟨w4, hw4⟩ : ∃ w4, w4 = w3.alloc (.cells #[.int .i64 1, .int .i64 t, .int .u16 m, .int .u8 k0, .int .u8 k1, .int .u8 k2, .int .u8 k3, .bool true, .int .i64 0, .bool nt, .int .i64 n] 34) := ⟨_, rfl⟩
        have bk : Below w3.heap.size w3 w4 := by rw [hw4]; exact (Below.refl _ _).alloc (Nat.le_refl _) _
        have xx : w4.heap[w3.heap.size]? = some (.cells #[.int .i64 1, .int .i64 t, .int .u16 m, .int .u8 k0, .int .u8 k1, .int .u8 k2, .int .u8 k3, .bool true, .int .i64 0, .bool nt, .int .i64 n] 34 (0, 0)) := by rw [hw4]; exact heap_alloc_new w3 _
        have XX := Lib.hid xx; clear xx
        have y0 := cells_at XA.out 0
        have y1 := cells_at XA.out 1
        have y2 := cells_at XA.out 2
        have y3 := cells_at XA.out 3
        have y4 := cells_at XA.out 4
        have y5 := cells_at XA.out 5
        have y6 := cells_at XA.out 6
        have y7 := cells_at XA.out 7
        have y8 := cells_at XA.out 8
        have y9 := cells_at XA.out 9
        have y10 := cells_at XA.out 10
        have xa := (bk.block _ (Array.getElem?_eq_some_iff.1 XA.out).1).trans XA.out
        have hb := Hb.out.trans (bk.mono Hb.out.size)
        clear XA Hb bk
        have XA := Lib.hid xa; clear xa
        have Hb := Lib.hid hb; clear hb
        go_wp2_with fail
        rw [← hw4]
        clear hw4 y0 y1 y2 y3 y4 y5 y6 y7 y8 y9 y10
        have z0 := cell_regrown (cells_at XX.out 0)
        have z1 := cell_regrown (cells_at XX.out 1)
        have z2 := cell_regrown (cells_at XX.out 2)
        have z3 := cell_regrown (cells_at XX.out 3)
        have z4 := cell_regrown (cells_at XX.out 4)
        have z5 := cell_regrown (cells_at XX.out 5)
        have z6 := cell_regrown (cells_at XX.out 6)
        have z7 := cell_regrown (cells_at XX.out 7)
        have z8 := cell_regrown (cells_at XX.out 8)
        have z9 := cell_regrown (cells_at XX.out 9)
        have z10 := cell_regrown (cells_at XX.out 10)
        have u0 := cell_regrown (cells_at XA.out 0)
        refine wp_region_quiet_below (by kernel_rfl) (by kernel_rfl) ?_
        repeat (go_big_quiet_step ((go_at_call 10; exact Calls.regrown_of (QX.out _))))
        refine wpQuiet_nil ?_
        intro wq hwq
        have bk : Below w4.heap.size w4 wq := by obtain ⟨q, rfl⟩ := hwq; exact below_regrown _ _ _
        clear hwq u0 z0 z1 z2 z3 z4 z5 z6 z7 z8 z9 z10
        have xa := (bk.block _ (Array.getElem?_eq_some_iff.1 XA.out).1).trans XA.out
        have hb := Hb.out.trans (bk.mono Hb.out.size)
        clear XA Hb bk
        have XA := Lib.hid xa; clear xa
        have Hb := Lib.hid hb; clear hb
        go_wp2
        go_ret
        exact ⟨rfl, Hb.out⟩
      by_cases c2 : k = 2
      · subst c2
        go_enter Try.func5, Try.ntmps5
        go_wp2_with fail
        rw [← hw1]
        clear hw1
        refine alive_calls.mono ?_
        rintro e w2 ⟨rfl, bk⟩
        have xa := (bk.block _ (Array.getElem?_eq_some_iff.1 XA.out).1).trans XA.out
        have hb := Hb.out.trans (bk.mono Hb.out.size)
        clear XA Hb bk
        have XA := Lib.hid xa; clear xa
        have Hb := Lib.hid hb; clear hb
        have y0 := cells_at XA.out 0
        have y1 := cells_at XA.out 1
        have y2 := cells_at XA.out 2
        have y3 := cells_at XA.out 3
        have y4 := cells_at XA.out 4
        have y5 := cells_at XA.out 5
        have y6 := cells_at XA.out 6
        have y7 := cells_at XA.out 7
        have y8 := cells_at XA.out 8
        have y9 := cells_at XA.out 9
        have y10 := cells_at XA.out 10
        go_wp2_with fail
        clear y0 y1 y2 y3 y4 y5 y6 y7 y8 y9 y10
        refine (Q0.out _).mono ?_
        rintro e w3 ⟨rfl, bk⟩
        have xa := (bk.block _ (Array.getElem?_eq_some_iff.1 XA.out).1).trans XA.out
        have hb := Hb.out.trans (bk.mono Hb.out.size)
        clear XA Hb bk
        have XA := Lib.hid xa; clear xa
        have Hb := Lib.hid hb; clear hb
        have hv : rightRc ⟨2, t, m, k0, k1, k2, k3, true, 0, nt, n⟩ = false := E2.out.trans (by simp)
        have qx := fun w : World => Right_calls (w := w) ⟨2, t, m, k0, k1, k2, k3, true, 0, nt, n⟩
        rw [hv] at qx
        simp only [Rc.cells] at qx
        have QX := Lib.hid qx; clear qx
        obtain ⟨w4, hw4⟩ : ∃ w4, w4 = w3.alloc (.cells #[.int .i64 2, .int .i64 t, .int .u16 m, .int .u8 k0, .int .u8 k1, .int .u8 k2, .int .u8 k3, .bool true, .int .i64 0, .bool nt, .int .i64 n] 34) := ⟨_, rfl⟩
        have bk : Below w3.heap.size w3 w4 := by rw [hw4]; exact (Below.refl _ _).alloc (Nat.le_refl _) _
        have xx : w4.heap[w3.heap.size]? = some (.cells #[.int .i64 2, .int .i64 t, .int .u16 m, .int .u8 k0, .int .u8 k1, .int .u8 k2, .int .u8 k3, .bool true, .int .i64 0, .bool nt, .int .i64 n] 34 (0, 0)) := by rw [hw4]; exact heap_alloc_new w3 _
        have XX := Lib.hid xx; clear xx
        have y0 := cells_at XA.out 0
        have y1 := cells_at XA.out 1
        have y2 := cells_at XA.out 2
        have y3 := cells_at XA.out 3
        have y4 := cells_at XA.out 4
        have y5 := cells_at XA.out 5
        have y6 := cells_at XA.out 6
        have y7 := cells_at XA.out 7
        have y8 := cells_at XA.out 8
        have y9 := cells_at XA.out 9
        have y10 := cells_at XA.out 10
        have xa := (bk.block _ (Array.getElem?_eq_some_iff.1 XA.out).1).trans XA.out
        have hb := Hb.out.trans (bk.mono Hb.out.size)
        clear XA Hb bk
        have XA := Lib.hid xa; clear xa
        have Hb := Lib.hid hb; clear hb
        go_wp2_with fail
        rw [← hw4]
        clear hw4 y0 y1 y2 y3 y4 y5 y6 y7 y8 y9 y10
        have z0 := cell_regrown (cells_at XX.out 0)
        have z1 := cell_regrown (cells_at XX.out 1)
        have z2 := cell_regrown (cells_at XX.out 2)
        have z3 := cell_regrown (cells_at XX.out 3)
        have z4 := cell_regrown (cells_at XX.out 4)
        have z5 := cell_regrown (cells_at XX.out 5)
        have z6 := cell_regrown (cells_at XX.out 6)
        have z7 := cell_regrown (cells_at XX.out 7)
        have z8 := cell_regrown (cells_at XX.out 8)
        have z9 := cell_regrown (cells_at XX.out 9)
        have z10 := cell_regrown (cells_at XX.out 10)
        have u0 := cell_regrown (cells_at XA.out 0)
        refine wp_region_quiet_below (by kernel_rfl) (by kernel_rfl) ?_
        repeat (go_big_quiet_step ((go_at_call 10; exact Calls.regrown_of (QX.out _))))
        refine wpQuiet_nil ?_
        intro wq hwq
        have bk : Below w4.heap.size w4 wq := by obtain ⟨q, rfl⟩ := hwq; exact below_regrown _ _ _
        clear hwq u0 z0 z1 z2 z3 z4 z5 z6 z7 z8 z9 z10
        have xa := (bk.block _ (Array.getElem?_eq_some_iff.1 XA.out).1).trans XA.out
        have hb := Hb.out.trans (bk.mono Hb.out.size)
        clear XA Hb bk
        have XA := Lib.hid xa; clear xa
        have Hb := Lib.hid hb; clear hb
        go_wp2
        go_ret
        exact ⟨rfl, Hb.out⟩
      by_cases c7 : k = 7
      · subst c7
        go_enter Try.func5, Try.ntmps5
        go_wp2_with fail
        rw [← hw1]
        clear hw1
        refine alive_calls.mono ?_
        rintro e w2 ⟨rfl, bk⟩
        have xa := (bk.block _ (Array.getElem?_eq_some_iff.1 XA.out).1).trans XA.out
        have hb := Hb.out.trans (bk.mono Hb.out.size)
        clear XA Hb bk
        have XA := Lib.hid xa; clear xa
        have Hb := Lib.hid hb; clear hb
        have y0 := cells_at XA.out 0
        have y1 := cells_at XA.out 1
        have y2 := cells_at XA.out 2
        have y3 := cells_at XA.out 3
        have y4 := cells_at XA.out 4
        have y5 := cells_at XA.out 5
        have y6 := cells_at XA.out 6
        have y7 := cells_at XA.out 7
        have y8 := cells_at XA.out 8
        have y9 := cells_at XA.out 9
        have y10 := cells_at XA.out 10
        go_wp2_with fail
        clear y0 y1 y2 y3 y4 y5 y6 y7 y8 y9 y10
        refine (Q0.out _).mono ?_
        rintro e w3 ⟨rfl, bk⟩
        have xa := (bk.block _ (Array.getElem?_eq_some_iff.1 XA.out).1).trans XA.out
        have hb := Hb.out.trans (bk.mono Hb.out.size)
        clear XA Hb bk
        have XA := Lib.hid xa; clear xa
        have Hb := Lib.hid hb; clear hb
        have hv : rightRc ⟨7, t, m, k0, k1, k2, k3, true, 0, nt, n⟩ = false := E2.out.trans (by simp)
        have qx := fun w : World => Right_calls (w := w) ⟨7, t, m, k0, k1, k2, k3, true, 0, nt, n⟩
        rw [hv] at qx
        simp only [Rc.cells] at qx
        have QX := Lib.hid qx; clear qx
        obtain ⟨w4, hw4⟩ : ∃ w4, w4 = w3.alloc (.cells #[.int .i64 7, .int .i64 t, .int .u16 m, .int .u8 k0, .int .u8 k1, .int .u8 k2, .int .u8 k3, .bool true, .int .i64 0, .bool nt, .int .i64 n] 34) := ⟨_, rfl⟩
        have bk : Below w3.heap.size w3 w4 := by rw [hw4]; exact (Below.refl _ _).alloc (Nat.le_refl _) _
        have xx : w4.heap[w3.heap.size]? = some (.cells #[.int .i64 7, .int .i64 t, .int .u16 m, .int .u8 k0, .int .u8 k1, .int .u8 k2, .int .u8 k3, .bool true, .int .i64 0, .bool nt, .int .i64 n] 34 (0, 0)) := by rw [hw4]; exact heap_alloc_new w3 _
        have XX := Lib.hid xx; clear xx
        have y0 := cells_at XA.out 0
        have y1 := cells_at XA.out 1
        have y2 := cells_at XA.out 2
        have y3 := cells_at XA.out 3
        have y4 := cells_at XA.out 4
        have y5 := cells_at XA.out 5
        have y6 := cells_at XA.out 6
        have y7 := cells_at XA.out 7
        have y8 := cells_at XA.out 8
        have y9 := cells_at XA.out 9
        have y10 := cells_at XA.out 10
        have xa := (bk.block _ (Array.getElem?_eq_some_iff.1 XA.out).1).trans XA.out
        have hb := Hb.out.trans (bk.mono Hb.out.size)
        clear XA Hb bk
        have XA := Lib.hid xa; clear xa
        have Hb := Lib.hid hb; clear hb
        go_wp2_with fail
        rw [← hw4]
        clear hw4 y0 y1 y2 y3 y4 y5 y6 y7 y8 y9 y10
        have z0 := cell_regrown (cells_at XX.out 0)
        have z1 := cell_regrown (cells_at XX.out 1)
        have z2 := cell_regrown (cells_at XX.out 2)
        have z3 := cell_regrown (cells_at XX.out 3)
        have z4 := cell_regrown (cells_at XX.out 4)
        have z5 := cell_regrown (cells_at XX.out 5)
        have z6 := cell_regrown (cells_at XX.out 6)
        have z7 := cell_regrown (cells_at XX.out 7)
        have z8 := cell_regrown (cells_at XX.out 8)
        have z9 := cell_regrown (cells_at XX.out 9)
        have z10 := cell_regrown (cells_at XX.out 10)
        have u0 := cell_regrown (cells_at XA.out 0)
        refine wp_region_quiet_below (by kernel_rfl) (by kernel_rfl) ?_
        repeat (go_big_quiet_step ((go_at_call 10; exact Calls.regrown_of (QX.out _))))
        refine wpQuiet_nil ?_
        intro wq hwq
        have bk : Below w4.heap.size w4 wq := by obtain ⟨q, rfl⟩ := hwq; exact below_regrown _ _ _
        clear hwq u0 z0 z1 z2 z3 z4 z5 z6 z7 z8 z9 z10
        have xa := (bk.block _ (Array.getElem?_eq_some_iff.1 XA.out).1).trans XA.out
        have hb := Hb.out.trans (bk.mono Hb.out.size)
        clear XA Hb bk
        have XA := Lib.hid xa; clear xa
        have Hb := Lib.hid hb; clear hb
        go_wp2
        go_ret
        exact ⟨rfl, Hb.out⟩
      by_cases c8 : k = 8
      · subst c8
        go_enter Try.func5, Try.ntmps5
        go_wp2_with fail
        rw [← hw1]
        clear hw1
        refine alive_calls.mono ?_
        rintro e w2 ⟨rfl, bk⟩
        have xa := (bk.block _ (Array.getElem?_eq_some_iff.1 XA.out).1).trans XA.out
        have hb := Hb.out.trans (bk.mono Hb.out.size)
        clear XA Hb bk
        have XA := Lib.hid xa; clear xa
        have Hb := Lib.hid hb; clear hb
        have y0 := cells_at XA.out 0
        have y1 := cells_at XA.out 1
        have y2 := cells_at XA.out 2
        have y3 := cells_at XA.out 3
        have y4 := cells_at XA.out 4
        have y5 := cells_at XA.out 5
        have y6 := cells_at XA.out 6
        have y7 := cells_at XA.out 7
        have y8 := cells_at XA.out 8
        have y9 := cells_at XA.out 9
        have y10 := cells_at XA.out 10
        go_wp2_with fail
        clear y0 y1 y2 y3 y4 y5 y6 y7 y8 y9 y10
        refine (Q0.out _).mono ?_
        rintro e w3 ⟨rfl, bk⟩
        have xa := (bk.block _ (Array.getElem?_eq_some_iff.1 XA.out).1).trans XA.out
        have hb := Hb.out.trans (bk.mono Hb.out.size)
        clear XA Hb bk
        have XA := Lib.hid xa; clear xa
        have Hb := Lib.hid hb; clear hb
        have hv : rightRc ⟨8, t, m, k0, k1, k2, k3, true, 0, nt, n⟩ = false := E2.out.trans (by simp)
        have qx := fun w : World => Right_calls (w := w) ⟨8, t, m, k0, k1, k2, k3, true, 0, nt, n⟩
        rw [hv] at qx
        simp only [Rc.cells] at qx
        have QX := Lib.hid qx; clear qx
        obtain ⟨w4, hw4⟩ : ∃ w4, w4 = w3.alloc (.cells #[.int .i64 8, .int .i64 t, .int .u16 m, .int .u8 k0, .int .u8 k1, .int .u8 k2, .int .u8 k3, .bool true, .int .i64 0, .bool nt, .int .i64 n] 34) := ⟨_, rfl⟩
        have bk : Below w3.heap.size w3 w4 := by rw [hw4]; exact (Below.refl _ _).alloc (Nat.le_refl _) _
        have xx : w4.heap[w3.heap.size]? = some (.cells #[.int .i64 8, .int .i64 t, .int .u16 m, .int .u8 k0, .int .u8 k1, .int .u8 k2, .int .u8 k3, .bool true, .int .i64 0, .bool nt, .int .i64 n] 34 (0, 0)) := by rw [hw4]; exact heap_alloc_new w3 _
        have XX := Lib.hid xx; clear xx
        have y0 := cells_at XA.out 0
        have y1 := cells_at XA.out 1
        have y2 := cells_at XA.out 2
        have y3 := cells_at XA.out 3
        have y4 := cells_at XA.out 4
        have y5 := cells_at XA.out 5
        have y6 := cells_at XA.out 6
        have y7 := cells_at XA.out 7
        have y8 := cells_at XA.out 8
        have y9 := cells_at XA.out 9
        have y10 := cells_at XA.out 10
        have xa := (bk.block _ (Array.getElem?_eq_some_iff.1 XA.out).1).trans XA.out
        have hb := Hb.out.trans (bk.mono Hb.out.size)
        clear XA Hb bk
        have XA := Lib.hid xa; clear xa
        have Hb := Lib.hid hb; clear hb
        go_wp2_with fail
        rw [← hw4]
        clear hw4 y0 y1 y2 y3 y4 y5 y6 y7 y8 y9 y10
        have z0 := cell_regrown (cells_at XX.out 0)
        have z1 := cell_regrown (cells_at XX.out 1)
        have z2 := cell_regrown (cells_at XX.out 2)
        have z3 := cell_regrown (cells_at XX.out 3)
        have z4 := cell_regrown (cells_at XX.out 4)
        have z5 := cell_regrown (cells_at XX.out 5)
        have z6 := cell_regrown (cells_at XX.out 6)
        have z7 := cell_regrown (cells_at XX.out 7)
        have z8 := cell_regrown (cells_at XX.out 8)
        have z9 := cell_regrown (cells_at XX.out 9)
        have z10 := cell_regrown (cells_at XX.out 10)
        have u0 := cell_regrown (cells_at XA.out 0)
        refine wp_region_quiet_below (by kernel_rfl) (by kernel_rfl) ?_
        repeat (go_big_quiet_step ((go_at_call 10; exact Calls.regrown_of (QX.out _))))
        refine wpQuiet_nil ?_
        intro wq hwq
        have bk : Below w4.heap.size w4 wq := by obtain ⟨q, rfl⟩ := hwq; exact below_regrown _ _ _
        clear hwq u0 z0 z1 z2 z3 z4 z5 z6 z7 z8 z9 z10
        have xa := (bk.block _ (Array.getElem?_eq_some_iff.1 XA.out).1).trans XA.out
        have hb := Hb.out.trans (bk.mono Hb.out.size)
        clear XA Hb bk
        have XA := Lib.hid xa; clear xa
        have Hb := Lib.hid hb; clear hb
        go_wp2
        go_ret
        exact ⟨rfl, Hb.out⟩
      have d1 : (k == 1) = false := by simpa using c1
      have d2 : (k == 2) = false := by simpa using c2
      have d7 : (k == 7) = false := by simpa using c7
      have d8 : (k == 8) = false := by simpa using c8
      go_enter Try.func5, Try.ntmps5
      go_wp2_with fail
      rw [← hw1]
      clear hw1
      refine alive_calls.mono ?_
      rintro e w2 ⟨rfl, bk⟩
      have xa := (bk.block _ (Array.getElem?_eq_some_iff.1 XA.out).1).trans XA.out
      have hb := Hb.out.trans (bk.mono Hb.out.size)
      clear XA Hb bk
      have XA := Lib.hid xa; clear xa
      have Hb := Lib.hid hb; clear hb
      have y0 := cells_at XA.out 0
      have y1 := cells_at XA.out 1
      have y2 := cells_at XA.out 2
      have y3 := cells_at XA.out 3
      have y4 := cells_at XA.out 4
      have y5 := cells_at XA.out 5
      have y6 := cells_at XA.out 6
      have y7 := cells_at XA.out 7
      have y8 := cells_at XA.out 8
      have y9 := cells_at XA.out 9
      have y10 := cells_at XA.out 10
      go_wp2_with fail
      clear y0 y1 y2 y3 y4 y5 y6 y7 y8 y9 y10
      refine (Q0.out _).mono ?_
      rintro e w3 ⟨rfl, bk⟩
      have xa := (bk.block _ (Array.getElem?_eq_some_iff.1 XA.out).1).trans XA.out
      have hb := Hb.out.trans (bk.mono Hb.out.size)
      clear XA Hb bk
      have XA := Lib.hid xa; clear xa
      have Hb := Lib.hid hb; clear hb
      have hv : rightRc ⟨k, t, m, k0, k1, k2, k3, true, 0, nt, n⟩ = false := E2.out.trans (decide_eq_false (show ¬ (k = 1) by omega))
      have qx := fun w : World => Right_calls (w := w) ⟨k, t, m, k0, k1, k2, k3, true, 0, nt, n⟩
      rw [hv] at qx
      simp only [Rc.cells] at qx
      have QX := Lib.hid qx; clear qx
      obtain ⟨w4, hw4⟩ : ∃ w4, w4 = w3.alloc (.cells #[.int .i64 k, .int .i64 t, .int .u16 m, .int .u8 k0, .int .u8 k1, .int .u8 k2, .int .u8 k3, .bool true, .int .i64 0, .bool nt, .int .i64 n] 34) := ⟨_, rfl⟩
      have bk : Below w3.heap.size w3 w4 := by rw [hw4]; exact (Below.refl _ _).alloc (Nat.le_refl _) _
      have xx : w4.heap[w3.heap.size]? = some (.cells #[.int .i64 k, .int .i64 t, .int .u16 m, .int .u8 k0, .int .u8 k1, .int .u8 k2, .int .u8 k3, .bool true, .int .i64 0, .bool nt, .int .i64 n] 34 (0, 0)) := by rw [hw4]; exact heap_alloc_new w3 _
      have XX := Lib.hid xx; clear xx
      have y0 := cells_at XA.out 0
      have y1 := cells_at XA.out 1
      have y2 := cells_at XA.out 2
      have y3 := cells_at XA.out 3
      have y4 := cells_at XA.out 4
      have y5 := cells_at XA.out 5
      have y6 := cells_at XA.out 6
      have y7 := cells_at XA.out 7
      have y8 := cells_at XA.out 8
      have y9 := cells_at XA.out 9
      have y10 := cells_at XA.out 10
      have xa := (bk.block _ (Array.getElem?_eq_some_iff.1 XA.out).1).trans XA.out
      have hb := Hb.out.trans (bk.mono Hb.out.size)
      clear XA Hb bk
      have XA := Lib.hid xa; clear xa
      have Hb := Lib.hid hb; clear hb
      go_wp2_with fail
      rw [← hw4]
      clear hw4 y0 y1 y2 y3 y4 y5 y6 y7 y8 y9 y10
      have z0 := cell_regrown (cells_at XX.out 0)
      have z1 := cell_regrown (cells_at XX.out 1)
      have z2 := cell_regrown (cells_at XX.out 2)
      have z3 := cell_regrown (cells_at XX.out 3)
      have z4 := cell_regrown (cells_at XX.out 4)
      have z5 := cell_regrown (cells_at XX.out 5)
      have z6 := cell_regrown (cells_at XX.out 6)
      have z7 := cell_regrown (cells_at XX.out 7)
      have z8 := cell_regrown (cells_at XX.out 8)
      have z9 := cell_regrown (cells_at XX.out 9)
      have z10 := cell_regrown (cells_at XX.out 10)
      have u0 := cell_regrown (cells_at XA.out 0)
      refine wp_region_quiet_below (by kernel_rfl) (by kernel_rfl) ?_
      repeat (go_big_quiet_step ((go_at_call 10; exact Calls.regrown_of (QX.out _))))
      refine wpQuiet_nil ?_
      intro wq hwq
      have bk : Below w4.heap.size w4 wq := by obtain ⟨q, rfl⟩ := hwq; exact below_regrown _ _ _
      clear hwq u0 z0 z1 z2 z3 z4 z5 z6 z7 z8 z9 z10
      have xa := (bk.block _ (Array.getElem?_eq_some_iff.1 XA.out).1).trans XA.out
      have hb := Hb.out.trans (bk.mono Hb.out.size)
      clear XA Hb bk
      have XA := Lib.hid xa; clear xa
      have Hb := Lib.hid hb; clear hb
      go_wp2
      go_ret
      exact ⟨rfl, Hb.out⟩
    by_cases w3 : what = 3
    · subst w3
      by_cases c1 : k = 1
      · subst c1
        go_enter Try.func5, Try.ntmps5
        go_wp2_with fail
        rw [← hw1]
        clear hw1
        refine alive_calls.mono ?_
        rintro e w2 ⟨rfl, bk⟩
        have xa := (bk.block _ (Array.getElem?_eq_some_iff.1 XA.out).1).trans XA.out
        have hb := Hb.out.trans (bk.mono Hb.out.size)
        clear XA Hb bk
        have XA := Lib.hid xa; clear xa
        have Hb := Lib.hid hb; clear hb
        have y0 := cells_at XA.out 0
        have y1 := cells_at XA.out 1
        have y2 := cells_at XA.out 2
        have y3 := cells_at XA.out 3
        have y4 := cells_at XA.out 4
        have y5 := cells_at XA.out 5
        have y6 := cells_at XA.out 6
        have y7 := cells_at XA.out 7
        have y8 := cells_at XA.out 8
        have y9 := cells_at XA.out 9
        have y10 := cells_at XA.out 10
        go_wp2_with fail
        clear y0 y1 y2 y3 y4 y5 y6 y7 y8 y9 y10
        refine (Q0.out _).mono ?_
        rintro e w3 ⟨rfl, bk⟩
        have xa := (bk.block _ (Array.getElem?_eq_some_iff.1 XA.out).1).trans XA.out
        have hb := Hb.out.trans (bk.mono Hb.out.size)
        clear XA Hb bk
        have XA := Lib.hid xa; clear xa
        have Hb := Lib.hid hb; clear hb
        have hv := plain3 1 t m k0 k1 k2 k3 ot o
        have qx := fun w : World => Right_calls (w := w) ⟨1, t, m, k0, k1, k2, k3, ot, o, false, 1⟩
        rw [hv] at qx
        simp only [Rc.cells] at qx
        have QX := Lib.hid qx; clear qx
        obtain ⟨w4, hw4⟩ : ∃ w4, w4 = w3.alloc (.cells #[.int .i64 1, .int .i64 t, .int .u16 m, .int .u8 k0, .int .u8 k1, .int .u8 k2, .int .u8 k3, .bool ot, .int .i64 o, .bool false, .int .i64 1] 34) := ⟨_, rfl⟩
        have bk : Below w3.heap.size w3 w4 := by rw [hw4]; exact (Below.refl _ _).alloc (Nat.le_refl _) _
        have xx : w4.heap[w3.heap.size]? = some (.cells #[.int .i64 1, .int .i64 t, .int .u16 m, .int .u8 k0, .int .u8 k1, .int .u8 k2, .int .u8 k3, .bool ot, .int .i64 o, .bool false, .int .i64 1] 34 (0, 0)) := by rw [hw4]; exact heap_alloc_new w3 _
        have y0 := cells_at XA.out 0
        have y1 := cells_at XA.out 1
        have y2 := cells_at XA.out 2
        have y3 := cells_at XA.out 3
        have y4 := cells_at XA.out 4
        have y5 := cells_at XA.out 5
        have y6 := cells_at XA.out 6
        have y7 := cells_at XA.out 7
        have y8 := cells_at XA.out 8
        have y9 := cells_at XA.out 9
        have y10 := cells_at XA.out 10
        have xa := (bk.block _ (Array.getElem?_eq_some_iff.1 XA.out).1).trans XA.out
        have hb := Hb.out.trans (bk.mono Hb.out.size)
        clear XA Hb bk
        have XA := Lib.hid xa; clear xa
        have Hb := Lib.hid hb; clear hb
        go_wp2_with fail
        rw [← hw4]
        clear hw4 y0 y1 y2 y3 y4 y5 y6 y7 y8 y9 y10
        refine (QX.out _).mono ?_
        rintro e w5 ⟨rfl, bk⟩
        have xa := (bk.block _ (Array.getElem?_eq_some_iff.1 XA.out).1).trans XA.out
        have hb := Hb.out.trans (bk.mono Hb.out.size)
        clear XA Hb bk
        have XA := Lib.hid xa; clear xa
        have Hb := Lib.hid hb; clear hb
        go_wp2
        go_ret
        exact ⟨rfl, Hb.out⟩
      by_cases c2 : k = 2
      · subst c2
        go_enter Try.func5, Try.ntmps5
        go_wp2_with fail
        rw [← hw1]
        clear hw1
        refine alive_calls.mono ?_
        rintro e w2 ⟨rfl, bk⟩
        have xa := (bk.block _ (Array.getElem?_eq_some_iff.1 XA.out).1).trans XA.out
        have hb := Hb.out.trans (bk.mono Hb.out.size)
        clear XA Hb bk
        have XA := Lib.hid xa; clear xa
        have Hb := Lib.hid hb; clear hb
        have y0 := cells_at XA.out 0
        have y1 := cells_at XA.out 1
        have y2 := cells_at XA.out 2
        have y3 := cells_at XA.out 3
        have y4 := cells_at XA.out 4
        have y5 := cells_at XA.out 5
        have y6 := cells_at XA.out 6
        have y7 := cells_at XA.out 7
        have y8 := cells_at XA.out 8
        have y9 := cells_at XA.out 9
        have y10 := cells_at XA.out 10
        go_wp2_with fail
        clear y0 y1 y2 y3 y4 y5 y6 y7 y8 y9 y10
        refine (Q0.out _).mono ?_
        rintro e w3 ⟨rfl, bk⟩
        have xa := (bk.block _ (Array.getElem?_eq_some_iff.1 XA.out).1).trans XA.out
        have hb := Hb.out.trans (bk.mono Hb.out.size)
        clear XA Hb bk
        have XA := Lib.hid xa; clear xa
        have Hb := Lib.hid hb; clear hb
        have hv := plain3 2 t m k0 k1 k2 k3 ot o
        have qx := fun w : World => Right_calls (w := w) ⟨2, t, m, k0, k1, k2, k3, ot, o, false, 1⟩
        rw [hv] at qx
        simp only [Rc.cells] at qx
        have QX := Lib.hid qx; clear qx
        obtain ⟨w4, hw4⟩ : ∃ w4, w4 = w3.alloc (.cells #[.int .i64 2, .int .i64 t, .int .u16 m, .int .u8 k0, .int .u8 k1, .int .u8 k2, .int .u8 k3, .bool ot, .int .i64 o, .bool false, .int .i64 1] 34) := ⟨_, rfl⟩
        have bk : Below w3.heap.size w3 w4 := by rw [hw4]; exact (Below.refl _ _).alloc (Nat.le_refl _) _
        have xx : w4.heap[w3.heap.size]? = some (.cells #[.int .i64 2, .int .i64 t, .int .u16 m, .int .u8 k0, .int .u8 k1, .int .u8 k2, .int .u8 k3, .bool ot, .int .i64 o, .bool false, .int .i64 1] 34 (0, 0)) := by rw [hw4]; exact heap_alloc_new w3 _
        have y0 := cells_at XA.out 0
        have y1 := cells_at XA.out 1
        have y2 := cells_at XA.out 2
        have y3 := cells_at XA.out 3
        have y4 := cells_at XA.out 4
        have y5 := cells_at XA.out 5
        have y6 := cells_at XA.out 6
        have y7 := cells_at XA.out 7
        have y8 := cells_at XA.out 8
        have y9 := cells_at XA.out 9
        have y10 := cells_at XA.out 10
        have xa := (bk.block _ (Array.getElem?_eq_some_iff.1 XA.out).1).trans XA.out
        have hb := Hb.out.trans (bk.mono Hb.out.size)
        clear XA Hb bk
        have XA := Lib.hid xa; clear xa
        have Hb := Lib.hid hb; clear hb
        go_wp2_with fail
        rw [← hw4]
        clear hw4 y0 y1 y2 y3 y4 y5 y6 y7 y8 y9 y10
        refine (QX.out _).mono ?_
        rintro e w5 ⟨rfl, bk⟩
        have xa := (bk.block _ (Array.getElem?_eq_some_iff.1 XA.out).1).trans XA.out
        have hb := Hb.out.trans (bk.mono Hb.out.size)
        clear XA Hb bk
        have XA := Lib.hid xa; clear xa
        have Hb := Lib.hid hb; clear hb
        go_wp2
        go_ret
        exact ⟨rfl, Hb.out⟩
      by_cases c7 : k = 7
      · subst c7
        go_enter Try.func5, Try.ntmps5
        go_wp2_with fail
        rw [← hw1]
        clear hw1
        refine alive_calls.mono ?_
        rintro e w2 ⟨rfl, bk⟩
        have xa := (bk.block _ (Array.getElem?_eq_some_iff.1 XA.out).1).trans XA.out
        have hb := Hb.out.trans (bk.mono Hb.out.size)
        clear XA Hb bk
        have XA := Lib.hid xa; clear xa
        have Hb := Lib.hid hb; clear hb
        have y0 := cells_at XA.out 0
        have y1 := cells_at XA.out 1
        have y2 := cells_at XA.out 2
        have y3 := cells_at XA.out 3
        have y4 := cells_at XA.out 4
        have y5 := cells_at XA.out 5
        have y6 := cells_at XA.out 6
        have y7 := cells_at XA.out 7
        have y8 := cells_at XA.out 8
        have y9 := cells_at XA.out 9
        have y10 := cells_at XA.out 10
        go_wp2_with fail
        clear y0 y1 y2 y3 y4 y5 y6 y7 y8 y9 y10
        refine (Q0.out _).mono ?_
        rintro e w3 ⟨rfl, bk⟩
        have xa := (bk.block _ (Array.getElem?_eq_some_iff.1 XA.out).1).trans XA.out
        have hb := Hb.out.trans (bk.mono Hb.out.size)
        clear XA Hb bk
        have XA := Lib.hid xa; clear xa
        have Hb := Lib.hid hb; clear hb
        have hv := plain3 7 t m k0 k1 k2 k3 ot o
        have qx := fun w : World => Right_calls (w := w) ⟨7, t, m, k0, k1, k2, k3, ot, o, false, 1⟩
        rw [hv] at qx
        simp only [Rc.cells] at qx
        have QX := Lib.hid qx; clear qx
        obtain ⟨w4, hw4⟩ : ∃ w4, w4 = w3.alloc (.cells #[.int .i64 7, .int .i64 t, .int .u16 m, .int .u8 k0, .int .u8 k1, .int .u8 k2, .int .u8 k3, .bool ot, .int .i64 o, .bool false, .int .i64 1] 34) := ⟨_, rfl⟩
        have bk : Below w3.heap.size w3 w4 := by rw [hw4]; exact (Below.refl _ _).alloc (Nat.le_refl _) _
        have xx : w4.heap[w3.heap.size]? = some (.cells #[.int .i64 7, .int .i64 t, .int .u16 m, .int .u8 k0, .int .u8 k1, .int .u8 k2, .int .u8 k3, .bool ot, .int .i64 o, .bool false, .int .i64 1] 34 (0, 0)) := by rw [hw4]; exact heap_alloc_new w3 _
        have y0 := cells_at XA.out 0
        have y1 := cells_at XA.out 1
        have y2 := cells_at XA.out 2
        have y3 := cells_at XA.out 3
        have y4 := cells_at XA.out 4
        have y5 := cells_at XA.out 5
        have y6 := cells_at XA.out 6
        have y7 := cells_at XA.out 7
        have y8 := cells_at XA.out 8
        have y9 := cells_at XA.out 9
        have y10 := cells_at XA.out 10
        have xa := (bk.block _ (Array.getElem?_eq_some_iff.1 XA.out).1).trans XA.out
        have hb := Hb.out.trans (bk.mono Hb.out.size)
        clear XA Hb bk
        have XA := Lib.hid xa; clear xa
        have Hb := Lib.hid hb; clear hb
        go_wp2_with fail
        rw [← hw4]
        clear hw4 y0 y1 y2 y3 y4 y5 y6 y7 y8 y9 y10
        refine (QX.out _).mono ?_
        rintro e w5 ⟨rfl, bk⟩
        have xa := (bk.block _ (Array.getElem?_eq_some_iff.1 XA.out).1).trans XA.out
        have hb := Hb.out.trans (bk.mono Hb.out.size)
        clear XA Hb bk
        have XA := Lib.hid xa; clear xa
        have Hb := Lib.hid hb; clear hb
        go_wp2
        go_ret
        exact ⟨rfl, Hb.out⟩
      by_cases c8 : k = 8
      · subst c8
        go_enter Try.func5, Try.ntmps5
        go_wp2_with fail
        rw [← hw1]
        clear hw1
        refine alive_calls.mono ?_
        rintro e w2 ⟨rfl, bk⟩
        have xa := (bk.block _ (Array.getElem?_eq_some_iff.1 XA.out).1).trans XA.out
        have hb := Hb.out.trans (bk.mono Hb.out.size)
        clear XA Hb bk
        have XA := Lib.hid xa; clear xa
        have Hb := Lib.hid hb; clear hb
        have y0 := cells_at XA.out 0
        have y1 := cells_at XA.out 1
        have y2 := cells_at XA.out 2
        have y3 := cells_at XA.out 3
        have y4 := cells_at XA.out 4
        have y5 := cells_at XA.out 5
        have y6 := cells_at XA.out 6
        have y7 := cells_at XA.out 7
        have y8 := cells_at XA.out 8
        have y9 := cells_at XA.out 9
        have y10 := cells_at XA.out 10
        go_wp2_with fail
        clear y0 y1 y2 y3 y4 y5 y6 y7 y8 y9 y10
        refine (Q0.out _).mono ?_
        rintro e w3 ⟨rfl, bk⟩
        have xa := (bk.block _ (Array.getElem?_eq_some_iff.1 XA.out).1).trans XA.out
        have hb := Hb.out.trans (bk.mono Hb.out.size)
        clear XA Hb bk
        have XA := Lib.hid xa; clear xa
        have Hb := Lib.hid hb; clear hb
        have hv := plain3 8 t m k0 k1 k2 k3 ot o
        have qx := fun w : World => Right_calls (w := w) ⟨8, t, m, k0, k1, k2, k3, ot, o, false, 1⟩
        rw [hv] at qx
        simp only [Rc.cells] at qx
        have QX := Lib.hid qx; clear qx
        obtain ⟨w4, hw4⟩ : ∃ w4, w4 = w3.alloc (.cells #[.int .i64 8, .int .i64 t, .int .u16 m, .int .u8 k0, .int .u8 k1, .int .u8 k2, .int .u8 k3, .bool ot, .int .i64 o, .bool false, .int .i64 1] 34) := ⟨_, rfl⟩
        have bk : Below w3.heap.size w3 w4 := by rw [hw4]; exact (Below.refl _ _).alloc (Nat.le_refl _) _
        have xx : w4.heap[w3.heap.size]? = some (.cells #[.int .i64 8, .int .i64 t, .int .u16 m, .int .u8 k0, .int .u8 k1, .int .u8 k2, .int .u8 k3, .bool ot, .int .i64 o, .bool false, .int .i64 1] 34 (0, 0)) := by rw [hw4]; exact heap_alloc_new w3 _
        have y0 := cells_at XA.out 0
        have y1 := cells_at XA.out 1
        have y2 := cells_at XA.out 2
        have y3 := cells_at XA.out 3
        have y4 := cells_at XA.out 4
        have y5 := cells_at XA.out 5
        have y6 := cells_at XA.out 6
        have y7 := cells_at XA.out 7
        have y8 := cells_at XA.out 8
        have y9 := cells_at XA.out 9
        have y10 := cells_at XA.out 10
        have xa := (bk.block _ (Array.getElem?_eq_some_iff.1 XA.out).1).trans XA.out
        have hb := Hb.out.trans (bk.mono Hb.out.size)
        clear XA Hb bk
        have XA := Lib.hid xa; clear xa
        have Hb := Lib.hid hb; clear hb
        go_wp2_with fail
        rw [← hw4]
        clear hw4 y0 y1 y2 y3 y4 y5 y6 y7 y8 y9 y10
        refine (QX.out _).mono ?_
        rintro e w5 ⟨rfl, bk⟩
        have xa := (bk.block _ (Array.getElem?_eq_some_iff.1 XA.out).1).trans XA.out
        have hb := Hb.out.trans (bk.mono Hb.out.size)
        clear XA Hb bk
        have XA := Lib.hid xa; clear xa
        have Hb := Lib.hid hb; clear hb
        go_wp2
        go_ret
        exact ⟨rfl, Hb.out⟩
      have d1 : (k == 1) = false := by simpa using c1
      have d2 : (k == 2) = false := by simpa using c2
      have d7 : (k == 7) = false := by simpa using c7
      have d8 : (k == 8) = false := by simpa using c8
      go_enter Try.func5, Try.ntmps5
      go_wp2_with fail
      rw [← hw1]
      clear hw1
      refine alive_calls.mono ?_
      rintro e w2 ⟨rfl, bk⟩
      have xa := (bk.block _ (Array.getElem?_eq_some_iff.1 XA.out).1).trans XA.out
      have hb := Hb.out.trans (bk.mono Hb.out.size)
      clear XA Hb bk
      have XA := Lib.hid xa; clear xa
      have Hb := Lib.hid hb; clear hb
      have y0 := cells_at XA.out 0
      have y1 := cells_at XA.out 1
      have y2 := cells_at XA.out 2
      have y3 := cells_at XA.out 3
      have y4 := cells_at XA.out 4
      have y5 := cells_at XA.out 5
      have y6 := cells_at XA.out 6
      have y7 := cells_at XA.out 7
      have y8 := cells_at XA.out 8
      have y9 := cells_at XA.out 9
      have y10 := cells_at XA.out 10
      go_wp2_with fail
      clear y0 y1 y2 y3 y4 y5 y6 y7 y8 y9 y10
      refine (Q0.out _).mono ?_
      rintro e w3 ⟨rfl, bk⟩
      have xa := (bk.block _ (Array.getElem?_eq_some_iff.1 XA.out).1).trans XA.out
      have hb := Hb.out.trans (bk.mono Hb.out.size)
      clear XA Hb bk
      have XA := Lib.hid xa; clear xa
      have Hb := Lib.hid hb; clear hb
      have hv := plain3 k t m k0 k1 k2 k3 ot o
      have qx := fun w : World => Right_calls (w := w) ⟨k, t, m, k0, k1, k2, k3, ot, o, false, 1⟩
      rw [hv] at qx
      simp only [Rc.cells] at qx
      have QX := Lib.hid qx; clear qx
      obtain ⟨w4, hw4⟩ : ∃ w4, w4 = w3.alloc (.cells #[.int .i64 k, .int .i64 t, .int .u16 m, .int .u8 k0, .int .u8 k1, .int .u8 k2, .int .u8 k3, .bool ot, .int .i64 o, .bool false, .int .i64 1] 34) := ⟨_, rfl⟩
      have bk : Below w3.heap.size w3 w4 := by rw [hw4]; exact (Below.refl _ _).alloc (Nat.le_refl _) _
      have xx : w4.heap[w3.heap.size]? = some (.cells #[.int .i64 k, .int .i64 t, .int .u16 m, .int .u8 k0, .int .u8 k1, .int .u8 k2, .int .u8 k3, .bool ot, .int .i64 o, .bool false, .int .i64 1] 34 (0, 0)) := by rw [hw4]; exact heap_alloc_new w3 _
      have y0 := cells_at XA.out 0
      have y1 := cells_at XA.out 1
      have y2 := cells_at XA.out 2
      have y3 := cells_at XA.out 3
      have y4 := cells_at XA.out 4
      have y5 := cells_at XA.out 5
      have y6 := cells_at XA.out 6
      have y7 := cells_at XA.out 7
      have y8 := cells_at XA.out 8
      have y9 := cells_at XA.out 9
      have y10 := cells_at XA.out 10
      have xa := (bk.block _ (Array.getElem?_eq_some_iff.1 XA.out).1).trans XA.out
      have hb := Hb.out.trans (bk.mono Hb.out.size)
      clear XA Hb bk
      have XA := Lib.hid xa; clear xa
      have Hb := Lib.hid hb; clear hb
      go_wp2_with fail
      rw [← hw4]
      clear hw4 y0 y1 y2 y3 y4 y5 y6 y7 y8 y9 y10
      refine (QX.out _).mono ?_
      rintro e w5 ⟨rfl, bk⟩
      have xa := (bk.block _ (Array.getElem?_eq_some_iff.1 XA.out).1).trans XA.out
      have hb := Hb.out.trans (bk.mono Hb.out.size)
      clear XA Hb bk
      have XA := Lib.hid xa; clear xa
      have Hb := Lib.hid hb; clear hb
      go_wp2
      go_ret
      exact ⟨rfl, Hb.out⟩
    have v0 : (what == 0) = false := by simpa using w0
    have v1 : (what == 1) = false := by simpa using w1
    have v2 : (what == 2) = false := by simpa using w2
    have v3 : (what == 3) = false := by simpa using w3
    by_cases c1 : k = 1
    · subst c1
      go_enter Try.func5, Try.ntmps5
      go_wp2_with fail
      rw [← hw1]
      clear hw1
      refine alive_calls.mono ?_
      rintro e w2 ⟨rfl, bk⟩
      have xa := (bk.block _ (Array.getElem?_eq_some_iff.1 XA.out).1).trans XA.out
      have hb := Hb.out.trans (bk.mono Hb.out.size)
      clear XA Hb bk
      have XA := Lib.hid xa; clear xa
      have Hb := Lib.hid hb; clear hb
      have y0 := cells_at XA.out 0
      have y1 := cells_at XA.out 1
      have y2 := cells_at XA.out 2
      have y3 := cells_at XA.out 3
      have y4 := cells_at XA.out 4
      have y5 := cells_at XA.out 5
      have y6 := cells_at XA.out 6
      have y7 := cells_at XA.out 7
      have y8 := cells_at XA.out 8
      have y9 := cells_at XA.out 9
      have y10 := cells_at XA.out 10
      go_wp2_with fail
      clear y0 y1 y2 y3 y4 y5 y6 y7 y8 y9 y10
      refine (Q0.out _).mono ?_
      rintro e w3 ⟨rfl, bk⟩
      have xa := (bk.block _ (Array.getElem?_eq_some_iff.1 XA.out).1).trans XA.out
      have hb := Hb.out.trans (bk.mono Hb.out.size)
      clear XA Hb bk
      have XA := Lib.hid xa; clear xa
      have Hb := Lib.hid hb; clear hb
      have hv : rightRc ⟨1, 0, m, k0, k1, k2, k3, ot, o, nt, n⟩ = false := E4.out.trans (by simp)
      have qx := fun w : World => Right_calls (w := w) ⟨1, 0, m, k0, k1, k2, k3, ot, o, nt, n⟩
      rw [hv] at qx
      simp only [Rc.cells] at qx
      have QX := Lib.hid qx; clear qx
      obtain ⟨w4, hw4⟩ : ∃ w4, w4 = w3.alloc (.cells #[.int .i64 1, .int .i64 0, .int .u16 m, .int .u8 k0, .int .u8 k1, .int .u8 k2, .int .u8 k3, .bool ot, .int .i64 o, .bool nt, .int .i64 n] 34) := ⟨_, rfl⟩
      have bk : Below w3.heap.size w3 w4 := by rw [hw4]; exact (Below.refl _ _).alloc (Nat.le_refl _) _
      have xx : w4.heap[w3.heap.size]? = some (.cells #[.int .i64 1, .int .i64 0, .int .u16 m, .int .u8 k0, .int .u8 k1, .int .u8 k2, .int .u8 k3, .bool ot, .int .i64 o, .bool nt, .int .i64 n] 34 (0, 0)) := by rw [hw4]; exact heap_alloc_new w3 _
      have XX := Lib.hid xx; clear xx
      have y0 := cells_at XA.out 0
      have y1 := cells_at XA.out 1
      have y2 := cells_at XA.out 2
      have y3 := cells_at XA.out 3
      have y4 := cells_at XA.out 4
      have y5 := cells_at XA.out 5
      have y6 := cells_at XA.out 6
      have y7 := cells_at XA.out 7
      have y8 := cells_at XA.out 8
      have y9 := cells_at XA.out 9
      have y10 := cells_at XA.out 10
      have xa := (bk.block _ (Array.getElem?_eq_some_iff.1 XA.out).1).trans XA.out
      have hb := Hb.out.trans (bk.mono Hb.out.size)
      clear XA Hb bk
      have XA := Lib.hid xa; clear xa
      have Hb := Lib.hid hb; clear hb
      go_wp2_with fail
      rw [← hw4]
      clear hw4 y0 y1 y2 y3 y4 y5 y6 y7 y8 y9 y10
      have z0 := cell_regrown (cells_at XX.out 0)
      have z1 := cell_regrown (cells_at XX.out 1)
      have z2 := cell_regrown (cells_at XX.out 2)
      have z3 := cell_regrown (cells_at XX.out 3)
      have z4 := cell_regrown (cells_at XX.out 4)
      have z5 := cell_regrown (cells_at XX.out 5)
      have z6 := cell_regrown (cells_at XX.out 6)
      have z7 := cell_regrown (cells_at XX.out 7)
      have z8 := cell_regrown (cells_at XX.out 8)
      have z9 := cell_regrown (cells_at XX.out 9)
      have z10 := cell_regrown (cells_at XX.out 10)
      have u0 := cell_regrown (cells_at XA.out 0)
      refine wp_region_quiet_below (by kernel_rfl) (by kernel_rfl) ?_
      repeat (go_big_quiet_step ((go_at_call 10; exact Calls.regrown_of (QX.out _))))
      refine wpQuiet_nil ?_
      intro wq hwq
      have bk : Below w4.heap.size w4 wq := by obtain ⟨q, rfl⟩ := hwq; exact below_regrown _ _ _
      clear hwq u0 z0 z1 z2 z3 z4 z5 z6 z7 z8 z9 z10
      have xa := (bk.block _ (Array.getElem?_eq_some_iff.1 XA.out).1).trans XA.out
      have hb := Hb.out.trans (bk.mono Hb.out.size)
      clear XA Hb bk
      have XA := Lib.hid xa; clear xa
      have Hb := Lib.hid hb; clear hb
      go_wp2
      go_ret
      exact ⟨rfl, Hb.out⟩
    by_cases c2 : k = 2
    · subst c2
      go_enter Try.func5, Try.ntmps5
      go_wp2_with fail
      rw [← hw1]
      clear hw1
      refine alive_calls.mono ?_
      rintro e w2 ⟨rfl, bk⟩
      have xa := (bk.block _ (Array.getElem?_eq_some_iff.1 XA.out).1).trans XA.out
      have hb := Hb.out.trans (bk.mono Hb.out.size)
      clear XA Hb bk
      have XA := Lib.hid xa; clear xa
      have Hb := Lib.hid hb; clear hb
      have y0 := cells_at XA.out 0
      have y1 := cells_at XA.out 1
      have y2 := cells_at XA.out 2
      have y3 := cells_at XA.out 3
      have y4 := cells_at XA.out 4
      have y5 := cells_at XA.out 5
      have y6 := cells_at XA.out 6
      have y7 := cells_at XA.out 7
      have y8 := cells_at XA.out 8
      have y9 := cells_at XA.out 9
      have y10 := cells_at XA.out 10
      go_wp2_with fail
      clear y0 y1 y2 y3 y4 y5 y6 y7 y8 y9 y10
      refine (Q0.out _).mono ?_
      rintro e w3 ⟨rfl, bk⟩
      have xa := (bk.block _ (Array.getElem?_eq_some_iff.1 XA.out).1).trans XA.out
      have hb := Hb.out.trans (bk.mono Hb.out.size)
      clear XA Hb bk
      have XA := Lib.hid xa; clear xa
      have Hb := Lib.hid hb; clear hb
      have hv : rightRc ⟨2, 0, m, k0, k1, k2, k3, ot, o, nt, n⟩ = false := E4.out.trans (by simp)
      have qx := fun w : World => Right_calls (w := w) ⟨2, 0, m, k0, k1, k2, k3, ot, o, nt, n⟩
      rw [hv] at qx
      simp only [Rc.cells] at qx
      have QX := Lib.hid qx; clear qx
      obtain ⟨w4, hw4⟩ : ∃ w4, w4 = w3.alloc (.cells #[.int .i64 2, .int .i64 0, .int .u16 m, .int .u8 k0, .int .u8 k1, .int .u8 k2, .int .u8 k3, .bool ot, .int .i64 o, .bool nt, .int .i64 n] 34) := ⟨_, rfl⟩
      have bk : Below w3.heap.size w3 w4 := by rw [hw4]; exact (Below.refl _ _).alloc (Nat.le_refl _) _
      have xx : w4.heap[w3.heap.size]? = some (.cells #[.int .i64 2, .int .i64 0, .int .u16 m, .int .u8 k0, .int .u8 k1, .int .u8 k2, .int .u8 k3, .bool ot, .int .i64 o, .bool nt, .int .i64 n] 34 (0, 0)) := by rw [hw4]; exact heap_alloc_new w3 _
      have XX := Lib.hid xx; clear xx
      have y0 := cells_at XA.out 0
      have y1 := cells_at XA.out 1
      have y2 := cells_at XA.out 2
      have y3 := cells_at XA.out 3
      have y4 := cells_at XA.out 4
      have y5 := cells_at XA.out 5
      have y6 := cells_at XA.out 6
      have y7 := cells_at XA.out 7
      have y8 := cells_at XA.out 8
      have y9 := cells_at XA.out 9
      have y10 := cells_at XA.out 10
      have xa := (bk.block _ (Array.getElem?_eq_some_iff.1 XA.out).1).trans XA.out
      have hb := Hb.out.trans (bk.mono Hb.out.size)
      clear XA Hb bk
      have XA := Lib.hid xa; clear xa
      have Hb := Lib.hid hb; clear hb
      go_wp2_with fail
      rw [← hw4]
      clear hw4 y0 y1 y2 y3 y4 y5 y6 y7 y8 y9 y10
      have z0 := cell_regrown (cells_at XX.out 0)
      have z1 := cell_regrown (cells_at XX.out 1)
      have z2 := cell_regrown (cells_at XX.out 2)
      have z3 := cell_regrown (cells_at XX.out 3)
      have z4 := cell_regrown (cells_at XX.out 4)
      have z5 := cell_regrown (cells_at XX.out 5)
      have z6 := cell_regrown (cells_at XX.out 6)
      have z7 := cell_regrown (cells_at XX.out 7)
      have z8 := cell_regrown (cells_at XX.out 8)
      have z9 := cell_regrown (cells_at XX.out 9)
      have z10 := cell_regrown (cells_at XX.out 10)
      have u0 := cell_regrown (cells_at XA.out 0)
      refine wp_region_quiet_below (by kernel_rfl) (by kernel_rfl) ?_
      repeat (go_big_quiet_step ((go_at_call 10; exact Calls.regrown_of (QX.out _))))
      refine wpQuiet_nil ?_
      intro wq hwq
      have bk : Below w4.heap.size w4 wq := by obtain ⟨q, rfl⟩ := hwq; exact below_regrown _ _ _
      clear hwq u0 z0 z1 z2 z3 z4 z5 z6 z7 z8 z9 z10
      have xa := (bk.block _ (Array.getElem?_eq_some_iff.1 XA.out).1).trans XA.out
      have hb := Hb.out.trans (bk.mono Hb.out.size)
      clear XA Hb bk
      have XA := Lib.hid xa; clear xa
      have Hb := Lib.hid hb; clear hb
      go_wp2
      go_ret
      exact ⟨rfl, Hb.out⟩
    by_cases c7 : k = 7
    · subst c7
      go_enter Try.func5, Try.ntmps5
      go_wp2_with fail
      rw [← hw1]
      clear hw1
      refine alive_calls.mono ?_
      rintro e w2 ⟨rfl, bk⟩
      have xa := (bk.block _ (Array.getElem?_eq_some_iff.1 XA.out).1).trans XA.out
      have hb := Hb.out.trans (bk.mono Hb.out.size)
      clear XA Hb bk
      have XA := Lib.hid xa; clear xa
      have Hb := Lib.hid hb; clear hb
      have y0 := cells_at XA.out 0
      have y1 := cells_at XA.out 1
      have y2 := cells_at XA.out 2
      have y3 := cells_at XA.out 3
      have y4 := cells_at XA.out 4
      have y5 := cells_at XA.out 5
      have y6 := cells_at XA.out 6
      have y7 := cells_at XA.out 7
      have y8 := cells_at XA.out 8
      have y9 := cells_at XA.out 9
      have y10 := cells_at XA.out 10
      go_wp2_with fail
      clear y0 y1 y2 y3 y4 y5 y6 y7 y8 y9 y10
      refine (Q0.out _).mono ?_
      rintro e w3 ⟨rfl, bk⟩
      have xa := (bk.block _ (Array.getElem?_eq_some_iff.1 XA.out).1).trans XA.out
      have hb := Hb.out.trans (bk.mono Hb.out.size)
      clear XA Hb bk
      have XA := Lib.hid xa; clear xa
      have Hb := Lib.hid hb; clear hb
      have hv : rightRc ⟨7, 0, m, k0, k1, k2, k3, ot, o, nt, n⟩ = true := E4.out.trans (by simp)
      have qx := fun w : World => Right_calls (w := w) ⟨7, 0, m, k0, k1, k2, k3, ot, o, nt, n⟩
      rw [hv] at qx
      simp only [Rc.cells] at qx
      have QX := Lib.hid qx; clear qx
      obtain ⟨w4, hw4⟩ : ∃ w4, w4 = w3.alloc (.cells #[.int .i64 7, .int .i64 0, .int .u16 m, .int .u8 k0, .int .u8 k1, .int .u8 k2, .int .u8 k3, .bool ot, .int .i64 o, .bool nt, .int .i64 n] 34) := ⟨_, rfl⟩
      have bk : Below w3.heap.size w3 w4 := by rw [hw4]; exact (Below.refl _ _).alloc (Nat.le_refl _) _
      have xx : w4.heap[w3.heap.size]? = some (.cells #[.int .i64 7, .int .i64 0, .int .u16 m, .int .u8 k0, .int .u8 k1, .int .u8 k2, .int .u8 k3, .bool ot, .int .i64 o, .bool nt, .int .i64 n] 34 (0, 0)) := by rw [hw4]; exact heap_alloc_new w3 _
      have XX := Lib.hid xx; clear xx
      have y0 := cells_at XA.out 0
      have y1 := cells_at XA.out 1
      have y2 := cells_at XA.out 2
      have y3 := cells_at XA.out 3
      have y4 := cells_at XA.out 4
      have y5 := cells_at XA.out 5
      have y6 := cells_at XA.out 6
      have y7 := cells_at XA.out 7
      have y8 := cells_at XA.out 8
      have y9 := cells_at XA.out 9
      have y10 := cells_at XA.out 10
      have xa := (bk.block _ (Array.getElem?_eq_some_iff.1 XA.out).1).trans XA.out
      have hb := Hb.out.trans (bk.mono Hb.out.size)
      clear XA Hb bk
      have XA := Lib.hid xa; clear xa
      have Hb := Lib.hid hb; clear hb
      go_wp2_with fail
      rw [← hw4]
      clear hw4 y0 y1 y2 y3 y4 y5 y6 y7 y8 y9 y10
      have z0 := cell_regrown (cells_at XX.out 0)
      have z1 := cell_regrown (cells_at XX.out 1)
      have z2 := cell_regrown (cells_at XX.out 2)
      have z3 := cell_regrown (cells_at XX.out 3)
      have z4 := cell_regrown (cells_at XX.out 4)
      have z5 := cell_regrown (cells_at XX.out 5)
      have z6 := cell_regrown (cells_at XX.out 6)
      have z7 := cell_regrown (cells_at XX.out 7)
      have z8 := cell_regrown (cells_at XX.out 8)
      have z9 := cell_regrown (cells_at XX.out 9)
      have z10 := cell_regrown (cells_at XX.out 10)
      have u0 := cell_regrown (cells_at XA.out 0)
      refine wp_region_quiet_below (by kernel_rfl) (by kernel_rfl) ?_
      repeat (go_big_quiet_step ((go_at_call 10; exact Calls.regrown_of (QX.out _))))
      refine wpQuiet_nil ?_
      intro wq hwq
      have bk : Below w4.heap.size w4 wq := by obtain ⟨q, rfl⟩ := hwq; exact below_regrown _ _ _
      clear hwq u0 z0 z1 z2 z3 z4 z5 z6 z7 z8 z9 z10
      have xa := (bk.block _ (Array.getElem?_eq_some_iff.1 XA.out).1).trans XA.out
      have hb := Hb.out.trans (bk.mono Hb.out.size)
      clear XA Hb bk
      have XA := Lib.hid xa; clear xa
      have Hb := Lib.hid hb; clear hb
      go_wp2
      go_ret
      exact ⟨rfl, Hb.out⟩
    by_cases c8 : k = 8
    · subst c8
      go_enter Try.func5, Try.ntmps5
      go_wp2_with fail
      rw [← hw1]
      clear hw1
      refine alive_calls.mono ?_
      rintro e w2 ⟨rfl, bk⟩
      have xa := (bk.block _ (Array.getElem?_eq_some_iff.1 XA.out).1).trans XA.out
      have hb := Hb.out.trans (bk.mono Hb.out.size)
      clear XA Hb bk
      have XA := Lib.hid xa; clear xa
      have Hb := Lib.hid hb; clear hb
      have y0 := cells_at XA.out 0
      have y1 := cells_at XA.out 1
      have y2 := cells_at XA.out 2
      have y3 := cells_at XA.out 3
      have y4 := cells_at XA.out 4
      have y5 := cells_at XA.out 5
      have y6 := cells_at XA.out 6
      have y7 := cells_at XA.out 7
      have y8 := cells_at XA.out 8
      have y9 := cells_at XA.out 9
      have y10 := cells_at XA.out 10
      go_wp2_with fail
      clear y0 y1 y2 y3 y4 y5 y6 y7 y8 y9 y10
      refine (Q0.out _).mono ?_
      rintro e w3 ⟨rfl, bk⟩
      have xa := (bk.block _ (Array.getElem?_eq_some_iff.1 XA.out).1).trans XA.out
      have hb := Hb.out.trans (bk.mono Hb.out.size)
      clear XA Hb bk
      have XA := Lib.hid xa; clear xa
      have Hb := Lib.hid hb; clear hb
      have hv : rightRc ⟨8, 0, m, k0, k1, k2, k3, ot, o, nt, n⟩ = true := E4.out.trans (by simp)
      have qx := fun w : World => Right_calls (w := w) ⟨8, 0, m, k0, k1, k2, k3, ot, o, nt, n⟩
      rw [hv] at qx
      simp only [Rc.cells] at qx
      have QX := Lib.hid qx; clear qx
      obtain ⟨w4, hw4⟩ : ∃ w4, w4 = w3.alloc (.cells #[.int .i64 8, .int .i64 0, .int .u16 m, .int .u8 k0, .int .u8 k1, .int .u8 k2, .int .u8 k3, .bool ot, .int .i64 o, .bool nt, .int .i64 n] 34) := ⟨_, rfl⟩
      have bk : Below w3.heap.size w3 w4 := by rw [hw4]; exact (Below.refl _ _).alloc (Nat.le_refl _) _
      have xx : w4.heap[w3.heap.size]? = some (.cells #[.int .i64 8, .int .i64 0, .int .u16 m, .int .u8 k0, .int .u8 k1, .int .u8 k2, .int .u8 k3, .bool ot, .int .i64 o, .bool nt, .int .i64 n] 34 (0, 0)) := by rw [hw4]; exact heap_alloc_new w3 _
      have XX := Lib.hid xx; clear xx
      have y0 := cells_at XA.out 0
      have y1 := cells_at XA.out 1
      have y2 := cells_at XA.out 2
      have y3 := cells_at XA.out 3
      have y4 := cells_at XA.out 4
      have y5 := cells_at XA.out 5
      have y6 := cells_at XA.out 6
      have y7 := cells_at XA.out 7
      have y8 := cells_at XA.out 8
      have y9 := cells_at XA.out 9
      have y10 := cells_at XA.out 10
      have xa := (bk.block _ (Array.getElem?_eq_some_iff.1 XA.out).1).trans XA.out
      have hb := Hb.out.trans (bk.mono Hb.out.size)
      clear XA Hb bk
      have XA := Lib.hid xa; clear xa
      have Hb := Lib.hid hb; clear hb
      go_wp2_with fail
      rw [← hw4]
      clear hw4 y0 y1 y2 y3 y4 y5 y6 y7 y8 y9 y10
      have z0 := cell_regrown (cells_at XX.out 0)
      have z1 := cell_regrown (cells_at XX.out 1)
      have z2 := cell_regrown (cells_at XX.out 2)
      have z3 := cell_regrown (cells_at XX.out 3)
      have z4 := cell_regrown (cells_at XX.out 4)
      have z5 := cell_regrown (cells_at XX.out 5)
      have z6 := cell_regrown (cells_at XX.out 6)
      have z7 := cell_regrown (cells_at XX.out 7)
      have z8 := cell_regrown (cells_at XX.out 8)
      have z9 := cell_regrown (cells_at XX.out 9)
      have z10 := cell_regrown (cells_at XX.out 10)
      have u0 := cell_regrown (cells_at XA.out 0)
      refine wp_region_quiet_below (by kernel_rfl) (by kernel_rfl) ?_
      repeat (go_big_quiet_step ((go_at_call 10; exact Calls.regrown_of (QX.out _))))
      refine wpQuiet_nil ?_
      intro wq hwq
      have bk : Below w4.heap.size w4 wq := by obtain ⟨q, rfl⟩ := hwq; exact below_regrown _ _ _
      clear hwq u0 z0 z1 z2 z3 z4 z5 z6 z7 z8 z9 z10
      have xa := (bk.block _ (Array.getElem?_eq_some_iff.1 XA.out).1).trans XA.out
      have hb := Hb.out.trans (bk.mono Hb.out.size)
      clear XA Hb bk
      have XA := Lib.hid xa; clear xa
      have Hb := Lib.hid hb; clear hb
      go_wp2
      go_ret
      exact ⟨rfl, Hb.out⟩
    have d1 : (k == 1) = false := by simpa using c1
    have d2 : (k == 2) = false := by simpa using c2
    have d7 : (k == 7) = false := by simpa using c7
    have d8 : (k == 8) = false := by simpa using c8
    go_enter Try.func5, Try.ntmps5
    go_wp2_with fail
    rw [← hw1]
    clear hw1
    refine alive_calls.mono ?_
    rintro e w2 ⟨rfl, bk⟩
    have xa := (bk.block _ (Array.getElem?_eq_some_iff.1 XA.out).1).trans XA.out
    have hb := Hb.out.trans (bk.mono Hb.out.size)
    clear XA Hb bk
    have XA := Lib.hid xa; clear xa
    have Hb := Lib.hid hb; clear hb
    have y0 := cells_at XA.out 0
    have y1 := cells_at XA.out 1
    have y2 := cells_at XA.out 2
    have y3 := cells_at XA.out 3
    have y4 := cells_at XA.out 4
    have y5 := cells_at XA.out 5
    have y6 := cells_at XA.out 6
    have y7 := cells_at XA.out 7
    have y8 := cells_at XA.out 8
    have y9 := cells_at XA.out 9
    have y10 := cells_at XA.out 10
    go_wp2_with fail
    clear y0 y1 y2 y3 y4 y5 y6 y7 y8 y9 y10
    refine (Q0.out _).mono ?_
    rintro e w3 ⟨rfl, bk⟩
    have xa := (bk.block _ (Array.getElem?_eq_some_iff.1 XA.out).1).trans XA.out
    have hb := Hb.out.trans (bk.mono Hb.out.size)
    clear XA Hb bk
    have XA := Lib.hid xa; clear xa
    have Hb := Lib.hid hb; clear hb
    have hv : rightRc ⟨k, 0, m, k0, k1, k2, k3, ot, o, nt, n⟩ = false := E4.out.trans (decide_eq_false (show ¬ (k = 7 ∨ k = 8) by omega))
    have qx := fun w : World => Right_calls (w := w) ⟨k, 0, m, k0, k1, k2, k3, ot, o, nt, n⟩
    rw [hv] at qx
    simp only [Rc.cells] at qx
    have QX := Lib.hid qx; clear qx
    obtain ⟨w4, hw4⟩ : ∃ w4, w4 = w3.alloc (.cells #[.int .i64 k, .int .i64 0, .int .u16 m, .int .u8 k0, .int .u8 k1, .int .u8 k2, .int .u8 k3, .bool ot, .int .i64 o, .bool nt, .int .i64 n] 34) := ⟨_, rfl⟩
    have bk : Below w3.heap.size w3 w4 := by rw [hw4]; exact (Below.refl _ _).alloc (Nat.le_refl _) _
    have xx : w4.heap[w3.heap.size]? = some (.cells #[.int .i64 k, .int .i64 0, .int .u16 m, .int .u8 k0, .int .u8 k1, .int .u8 k2, .int .u8 k3, .bool ot, .int .i64 o, .bool nt, .int .i64 n] 34 (0, 0)) := by rw [hw4]; exact heap_alloc_new w3 _
    have XX := Lib.hid xx; clear xx
    have y0 := cells_at XA.out 0
    have y1 := cells_at XA.out 1
    have y2 := cells_at XA.out 2
    have y3 := cells_at XA.out 3
    have y4 := cells_at XA.out 4
    have y5 := cells_at XA.out 5
    have y6 := cells_at XA.out 6
    have y7 := cells_at XA.out 7
    have y8 := cells_at XA.out 8
    have y9 := cells_at XA.out 9
    have y10 := cells_at XA.out 10
    have xa := (bk.block _ (Array.getElem?_eq_some_iff.1 XA.out).1).trans XA.out
    have hb := Hb.out.trans (bk.mono Hb.out.size)
    clear XA Hb bk
    have XA := Lib.hid xa; clear xa
    have Hb := Lib.hid hb; clear hb
    go_wp2_with fail
    rw [← hw4]
    clear hw4 y0 y1 y2 y3 y4 y5 y6 y7 y8 y9 y10
    have z0 := cell_regrown (cells_at XX.out 0)
    have z1 := cell_regrown (cells_at XX.out 1)
    have z2 := cell_regrown (cells_at XX.out 2)
    have z3 := cell_regrown (cells_at XX.out 3)
    have z4 := cell_regrown (cells_at XX.out 4)
    have z5 := cell_regrown (cells_at XX.out 5)
    have z6 := cell_regrown (cells_at XX.out 6)
    have z7 := cell_regrown (cells_at XX.out 7)
    have z8 := cell_regrown (cells_at XX.out 8)
    have z9 := cell_regrown (cells_at XX.out 9)
    have z10 := cell_regrown (cells_at XX.out 10)
    have u0 := cell_regrown (cells_at XA.out 0)
    refine wp_region_quiet_below (by kernel_rfl) (by kernel_rfl) ?_
    repeat (go_big_quiet_step ((go_at_call 10; exact Calls.regrown_of (QX.out _))))
    refine wpQuiet_nil ?_
    intro wq hwq
    have bk : Below w4.heap.size w4 wq := by obtain ⟨q, rfl⟩ := hwq; exact below_regrown _ _ _
    clear hwq u0 z0 z1 z2 z3 z4 z5 z6 z7 z8 z9 z10
    have xa := (bk.block _ (Array.getElem?_eq_some_iff.1 XA.out).1).trans XA.out
    have hb := Hb.out.trans (bk.mono Hb.out.size)
    clear XA Hb bk
    have XA := Lib.hid xa; clear xa
    have Hb := Lib.hid hb; clear hb
    go_wp2
    go_ret
    exact ⟨rfl, Hb.out⟩
end Go.Proofs.Ytiaocfeafkgbaaa
