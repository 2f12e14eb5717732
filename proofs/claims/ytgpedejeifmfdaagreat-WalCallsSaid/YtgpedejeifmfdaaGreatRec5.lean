/- rec's taker: take, val. -/
import Derived.Test.YtgpedejeifmfdaaGreatRec1
import Derived.Test.YtgpedejeifmfdaaGreatPk4
import Derived.Test.YtgpedejeifmfdaaGreatPkZ
namespace Go.Proofs.YtgpedejeifmfdaaGreat
open Go.RowKit

/-- What is left to be taken, and whether there were too few. -/
structure Tk where
  rest : List Int
  lost : Bool
def takeT (s : Tk) (n : Nat) : Tk × Nat := if s.rest.length < n then (⟨s.rest, true⟩, 0) else (⟨s.rest.drop n, s.lost⟩, fromZ (s.rest.take n))
theorem ints_keepPos {w w' : World} {k : IntKind} {a : Option Addr} {n c : Nat} {zs : List Int} (h : Ints w k a n c zs) (hk : ∀ b o, 0 < n → a = some ⟨b, o, none⟩ → b < w.heap.size → w'.heap[b]? = w.heap[b]?) : Ints w' k a n c zs := by
  by_cases hn : 0 < n
  · exact h.keepOn fun b o => hk b o hn
  · exact ⟨h.len, h.le, h.max, h.fit, fun h => absurd h hn⟩
/-- A taker in memory, at block b; its bytes are elsewhere. -/
structure TkAt (w : World) (B b : Nat) (s : Tk) : Prop where
  ex : ∃ a c, w.heap[b]? = some (.cells #[.slice a s.rest.length c, .bool s.lost] 115 (0, 0)) ∧ Ints w .u8 a s.rest.length c s.rest ∧ ∀ g o, 0 < s.rest.length → a = some ⟨g, o, none⟩ → g < B
  le : B ≤ b
section
variable {w w' : World} {B b : Nat} {s : Tk}
theorem TkAt.lt (h : TkAt w B b s) : b < w.heap.size := by
  obtain ⟨a, c, h, -⟩ := h.ex
  exact (Array.getElem?_eq_some_iff.1 h).1
theorem TkAt.below (h : TkAt w B b s) (hb : Below w.heap.size w w') : TkAt w' B b s := by
  have hl := h.lt
  obtain ⟨a, c, h1, h2, h3⟩ := h.ex
  exact ⟨⟨a, c, (hb.block b hl).trans h1, h2.keep hb, h3⟩, h.le⟩
theorem TkAt.other (h : TkAt w B b s) {g j : Nat} {v : Value} (hB : B ≤ g) (hg : g ≠ b) : TkAt (w.setCell ⟨g, j, none⟩ v) B b s := by
  obtain ⟨a, c, h1, h2, h3⟩ := h.ex
  refine ⟨⟨a, c, (heap_setCell_other w _ b _ (Ne.symm hg)).trans h1, ints_keepPos h2 fun g' o' hp e _ => heap_setCell_other w _ g' _ fun e' => ?_, h3⟩, h.le⟩
  have h4 := h3 g' o' hp e
  have h5 : g' = g := e'
  omega
end
theorem mod_new {F : Nat → Prop} {w w' : World} (h : Mod F w w') {g j : Nat} {v : Value} (hg : w.heap.size ≤ g) : Mod F w (w'.setCell ⟨g, j, none⟩ v) :=
  ⟨h.os, h.tape, h.output, by simpa using h.size, fun k hk hF => (heap_setCell_other w' _ k _ (fun e => by have : k = g := e; omega)).trans (h.block k hk hF)⟩
theorem mod_setCell (w : World) (b j : Nat) (v : Value) (F : Nat → Prop) (h : F b) : Mod F w (w.setCell ⟨b, j, none⟩ v) :=
  ⟨rfl, rfl, rfl, by simp, fun x _ hn => heap_setCell_other w _ x _ (fun e => hn (by rw [show x = b from e]; exact h))⟩
theorem ints_setCell {w : World} {a : Option Addr} {n c b j : Nat} {v : Value} {zs : List Int} (h : Ints w .u8 a n c zs) (hne : ∀ g o, 0 < n → a = some ⟨g, o, none⟩ → g ≠ b) : Ints (w.setCell ⟨b, j, none⟩ v) .u8 a n c zs :=
  ints_keepPos h fun g o hp e _ => heap_setCell_other w _ g _ (hne g o hp e)
set_option maxHeartbeats 2000000 in
theorem take_calls {w : World} {B b : Nat} {s : Tk} (h : TkAt w B b s) {n : Nat} (h1 : 1 ≤ n) (hn : n ≤ 8) : Calls Tryz.prog 91 #[.pointer (some ⟨b, 0, none⟩), .int .i64 (n : Int)] w fun e w' =>
    e = .returned (.int .u64 ((takeT s n).2 : Nat)) ∧ TkAt w' B b (takeT s n).1 ∧ Mod (fun k => k = b) w w' := by
  obtain ⟨a, c, hc, hi, hlo⟩ := h.ex
  have hlt := h.lt
  have hBb := h.le
  have hne : ∀ g o, 0 < s.rest.length → a = some ⟨g, o, none⟩ → g ≠ b := fun g o hp e => by have := hlo g o hp e; omega
  obtain ⟨rest, lost⟩ := s
  simp only at hc hi hne hlo
  have hle := hi.le
  have hmx := hi.max
  have y0 := cells_at hc 0
  have y1 := cells_at hc 1
  clear h
  by_cases hl : rest.length < n
  · have e1 : takeT ⟨rest, lost⟩ n = (⟨rest, true⟩, 0) := if_pos hl
    rw [e1]
    have d1 : decide ((rest.length : Int) < (n : Int)) = true := decide_eq_true (by omega)
    have d2 : (rest.length : Int) < (n : Int) := by omega
    have f1 := frozen_of_row w b 1 _ _ hc
    have hfin : TkAt (w.setCell ⟨b, 1, none⟩ (.bool true)) B b ⟨rest, true⟩ ∧ Mod (fun k => k = b) w (w.setCell ⟨b, 1, none⟩ (.bool true)) :=
      ⟨⟨⟨a, c, heap_setCell_same w b 1 _ _ _ hc, ints_setCell hi hne, hlo⟩, hBb⟩, mod_setCell w b 1 _ _ rfl⟩
    have Hfin := Lib.hid hfin; clear hfin
    clear hc hi hne hl e1 hlo
    generalize rest.length = L at *
    go_enter Tryz.func91, Tryz.ntmps91
    go_wp2
    go_ret
    exact ⟨rfl, Hfin.out.1, Hfin.out.2⟩
  · have e1 : takeT ⟨rest, lost⟩ n = (⟨rest.drop n, lost⟩, fromZ (rest.take n)) := if_neg hl
    rw [e1]
    have hL : n ≤ rest.length := by omega
    obtain ⟨g, o, rfl, -⟩ := hi.cell (by omega)
    have hf := From_calls (hi.take n hL) hn
    have hd := hi.drop n hL
    have hadd : (⟨g, o, none⟩ : Addr).add n = ⟨g, o + n, none⟩ := by simp [Addr.add]; omega
    rw [Option.map_some, hadd] at hd
    clear hadd
    obtain ⟨L, hLe⟩ : ∃ L, L = rest.length := ⟨_, rfl⟩
    have d1 : decide ((L : Int) < (n : Int)) = false := decide_eq_false (by omega)
    have d2 : (n : Int) ≤ (L : Int) := by omega
    have f1 := fun w' (hb : Below w.heap.size w w') => frozen_of_row w' b 0 _ _ ((hb.block b hlt).trans hc)
    obtain ⟨A, hA, hAne⟩ : ∃ A, A = (if c = n then some (⟨g, o, none⟩ : Addr) else some ⟨g, o + n, none⟩) ∧ ∀ g' o', A = some ⟨g', o', none⟩ → g' < B := by
      refine ⟨_, rfl, fun g' o' e => ?_⟩
      split at e
      · cases e; exact hlo g o (by omega) rfl
      · cases e; exact hlo g o (by omega) rfl
    rw [← hA] at hd
    have hfin : ∀ w', Below w.heap.size w w' → TkAt (w'.setCell ⟨b, 0, none⟩ (.slice A (rest.length - n) (c - n))) B b ⟨rest.drop n, lost⟩ ∧ Mod (fun k => k = b) w (w'.setCell ⟨b, 0, none⟩ (.slice A (rest.length - n) (c - n))) := fun w' hb =>
      ⟨⟨⟨A, c - n, by rw [heap_setCell_same w' b 0 _ _ _ ((hb.block b hlt).trans hc), List.length_drop]; rfl,
        by show Ints _ .u8 _ (rest.drop n).length _ _; rw [List.length_drop]; exact ints_setCell (hd.keep hb) fun g o _ e => by have := hAne g o e; omega, fun g o _ e => hAne g o e⟩, hBb⟩,
       ((Mod.of_below (F := fun k => k = b) hb).trans (mod_setCell w' b 0 _ (fun k => k = b) rfl) (fun _ h => h) fun _ _ h => h)⟩
    have hcb := fun w' (hb : Below w.heap.size w w') => cells_at ((hb.block b hlt).trans hc) 0
    rw [← hLe] at hfin hcb y0 hle
    have Hfin := Lib.hid hfin; clear hfin
    have Hf := Lib.hid hf; clear hf
    have Hf1 := Lib.hid f1; clear f1
    have Hcb := Lib.hid hcb; clear hcb
    clear hc hi hne hl e1 hd hAne hLe hL hlo
    by_cases hcn : c = n
    · rw [if_pos hcn] at hA
      subst hA
      subst hcn
      obtain rfl : L = c := by omega
      go_enter Tryz.func91, Tryz.ntmps91
      go_wp2_with fail
      refine Hf.out.mono ?_
      rintro e w1 ⟨rfl, bk⟩
      have y0 := Hcb.out w1 bk
      have f0 := Hf1.out w1 bk
      have HF := Lib.hid (Hfin.out w1 bk)
      go_wp2
      go_ret
      have hf := HF.out
      simp only [Nat.sub_self] at hf
      exact ⟨rfl, hf.1, hf.2⟩
    · rw [if_neg hcn] at hA
      subst hA
      have hcn' : n < c := by omega
      go_enter Tryz.func91, Tryz.ntmps91
      go_wp2_with fail
      refine Hf.out.mono ?_
      rintro e w1 ⟨rfl, bk⟩
      have y0 := Hcb.out w1 bk
      have f0 := Hf1.out w1 bk
      have HF := Lib.hid (Hfin.out w1 bk)
      go_wp2
      go_ret
      have hf := HF.out
      exact ⟨rfl, hf.1, hf.2⟩
def valT (s : Tk) (there size : Nat) : Tk × Bool × Int := if there = 0 then (s, false, 0) else ((takeT s (size + 1)).1, true, zagS ((takeT s (size + 1)).2 : Nat))
theorem TkAt.fit {w : World} {B b : Nat} {s : Tk} (h : TkAt w B b s) : ∀ z ∈ s.rest, 0 ≤ z ∧ z ≤ 255 := by
  obtain ⟨a, c, -, hi, -⟩ := h.ex
  exact fun z hz => wf_u8 (hi.fit z hz)
theorem take_lt {s : Tk} (h : ∀ z ∈ s.rest, 0 ≤ z ∧ z ≤ 255) {n : Nat} : (takeT s n).2 < 256 ^ n := by
  unfold takeT
  split
  · exact Nat.pow_pos (by decide)
  · refine Nat.lt_of_lt_of_le (fromZ_lt _ fun z hz => h z (List.mem_of_mem_take hz)) (Nat.pow_le_pow_right (by decide) ?_)
    rw [List.length_take]
    omega
theorem take_lt64 {s : Tk} (h : ∀ z ∈ s.rest, 0 ≤ z ∧ z ≤ 255) {n : Nat} (hn : n ≤ 8) : (takeT s n).2 < 18446744073709551616 := Nat.lt_of_lt_of_le (take_lt h) (Nat.le_trans (Nat.pow_le_pow_right (by decide) hn) (by decide))
set_option maxHeartbeats 2000000 in
theorem val_calls {w : World} {B b : Nat} {s : Tk} (h : TkAt w B b s) {there size : Nat} (hs : size ≤ 7) : Calls Tryz.prog 92 #[.pointer (some ⟨b, 0, none⟩), .int .i64 (there : Int), .int .i64 (size : Int)] w fun e w' =>
    e = .returned (.agg #[.bool (valT s there size).2.1, .int .i64 (valT s there size).2.2]) ∧ TkAt w' B b (valT s there size).1 ∧ Mod (fun k => k = b) w w' := by
  have hlt := h.lt
  have hBb := h.le
  by_cases h0 : there = 0
  · subst h0
    have e1 : valT s 0 size = (s, false, 0) := if_pos rfl
    rw [e1]
    have hb := (Below.refl w.heap.size w).alloc (Nat.le_refl _) (.cells #[.bool false, .int .i64 0] 61)
    have ht := h.below hb
    have Ht := Lib.hid ht; clear ht h
    have Hm := Lib.hid (Mod.of_below (F := fun k => k = b) hb); clear hb
    go_enter Tryz.func92, Tryz.ntmps92
    go_wp2
    refine bodyPost_ret (v := .agg #[.bool false, .int .i64 0]) (by simp [results, Tryz.results92, go_sem]) rfl ?_
    exact ⟨rfl, Ht.out, Hm.out⟩
  · have e1 : valT s there size = ((takeT s (size + 1)).1, true, zagS ((takeT s (size + 1)).2 : Nat)) := if_neg h0
    rw [e1]
    have hd : ((there : Int) == 0) = false := by simpa using h0
    have hb := (Below.refl w.heap.size w).alloc (Nat.le_refl _) (.cells #[.bool false, .int .i64 0] 61)
    have z := heap_alloc_new w (.cells #[.bool false, .int .i64 0] 61)
    obtain ⟨w1, hw1⟩ : ∃ w1, w1 = w.alloc (.cells #[.bool false, .int .i64 0] 61) := ⟨_, rfl⟩
    rw [← hw1] at hb z
    have hta := take_calls (h.below hb) (n := size + 1) (by omega) (by omega)
    have hu := take_lt64 h.fit (n := size + 1) (by omega)
    have hza := fun w : World => Zag_calls (w := w) hu
    obtain ⟨T, hT⟩ : ∃ T, T = takeT s (size + 1) := ⟨_, rfl⟩
    rw [← hT] at hta hza ⊢
    obtain ⟨s', u⟩ := T
    simp only at hta hza ⊢
    have Hta := Lib.hid hta; clear hta
    have Hza := Lib.hid hza; clear hza
    have Hb := Lib.hid hb; clear hb
    clear hT e1 h0 hu h
    have hs8 : (size : Int) + 1 ≤ 8 := by omega
    have hne : w.heap.size ≠ b := by omega
    go_enter Tryz.func92, Tryz.ntmps92
    go_wp2_with fail
    rw [← hw1]
    clear hw1
    refine Hta.out.mono ?_
    rintro e w2 ⟨rfl, ht2, hm2⟩
    have z2 := (hm2.block _ (Array.getElem?_eq_some_iff.1 z).1 hne).trans z
    clear z
    go_wp2_with fail
    refine (Hza.out _).mono ?_
    rintro e w3 ⟨rfl, rfl⟩
    have y0 := cells_at z2 0
    have y1 := cells_at z2 1
    have f0 := frozen_of_row w3 w.heap.size 0 _ _ z2
    have f1 := frozen_of_row w3 w.heap.size 1 _ _ z2
    have hBs : B ≤ w.heap.size := by omega
    have ht4 := (ht2.other (j := 0) (v := .bool true) hBs hne).other (j := 1) (v := .int .i64 (zagS (u : Nat))) hBs hne
    have hm4 := mod_new (mod_new ((Mod.of_below (F := fun k => k = b) Hb.out).trans hm2 (fun _ h => h) fun _ _ h => h) (j := 0) (v := .bool true) (Nat.le_refl _)) (j := 1) (v := .int .i64 (zagS (u : Nat))) (Nat.le_refl _)
    have Ht4 := Lib.hid ht4; clear ht4
    have z4 := heap_setCell_same _ w.heap.size 1 _ _ (.int .i64 (zagS (u : Nat))) (heap_setCell_same w3 w.heap.size 0 _ _ (.bool true) z2)
    have q0 := cells_at z4 0
    have q1 := cells_at z4 1
    have Hm4 := Lib.hid hm4; clear hm4 hm2 ht2 z2 z4
    have Q0 := Lib.hid q0; clear q0
    have Q1 := Lib.hid q1; clear q1
    go_wp2
    refine bodyPost_ret (v := .agg #[.bool true, .int .i64 (zagS (u : Nat))]) ?_ rfl ?_
    · have q0 := Q0.out
      have q1 := Q1.out
      simp at q0 q1
      simp [results, Tryz.results92, go_sem, q0, q1]
    · exact ⟨rfl, Ht4.out, Hm4.out⟩
end Go.Proofs.YtgpedejeifmfdaaGreat
