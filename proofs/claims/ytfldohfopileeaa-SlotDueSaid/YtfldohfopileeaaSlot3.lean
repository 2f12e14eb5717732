/- Timers: the binary search. -/
import Derived.Test.YtfldohfopileeaaSlot2
import Derived.Lib.QuietBelow
import Derived.BigQuiet
namespace Go.Proofs.Ytfldohfopileeaa
open Go.RowKit

theorem ord_neg (a b : Tm) : ordT a b < 0 ↔ a.1 < b.1 ∨ (a.1 = b.1 ∧ a.2 < b.2) := by
  unfold ordT orI cmpI
  by_cases h1 : a.1 < b.1
  · simp [h1]
  · by_cases h2 : b.1 < a.1
    · have h3 : a.1 ≠ b.1 := by omega
      simp [h1, h2, h3]
    · have h3 : a.1 = b.1 := by omega
      by_cases h4 : a.2 < b.2
      · simp [h3, h4]
      · by_cases h5 : b.2 < a.2
        · have : ¬ (1 : Int) < 0 := by decide
          simp [h3, h4, h5]
        · simp [h3, h4, h5]
def ltT (x e : Tm) : Bool := decide (ordT e x < 0)
def posT (xs : List Tm) (x : Tm) : Nat := (xs.takeWhile (ltT x)).length
def Mono (xs : List Tm) (x : Tm) : Prop := ∀ j k, j ≤ k → k < xs.length → ltT x (xs.getD k (0, 0)) = true → ltT x (xs.getD j (0, 0)) = true
theorem pos_le (xs : List Tm) (x : Tm) : posT xs x ≤ xs.length := (List.takeWhile_sublist _).length_le
theorem pos_at {x : Tm} : ∀ (xs : List Tm) (i : Nat), i ≤ xs.length → (∀ k, k < i → ltT x (xs.getD k (0, 0)) = true) → (∀ k, i ≤ k → k < xs.length → ltT x (xs.getD k (0, 0)) = false) → posT xs x = i
  | [], i, hi, _, _ => by
    obtain rfl : i = 0 := by simpa using hi
    rfl
  | y :: ys, 0, _, _, h2 => by
    have := h2 0 (Nat.le_refl _) (by simp)
    unfold posT
    rw [List.takeWhile_cons_of_neg (by simpa using this)]
    rfl
  | y :: ys, i + 1, hi, h1, h2 => by
    have h0 := h1 0 (by omega)
    have ih := pos_at ys i (by simpa using hi) (fun k hk => h1 (k + 1) (by omega)) (fun k hk hl => h2 (k + 1) (by omega) (by simpa using hl))
    unfold posT at ih ⊢
    rw [List.takeWhile_cons_of_pos (by simpa using h0), List.length_cons, ih]
abbrev orderV : Value := .func (.func 35) #[] #[]
theorem tm_at {w : World} {b o n c : Nat} {xs : List Tm} (h : Recs tmF w (some ⟨b, o, none⟩) n c xs) {j : Nat} (hj : j < n) : w.cell? ⟨b, o + j * 2, none⟩ = some (.int .i64 (xs.getD j (0, 0)).1) ∧ w.cell? ⟨b, o + j * 2 + 1, none⟩ = some (.int .i64 (xs.getD j (0, 0)).2) := by
  have hj' : j < xs.length := by rw [h.len]; exact hj
  have e : xs.getD j (0, 0) = xs[j] := by rw [List.getD_eq_getElem?_getD, List.getElem?_eq_getElem hj']; rfl
  rw [e]
  exact ⟨h.at hj' 0 _ rfl, h.at hj' 1 _ rfl⟩

set_option maxHeartbeats 4000000 in
theorem Search_calls {w : World} {a : Option Addr} {n c : Nat} {xs : List Tm} {x : Tm} (h : Recs tmF w a n c xs) (hn : n ≤ 900000) (hmo : Mono xs x) :
    Calls Try.prog 34 #[.slice a n c, .agg #[.int .i64 x.1, .int .i64 x.2], orderV] w fun e w' => ∃ b, e = .returned (.tuple #[.int .i64 (posT xs x : Nat), .bool b]) ∧ Below w.heap.size w w' := by
  have hl := h.len
  have hpos : ∀ i, i ≤ n → (∀ k, k < i → ltT x (xs.getD k (0, 0)) = true) → (∀ k, i ≤ k → k < n → ltT x (xs.getD k (0, 0)) = false) → posT xs x = i := fun i h1 h2 h3 => pos_at xs i (by rw [hl]; exact h1) h2 (fun k hk hl' => h3 k hk (by rw [← hl]; exact hl'))
  obtain ⟨I, hI⟩ : ∃ I, I = posT xs x := ⟨_, rfl⟩
  rw [← hI] at hpos ⊢
  clear hI
  have hmo' : ∀ j k, j ≤ k → k < n → ltT x (xs.getD k (0, 0)) = true → ltT x (xs.getD j (0, 0)) = true := fun j k h1 h2 => hmo j k h1 (by rw [hl]; exact h2)
  clear hmo
  have Hmo := Lib.hid hmo'; clear hmo'
  have Hpos := Lib.hid hpos; clear hpos
  obtain ⟨w1, hw1⟩ : ∃ w1, w1 = w.alloc (.cells #[.int .i64 x.1, .int .i64 x.2] tE) := ⟨_, rfl⟩
  have hx1 : w1.heap[w.heap.size]? = some (.cells #[.int .i64 x.1, .int .i64 x.2] tE (0, 0)) := by rw [hw1]; exact heap_alloc_new w _
  have hb1 : Below w.heap.size w w1 := by rw [hw1]; exact (Below.refl _ _).alloc (Nat.le_refl _) _
  have hr1 := h.keep hb1
  have X1 := Lib.hid hx1; clear hx1
  have Hb := Lib.hid hb1; clear hb1
  have Hr := Lib.hid hr1; clear hr1 h hl
  go_enter Try.func34, Try.ntmps34
  go_wp2_with fail
  rw [← hw1]
  clear hw1
  go_wp2_with fail
  go_loopw [9, 10] (fun u v wr => ∃ i j : Nat, i ≤ j ∧ j ≤ n ∧ u = .int .i64 i ∧ v = .int .i64 j ∧ Below w1.heap.size w1 wr ∧ (∀ k, k < i → ltT x (xs.getD k (0, 0)) = true) ∧ (∀ k, j ≤ k → k < n → ltT x (xs.getD k (0, 0)) = false)) (fun u v _ => (intOf v).toNat - (intOf u).toNat)
  case atStart => exact ⟨0, n, by omega, by omega, rfl, rfl, Below.refl _ _, fun k hk => by omega, fun k h1 h2 => by omega⟩
  case round =>
    obtain ⟨i, j, hij, hjn, rfl, rfl, bz, lo, hi⟩ := hrel
    have Hz := Lib.hid bz; clear bz
    have Lo := Lib.hid lo; clear lo
    have Hi := Lib.hid hi; clear hi
    by_cases hlt : i < j
    · have i1 : decide ((i : Int) < (j : Int)) = true := decide_eq_true (by omega)
      go_wp2_with fail
      obtain ⟨H, hH⟩ : ∃ H, H = (i + j) / 2 := ⟨_, rfl⟩
      have hH2 : ((i : Int) + (j : Int)) / 2 = (H : Int) := by omega
      have h1 : i ≤ H := by omega
      have h2 : H < j := by omega
      rw [hH2]
      clear hH hH2
      have i2 : (0 : Int) ≤ (H : Int) := by omega
      have i3 : (H : Int) < (n : Int) := by omega
      have hrn := Hr.out.keep Hz.out
      obtain ⟨gx, ox, rfl⟩ := hrn.addr (by omega)
      obtain ⟨c0, c1⟩ := tm_at hrn (j := H) (by omega)
      have hxx := (Hz.out.block _ (Array.getElem?_eq_some_iff.1 X1.out).1).trans X1.out
      have z0 := cell_regrown c0
      have z1 := cell_regrown c1
      have z2 := cell_regrown (cells_at hxx 0)
      have z3 := cell_regrown (cells_at hxx 1)
      have ho := fun w : World => order_calls (w := w) (xs.getD H (0, 0)) x
      obtain ⟨T, hT⟩ : ∃ T, T = ltT x (xs.getD H (0, 0)) := ⟨_, rfl⟩
      have hT2 : decide (ordT (xs.getD H (0, 0)) x < 0) = T := hT.symm
      generalize ordT (xs.getD H (0, 0)) x = R at ho hT2
      have Ho := Lib.hid ho; clear ho hrn c0 c1 hxx
      have HT := Lib.hid hT; clear hT
      refine wp_region_quiet_below (by kernel_rfl) (by kernel_rfl) ?_
      repeat (any_goals (first | go_big_quiet_step ((go_at_call 35; exact Calls.regrown_of (Ho.out _))) | quiet_step ((go_at_call 35; exact Calls.regrown_of (Ho.out _)))))
      refine wpQuiet_nil ?_
      intro wq hwq
      have bk : Below wr.heap.size wr wq := by obtain ⟨q, rfl⟩ := hwq; exact below_regrown _ _ _
      have bn := Hz.out.trans (bk.mono Hz.out.size)
      clear hwq bk z0 z1 z2 z3 Hz
      have Hz := Lib.hid bn; clear bn
      cases T with
      | true =>
        go_wp2_with fail
        go_roundw
        case rel => exact ⟨H + 1, j, by omega, hjn, by go_num, rfl, Hz.out, fun k hk => Hmo.out k H (by omega) (by omega) HT.out.symm, Hi.out⟩
        case measure => simp [intOf]; omega
      | false =>
        go_wp2_with fail
        go_roundw
        case rel => exact ⟨i, H, by omega, by omega, rfl, rfl, Hz.out, Lo.out, fun k h3 h4 => by
          cases e : ltT x (xs.getD k (0, 0)) with
          | false => rfl
          | true => have := Hmo.out H k h3 h4 e; rw [← HT.out] at this; cases this⟩
        case measure => simp [intOf]; omega
    · obtain rfl : i = j := by omega
      have e := Hpos.out i hjn Lo.out Hi.out
      subst e
      have i1 : decide ((I : Int) < (I : Int)) = false := decide_eq_false (by omega)
      clear Hpos Lo Hi
      have hbb := Hb.out.trans (Hz.out.mono Hb.out.size)
      by_cases hIn : I < n
      · have i2 : (0 : Int) ≤ (I : Int) := by omega
        have i3 : (I : Int) < (n : Int) := by omega
        have i4 : decide ((I : Int) < (n : Int)) = true := decide_eq_true i3
        have hrn := Hr.out.keep Hz.out
        obtain ⟨gx, ox, rfl⟩ := hrn.addr (by omega)
        obtain ⟨c0, c1⟩ := tm_at hrn (j := I) hIn
        have hxx := (Hz.out.block _ (Array.getElem?_eq_some_iff.1 X1.out).1).trans X1.out
        have z0 := cell_regrown c0
        have z1 := cell_regrown c1
        have z2 := cell_regrown (cells_at hxx 0)
        have z3 := cell_regrown (cells_at hxx 1)
        have ho := fun w : World => order_calls (w := w) (xs.getD I (0, 0)) x
        generalize ordT (xs.getD I (0, 0)) x = R at ho
        have Ho := Lib.hid ho; clear ho hrn c0 c1 hxx
        have Hbb := Lib.hid hbb; clear hbb
        go_wp2_with fail
        refine wp_region_quiet_below (by kernel_rfl) (by kernel_rfl) ?_
        repeat (any_goals (first | go_big_quiet_step ((go_at_call 35; exact Calls.regrown_of (Ho.out _))) | quiet_step ((go_at_call 35; exact Calls.regrown_of (Ho.out _)))))
        refine wpQuiet_nil ?_
        intro wq hwq
        have bk : Below wr.heap.size wr wq := by obtain ⟨q, rfl⟩ := hwq; exact below_regrown _ _ _
        have bn := Hbb.out.trans (bk.mono Hbb.out.size)
        clear hwq bk z0 z1 z2 z3 Hz Hbb
        have Hz := Lib.hid bn; clear bn
        go_wp2
        go_ret2
        exact ⟨_, rfl, Hz.out⟩
      · have i4 : decide ((I : Int) < (n : Int)) = false := decide_eq_false (by omega)
        have Hbb := Lib.hid hbb; clear hbb
        go_wp2_with fail
        refine wp_region_quiet_below (by kernel_rfl) (by kernel_rfl) ?_
        repeat (any_goals (first | go_big_quiet_step (fail) | quiet_step (fail)))
        refine wpQuiet_nil ?_
        intro wq hwq
        have bk : Below wr.heap.size wr wq := by obtain ⟨q, rfl⟩ := hwq; exact below_regrown _ _ _
        have bn := Hbb.out.trans (bk.mono Hbb.out.size)
        clear hwq bk Hz Hbb
        have Hz := Lib.hid bn; clear bn
        go_wp2
        go_ret2
        exact ⟨_, rfl, Hz.out⟩
end Go.Proofs.Ytfldohfopileeaa
