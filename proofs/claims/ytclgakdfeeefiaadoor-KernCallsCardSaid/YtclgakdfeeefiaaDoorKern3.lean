/- Kernels: there, leads, to, Gate, Plan, owned, Label, Flow. -/
import Derived.Test.YtclgakdfeeefiaaDoorKern2
import Derived.BigRegion
namespace Go.Proofs.YtclgakdfeeefiaaDoor
open Go.RowKit

def thereB (n : Nat) (q : Int) : Bool := decide (0 ≤ q ∧ q ≤ (n : Int))
def ownedOf (n : Nat) (q : Int) : Int := if q = (n : Int) then ((allOf n : Nat) : Int) else 0
def labelOf (n : Nat) (q : Int) : Label := if thereB n q = true then labOf n q else (0, 0)
def flowOf (n : Nat) (a b : Int) : Bool := thereB n a && thereB n b && withOf (labOf n a) (labOf n b) (ownedOf n a)
theorem and_all : ∀ n, n < 7 → bits .and .u64 (allOf n : Nat) (bits .or .u64 0 (allOf n : Nat)) = ((allOf n : Nat) : Int) := by decide +kernel
theorem flow_nat : ∀ n, n < 7 → ∀ a, a < 7 → ∀ b, b < 7 → a ≤ n → b ≤ n → withOf (labOf n (a : Nat)) (labOf n (b : Nat)) (ownedOf n (a : Nat)) = decide (a = b ∨ b = n ∨ a = n) := by decide +kernel
theorem flow_law {n : Nat} (hn : n ≤ 6) (a b : Int) : flowOf n a b = (thereB n a && thereB n b && decide (a = b ∨ b = n ∨ a = n)) := by
  unfold flowOf
  cases ha : thereB n a with
  | false => rfl
  | true =>
    cases hb : thereB n b with
    | false => rfl
    | true =>
      have ha := of_decide_eq_true ha
      have hb := of_decide_eq_true hb
      obtain ⟨A, rfl⟩ : ∃ A : Nat, a = (A : Int) := ⟨a.toNat, by omega⟩
      obtain ⟨B, rfl⟩ : ∃ B : Nat, b = (B : Int) := ⟨b.toNat, by omega⟩
      rw [flow_nat n (by omega) A (by omega) B (by omega) (by omega) (by omega)]
      congr 1
      rw [decide_eq_decide]
      omega
theorem labs_at (n : Nat) {j : Nat} (hj : j < (labs n).length) : (labs n)[j] = labOf n (j : Int) := by
  simp only [labs, List.getElem_map, List.getElem_range]
theorem labs_len (n : Nat) : (labs n).length = n + 1 := by unfold labs; rw [List.length_map, List.length_range]
section
variable {w0 w w' : World} {kb gb tb tc mb n : Nat} {ws : List (End × Nat)} {FW : End → Nat → Prop} {p : Pl} {st : End → List Msg × List Msg}
theorem kthere_calls (h : KnAt w0 w kb gb tb tc mb n ws FW p st) (q : Int) : Calls Tryd.prog 41 #[.pointer (some ⟨kb, 0, none⟩), .int .i64 q] w fun e w' => e = .returned (.bool (thereB n q)) ∧ w = w' := by
  have r0 := cells_at h.root 0
  rw [h.num] at r0
  clear h
  by_cases h1 : 0 ≤ q
  · by_cases h2 : q ≤ (n : Int)
    · rw [show thereB n q = true from decide_eq_true ⟨h1, h2⟩]
      have d1 : decide (0 ≤ q) = true := decide_eq_true h1
      have d2 : decide (q ≤ (n : Int)) = true := decide_eq_true h2
      clear h1 h2
      go_enter Tryd.func41, Tryd.ntmps41
      go_wp2
      go_ret
      exact ⟨rfl, rfl⟩
    · rw [show thereB n q = false from decide_eq_false fun h => h2 h.2]
      have d1 : decide (0 ≤ q) = true := decide_eq_true h1
      have d2 : decide (q ≤ (n : Int)) = false := decide_eq_false h2
      clear h1 h2
      go_enter Tryd.func41, Tryd.ntmps41
      go_wp2
      go_ret
      exact ⟨rfl, rfl⟩
  · rw [show thereB n q = false from decide_eq_false fun h => h1 h.1]
    have d1 : decide (0 ≤ q) = false := decide_eq_false h1
    clear h1
    go_enter Tryd.func41, Tryd.ntmps41
    go_wp2
    go_ret
    exact ⟨rfl, rfl⟩
theorem leads_calls (h : KnAt w0 w kb gb tb tc mb n ws FW p st) (q : Int) : Calls Tryd.prog 45 #[.pointer (some ⟨kb, 0, none⟩), .int .i64 q] w fun e w' => e = .returned (.bool (decide (q = (n : Int)))) ∧ w = w' := by
  have r0 := cells_at h.root 0
  rw [h.num] at r0
  clear h
  by_cases h1 : q = (n : Int)
  · rw [decide_eq_true h1]
    have d1 : (q == (n : Int)) = true := by simpa using h1
    clear h1
    go_enter Tryd.func45, Tryd.ntmps45
    go_wp2
    go_ret
    exact ⟨rfl, rfl⟩
  · rw [decide_eq_false h1]
    have d1 : (q == (n : Int)) = false := by simpa using h1
    clear h1
    go_enter Tryd.func45, Tryd.ntmps45
    go_wp2
    go_ret
    exact ⟨rfl, rfl⟩
def dirOf (u : Bool) : Int := if u = true then 1 else 0
theorem to_calls {w : World} (u : Bool) : Calls Tryd.prog 47 #[.bool u] w fun e w' => e = .returned (.int .i64 (dirOf u)) ∧ w = w' := by
  cases u
  · go_enter Tryd.func47, Tryd.ntmps47
    go_wp2
    go_ret
    exact ⟨rfl, rfl⟩
  · go_enter Tryd.func47, Tryd.ntmps47
    go_wp2
    go_ret
    exact ⟨rfl, rfl⟩
theorem Gate_calls (h : KnAt w0 w kb gb tb tc mb n ws FW p st) : Calls Tryd.prog 13 #[.pointer (some ⟨kb, 0, none⟩)] w fun e w' => e = .returned (.pointer (some ⟨gb, 0, none⟩)) ∧ w = w' := by
  have r3 := cells_at h.root 3
  clear h
  go_enter Tryd.func13, Tryd.ntmps13
  go_wp2
  go_ret
  exact ⟨rfl, rfl⟩
theorem Plan_calls (h : KnAt w0 w kb gb tb tc mb n ws FW p st) : Calls Tryd.prog 34 #[.pointer (some ⟨kb, 0, none⟩)] w fun e w' => e = .returned (.agg p.cells.toArray) ∧ Below w.heap.size w w' := by
  have hb := (Below.refl w.heap.size w).alloc (Nat.le_refl _) (.cells #[.int .i64 0, .int .i64 0, .int .i64 0] 28)
  have hz := (hb.block _ h.lt.1).trans h.root
  have r0 := cells_at hz 0
  have r1 := cells_at hz 1
  have r2 := cells_at hz 2
  have b2 := (Below.refl w.heap.size w).alloc (Nat.le_refl _) (.cells #[.int .i64 p.parts, .int .i64 p.window, .int .i64 p.delay] 28)
  have B2 := Lib.hid b2; clear b2 hz hb h
  obtain ⟨a, b, c⟩ := p
  simp only [Pl.cells, Pl.parts, Pl.window, Pl.delay] at r0 r1 r2 B2 ⊢
  go_enter Tryd.func34, Tryd.ntmps34
  go_wp2
  refine bodyPost_ret (v := .agg #[.int .i64 a, .int .i64 b, .int .i64 c]) (by simp [results, Tryd.results34, go_sem]) rfl ?_
  exact ⟨rfl, B2.out⟩
theorem owned_calls (h : KnAt w0 w kb gb tb tc mb n ws FW p st) (q : Int) : Calls Tryd.prog 43 #[.pointer (some ⟨kb, 0, none⟩), .int .i64 q] w fun e w' => e = .returned (.int .u64 (ownedOf n q)) ∧ Below w.heap.size w w' := by
  have hl := leads_calls h q
  have hg : ∀ w', Below w.heap.size w w' → Calls Tryd.prog 66 #[.pointer (some ⟨gb, 0, none⟩), .int .u64 0, .int .u64 (allOf n : Nat)] w' fun e w'' => e = .returned (.int .u64 (allOf n : Nat)) ∧ Below w'.heap.size w' w'' := fun w' hb => by
    have hgi := Give_calls (a := 0) (b := ((allOf n : Nat) : Int)) (h.step hb).gate
    rw [and_all n (by have := h.six; omega)] at hgi
    exact hgi.mono fun _ _ h => ⟨h.1, by rw [h.2]; exact Below.refl _ _⟩
  have r3 := cell_regrown (cells_at h.root 3)
  have r5 := cell_regrown (cells_at h.root 5)
  have Hg := Lib.hid hg; clear hg
  by_cases h1 : q = (n : Int)
  · rw [decide_eq_true h1] at hl
    rw [show ownedOf n q = ((allOf n : Nat) : Int) from if_pos h1]
    have Hl := Lib.hid hl; clear hl h1 h
    go_enter Tryd.func43, Tryd.ntmps43
    go_wp2_with fail
    refine Hl.out.mono ?_
    rintro e w1 ⟨rfl, rfl⟩
    go_wp2_with fail
    refine wp_region_quiet_below (by kernel_rfl) (by kernel_rfl) ?_
    repeat (go_big_quiet_step ((go_at_call 66; exact Calls.regrown_of (Hg.out _ (below_regrown _ _ _)))))
    refine wpQuiet_nil ?_
    intro wq hwq
    have bk : Below w.heap.size w wq := by obtain ⟨q, rfl⟩ := hwq; exact below_regrown _ _ _
    clear hwq r3 r5
    have Bk := Lib.hid bk; clear bk
    go_wp2
    go_ret
    exact ⟨rfl, Bk.out⟩
  · rw [decide_eq_false h1] at hl
    rw [show ownedOf n q = 0 from if_neg h1]
    have Hl := Lib.hid hl; clear hl h1 h
    go_enter Tryd.func43, Tryd.ntmps43
    go_wp2_with fail
    refine Hl.out.mono ?_
    rintro e w1 ⟨rfl, rfl⟩
    go_wp2
    go_ret
    exact ⟨rfl, Below.refl _ _⟩
theorem tag_cells (h : KnAt w0 w kb gb tb tc mb n ws FW p st) {q : Nat} (hq : q ≤ n) : w.cell? ⟨tb, q * 2, none⟩ = some (.int .u64 (labOf n (q : Int)).1) ∧ w.cell? ⟨tb, q * 2 + 1, none⟩ = some (.int .u64 (labOf n (q : Int)).2) := by
  have hj : q < (labs n).length := by rw [labs_len]; omega
  have hc := h.tags.at hj
  rw [labs_at n hj] at hc
  have h0 := hc 0 _ rfl
  have h1 := hc 1 _ rfl
  simp only [labF, Nat.zero_add, Nat.add_zero] at h0 h1
  exact ⟨h0, h1⟩
set_option maxHeartbeats 1000000 in
theorem Label_calls' (h : KnAt w0 w kb gb tb tc mb n ws FW p st) (q : Int) : Calls Tryd.prog 12 #[.pointer (some ⟨kb, 0, none⟩), .int .i64 q] w fun e w' => e = .returned (.agg (labelOf n q).cells.toArray) ∧ Below w.heap.size w w' := by
  have hb := (Below.refl w.heap.size w).alloc (Nat.le_refl _) (.cells #[.int .u64 0, .int .u64 0] 32)
  have h2 := h.step hb
  have ht := kthere_calls h2 q
  by_cases h1 : thereB n q = true
  · obtain ⟨l1, l2, hlab⟩ : ∃ a b, labelOf n q = (a, b) := ⟨_, _, rfl⟩
    have hq := of_decide_eq_true h1
    obtain ⟨Q, rfl⟩ : ∃ Q : Nat, q = (Q : Int) := ⟨q.toNat, by omega⟩
    obtain ⟨t0, t1⟩ := tag_cells h2 (q := Q) (by omega)
    rw [h1] at ht
    have e1 : labelOf n (Q : Int) = labOf n (Q : Int) := if_pos h1
    rw [← e1, hlab] at t0 t1
    rw [hlab]
    simp only at t0 t1
    have r4 := cells_at h2.root 4
    have b2 := (Below.refl w.heap.size w).alloc (Nat.le_refl _) (.cells #[.int .u64 l1, .int .u64 l2] 32)
    have B2 := Lib.hid b2; clear b2 hb
    have Ht := Lib.hid ht; clear ht
    have i1 : (0 : Int) ≤ (Q : Int) := by omega
    have i2 : (Q : Int) < ((n + 1 : Nat) : Int) := by omega
    have i3 : Q < n + 1 := by omega
    clear h h2 h1 hq e1 hlab
    simp only [Label.cells]
    go_enter Tryd.func12, Tryd.ntmps12
    go_wp2_with fail
    refine Ht.out.mono ?_
    rintro e w1 ⟨rfl, rfl⟩
    go_wp2
    refine bodyPost_ret (v := .agg #[.int .u64 l1, .int .u64 l2]) (by simp [results, Tryd.results12, go_sem]) rfl ?_
    exact ⟨rfl, B2.out⟩
  · have h1 : thereB n q = false := by simpa using h1
    rw [h1] at ht
    have e1 : labelOf n q = (0, 0) := if_neg (by rw [h1]; decide)
    rw [e1]
    have Hb := Lib.hid hb; clear hb
    have Ht := Lib.hid ht; clear ht
    clear h h2 h1 e1
    simp only [Label.cells]
    go_enter Tryd.func12, Tryd.ntmps12
    go_wp2_with fail
    refine Ht.out.mono ?_
    rintro e w1 ⟨rfl, rfl⟩
    go_wp2
    refine bodyPost_ret (v := .agg #[.int .u64 0, .int .u64 0]) (by simp [results, Tryd.results12, go_sem]) rfl ?_
    exact ⟨rfl, Hb.out⟩
set_option maxHeartbeats 4000000 in
theorem Flow_calls (h : KnAt w0 w kb gb tb tc mb n ws FW p st) (a b : Int) : Calls Tryd.prog 11 #[.pointer (some ⟨kb, 0, none⟩), .int .i64 a, .int .i64 b] w fun e w' => e = .returned (.bool (flowOf n a b)) ∧ Below w.heap.size w w' := by
  have ht : ∀ q w', Below w.heap.size w w' → Calls Tryd.prog 41 #[.pointer (some ⟨kb, 0, none⟩), .int .i64 q] w' fun e w'' => e = .returned (.bool (thereB n q)) ∧ Below w'.heap.size w' w'' := fun q w' hb => (kthere_calls (h.step hb) q).mono fun _ _ h => ⟨h.1, by rw [← h.2]; exact Below.refl _ _⟩
  have hta := ht a
  have htb := ht b
  clear ht
  have ho : ∀ w', Below w.heap.size w w' → Calls Tryd.prog 43 #[.pointer (some ⟨kb, 0, none⟩), .int .i64 a] w' fun e w'' => e = .returned (.int .u64 (ownedOf n a)) ∧ Below w'.heap.size w' w'' := fun w' hb => owned_calls (h.step hb) a
  unfold flowOf
  cases ha : thereB n a with
  | false =>
    rw [ha] at hta
    have Hta := Lib.hid hta; clear hta htb ho h ha
    go_enter Tryd.func11, Tryd.ntmps11
    go_wp2_with fail
    refine wp_region_quiet_below (by kernel_rfl) (by kernel_rfl) ?_
    repeat (go_big_quiet_step ((go_at_call 41; exact Calls.regrown_of (Hta.out _ (below_regrown _ _ _)))))
    refine wpQuiet_nil ?_
    intro wq hwq
    have bk : Below w.heap.size w wq := by obtain ⟨q, rfl⟩ := hwq; exact below_regrown _ _ _
    clear hwq
    have Bk := Lib.hid bk; clear bk
    go_wp2
    go_ret
    exact ⟨rfl, Bk.out⟩
  | true =>
    rw [ha] at hta
    cases hb : thereB n b with
    | false =>
      rw [hb] at htb
      have Hta := Lib.hid hta; clear hta
      have Htb := Lib.hid htb; clear htb ho h ha hb
      go_enter Tryd.func11, Tryd.ntmps11
      go_wp2_with fail
      refine wp_region_quiet_below (by kernel_rfl) (by kernel_rfl) ?_
      repeat (go_big_quiet_step ((first | (go_at_call 41; with_reducible exact Calls.regrown_of (Hta.out _ (below_regrown _ _ _))) | (go_at_call 41; exact Calls.regrown_of (Htb.out _ (below_regrown _ _ _))))))
      refine wpQuiet_nil ?_
      intro wq hwq
      have bk : Below w.heap.size w wq := by obtain ⟨q, rfl⟩ := hwq; exact below_regrown _ _ _
      clear hwq
      have Bk := Lib.hid bk; clear bk
      go_wp2
      go_ret
      exact ⟨rfl, Bk.out⟩
    | true =>
      rw [hb] at htb
      have qa := of_decide_eq_true ha
      have qb := of_decide_eq_true hb
      obtain ⟨A, rfl⟩ : ∃ A : Nat, a = (A : Int) := ⟨a.toNat, by omega⟩
      obtain ⟨B, rfl⟩ : ∃ B : Nat, b = (B : Int) := ⟨b.toNat, by omega⟩
      obtain ⟨s0, s1⟩ := tag_cells h (q := A) (by omega)
      obtain ⟨t0, t1⟩ := tag_cells h (q := B) (by omega)
      have hw := fun w : World => With_calls (w := w) (labOf n (A : Int)) (labOf n (B : Int)) (ownedOf n (A : Int))
      obtain ⟨W, hW⟩ : ∃ W, W = withOf (labOf n (A : Int)) (labOf n (B : Int)) (ownedOf n (A : Int)) := ⟨_, rfl⟩
      rw [← hW] at hw ⊢
      clear hW
      generalize ownedOf n (A : Int) = O at *
      generalize labOf n (A : Int) = la at *
      generalize labOf n (B : Int) = lb at *
      obtain ⟨la1, la2⟩ := la
      obtain ⟨lb1, lb2⟩ := lb
      simp only [Label.cells] at hw
      simp only at s0 s1 t0 t1
      have r4 := cell_regrown (cells_at h.root 4)
      have S0 := cell_regrown s0
      have S1 := cell_regrown s1
      have T0 := cell_regrown t0
      have T1 := cell_regrown t1
      have Hta := Lib.hid hta; clear hta
      have Htb := Lib.hid htb; clear htb
      have Ho := Lib.hid ho; clear ho
      have Hw := Lib.hid hw; clear hw h ha hb s0 s1 t0 t1
      have i1 : (0 : Int) ≤ (A : Int) := by omega
      have i2 : (A : Int) < ((n + 1 : Nat) : Int) := by omega
      have i3 : A < n + 1 := by omega
      have j1 : (0 : Int) ≤ (B : Int) := by omega
      have j2 : (B : Int) < ((n + 1 : Nat) : Int) := by omega
      have j3 : B < n + 1 := by omega
      clear qa qb
      go_enter Tryd.func11, Tryd.ntmps11
      go_wp2_with fail
      refine wp_region_quiet_below (by kernel_rfl) (by kernel_rfl) ?_
      repeat (go_big_quiet_step ((first | (go_at_call 41; with_reducible exact Calls.regrown_of (Hta.out _ (below_regrown _ _ _))) | (go_at_call 41; exact Calls.regrown_of (Htb.out _ (below_regrown _ _ _))) | (go_at_call 43; exact Calls.regrown_of (Ho.out _ (below_regrown _ _ _))) | (go_at_call 42; exact Calls.regrown_of (Hw.out _)))))
      refine wpQuiet_nil ?_
      intro wq hwq
      have bk : Below w.heap.size w wq := by obtain ⟨q, rfl⟩ := hwq; exact below_regrown _ _ _
      clear hwq r4 S0 S1 T0 T1
      have Bk := Lib.hid bk; clear bk
      go_wp2
      go_ret
      exact ⟨by simp, Bk.out⟩
end
end Go.Proofs.YtclgakdfeeefiaaDoor
