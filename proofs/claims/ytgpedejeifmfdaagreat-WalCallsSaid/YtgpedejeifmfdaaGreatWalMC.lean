/- Merged by merge.py out of: Wal8, Zeros, Noughts, Wal9. -/
import Derived.Test.YtgpedejeifmfdaaGreatWalMB
import Derived.Test.YtgpedejeifmfdaaGreatCells
/- The log in memory: Open. -/
namespace Go.Proofs.YtgpedejeifmfdaaGreat
open Go.RowKit Go.Sort

theorem allR_len : ∀ (n : Nat) (b : List Int), b.length ≤ n → (allR b).1.length ≤ (allR b).2
  | 0, b, h => by
    obtain rfl : b = [] := List.eq_nil_of_length_eq_zero (by omega)
    rw [allR_nil]; exact Nat.le_refl _
  | n + 1, b, h => by
    by_cases hd : (dec b).2 = 0
    · rw [all_none hd]; exact Nat.le_refl _
    · have hl := dec_le b
      have ih := allR_len n (b.drop (dec b).2) (by rw [List.length_drop]; omega)
      rw [all_more hd]
      simp only [List.length_cons]
      omega
theorem rows_flat : ∀ {T : List Sc} (cur : List Int), (∀ S ∈ T, S.data.length ≤ 16) → (rowsF cur T).flatten.length ≤ cur.length + 16 * T.length ∧ (rowsF cur T).length ≤ T.length + 1
  | [], cur, _ => by simp [rowsF]
  | S :: T, cur, h => by
    have hS := h S (.head _)
    rw [rowsF_cons, List.length_cons]
    split
    · obtain ⟨h1, h2⟩ := rows_flat (T := T) S.data fun R hR => h R (.tail _ hR)
      rw [List.flatten_cons, List.length_append, List.length_cons]
      omega
    · obtain ⟨h1, h2⟩ := rows_flat (T := T) (cur ++ S.data) fun R hR => h R (.tail _ hR)
      rw [List.length_append] at h1
      omega
theorem secsS_data {w0 w : World} {b : Nat} {F : Nat → Prop} {s : State} (h : Dev w0 w b F s) : ∀ (k n : Nat) {T : List Sc}, secsS s n k = some T → ∀ S ∈ T, S.data.length ≤ 16
  | 0, n, T, hs, S, hS => by cases hs; cases hS
  | k + 1, n, T, hs, S, hS => by
    rw [secsS] at hs
    split at hs
    · cases h2 : secsS s (n + 1) k with
      | none => rw [h2] at hs; cases hs
      | some U =>
        rw [h2] at hs; cases hs
        rcases List.mem_cons.1 hS with rfl | hS
        · exact (readS_bound h (Nat.mod_lt _ h.len.1)).2.2
        · exact secsS_data h k (n + 1) h2 S hS
    · cases hs
theorem tellRows_none {r : List Int} (hr : tellRow r = none) : ∀ {R : List (List Int)}, r ∈ R → tellRows R = none
  | [], h => by cases h
  | a :: R, h => by
    unfold tellRows
    rcases List.mem_cons.1 h with rfl | h
    · rw [hr]
    · rw [tellRows_none hr h]
      cases tellRow a <;> rfl
theorem tellRows_one {r : List Int} {a : List Rc} (h : tellRow r = some a) : tellRows [r] = some a := by
  unfold tellRows
  rw [h]
  simp [tellRows]
theorem rows_flat_take (R : List (List Int)) {j : Nat} (hj : j < R.length) : (R.take j).flatten.length + R[j].length ≤ R.flatten.length ∧ (R.take (j + 1)).flatten.length = (R.take j).flatten.length + R[j].length := by
  have e1 : (R.take (j + 1)).flatten.length = (R.take j).flatten.length + R[j].length := by
    rw [List.take_succ_eq_append_getElem hj, List.flatten_append, List.length_append]
    simp
  refine ⟨?_, e1⟩
  rw [← e1]
  conv => rhs; rw [← List.take_append_drop (j + 1) R, List.flatten_append, List.length_append]
  omega

section
variable {w0 w : World} {b : Nat} {F : Nat → Prop} {s : State}
theorem sizeInt : (Tryz.prog.info? 3).map (·.size) = some 1 := by kernel_rfl
/-- What Open answers. -/
def Opened (w : World) (b : Nat) (o : Option ((Nat × Nat × Nat) × List Rc)) (e : Ending) (w' : World) : Prop :=
  ∃ p v k, e = .returned (.tuple #[p, v, .int .i64 k]) ∧ Below w.heap.size w w' ∧ ((o = none ∧ p = .pointer none ∧ v = .slice none 0 0 ∧ k = 21) ∨
    ∃ l rs, o = some (l, rs) ∧ p = .pointer (some ⟨w.heap.size, 0, none⟩) ∧ k = 0 ∧ LogAt w' w.heap.size b ⟨l.1, l.2.1, l.2.2⟩ ∧ RcOwn w' (w.heap.size + 1) v rs)
set_option maxHeartbeats 8000000 in
set_option maxRecDepth 100000 in
theorem Open_calls_log (h : Dev w0 w b F s) :
    Calls Tryz.prog 8 #[.pointer (some ⟨b, 0, none⟩)] w (Opened w b (openS s)) := by
  obtain ⟨hp, hp2⟩ := h.len
  obtain ⟨N, hN⟩ : ∃ N, N = s.1.length := ⟨_, rfl⟩
  rw [← hN] at hp hp2
  obtain ⟨OS, hOS⟩ : ∃ O, O = openS s := ⟨_, rfl⟩
  rw [← hOS]
  have hlb := lastF_bound h s.1.length (Nat.le_refl _)
  obtain ⟨w1, hw1⟩ : ∃ w1, w1 = w.alloc (.cells #[.pointer (some ⟨b, 0, none⟩), .int .i64 1, .int .i64 1, .int .i64 1] 70) := ⟨_, rfl⟩
  have x1 : LogAt w1 w.heap.size b ⟨1, 1, 1⟩ := by rw [hw1]; exact heap_alloc_new w _
  have b1 : Below w.heap.size w w1 := by rw [hw1]; exact (Below.refl _ _).alloc (Nat.le_refl _) _
  have sz1 : w1.heap.size = w.heap.size + 1 := by rw [hw1, World.size_alloc]
  have h1 := h.step b1
  have hla := last_calls h1 x1
  obtain ⟨LS, hLS⟩ : ∃ L, L = lastS s := ⟨_, rfl⟩
  have hop : openS s = if LS.num = 0 then some ((1, 1, 1), []) else
      if 1 ≤ LS.first ∧ LS.first ≤ LS.num ∧ LS.num - LS.first < N then
        match secsS s LS.first (LS.num - LS.first + 1) with
        | none => none
        | some T => match tellZ T with
          | none => none
          | some rs => some ((LS.num + 1, LS.first, LS.first), rs)
      else none := by rw [hLS, hN]; rfl
  rw [← hOS] at hop
  have hlb1 : LS.num < 4294967296 ∧ LS.first < 4294967296 := by rw [hLS]; exact ⟨hlb.1, hlb.2.1⟩
  obtain ⟨hlb1, hlb2⟩ := hlb1
  rw [← hLS] at hla
  clear hlb hLS hOS
  obtain ⟨num, first, beg, data⟩ := LS
  simp only [scV] at hla hop hlb1 hlb2
  have H1 := Lib.hid h1; clear h1
  have HN := Lib.hid hN; clear hN
  have X1 := Lib.hid x1; clear x1
  have B1 := Lib.hid b1; clear b1
  have Hla := Lib.hid hla; clear hla
  have Hop := Lib.hid hop; clear hop
  have Sz1 := Lib.hid sz1; clear sz1 h
  obtain ⟨G, hG⟩ : ∃ G, G = decide (0 < num) := ⟨_, rfl⟩
  rw [← hG] at Hla
  by_cases h0 : num = 0
  · subst h0
    have hGe : G = false := by rw [hG]; exact decide_eq_false (by omega)
    have hop := Hop.out
    rw [if_pos rfl] at hop
    subst hGe
    clear hG Hop
    have Hop := Lib.hid hop; clear hop
    go_enter Tryz.func8, Tryz.ntmps8
    go_wp2_with fail
    rw [← hw1]
    clear hw1
    refine Hla.out.mono ?_
    rintro e w2 ⟨a2, c2, rfl, -, hb2⟩
    have b3 := hb2.trans ((Below.alloc (Below.refl w2.heap.size w2) (Nat.le_refl _) (.cells #[.int .i64 ((0 : Nat) : Int), .int .i64 (first : Nat), .bool beg, .slice a2 data.length c2] 72)).mono hb2.size)
    have x3 := X1.out.step b3
    have bb := B1.out.trans (b3.mono B1.out.size)
    clear b3 hb2
    have X3 := Lib.hid x3; clear x3
    have BB := Lib.hid bb; clear bb
    go_wp2
    go_ret3
    exact ⟨_, _, _, rfl, BB.out, .inr ⟨(1, 1, 1), [], Hop.out, rfl, rfl, X3.out, ROwn.nil _ _⟩⟩
  have hGe : G = true := by rw [hG]; exact decide_eq_true (by omega)
  have hop := Hop.out
  rw [if_neg h0] at hop
  subst hGe
  clear hG Hop
  obtain ⟨RL, hRL⟩ : ∃ x : Unit, x = () := ⟨_, rfl⟩
  clear RL hRL
  by_cases hf1 : first < 1
  · have d1 : decide ((first : Int) < 1) = true := decide_eq_true (by omega)
    have d1' : decide (first < 1) = true := decide_eq_true hf1
    rw [if_neg (by omega)] at hop
    have Hop := Lib.hid hop; clear hop
    go_enter Tryz.func8, Tryz.ntmps8
    go_wp2_with fail
    rw [← hw1]
    clear hw1
    refine Hla.out.mono ?_
    rintro e w2 ⟨a2, c2, rfl, hd2, hb2⟩
    clear Hla
    go_wp2_with fail
    obtain ⟨w3, hw3⟩ : ∃ w3, w3 = w2.alloc (.cells #[.int .i64 (num : Nat), .int .i64 (first : Nat), .bool beg, .slice a2 data.length c2] 72) := ⟨_, rfl⟩
    have b23 : Below w2.heap.size w2 w3 := by rw [hw3]; exact (Below.refl _ _).alloc (Nat.le_refl _) _
    have x3 : w3.heap[w2.heap.size]? = some (.cells #[.int .i64 (num : Nat), .int .i64 (first : Nat), .bool beg, .slice a2 data.length c2] 72) := by rw [hw3]; exact heap_alloc_new w2 _
    rw [← hw3]
    clear hw3
    have b13 := hb2.trans (b23.mono hb2.size)
    have hsz : w.heap.size < w2.heap.size := by have := hb2.size; have := Sz1.out; omega
    have h3 := H1.out.step b13
    have l3 := X1.out.step b13
    have bb3 := B1.out.trans (b13.mono B1.out.size)
    clear hd2 b23 hb2 X1 H1 B1 b13
    have z0 := cell_regrown (cells_at x3 0)
    have z1 := cell_regrown (cells_at x3 1)
    have hs : ∀ d os, Calls Tryz.prog 32 #[.pointer (some ⟨b, 0, none⟩)] (grow (redrawn w3 d) os) fun e w' => e = .returned (.int .i64 (N : Int)) ∧ Below (grow (redrawn w3 d) os).heap.size (grow (redrawn w3 d) os) w' := fun d os =>
      (Sectors_dev (h3.step (below_regrown w3 d os))).mono fun e w' ⟨h1, h2⟩ => ⟨by rw [HN.out]; exact h1, by subst h2; exact Below.refl _ _⟩
    have Hs := Lib.hid hs; clear hs
    have H3 := Lib.hid h3; clear h3
    have L3 := Lib.hid l3; clear l3
    have BB3 := Lib.hid bb3; clear bb3
    have X3 := Lib.hid x3; clear x3
    refine wp_region_quiet_below (by kernel_rfl) (by kernel_rfl) ?_
    repeat (any_goals (first | go_big_quiet_step ((go_at_call 32; exact Calls.regrown_of (Hs.out _ _))) | quiet_step ((go_at_call 32; exact Calls.regrown_of (Hs.out _ _)))))
    refine wpQuiet_nil ?_
    intro w4 hw4
    have b34 : Below w3.heap.size w3 w4 := by obtain ⟨q, rfl⟩ := hw4; exact below_regrown _ _ _
    clear hw4 z0 z1 Hs
    have bb4 := BB3.out.trans (b34.mono BB3.out.size)
    have BB4 := Lib.hid bb4; clear bb4 b34
    clear X3
    go_wp2
    go_ret3
    exact ⟨_, _, _, rfl, BB4.out, .inl ⟨Hop.out, rfl, rfl, rfl⟩⟩
  have d1 : decide ((first : Int) < 1) = false := decide_eq_false (by omega)
  have d1' : decide (first < 1) = false := decide_eq_false hf1
  by_cases hf2 : num < first
  · have d2 : decide ((first : Int) > (num : Int)) = true := decide_eq_true (by omega)
    have d2' : decide (num < first) = true := decide_eq_true hf2
    rw [if_neg (by omega)] at hop
    have Hop := Lib.hid hop; clear hop
    go_enter Tryz.func8, Tryz.ntmps8
    go_wp2_with fail
    rw [← hw1]
    clear hw1
    refine Hla.out.mono ?_
    rintro e w2 ⟨a2, c2, rfl, hd2, hb2⟩
    clear Hla
    go_wp2_with fail
    obtain ⟨w3, hw3⟩ : ∃ w3, w3 = w2.alloc (.cells #[.int .i64 (num : Nat), .int .i64 (first : Nat), .bool beg, .slice a2 data.length c2] 72) := ⟨_, rfl⟩
    have b23 : Below w2.heap.size w2 w3 := by rw [hw3]; exact (Below.refl _ _).alloc (Nat.le_refl _) _
    have x3 : w3.heap[w2.heap.size]? = some (.cells #[.int .i64 (num : Nat), .int .i64 (first : Nat), .bool beg, .slice a2 data.length c2] 72) := by rw [hw3]; exact heap_alloc_new w2 _
    rw [← hw3]
    clear hw3
    have b13 := hb2.trans (b23.mono hb2.size)
    have hsz : w.heap.size < w2.heap.size := by have := hb2.size; have := Sz1.out; omega
    have h3 := H1.out.step b13
    have l3 := X1.out.step b13
    have bb3 := B1.out.trans (b13.mono B1.out.size)
    clear hd2 b23 hb2 X1 H1 B1 b13
    have z0 := cell_regrown (cells_at x3 0)
    have z1 := cell_regrown (cells_at x3 1)
    have hs : ∀ d os, Calls Tryz.prog 32 #[.pointer (some ⟨b, 0, none⟩)] (grow (redrawn w3 d) os) fun e w' => e = .returned (.int .i64 (N : Int)) ∧ Below (grow (redrawn w3 d) os).heap.size (grow (redrawn w3 d) os) w' := fun d os =>
      (Sectors_dev (h3.step (below_regrown w3 d os))).mono fun e w' ⟨h1, h2⟩ => ⟨by rw [HN.out]; exact h1, by subst h2; exact Below.refl _ _⟩
    have Hs := Lib.hid hs; clear hs
    have H3 := Lib.hid h3; clear h3
    have L3 := Lib.hid l3; clear l3
    have BB3 := Lib.hid bb3; clear bb3
    have X3 := Lib.hid x3; clear x3
    refine wp_region_quiet_below (by kernel_rfl) (by kernel_rfl) ?_
    repeat (any_goals (first | go_big_quiet_step ((go_at_call 32; exact Calls.regrown_of (Hs.out _ _))) | quiet_step ((go_at_call 32; exact Calls.regrown_of (Hs.out _ _)))))
    refine wpQuiet_nil ?_
    intro w4 hw4
    have b34 : Below w3.heap.size w3 w4 := by obtain ⟨q, rfl⟩ := hw4; exact below_regrown _ _ _
    clear hw4 z0 z1 Hs
    have bb4 := BB3.out.trans (b34.mono BB3.out.size)
    have BB4 := Lib.hid bb4; clear bb4 b34
    clear X3
    go_wp2
    go_ret3
    exact ⟨_, _, _, rfl, BB4.out, .inl ⟨Hop.out, rfl, rfl, rfl⟩⟩
  have d2 : decide ((first : Int) > (num : Int)) = false := decide_eq_false (by omega)
  have d2' : decide (num < first) = false := decide_eq_false hf2
  by_cases hf3 : N ≤ num - first
  · have d3 : decide ((num : Int) - (first : Int) ≥ (N : Int)) = true := decide_eq_true (by omega)
    have d3' : decide ((N : Int) ≤ (num : Int) - (first : Int)) = true := decide_eq_true (by omega)
    rw [if_neg (by omega)] at hop
    have Hop := Lib.hid hop; clear hop
    go_enter Tryz.func8, Tryz.ntmps8
    go_wp2_with fail
    rw [← hw1]
    clear hw1
    refine Hla.out.mono ?_
    rintro e w2 ⟨a2, c2, rfl, hd2, hb2⟩
    clear Hla
    go_wp2_with fail
    obtain ⟨w3, hw3⟩ : ∃ w3, w3 = w2.alloc (.cells #[.int .i64 (num : Nat), .int .i64 (first : Nat), .bool beg, .slice a2 data.length c2] 72) := ⟨_, rfl⟩
    have b23 : Below w2.heap.size w2 w3 := by rw [hw3]; exact (Below.refl _ _).alloc (Nat.le_refl _) _
    have x3 : w3.heap[w2.heap.size]? = some (.cells #[.int .i64 (num : Nat), .int .i64 (first : Nat), .bool beg, .slice a2 data.length c2] 72) := by rw [hw3]; exact heap_alloc_new w2 _
    rw [← hw3]
    clear hw3
    have b13 := hb2.trans (b23.mono hb2.size)
    have hsz : w.heap.size < w2.heap.size := by have := hb2.size; have := Sz1.out; omega
    have h3 := H1.out.step b13
    have l3 := X1.out.step b13
    have bb3 := B1.out.trans (b13.mono B1.out.size)
    clear hd2 b23 hb2 X1 H1 B1 b13
    have z0 := cell_regrown (cells_at x3 0)
    have z1 := cell_regrown (cells_at x3 1)
    have hs : ∀ d os, Calls Tryz.prog 32 #[.pointer (some ⟨b, 0, none⟩)] (grow (redrawn w3 d) os) fun e w' => e = .returned (.int .i64 (N : Int)) ∧ Below (grow (redrawn w3 d) os).heap.size (grow (redrawn w3 d) os) w' := fun d os =>
      (Sectors_dev (h3.step (below_regrown w3 d os))).mono fun e w' ⟨h1, h2⟩ => ⟨by rw [HN.out]; exact h1, by subst h2; exact Below.refl _ _⟩
    have Hs := Lib.hid hs; clear hs
    have H3 := Lib.hid h3; clear h3
    have L3 := Lib.hid l3; clear l3
    have BB3 := Lib.hid bb3; clear bb3
    have X3 := Lib.hid x3; clear x3
    refine wp_region_quiet_below (by kernel_rfl) (by kernel_rfl) ?_
    repeat (any_goals (first | go_big_quiet_step ((go_at_call 32; exact Calls.regrown_of (Hs.out _ _))) | quiet_step ((go_at_call 32; exact Calls.regrown_of (Hs.out _ _)))))
    refine wpQuiet_nil ?_
    intro w4 hw4
    have b34 : Below w3.heap.size w3 w4 := by obtain ⟨q, rfl⟩ := hw4; exact below_regrown _ _ _
    clear hw4 z0 z1 Hs
    have bb4 := BB3.out.trans (b34.mono BB3.out.size)
    have BB4 := Lib.hid bb4; clear bb4 b34
    clear X3
    go_wp2
    go_ret3
    exact ⟨_, _, _, rfl, BB4.out, .inl ⟨Hop.out, rfl, rfl, rfl⟩⟩
  have d3 : decide ((num : Int) - (first : Int) ≥ (N : Int)) = false := decide_eq_false (by omega)
  have d3' : decide ((N : Int) ≤ (num : Int) - (first : Int)) = false := decide_eq_false (by omega)
  rw [if_pos (by omega)] at hop
  have Hop := Lib.hid hop; clear hop
  go_enter Tryz.func8, Tryz.ntmps8
  go_wp2_with fail
  rw [← hw1]
  clear hw1
  refine Hla.out.mono ?_
  rintro e w2 ⟨a2, c2, rfl, hd2, hb2⟩
  clear Hla
  go_wp2_with fail
  obtain ⟨w3, hw3⟩ : ∃ w3, w3 = w2.alloc (.cells #[.int .i64 (num : Nat), .int .i64 (first : Nat), .bool beg, .slice a2 data.length c2] 72) := ⟨_, rfl⟩
  have b23 : Below w2.heap.size w2 w3 := by rw [hw3]; exact (Below.refl _ _).alloc (Nat.le_refl _) _
  have x3 : w3.heap[w2.heap.size]? = some (.cells #[.int .i64 (num : Nat), .int .i64 (first : Nat), .bool beg, .slice a2 data.length c2] 72) := by rw [hw3]; exact heap_alloc_new w2 _
  rw [← hw3]
  clear hw3
  have b13 := hb2.trans (b23.mono hb2.size)
  have hsz : w.heap.size < w2.heap.size := by have := hb2.size; have := Sz1.out; omega
  have h3 := H1.out.step b13
  have l3 := X1.out.step b13
  have bb3 := B1.out.trans (b13.mono B1.out.size)
  clear hd2 b23 hb2 X1 H1 B1 b13
  have z0 := cell_regrown (cells_at x3 0)
  have z1 := cell_regrown (cells_at x3 1)
  have hs : ∀ d os, Calls Tryz.prog 32 #[.pointer (some ⟨b, 0, none⟩)] (grow (redrawn w3 d) os) fun e w' => e = .returned (.int .i64 (N : Int)) ∧ Below (grow (redrawn w3 d) os).heap.size (grow (redrawn w3 d) os) w' := fun d os =>
    (Sectors_dev (h3.step (below_regrown w3 d os))).mono fun e w' ⟨h1, h2⟩ => ⟨by rw [HN.out]; exact h1, by subst h2; exact Below.refl _ _⟩
  have Hs := Lib.hid hs; clear hs
  have H3 := Lib.hid h3; clear h3
  have L3 := Lib.hid l3; clear l3
  have BB3 := Lib.hid bb3; clear bb3
  have X3 := Lib.hid x3; clear x3
  refine wp_region_quiet_below (by kernel_rfl) (by kernel_rfl) ?_
  repeat (any_goals (first | go_big_quiet_step ((go_at_call 32; exact Calls.regrown_of (Hs.out _ _))) | quiet_step ((go_at_call 32; exact Calls.regrown_of (Hs.out _ _)))))
  refine wpQuiet_nil ?_
  intro w4 hw4
  have b34 : Below w3.heap.size w3 w4 := by obtain ⟨q, rfl⟩ := hw4; exact below_regrown _ _ _
  clear hw4 z0 z1 Hs
  have h4 := H3.out.step b34
  have l4 := L3.out.step b34
  have bb4 := BB3.out.trans (b34.mono BB3.out.size)
  have x4 := (b34.block _ (Array.getElem?_eq_some_iff.1 X3.out).1).trans X3.out
  have hg34 : w2.heap.size < w4.heap.size := (Array.getElem?_eq_some_iff.1 x4).1
  have hNN := HN.out
  have hro := rows_calls h4 l4 (n := first) (cnt := num - first + 1) (by omega) (by omega) (by omega) (by omega)
  rw [show first + (num - first + 1) - 1 = num by omega] at hro
  have hsl := fun T hT => secsS_len s (num - first + 1) first (T := T) hT
  have hsd := fun T hT => secsS_data h4 (num - first + 1) first (T := T) hT
  have hop := Hop.out
  clear Hop hNN
  generalize secsS s first (num - first + 1) = RS at hro hsl hsd hop
  obtain ⟨OK, hOK⟩ : ∃ R, R = RS.isSome := ⟨_, rfl⟩
  rw [← hOK] at hro
  clear H3 L3 BB3 X3 b34 h4
  have L4 := Lib.hid l4; clear l4
  have Hro := Lib.hid hro; clear hro
  have BB4 := Lib.hid bb4; clear bb4
  have X4 := Lib.hid x4; clear x4
  have z0 := cells_at X4.out 0
  have z1 := cells_at X4.out 1
  cases RS with
  | none =>
    simp only at hop
    have hOe : OK = false := hOK
    subst hOe
    clear hOK hsl hsd
    have Hop := Lib.hid hop; clear hop
    go_wp2_with fail
    refine Hro.out.mono ?_
    rintro e w5 ⟨v5, rfl, -, hb5⟩
    have bb5 := BB4.out.trans (hb5.mono BB4.out.size)
    have BB5 := Lib.hid bb5; clear bb5 hb5
    clear z0 z1
    go_wp2
    go_ret3
    exact ⟨_, _, _, rfl, BB5.out, .inl ⟨Hop.out, rfl, rfl, rfl⟩⟩
  | some T =>
    simp only at hop
    have hOe : OK = true := hOK
    subst hOe
    clear hOK
    have hsl := hsl T rfl
    have hsd := hsd T rfl
    obtain ⟨hfl, hfn⟩ := rows_flat (T := T) [] hsd
    have hfl : (rowsZ T).flatten.length ≤ 0 + 16 * T.length := hfl
    have hfn : (rowsZ T).length ≤ T.length + 1 := hfn
    have hte : tellZ T = tellRows (rowsZ T) := rfl
    rw [hte] at hop
    have Hop := Lib.hid hop; clear hop hte
    clear hsd
    go_wp2_with fail
    refine Hro.out.mono ?_
    rintro e w5 ⟨v5, rfl, hrd, hb5⟩
    have hrd := hrd T rfl
    generalize rowsZ T = RZ at hrd hfl hfn Hop
    have bb5 := BB4.out.trans (hb5.mono BB4.out.size)
    have x5 := (hb5.block _ (Array.getElem?_eq_some_iff.1 X4.out).1).trans X4.out
    have l5 := L4.out.step hb5
    have hg5 : w4.heap.size ≤ w5.heap.size := hb5.size
    clear BB4 X4 L4 hb5 z0 z1 Hro
    obtain ⟨g, cap, xs, rfl, hcap1, hcap2, hxl, hcel⟩ := hrd.rows
    obtain ⟨RL, hRL⟩ : ∃ R, R = RZ.length := ⟨_, rfl⟩
    rw [← hRL] at hcap1 hxl hfn ⊢
    have hRL5 : RL ≤ 513 := by omega
    have hfl2 : RZ.flatten.length ≤ 8192 := by omega
    clear hfl hfn hrd
    have BB5 := Lib.hid bb5; clear bb5
    have X5 := Lib.hid x5; clear x5
    have L5 := Lib.hid l5; clear l5
    have Hcel := Lib.hid hcel; clear hcel
    have HRL := Lib.hid hRL; clear hRL
    have HXL := Lib.hid hxl; clear hxl
    have szw : w.heap.size + 1 ≤ w5.heap.size := by omega
    clear hsl
    go_wp2_with fail
    go_loopw [9, 58] (fun u i wr => ∃ j : Nat, j ≤ RL ∧ i = .int .i64 j ∧ ∃ out : List Rc, RcOwn wr w5.heap.size u out ∧ tellRows (RZ.take j) = some out ∧ out.length ≤ (RZ.take j).flatten.length ∧ Below w5.heap.size w5 wr) (fun _ i _ => RL - (intOf i).toNat)
    case atStart => exact ⟨0, Nat.zero_le _, rfl, [], ROwn.nil _ _, rfl, Nat.zero_le _, Below.refl _ _⟩
    case round =>
      obtain ⟨j, hj, rfl, out, hout, htl, hol, hb⟩ := hrel
      obtain ⟨wo, rfl⟩ : ∃ wo, wo = wr := ⟨_, rfl⟩
      by_cases hlt : j < RL
      · have hjx : j < xs.length := by rw [HXL.out]; exact hlt
        have hjr : j < RZ.length := by rw [← HRL.out]; exact hlt
        obtain ⟨hc, hi⟩ := Hcel.out j hjx hjr
        have hc2 : wo.cell? ⟨g, j, none⟩ = some (.slice xs[j].1 xs[j].2.1 xs[j].2.2) := (hb.cell (World.block_lt_of_cell? _ _ hc)).trans hc
        have hi2 := hi.keep hb
        clear hc hi
        obtain ⟨hf1', hf2'⟩ := rows_flat_take RZ hjr
        have hrl := hi2.len
        have htk : tellRows (RZ.take (j + 1)) = match tellRow RZ[j] with | none => none | some a => some (out ++ a) := by
          rw [List.take_succ_eq_append_getElem hjr]
          cases ha : tellRow RZ[j] with
          | none => exact tellRows_none ha (List.mem_append.2 (.inr (List.mem_singleton.2 rfl)))
          | some a => exact tellRows_append htl (tellRows_one ha)
        have hnone : tellRow RZ[j] = none → tellRows RZ = none := fun h => tellRows_none h (List.getElem_mem hjr)
        have hal := All_calls hi2 (by omega)
        have hale := all_le _ RZ[j] (Nat.le_refl _)
        have halr := allR_len _ RZ[j] (Nat.le_refl _)
        have htr : tellRow RZ[j] = if RZ[j].length - (allR RZ[j]).2 ≤ 23 then some (allR RZ[j]).1 else none := rfl
        rw [htr] at htk hnone
        generalize RZ[j] = R at hi2 hf1' hf2' hrl htk hnone hal hale halr htr
        generalize xs[j] = X at hc2 hi2 hrl hal
        obtain ⟨xa, xn, xc⟩ := X
        simp only at hc2 hi2 hrl hal
        obtain ⟨⟨AL, AN⟩, hA⟩ : ∃ A, A = allR R := ⟨_, rfl⟩
        rw [← hA] at hal hale halr htk hnone
        rw [hrl] at hale htk hnone hf1' hf2'
        simp only at hal hale halr htk hnone
        clear htr hA hi2 hrl htl
        have i1 : (0 : Int) ≤ (j : Int) := by omega
        have i2 : (j : Int) < (RL : Int) := by omega
        have Hal := Lib.hid hal; clear hal
        have Hout := Lib.hid hout; clear hout
        have Hb := Lib.hid hb; clear hb
        have Htk := Lib.hid htk; clear htk
        have Hnone := Lib.hid hnone; clear hnone
        have Hf2 := Lib.hid hf2'; clear hf2'
        go_wp2_with fail
        refine Hal.out.mono ?_
        rintro e w6 ⟨v6, rfl, hr6, hb6⟩
        clear Hal hc2
        have hb56 := Hb.out.trans (hb6.mono Hb.out.size)
        have hout6 := Hout.out.below hb6
        clear Hb Hout
        have i5 : (AN : Int) ≤ (xn : Int) := by omega
        by_cases h23 : xn - AN ≤ 23
        · have dg : decide ((xn : Int) - (AN : Int) > 23) = false := decide_eq_false (by omega)
          have dg2 : decide (23 < (xn : Int) - (AN : Int)) = false := decide_eq_false (by omega)
          have htk := Htk.out
          rw [if_pos h23] at htk
          simp only at htk
          clear Htk Hnone
          have Htk := Lib.hid htk; clear htk
          obtain ⟨a6, c6, rfl, hre6, -⟩ := hr6.recs
          have hol2 : out.length + AL.length ≤ (RZ.take (j + 1)).flatten.length := by have := Hf2.out; omega
          have hmx : out.length + AL.length ≤ 1000000 := by omega
          have hsz6 : w.heap.size + 1 ≤ w6.heap.size := Nat.le_trans szw hb56.size
          have Hb56 := Lib.hid hb56; clear hb56
          clear Hf2 hr6
          go_wp2_with (with_reducible refine stop_builtin .append ?_)
          refine unpark ?_
          refine wpList_append_recs rcElem w6 rfl _ _ rfl w5.heap.size _ out rfl hout6 a6 AL.length c6 AL rfl hre6 hmx Hb56.out.size ?_
          intro v7 w7 own7 g7 _
          have hb7 := Hb56.out.grown g7 Hb56.out.size (fun k hk => (hout6.lt k hk).1)
          clear hout6 g7 hre6 Hb56
          have Own7 := Lib.hid own7; clear own7
          have Hb7 := Lib.hid hb7; clear hb7
          go_wp2_with fail
          go_roundw
          case rel => exact ⟨j + 1, by omega, by go_num, out ++ AL, Own7.out, Htk.out, by rw [List.length_append]; exact hol2, Hb7.out⟩
          case measure => simp [intOf]; omega
        · have dg : decide ((xn : Int) - (AN : Int) > 23) = true := decide_eq_true (by omega)
          have dg2 : decide (23 < (xn : Int) - (AN : Int)) = true := decide_eq_true (by omega)
          have hno := Hnone.out (by rw [if_neg h23])
          have hop := Hop.out
          rw [hno] at hop
          simp only at hop
          have bb6 := BB5.out.trans (hb56.mono BB5.out.size)
          clear Htk Hnone Hop hno
          have Hop := Lib.hid hop; clear hop
          have BB6 := Lib.hid bb6; clear bb6 hb56 hout6 hr6 hb6
          go_wp2
          go_ret3
          exact ⟨_, _, _, rfl, BB6.out, .inl ⟨Hop.out, rfl, rfl, rfl⟩⟩
      · obtain rfl : j = RL := by omega
        have htl2 : tellRows RZ = some out := by
          rw [List.take_of_length_le (by rw [← HRL.out]; exact Nat.le_refl _)] at htl
          exact htl
        have hop := Hop.out
        rw [htl2] at hop
        simp only at hop
        clear Hop htl htl2 hol
        have Hop := Lib.hid hop; clear hop
        obtain ⟨oa, oc, rfl⟩ := hout.shape
        obtain ⟨OL, hOL⟩ : ∃ O, O = out.length := ⟨_, rfl⟩
        rw [← hOL] at hout ⊢
        have hbb := BB5.out.trans (hb.mono BB5.out.size)
        have x6 := (hb.block _ (Array.getElem?_eq_some_iff.1 X5.out).1).trans X5.out
        have l6 : wo.heap[w.heap.size]? = some (.cells #[.pointer (some ⟨b, 0, none⟩), .int .i64 1, .int .i64 1, .int .i64 1] 70) := L5.out.step hb
        clear X5 L5 BB5 Hcel
        have hOL' := Lib.hid hOL; clear hOL
        have hlo : w.heap.size < w5.heap.size := by omega
        have sd := below_drew wo
        have hx7 := (sd.block _ (Array.getElem?_eq_some_iff.1 x6).1).trans x6
        have Hout := Lib.hid hout; clear hout
        have Hb := Lib.hid hb; clear hb
        have Hbb := Lib.hid hbb; clear hbb
        have L6 := Lib.hid l6; clear l6
        have X6 := Lib.hid x6; clear x6
        go_wp2_with fail
        refine wp_region_plan (fun w' => w'.heap[w2.heap.size]? = some (.cells #[.int .i64 (num : Nat), .int .i64 (first : Nat), .bool beg, .slice a2 data.length c2] 72)) (.pre [0, 1, 2, 3, 4, 6, 7, 8, 9] (.yld 5 (.segs [[10, 11, 12], [13, 14, 15], [16, 17, 18], []]))) (by kernel_rfl) (by kernel_rfl) rfl (by kernel_rfl) (fun _ _ _ h => by obtain ⟨_, _, _, _, h, _⟩ := h; cases h) (fun _ _ h => by obtain ⟨_, _, _, h, _⟩ := h; cases h) hx7 ?_
        have o7 := Hout.out.below sd
        have b7 := Hbb.out.trans (sd.mono Hbb.out.size)
        have l7 := (sd.block _ (Array.getElem?_eq_some_iff.1 L6.out).1).trans L6.out
        generalize wo.drew = w7 at o7 b7 l7 hx7 ⊢
        clear sd Hout Hb Hbb L6 X6
        have O7 := Lib.hid o7; clear o7
        have B7 := Lib.hid b7; clear b7
        have L7 := Lib.hid l7; clear l7
        have X7 := Lib.hid hx7; clear hx7
        refine plan_pre (by kernel_rfl) ?_
        apply Exists.intro
        apply And.intro
        · intro w' s
          have z0 := cells_at s 0
          have z1 := cells_at s 1
          clear s
          simp only [List.map_cons, List.map_nil, List.getD_cons_zero, List.getD_cons_succ]
          go_wp2_with fail
          exact pre_end
        refine yld_at (.int .i64 ((num : Int) + 1)) rfl (fun w2 _ => (congrArg (fun z => Result.ok (Next.value (.int .i64 z)) w2) (IntWalk.i64_in ((num : Int) + 1) (by omega)))) ?_
        refine plan_segs (segs_more ?_)
        simp only [List.map_cons, List.map_nil, List.getD_cons_zero, List.getD_cons_succ]
        go_wp2_with (with_reducible refine stop_store 3 ?_)
        refine unpark ?_
        refine wpList_store_at rfl _ _ _ rfl w.heap.size 1 rfl (.int .i64 ((num : Int) + 1)) rfl [(.int .i64 ((num : Int) + 1))] rfl _ _ L7.out 1 rfl (by simp) (by simp [Value.oneCell']) sizeInt ?_
        intro w8 lw1 gw1 sw1
        have ow1 := O7.out.keep fun g hg _ => gw1.block g (World.ownsRow.lt O7.out g hg).2 (by intro e; injection e with e; have := (World.ownsRow.lt O7.out g hg).1; omega)
        have bw1 := B7.out.grown gw1 B7.out.size (fun k hk => by cases hk; exact Nat.le_refl _)
        have xw1 := (gw1.block _ (Array.getElem?_eq_some_iff.1 X7.out).1 (by intro e; injection e with e; omega)).trans X7.out
        clear gw1 sw1 L7 O7 B7 X7
        simp only [splice] at lw1
        have LW1 := Lib.hid lw1; clear lw1
        have OW1 := Lib.hid ow1; clear ow1
        have BW1 := Lib.hid bw1; clear bw1
        have XW1 := Lib.hid xw1; clear xw1
        go_wp2_with fail
        refine seg_end XW1.out (segs_more ?_)
        go_wp2_with (with_reducible refine stop_store 3 ?_)
        refine unpark ?_
        refine wpList_store_at rfl _ _ _ rfl w.heap.size 2 rfl (.int .i64 (first : Nat)) rfl [(.int .i64 (first : Nat))] rfl _ _ LW1.out 1 rfl (by simp) (by simp [Value.oneCell']) sizeInt ?_
        intro w9 lw2 gw2 sw2
        have ow2 := OW1.out.keep fun g hg _ => gw2.block g (World.ownsRow.lt OW1.out g hg).2 (by intro e; injection e with e; have := (World.ownsRow.lt OW1.out g hg).1; omega)
        have bw2 := BW1.out.grown gw2 BW1.out.size (fun k hk => by cases hk; exact Nat.le_refl _)
        have xw2 := (gw2.block _ (Array.getElem?_eq_some_iff.1 XW1.out).1 (by intro e; injection e with e; omega)).trans XW1.out
        clear gw2 sw2 LW1 OW1 BW1 XW1
        simp only [splice] at lw2
        have LW2 := Lib.hid lw2; clear lw2
        have OW2 := Lib.hid ow2; clear ow2
        have BW2 := Lib.hid bw2; clear bw2
        have XW2 := Lib.hid xw2; clear xw2
        go_wp2_with fail
        refine seg_end XW2.out (segs_more ?_)
        go_wp2_with (with_reducible refine stop_store 3 ?_)
        refine unpark ?_
        refine wpList_store_at rfl _ _ _ rfl w.heap.size 3 rfl (.int .i64 (first : Nat)) rfl [(.int .i64 (first : Nat))] rfl _ _ LW2.out 1 rfl (by simp) (by simp [Value.oneCell']) sizeInt ?_
        intro w10 lw3 gw3 sw3
        have ow3 := OW2.out.keep fun g hg _ => gw3.block g (World.ownsRow.lt OW2.out g hg).2 (by intro e; injection e with e; have := (World.ownsRow.lt OW2.out g hg).1; omega)
        have bw3 := BW2.out.grown gw3 BW2.out.size (fun k hk => by cases hk; exact Nat.le_refl _)
        have xw3 := (gw3.block _ (Array.getElem?_eq_some_iff.1 XW2.out).1 (by intro e; injection e with e; omega)).trans XW2.out
        clear gw3 sw3 LW2 OW2 BW2 XW2
        simp only [splice] at lw3
        have LW3 := Lib.hid lw3; clear lw3
        have OW3 := Lib.hid ow3; clear ow3
        have BW3 := Lib.hid bw3; clear bw3
        have XW3 := Lib.hid xw3; clear xw3
        go_wp2_with fail
        refine seg_end XW3.out (segs_last ?_)
        go_wp2
        go_ret3
        refine ⟨_, _, _, rfl, BW3.out, .inr ⟨(num + 1, first, first), out, Hop.out, rfl, rfl, ?_, ?_⟩⟩
        · have hz := LW3.out
          unfold LogAt
          rw [hz]
          simp [Lg.cells]
        · have := OW3.out
          exact this.mono (by omega)
end
end Go.Proofs.YtgpedejeifmfdaaGreat
/- append(s, make([]byte, m)...), a row of noughts behind s. Of no program. -/
namespace Go.Proofs.YtgpedejeifmfdaaGreat
open Go.RowKit

theorem run_append_zeros {P : Program} (w : World) (t e ti ty : TypeId) (i : TypeInfo) (ht : P.underlying t = some (.slice e)) (hti : P.underlying ti = some (.int .i64)) (hi : P.info? e = some i) (hz : i.zero = some (.int .u8 0)) (hs1 : i.size = 1) (hb1 : i.bytes = 1)
    (b o n cap m : Nat) (xs : List Int) (hx : Ints w .u8 (some ⟨b, o, none⟩) n cap xs) (hn : 0 < n) (hg : cap < n + m) (hsm : n + m ≤ 1000000) :
    (Builtin.append_ #[t, ti] ty #[.slice (some ⟨b, o, none⟩) n cap, .int .i64 m]).run P w =
      .ok (.slice (some ⟨w.heap.size, 0, none⟩) (n + m) (grownCap w (n + m) cap e)) (w.drew.alloc (.cells ((xs.map (Value.int .u8)).toArray ++ Builtin.zeroCells #[.int .u8 0] m ++ Builtin.zeroCells #[.int .u8 0] (grownCap w (n + m) cap e - (n + m))) e)) := by
  have hl := hx.len
  obtain ⟨b', o', e', hc⟩ := hx.cell hn
  cases e'
  have hold : (Builtin.firstCells i.size n (.slice (some ⟨b, o, none⟩) n cap)).run P w.drew = .ok (xs.map (Value.int .u8)).toArray w.drew := by
    have := run_loadCells_list (P := P) w.drew ⟨b, o, none⟩ (xs.map (Value.int .u8)) (fun j v hv => by
      rw [add_none]
      have hj : j < n := by have := (List.getElem?_eq_some_iff.1 hv).1; simpa [hl] using this
      have : w.cell? ⟨b, o + j, none⟩ = some v := by
        rw [hc j hj]
        rw [List.getElem?_map] at hv
        rw [List.getD_eq_getElem?_getD]
        cases hq : xs[j]? with
        | none => rw [hq] at hv; cases hv
        | some y => rw [hq] at hv; simpa using hv
      exact this)
    rw [List.length_map, hl] at this
    simpa [Builtin.firstCells, hs1] using this
  have hw : IntKind.i64.wrap (m : Int) = m := by
    rw [IntKind.wrap]
    simp [IntKind.signed, IntKind.bits]
    omega
  have hnn : ¬ ((m : Int) < 0) := by omega
  have h48 : ¬ ((m : Int) * (i.bytes : Int) > 2 ^ 48) := by rw [hb1]; omega
  have hroom : ¬ (n + m ≤ cap) := by omega
  have hcap : ¬ (Builtin.nextslicecap (n + m) cap * i.bytes > 2 ^ 48) := by
    have := growslice_fits (need := n + m) (old := cap) (bytes := i.bytes) (by omega) (by rw [hb1]; omega)
    omega
  have h63 : ¬ (((n + m : Nat) : Int) > IntKind.i64.max) := by simp [IntKind.max, IntKind.signed, IntKind.bits]; omega
  rw [hs1] at hold
  have h63' : ¬ (9223372036854775807 < (n : Int) + (m : Int)) := by omega
  have h48' : ¬ (281474976710656 < (m : Int)) := by omega
  have hcap' : ¬ (281474976710656 < Builtin.nextslicecap (n + m) cap) := by rw [hb1] at hcap; omega
  simp [Builtin.append_, run_underlying ht, run_underlying hti, sizeOf, typeInfo, zeroValue, hi, hz, hs1, hb1, asInt, asIntOf, hw, hroom, h63', h48', hcap', Question.forced, hold, newRow, grownCap]
  rw [if_neg hnn, if_neg (by have := hx.le; omega)]
  simp [Value.cells]

theorem zeroCells_u8 (n : Nat) : (Builtin.zeroCells #[.int .u8 0] n).toList = (List.replicate n 0).map (Value.int .u8) := by
  unfold Builtin.zeroCells
  simp only [List.size_toArray, List.length_cons, List.length_nil, Nat.zero_add, Nat.mul_one, Nat.mod_one, Array.toList_map]
  rw [List.map_replicate]
  refine List.eq_replicate_iff.2 ⟨by simp, fun b hb => ?_⟩
  obtain ⟨_, _, rfl⟩ := List.mem_map.1 hb
  rfl

theorem append_zeros_own {P : Program} (w : World) (t e ti ty : TypeId) (i : TypeInfo) (ht : P.underlying t = some (.slice e)) (hti : P.underlying ti = some (.int .i64)) (hi : P.info? e = some i) (hz : i.zero = some (.int .u8 0)) (hs1 : i.size = 1) (hb1 : i.bytes = 1)
    (b o n cap m : Nat) (xs : List Int) (hx : Ints w .u8 (some ⟨b, o, none⟩) n cap xs) (hn : 0 < n) (hg : cap < n + m) (hsm : n + m ≤ 1000000) :
    ∃ v w', (Builtin.append_ #[t, ti] ty #[.slice (some ⟨b, o, none⟩) n cap, .int .i64 m]).run P w = .ok v w' ∧ Own w' w.heap.size e .u8 v (xs ++ List.replicate m 0) ∧ Below w.heap.size w w' := by
  have hl := hx.len
  have hge := grownCap_ge w (n + m) cap e
  refine ⟨_, _, run_append_zeros w t e ti ty i ht hti hi hz hs1 hb1 b o n cap m xs hx hn hg hsm, ⟨⟨by simp, .inr ⟨w.heap.size, grownCap w (n + m) cap e, _, by rw [List.length_append, List.length_replicate, hl], Nat.le_refl _, heap_alloc_new w.drew _, by rw [List.length_append, List.length_replicate, hl]; exact hge, grownCap_le_maxLen w (n + m) cap e (by unfold maxLen; omega), ?_, ?_⟩⟩, ?_⟩, ?_⟩
  · simp [Builtin.zeroCells, hl]; omega
  · simp only [Array.toList_append, zeroCells_u8, List.length_append, List.length_replicate, hl, Nat.mul_one, ← List.map_append]
    rw [← List.map_take, List.take_left' (by simp [hl])]
  · intro z hz
    rcases List.mem_append.1 hz with h | h
    · exact hx.fit z h
    · obtain ⟨_, rfl⟩ := List.mem_replicate.1 h; decide
  · exact (⟨rfl, rfl, rfl, Nat.le_refl _, fun _ _ => rfl⟩ : Below w.heap.size w w.drew).trans ((Below.refl w.heap.size w.drew).alloc (Nat.le_refl w.heap.size) _)


end Go.Proofs.YtgpedejeifmfdaaGreat
/- append(s, make([]byte, m)...), with room or without: the row behind it, and the old one still. Of no program. -/
namespace Go.Proofs.YtgpedejeifmfdaaGreat
open Go.RowKit

theorem append_noughts {P : Program} (w : World) (t e ti ty : TypeId) (i : TypeInfo) (ht : P.underlying t = some (.slice e)) (hti : P.underlying ti = some (.int .i64)) (hi : P.info? e = some i) (hz : i.zero = some (.int .u8 0)) (hs1 : i.size = 1) (hb1 : i.bytes = 1)
    (base : Nat) (v : Value) (zs : List Int) (hown : Own w base e .u8 v zs) (h0 : 0 < zs.length) (m : Nat) (hsm : zs.length + m ≤ 1000000) (hbase : base ≤ w.heap.size) :
    ∃ v' w', (Builtin.append_ #[t, ti] ty #[v, .int .i64 m]).run P w = .ok v' w' ∧ Own w' base e .u8 v' (zs ++ List.replicate m 0) ∧ w.grownBy w' v.ownBlock ∧ Own w' base e .u8 v zs := by
  have hfit : ∀ z ∈ zs ++ List.replicate m 0, (Lit.int .u8 z).wf = true := fun z hz => by
    rcases List.mem_append.1 hz with hz | hz
    · exact hown.2 z hz
    · obtain ⟨-, rfl⟩ := List.mem_replicate.1 hz; rfl
  rcases hown.1.2 with ⟨rfl, h⟩ | ⟨g, cap, cur, rfl, hbg, hg, hnc, hcm, hcs, htake⟩
  · omega
  by_cases hroom : zs.length + m ≤ cap
  · have hcl : cur.size = cap := by rw [hcs, Nat.mul_one]
    have hnl : ((List.replicate m 0).map (Value.int .u8)).length = m := by simp
    have hst := run_storeCells_at P g (zs.length * 1) e ((List.replicate m 0).map (Value.int .u8)) 0 cur w hg (by rw [hnl, hcl]; omega) (fun u hu => by
      obtain ⟨_, _, rfl⟩ := List.mem_map.1 hu; rfl)
    simp only [Nat.add_zero] at hst
    have hw : IntKind.i64.wrap (m : Int) = m := by
      rw [IntKind.wrap]
      simp [IntKind.signed, IntKind.bits]
      omega
    have hnn : ¬ ((m : Int) < 0) := by omega
    have h48' : ¬ (281474976710656 < (m : Int)) := by omega
    have hnew : ∀ w' : World, ((if m * i.size = 0 then pure #[] else do pure (Builtin.zeroCells (← zeroValue e).cells m) : Sem (Array Value))).run P w' = .ok ((List.replicate m 0).map (Value.int .u8)).toArray w' := fun w' => by
      by_cases hm : m = 0
      · subst hm; rw [if_pos (by omega)]; rfl
      · rw [if_neg (by rw [hs1]; omega)]
        have : Builtin.zeroCells #[.int .u8 0] m = ((List.replicate m 0).map (Value.int .u8)).toArray := by
          apply Array.ext'
          rw [zeroCells_u8]
        simp [zeroValue, typeInfo, hi, hz, Value.cells, this]
    have hnew' := fun w' => hnew w'
    rw [hs1] at hnew'
    have hr : (Builtin.append_ #[t, ti] ty #[.slice (some ⟨g, 0, none⟩) zs.length cap, .int .i64 m]).run P w =
        .ok (.slice (some ⟨g, 0, none⟩) (zs.length + m) cap) (w.setRow g (cur.toList.take (zs.length * 1) ++ (List.replicate m 0).map (Value.int .u8) ++ cur.toList.drop (zs.length * 1 + ((List.replicate m 0).map (Value.int .u8)).length)).toArray) := by
      by_cases hm : m = 0
      · subst hm
        have hw0 : IntKind.i64.wrap 0 = 0 := by decide
        simp only [List.replicate_zero, List.map_nil] at hst ⊢
        simp [Builtin.append_, run_underlying ht, run_underlying hti, sizeOf, typeInfo, hi, hs1, hb1, asInt, asIntOf, hw0, hnc, Addr.add_lit] at hst ⊢
        rw [hst]
        rfl
      · have hz2 : Builtin.zeroCells #[.int .u8 0] m = ((List.replicate m 0).map (Value.int .u8)).toArray := by
          apply Array.ext'
          rw [zeroCells_u8]
        simp only [Nat.mul_one] at hst ⊢
        simp [Builtin.append_, run_underlying ht, run_underlying hti, sizeOf, typeInfo, zeroValue, hi, hz, hs1, hb1, asInt, asIntOf, hw, hroom, hnn, h48', hm, Addr.add_lit, Value.cells, hz2] at hst ⊢
        rw [hst]
        rfl
    refine ⟨_, _, hr, ⟨⟨by simp, .inr ⟨g, cap, _, by simp, hbg, setRow_heap w g cur _ e _ hg, by simpa using hroom, hcm, ?_, ?_⟩⟩, hfit⟩, ⟨rfl, rfl, rfl, by simp, fun k _ hk => setRow_other w g k _ (fun e => hk (by simp [Value.ownBlock, e]))⟩, ⟨⟨hown.1.1, .inr ⟨g, cap, _, rfl, hbg, setRow_heap w g cur _ e _ hg, hnc, hcm, ?_, ?_⟩⟩, hown.2⟩⟩
    · simp; omega
    · rw [htake, hnl]
      simp
      rw [← List.append_assoc, List.take_append_of_le_length (by simp), List.take_of_length_le (by simp)]
    · simp; omega
    · rw [htake]
      rw [List.append_assoc, List.take_append_of_le_length (by simp)]
      exact List.take_of_length_le (by simp)
  · obtain ⟨a, c, e1, hi1, hbl⟩ := hown.ints
    cases e1
    obtain ⟨v', w', h1, h2, h3⟩ := append_zeros_own w t e ti ty i ht hti hi hz hs1 hb1 g 0 zs.length cap m zs hi1 h0 (by omega) hsm
    refine ⟨v', w', h1, h2.mono hbase, ⟨h3.os, h3.tape, h3.output, h3.size, fun k hk _ => h3.block k hk⟩, ?_⟩
    exact ⟨hown.1.kept ⟨h3.os, h3.tape, h3.output, h3.size, fun k hk _ => h3.block k hk⟩ (row := none) (.inr (by simp [Value.ownBlock])), hown.2⟩
end Go.Proofs.YtgpedejeifmfdaaGreat
/- The log in memory: a sector's bytes. -/
namespace Go.Proofs.YtgpedejeifmfdaaGreat
open Go.RowKit Go.Sort

theorem plan_two {P : Program} {l : List Oper} {Q : Exit → Act → World → Prop} {S : World → Prop} {i j : Nat} {p q : Plan} {a : Act} {w : World} (h1 : wpList P l.toArray (SegQ fun a' w' => S w' ∧ planW P l Q S p a' w') [l.getD i default] a w) (h2 : wpList P l.toArray (SegQ fun a' w' => S w' ∧ planW P l Q S q a' w') [l.getD j default] a w) : planW P l Q S (.two i p j q) a w := ⟨h1, h2⟩
theorem or128 : ∀ n, n < 128 → bits .or .u8 ((n : Nat) : Int) 128 = ((128 + n : Nat) : Int) := by decide +kernel
set_option maxHeartbeats 16000000 in
set_option maxRecDepth 100000 in
theorem bytes_calls {w : World} {S : Sc} (h : S.ok) {a : Option Addr} {c : Nat} (hd : Ints w .u8 a S.data.length c S.data) :
    Calls Tryz.prog 61 #[scV S a c] w fun e w' => ∃ v, e = .returned v ∧ Own w' w.heap.size 5 .u8 v (secZ S) ∧ Below w.heap.size w w' := by
  obtain ⟨Z, hZ⟩ : ∃ Z, Z = secZ S := ⟨_, rfl⟩
  rw [← hZ]
  obtain ⟨hn1, hn2, hl, hfit⟩ := h
  obtain ⟨num, first, beg, data⟩ := S
  simp only [scV] at hn1 hn2 hl hfit hd ⊢
  obtain ⟨n, hn⟩ : ∃ n, n = data.length := ⟨_, rfl⟩
  obtain ⟨fl, hfl⟩ : ∃ f : Nat, f = fillZ ⟨num, first, beg, data⟩ := ⟨_, rfl⟩
  have hfl' : fl = (if beg = true then 128 else 0) + n := by rw [hfl, hn]; rfl
  have hflb : fl < 256 := by rw [hfl']; split <;> omega
  have hZ2 : Z = sealed (([bytesZ 4 num, bytesZ 4 first, [(fl : Int)], data] : List (List Int)).flatten ++ List.replicate (16 - n) 0) ++ bytesZ 4 num := by
    rw [hZ, hfl, hn]
    unfold secZ preZ
    simp
  have hby1 := fun w : World => Bytes_calls (w := w) (u := num) (n := 4) (by omega) (by decide) (by rw [pow8]; exact Nat.div_eq_of_lt (by omega))
  have hby2 := fun w : World => Bytes_calls (w := w) (u := first) (n := 4) (by omega) (by decide) (by rw [pow8]; exact Nat.div_eq_of_lt (by omega))
  rw [← hn] at hd hl ⊢
  obtain ⟨w1, hw1⟩ : ∃ w1, w1 = w.alloc (.cells #[.int .i64 (num : Nat), .int .i64 (first : Nat), .bool beg, .slice a n c] 72) := ⟨_, rfl⟩
  have x1 : w1.heap[w.heap.size]? = some (.cells #[.int .i64 (num : Nat), .int .i64 (first : Nat), .bool beg, .slice a n c] 72) := by rw [hw1]; exact heap_alloc_new w _
  have b1 : Below w.heap.size w w1 := by rw [hw1]; exact (Below.refl _ _).alloc (Nat.le_refl _) _
  have d1 := hd.keep b1
  have hfw : (Lit.int .u8 (fl : Int)).wf = true := u8_wf fl hflb
  clear hZ hfl hd hfit
  have HZ := Lib.hid hZ2; clear hZ2
  have Hby1 := Lib.hid hby1; clear hby1
  have Hby2 := Lib.hid hby2; clear hby2
  have X1 := Lib.hid x1; clear x1
  have B1 := Lib.hid b1; clear b1
  have D1 := Lib.hid d1; clear d1
  have Hn := Lib.hid hn; clear hn
  have hu1 : IntKind.u64.wrap (num : Int) = (num : Int) := IntWalk.u64_in _ (by omega)
  have hu2 : IntKind.u64.wrap (first : Int) = (first : Int) := IntWalk.u64_in _ (by omega)
  have hu8 : IntKind.u8.wrap (n : Int) = (n : Int) := IntWalk.u8_in _ (by omega)
  have Hfw := Lib.hid hfw; clear hfw
  cases beg with
  | true =>
    have hor : bits .or .u8 (n : Int) 128 = (fl : Int) := by rw [or128 n (by omega), hfl']; rfl
    clear hfl'
    go_enter Tryz.func61, Tryz.ntmps61
    go_wp2_with fail
    rw [← hw1]
    clear hw1
    have sd := below_drew w1
    refine wp_region_plan (fun w' => Below w1.heap.size w1 w') (.pre [0, 1, 4, 5, 8, 10, 11] (.yld 2 (.yld 6 (.two 3 (.two 7 (.one 9 (.segs [[12], [13], [14]])) 9 (.one 7 (.segs [[12], [13], [14]]))) 9 (.one 3 (.one 7 (.segs [[12], [13], [14]]))))))) (by kernel_rfl) (by kernel_rfl) rfl (by kernel_rfl) (fun _ _ _ h => by obtain ⟨_, _, h, _⟩ := h; cases h) (fun _ _ h => by obtain ⟨_, h, _⟩ := h; cases h) sd ?_
    generalize w1.drew = wd at sd ⊢
    refine plan_pre (by kernel_rfl) ?_
    apply Exists.intro
    apply And.intro
    · intro w' s
      have x5 := (s.block _ (Array.getElem?_eq_some_iff.1 X1.out).1).trans X1.out
      have z0 := cells_at x5 0
      have z1 := cells_at x5 1
      have z3 := cells_at x5 3
      clear s x5
      simp only [List.map_cons, List.map_nil, List.getD_cons_zero, List.getD_cons_succ]
      go_wp2_with fail
      exact pre_end
    refine yld_at (.int .u64 (num : Int)) rfl (fun w2 _ => (congrArg (fun z => Result.ok (Next.value (.int .u64 z)) w2) hu1)) ?_
    refine yld_at (.int .u64 (first : Int)) rfl (fun w2 _ => (congrArg (fun z => Result.ok (Next.value (.int .u64 z)) w2) hu2)) ?_
    refine plan_two ?_ ?_
    · simp only [List.getD_cons_zero, List.getD_cons_succ]
      go_wp2_with fail
      refine (Hby1.out _).mono ?_
      rintro e wa ⟨u3, rfl, o3, ka⟩
      obtain ⟨a3, c3, rfl, i3, -⟩ := own_len o3 (n := 4) (bytes_len _ _)
      clear o3
      have sa := sd.trans (ka.mono sd.size)
      clear ka sd
      have I3 := Lib.hid i3; clear i3
      go_wp2_with fail
      refine ⟨sa, ?_⟩
      refine plan_two ?_ ?_
      · simp only [List.getD_cons_zero, List.getD_cons_succ]
        go_wp2_with fail
        refine (Hby2.out _).mono ?_
        rintro e wb ⟨u7, rfl, o7, kb⟩
        obtain ⟨a7, c7, rfl, i7, -⟩ := own_len o7 (n := 4) (bytes_len _ _)
        clear o7
        have sb := sa.trans (kb.mono sa.size)
        have i3_ := I3.out.keep kb
        clear I3
        clear kb sa
        have I7 := Lib.hid i7; clear i7
        have I3 := Lib.hid i3_; clear i3_
        go_wp2_with fail
        refine ⟨sb, ?_⟩
        refine plan_one ?_
        simp only [List.getD_cons_zero, List.getD_cons_succ]
        go_wp2_with fail
        have kc : Below wb.heap.size wb (wb.alloc (.cells #[.int .u8 (fl : Int)] 5)) := (Below.refl _ _).alloc (Nat.le_refl _) _
        have i9 : Ints (wb.alloc (.cells #[.int .u8 (fl : Int)] 5)) .u8 (some ⟨wb.heap.size, 0, none⟩) 1 1 [(fl : Int)] := ints_alloc [(fl : Int)] rfl rfl (by simp) (fun z hz => by rw [List.mem_singleton] at hz; subst hz; exact Hfw.out)
        generalize wb.alloc (.cells #[.int .u8 (fl : Int)] 5) = wc at i9 kc ⊢
        skip
        obtain ⟨g9, hg9⟩ : ∃ g, g = wb.heap.size := ⟨_, rfl⟩
        rw [← hg9] at i9 ⊢
        clear hg9
        have sc := sb.trans (kc.mono sb.size)
        have i3_ := I3.out.keep kc
        clear I3
        have i7_ := I7.out.keep kc
        clear I7
        clear kc sb
        have I9 := Lib.hid i9; clear i9
        have I3 := Lib.hid i3_; clear i3_
        have I7 := Lib.hid i7_; clear i7_
        refine ⟨sc, ?_⟩
        have d4 := D1.out.keep sc
        have x4 := (sc.block _ (Array.getElem?_eq_some_iff.1 X1.out).1).trans X1.out
        have b4 := B1.out.trans (sc.mono B1.out.size)
        refine plan_segs (segs_more ?_)
        simp only [List.map_cons, List.map_nil, List.getD_cons_zero, List.getD_cons_succ]
        go_wp2_with fail
        obtain ⟨w5, hw5⟩ : ∃ w5, w5 = wc.alloc (.cells #[.slice a3 4 c3, .slice a7 4 c7, .slice (some ⟨g9, 0, none⟩) 1 1, .slice a n c] 39) := ⟨_, rfl⟩
        have k5 : Below wc.heap.size wc w5 := by rw [hw5]; exact (Below.refl _ _).alloc (Nat.le_refl _) _
        have x5 : w5.heap[wc.heap.size]? = some (.cells #[.slice a3 4 c3, .slice a7 4 c7, .slice (some ⟨g9, 0, none⟩) 1 1, .slice a n c] 39) := by rw [hw5]; exact heap_alloc_new wc _
        rw [← hw5]
        clear hw5
        have hli : Lists w5 .u8 wc.heap.size 4 [bytesZ 4 num, bytesZ 4 first, [(fl : Int)], data] := by
          have j3 := I3.out.keep k5
          have j7 := I7.out.keep k5
          have j9 := I9.out.keep k5
          have jd := d4.keep k5
          refine ⟨rfl, fun j hj => ?_⟩
          match j, hj with
          | 0, _ => exact ⟨a3, c3, by rw [cells_at x5 0]; simp [bytes_len], by simpa [bytes_len] using j3⟩
          | 1, _ => exact ⟨a7, c7, by rw [cells_at x5 1]; simp [bytes_len], by simpa [bytes_len] using j7⟩
          | 2, _ => exact ⟨some ⟨g9, 0, none⟩, 1, by rw [cells_at x5 2]; simp, by simpa using j9⟩
          | 3, _ => exact ⟨a, c, by rw [cells_at x5 3]; simp [← Hn.out], by simpa [← Hn.out] using jd⟩
        have s5 := sc.trans (k5.mono sc.size)
        have hco := Concat_calls hli (by decide) (by unfold total; simp [bytes_len, ← Hn.out]; omega)
        have d5 := d4.keep k5
        have x5' := (k5.block _ (Array.getElem?_eq_some_iff.1 x4).1).trans x4
        have b5 := b4.trans (k5.mono b4.size)
        clear d4 x4 b4 k5 x5 hli I3 I7 I9 sc D1 X1 B1
        obtain ⟨HD, hHD⟩ : ∃ H, H = ([bytesZ 4 num, bytesZ 4 first, [(fl : Int)], data] : List (List Int)).flatten := ⟨_, rfl⟩
        have hHL : HD.length = 9 + n := by rw [hHD]; simp [bytes_len, ← Hn.out]; omega
        have hH4 : HD.take 4 = bytesZ 4 num := by rw [hHD, List.flatten_cons, List.take_append_of_le_length (by simp [bytes_len]), List.take_of_length_le (by simp [bytes_len])]
        have hZ := HZ.out
        rw [← hHD] at hco hZ
        clear HZ hHD
        have HZ := Lib.hid hZ; clear hZ
        have HHL := Lib.hid hHL; clear hHL
        have HH4 := Lib.hid hH4; clear hH4
        have Hco := Lib.hid hco; clear hco
        have X5 := Lib.hid x5'; clear x5'
        have B5 := Lib.hid b5; clear b5
        refine seg_end s5 (segs_more ?_)
        go_wp2_with fail
        refine Hco.out.mono ?_
        rintro e w6 ⟨v6, rfl, o6, k6⟩
        have s6 := s5.trans (k6.mono s5.size)
        have x6 := (k6.block _ (Array.getElem?_eq_some_iff.1 X5.out).1).trans X5.out
        have b6 := B5.out.trans (k6.mono B5.out.size)
        have o6' := o6.mono B5.out.size
        clear k6 X5 B5 Hco s5 d5 o6
        have X6 := Lib.hid x6; clear x6
        have B6 := Lib.hid b6; clear b6
        obtain ⟨g6, c6, rfl, i6⟩ := o6'.ofInts (n := 9 + n) HHL.out (by omega)
        have O6 := Lib.hid o6'; clear o6'
        go_wp2_with fail
        refine seg_end s6 (segs_last ?_)
        clear s6
        have y3 := cells_at X6.out 3
        obtain ⟨m, hm⟩ : ∃ m, m = 16 - n := ⟨_, rfl⟩
        have hsub : (16 : Int) - (n : Int) = (m : Int) := by omega
        have hm16 : m ≤ 16 := by omega
        have HM := Lib.hid hm; clear hm
        obtain ⟨hl6, hc6⟩ : 9 + n ≤ c6 ∧ c6 ≤ 9223372036854775807 := ⟨i6.le, i6.max⟩
        have I6 := Lib.hid i6; clear i6
        go_wp2_with (with_reducible refine stop_builtin .append ?_)
        refine unpark ?_
        obtain ⟨v7, w7, hr7, o7, g7, o67⟩ := append_noughts (P := Tryz.prog) w6 39 5 3 39 _ Tryz.underlying39 Tryz.underlying3 rfl rfl rfl rfl w.heap.size (.slice (some ⟨g6, 0, none⟩) (9 + n) c6) HD O6.out (by rw [HHL.out]; omega) m (by rw [HHL.out]; omega) B6.out.size
        refine Lib.wpList_append_run w6 rfl _ _ _ _ rfl _ _ rfl rfl v7 w7 hr7 ?_
        have b7 := B6.out.grown g7 B6.out.size (fun k hk => (O6.out.block k hk).1)
        have o7l : (HD ++ List.replicate m 0).length = 25 := by rw [List.length_append, HHL.out, List.length_replicate]; have := HM.out; omega
        clear hr7 g7 O6 I6 B6 y3 X6
        obtain ⟨a7', c7', rfl, i7', -⟩ := own_len o7 o7l
        have hse := Seal_calls i7' (by decide)
        have Hse := Lib.hid hse; clear hse o7 i7' o7l
        have O67 := Lib.hid o67; clear o67
        have B7 := Lib.hid b7; clear b7
        go_wp2_with fail
        refine Hse.out.mono ?_
        rintro e w8 ⟨v8, rfl, o8, k8⟩
        have o68 := O67.out.below k8
        have o8' := o8.mono B7.out.size
        have b8 := B7.out.trans (k8.mono B7.out.size)
        clear O67 B7 Hse k8 o8
        obtain ⟨a68, c68, e68, i68, -⟩ := o68.ints
        injection e68 with e681 e682 e683
        have i68' : Ints w8 .u8 (some ⟨g6, 0, none⟩) (9 + n) c6 HD := by rw [e681, e683]; rw [← HHL.out]; exact i68
        clear i68 e681 e682 e683 o68
        have j4 := i68'.take 4 (by omega)
        rw [HH4.out] at j4
        clear i68'
        have J4 := Lib.hid j4; clear j4
        have O8 := Lib.hid o8'; clear o8'
        have B8 := Lib.hid b8; clear b8
        have h4 : (4 : Int) ≤ (c6 : Int) := by omega
        have hslen : (sealed (HD ++ List.replicate m 0)).length ≤ 28 := by rw [sealed_len, List.length_append, HHL.out, List.length_replicate]; have := HM.out; omega
        have Hslen := Lib.hid hslen; clear hslen
        go_wp2_with (with_reducible refine stop_builtin .append ?_)
        refine unpark ?_
        refine wpList_append_nums byteElem w8 rfl _ _ rfl w.heap.size v8 _ rfl O8.out (some ⟨g6, 0, none⟩) 4 c6 (bytesZ 4 num) rfl J4.out (by have := Hslen.out; omega) B8.out.size ?_
        intro v9 w9 o9 g9' _
        have b9 := B8.out.grown g9' B8.out.size (fun k hk => (O8.out.block k hk).1)
        rw [HM.out, ← HZ.out] at o9
        clear O8 B8 J4 g9'
        have O9 := Lib.hid o9; clear o9
        have B9 := Lib.hid b9; clear b9
        go_wp2
        go_ret
        exact ⟨_, rfl, O9.out, B9.out⟩
      · simp only [List.getD_cons_zero, List.getD_cons_succ]
        go_wp2_with fail
        have kb : Below wa.heap.size wa (wa.alloc (.cells #[.int .u8 (fl : Int)] 5)) := (Below.refl _ _).alloc (Nat.le_refl _) _
        have i9 : Ints (wa.alloc (.cells #[.int .u8 (fl : Int)] 5)) .u8 (some ⟨wa.heap.size, 0, none⟩) 1 1 [(fl : Int)] := ints_alloc [(fl : Int)] rfl rfl (by simp) (fun z hz => by rw [List.mem_singleton] at hz; subst hz; exact Hfw.out)
        generalize wa.alloc (.cells #[.int .u8 (fl : Int)] 5) = wb at i9 kb ⊢
        skip
        obtain ⟨g9, hg9⟩ : ∃ g, g = wa.heap.size := ⟨_, rfl⟩
        rw [← hg9] at i9 ⊢
        clear hg9
        have sb := sa.trans (kb.mono sa.size)
        have i3_ := I3.out.keep kb
        clear I3
        clear kb sa
        have I9 := Lib.hid i9; clear i9
        have I3 := Lib.hid i3_; clear i3_
        refine ⟨sb, ?_⟩
        refine plan_one ?_
        simp only [List.getD_cons_zero, List.getD_cons_succ]
        go_wp2_with fail
        refine (Hby2.out _).mono ?_
        rintro e wc ⟨u7, rfl, o7, kc⟩
        obtain ⟨a7, c7, rfl, i7, -⟩ := own_len o7 (n := 4) (bytes_len _ _)
        clear o7
        have sc := sb.trans (kc.mono sb.size)
        have i3_ := I3.out.keep kc
        clear I3
        have i9_ := I9.out.keep kc
        clear I9
        clear kc sb
        have I7 := Lib.hid i7; clear i7
        have I3 := Lib.hid i3_; clear i3_
        have I9 := Lib.hid i9_; clear i9_
        go_wp2_with fail
        refine ⟨sc, ?_⟩
        have d4 := D1.out.keep sc
        have x4 := (sc.block _ (Array.getElem?_eq_some_iff.1 X1.out).1).trans X1.out
        have b4 := B1.out.trans (sc.mono B1.out.size)
        refine plan_segs (segs_more ?_)
        simp only [List.map_cons, List.map_nil, List.getD_cons_zero, List.getD_cons_succ]
        go_wp2_with fail
        obtain ⟨w5, hw5⟩ : ∃ w5, w5 = wc.alloc (.cells #[.slice a3 4 c3, .slice a7 4 c7, .slice (some ⟨g9, 0, none⟩) 1 1, .slice a n c] 39) := ⟨_, rfl⟩
        have k5 : Below wc.heap.size wc w5 := by rw [hw5]; exact (Below.refl _ _).alloc (Nat.le_refl _) _
        have x5 : w5.heap[wc.heap.size]? = some (.cells #[.slice a3 4 c3, .slice a7 4 c7, .slice (some ⟨g9, 0, none⟩) 1 1, .slice a n c] 39) := by rw [hw5]; exact heap_alloc_new wc _
        rw [← hw5]
        clear hw5
        have hli : Lists w5 .u8 wc.heap.size 4 [bytesZ 4 num, bytesZ 4 first, [(fl : Int)], data] := by
          have j3 := I3.out.keep k5
          have j7 := I7.out.keep k5
          have j9 := I9.out.keep k5
          have jd := d4.keep k5
          refine ⟨rfl, fun j hj => ?_⟩
          match j, hj with
          | 0, _ => exact ⟨a3, c3, by rw [cells_at x5 0]; simp [bytes_len], by simpa [bytes_len] using j3⟩
          | 1, _ => exact ⟨a7, c7, by rw [cells_at x5 1]; simp [bytes_len], by simpa [bytes_len] using j7⟩
          | 2, _ => exact ⟨some ⟨g9, 0, none⟩, 1, by rw [cells_at x5 2]; simp, by simpa using j9⟩
          | 3, _ => exact ⟨a, c, by rw [cells_at x5 3]; simp [← Hn.out], by simpa [← Hn.out] using jd⟩
        have s5 := sc.trans (k5.mono sc.size)
        have hco := Concat_calls hli (by decide) (by unfold total; simp [bytes_len, ← Hn.out]; omega)
        have d5 := d4.keep k5
        have x5' := (k5.block _ (Array.getElem?_eq_some_iff.1 x4).1).trans x4
        have b5 := b4.trans (k5.mono b4.size)
        clear d4 x4 b4 k5 x5 hli I3 I7 I9 sc D1 X1 B1
        obtain ⟨HD, hHD⟩ : ∃ H, H = ([bytesZ 4 num, bytesZ 4 first, [(fl : Int)], data] : List (List Int)).flatten := ⟨_, rfl⟩
        have hHL : HD.length = 9 + n := by rw [hHD]; simp [bytes_len, ← Hn.out]; omega
        have hH4 : HD.take 4 = bytesZ 4 num := by rw [hHD, List.flatten_cons, List.take_append_of_le_length (by simp [bytes_len]), List.take_of_length_le (by simp [bytes_len])]
        have hZ := HZ.out
        rw [← hHD] at hco hZ
        clear HZ hHD
        have HZ := Lib.hid hZ; clear hZ
        have HHL := Lib.hid hHL; clear hHL
        have HH4 := Lib.hid hH4; clear hH4
        have Hco := Lib.hid hco; clear hco
        have X5 := Lib.hid x5'; clear x5'
        have B5 := Lib.hid b5; clear b5
        refine seg_end s5 (segs_more ?_)
        go_wp2_with fail
        refine Hco.out.mono ?_
        rintro e w6 ⟨v6, rfl, o6, k6⟩
        have s6 := s5.trans (k6.mono s5.size)
        have x6 := (k6.block _ (Array.getElem?_eq_some_iff.1 X5.out).1).trans X5.out
        have b6 := B5.out.trans (k6.mono B5.out.size)
        have o6' := o6.mono B5.out.size
        clear k6 X5 B5 Hco s5 d5 o6
        have X6 := Lib.hid x6; clear x6
        have B6 := Lib.hid b6; clear b6
        obtain ⟨g6, c6, rfl, i6⟩ := o6'.ofInts (n := 9 + n) HHL.out (by omega)
        have O6 := Lib.hid o6'; clear o6'
        go_wp2_with fail
        refine seg_end s6 (segs_last ?_)
        clear s6
        have y3 := cells_at X6.out 3
        obtain ⟨m, hm⟩ : ∃ m, m = 16 - n := ⟨_, rfl⟩
        have hsub : (16 : Int) - (n : Int) = (m : Int) := by omega
        have hm16 : m ≤ 16 := by omega
        have HM := Lib.hid hm; clear hm
        obtain ⟨hl6, hc6⟩ : 9 + n ≤ c6 ∧ c6 ≤ 9223372036854775807 := ⟨i6.le, i6.max⟩
        have I6 := Lib.hid i6; clear i6
        go_wp2_with (with_reducible refine stop_builtin .append ?_)
        refine unpark ?_
        obtain ⟨v7, w7, hr7, o7, g7, o67⟩ := append_noughts (P := Tryz.prog) w6 39 5 3 39 _ Tryz.underlying39 Tryz.underlying3 rfl rfl rfl rfl w.heap.size (.slice (some ⟨g6, 0, none⟩) (9 + n) c6) HD O6.out (by rw [HHL.out]; omega) m (by rw [HHL.out]; omega) B6.out.size
        refine Lib.wpList_append_run w6 rfl _ _ _ _ rfl _ _ rfl rfl v7 w7 hr7 ?_
        have b7 := B6.out.grown g7 B6.out.size (fun k hk => (O6.out.block k hk).1)
        have o7l : (HD ++ List.replicate m 0).length = 25 := by rw [List.length_append, HHL.out, List.length_replicate]; have := HM.out; omega
        clear hr7 g7 O6 I6 B6 y3 X6
        obtain ⟨a7', c7', rfl, i7', -⟩ := own_len o7 o7l
        have hse := Seal_calls i7' (by decide)
        have Hse := Lib.hid hse; clear hse o7 i7' o7l
        have O67 := Lib.hid o67; clear o67
        have B7 := Lib.hid b7; clear b7
        go_wp2_with fail
        refine Hse.out.mono ?_
        rintro e w8 ⟨v8, rfl, o8, k8⟩
        have o68 := O67.out.below k8
        have o8' := o8.mono B7.out.size
        have b8 := B7.out.trans (k8.mono B7.out.size)
        clear O67 B7 Hse k8 o8
        obtain ⟨a68, c68, e68, i68, -⟩ := o68.ints
        injection e68 with e681 e682 e683
        have i68' : Ints w8 .u8 (some ⟨g6, 0, none⟩) (9 + n) c6 HD := by rw [e681, e683]; rw [← HHL.out]; exact i68
        clear i68 e681 e682 e683 o68
        have j4 := i68'.take 4 (by omega)
        rw [HH4.out] at j4
        clear i68'
        have J4 := Lib.hid j4; clear j4
        have O8 := Lib.hid o8'; clear o8'
        have B8 := Lib.hid b8; clear b8
        have h4 : (4 : Int) ≤ (c6 : Int) := by omega
        have hslen : (sealed (HD ++ List.replicate m 0)).length ≤ 28 := by rw [sealed_len, List.length_append, HHL.out, List.length_replicate]; have := HM.out; omega
        have Hslen := Lib.hid hslen; clear hslen
        go_wp2_with (with_reducible refine stop_builtin .append ?_)
        refine unpark ?_
        refine wpList_append_nums byteElem w8 rfl _ _ rfl w.heap.size v8 _ rfl O8.out (some ⟨g6, 0, none⟩) 4 c6 (bytesZ 4 num) rfl J4.out (by have := Hslen.out; omega) B8.out.size ?_
        intro v9 w9 o9 g9' _
        have b9 := B8.out.grown g9' B8.out.size (fun k hk => (O8.out.block k hk).1)
        rw [HM.out, ← HZ.out] at o9
        clear O8 B8 J4 g9'
        have O9 := Lib.hid o9; clear o9
        have B9 := Lib.hid b9; clear b9
        go_wp2
        go_ret
        exact ⟨_, rfl, O9.out, B9.out⟩
    · simp only [List.getD_cons_zero, List.getD_cons_succ]
      go_wp2_with fail
      have ka : Below wd.heap.size wd (wd.alloc (.cells #[.int .u8 (fl : Int)] 5)) := (Below.refl _ _).alloc (Nat.le_refl _) _
      have i9 : Ints (wd.alloc (.cells #[.int .u8 (fl : Int)] 5)) .u8 (some ⟨wd.heap.size, 0, none⟩) 1 1 [(fl : Int)] := ints_alloc [(fl : Int)] rfl rfl (by simp) (fun z hz => by rw [List.mem_singleton] at hz; subst hz; exact Hfw.out)
      generalize wd.alloc (.cells #[.int .u8 (fl : Int)] 5) = wa at i9 ka ⊢
      skip
      obtain ⟨g9, hg9⟩ : ∃ g, g = wd.heap.size := ⟨_, rfl⟩
      rw [← hg9] at i9 ⊢
      clear hg9
      have sa := sd.trans (ka.mono sd.size)
      clear ka sd
      have I9 := Lib.hid i9; clear i9
      refine ⟨sa, ?_⟩
      refine plan_one ?_
      simp only [List.getD_cons_zero, List.getD_cons_succ]
      go_wp2_with fail
      refine (Hby1.out _).mono ?_
      rintro e wb ⟨u3, rfl, o3, kb⟩
      obtain ⟨a3, c3, rfl, i3, -⟩ := own_len o3 (n := 4) (bytes_len _ _)
      clear o3
      have sb := sa.trans (kb.mono sa.size)
      have i9_ := I9.out.keep kb
      clear I9
      clear kb sa
      have I3 := Lib.hid i3; clear i3
      have I9 := Lib.hid i9_; clear i9_
      go_wp2_with fail
      refine ⟨sb, ?_⟩
      refine plan_one ?_
      simp only [List.getD_cons_zero, List.getD_cons_succ]
      go_wp2_with fail
      refine (Hby2.out _).mono ?_
      rintro e wc ⟨u7, rfl, o7, kc⟩
      obtain ⟨a7, c7, rfl, i7, -⟩ := own_len o7 (n := 4) (bytes_len _ _)
      clear o7
      have sc := sb.trans (kc.mono sb.size)
      have i9_ := I9.out.keep kc
      clear I9
      have i3_ := I3.out.keep kc
      clear I3
      clear kc sb
      have I7 := Lib.hid i7; clear i7
      have I9 := Lib.hid i9_; clear i9_
      have I3 := Lib.hid i3_; clear i3_
      go_wp2_with fail
      refine ⟨sc, ?_⟩
      have d4 := D1.out.keep sc
      have x4 := (sc.block _ (Array.getElem?_eq_some_iff.1 X1.out).1).trans X1.out
      have b4 := B1.out.trans (sc.mono B1.out.size)
      refine plan_segs (segs_more ?_)
      simp only [List.map_cons, List.map_nil, List.getD_cons_zero, List.getD_cons_succ]
      go_wp2_with fail
      obtain ⟨w5, hw5⟩ : ∃ w5, w5 = wc.alloc (.cells #[.slice a3 4 c3, .slice a7 4 c7, .slice (some ⟨g9, 0, none⟩) 1 1, .slice a n c] 39) := ⟨_, rfl⟩
      have k5 : Below wc.heap.size wc w5 := by rw [hw5]; exact (Below.refl _ _).alloc (Nat.le_refl _) _
      have x5 : w5.heap[wc.heap.size]? = some (.cells #[.slice a3 4 c3, .slice a7 4 c7, .slice (some ⟨g9, 0, none⟩) 1 1, .slice a n c] 39) := by rw [hw5]; exact heap_alloc_new wc _
      rw [← hw5]
      clear hw5
      have hli : Lists w5 .u8 wc.heap.size 4 [bytesZ 4 num, bytesZ 4 first, [(fl : Int)], data] := by
        have j3 := I3.out.keep k5
        have j7 := I7.out.keep k5
        have j9 := I9.out.keep k5
        have jd := d4.keep k5
        refine ⟨rfl, fun j hj => ?_⟩
        match j, hj with
        | 0, _ => exact ⟨a3, c3, by rw [cells_at x5 0]; simp [bytes_len], by simpa [bytes_len] using j3⟩
        | 1, _ => exact ⟨a7, c7, by rw [cells_at x5 1]; simp [bytes_len], by simpa [bytes_len] using j7⟩
        | 2, _ => exact ⟨some ⟨g9, 0, none⟩, 1, by rw [cells_at x5 2]; simp, by simpa using j9⟩
        | 3, _ => exact ⟨a, c, by rw [cells_at x5 3]; simp [← Hn.out], by simpa [← Hn.out] using jd⟩
      have s5 := sc.trans (k5.mono sc.size)
      have hco := Concat_calls hli (by decide) (by unfold total; simp [bytes_len, ← Hn.out]; omega)
      have d5 := d4.keep k5
      have x5' := (k5.block _ (Array.getElem?_eq_some_iff.1 x4).1).trans x4
      have b5 := b4.trans (k5.mono b4.size)
      clear d4 x4 b4 k5 x5 hli I3 I7 I9 sc D1 X1 B1
      obtain ⟨HD, hHD⟩ : ∃ H, H = ([bytesZ 4 num, bytesZ 4 first, [(fl : Int)], data] : List (List Int)).flatten := ⟨_, rfl⟩
      have hHL : HD.length = 9 + n := by rw [hHD]; simp [bytes_len, ← Hn.out]; omega
      have hH4 : HD.take 4 = bytesZ 4 num := by rw [hHD, List.flatten_cons, List.take_append_of_le_length (by simp [bytes_len]), List.take_of_length_le (by simp [bytes_len])]
      have hZ := HZ.out
      rw [← hHD] at hco hZ
      clear HZ hHD
      have HZ := Lib.hid hZ; clear hZ
      have HHL := Lib.hid hHL; clear hHL
      have HH4 := Lib.hid hH4; clear hH4
      have Hco := Lib.hid hco; clear hco
      have X5 := Lib.hid x5'; clear x5'
      have B5 := Lib.hid b5; clear b5
      refine seg_end s5 (segs_more ?_)
      go_wp2_with fail
      refine Hco.out.mono ?_
      rintro e w6 ⟨v6, rfl, o6, k6⟩
      have s6 := s5.trans (k6.mono s5.size)
      have x6 := (k6.block _ (Array.getElem?_eq_some_iff.1 X5.out).1).trans X5.out
      have b6 := B5.out.trans (k6.mono B5.out.size)
      have o6' := o6.mono B5.out.size
      clear k6 X5 B5 Hco s5 d5 o6
      have X6 := Lib.hid x6; clear x6
      have B6 := Lib.hid b6; clear b6
      obtain ⟨g6, c6, rfl, i6⟩ := o6'.ofInts (n := 9 + n) HHL.out (by omega)
      have O6 := Lib.hid o6'; clear o6'
      go_wp2_with fail
      refine seg_end s6 (segs_last ?_)
      clear s6
      have y3 := cells_at X6.out 3
      obtain ⟨m, hm⟩ : ∃ m, m = 16 - n := ⟨_, rfl⟩
      have hsub : (16 : Int) - (n : Int) = (m : Int) := by omega
      have hm16 : m ≤ 16 := by omega
      have HM := Lib.hid hm; clear hm
      obtain ⟨hl6, hc6⟩ : 9 + n ≤ c6 ∧ c6 ≤ 9223372036854775807 := ⟨i6.le, i6.max⟩
      have I6 := Lib.hid i6; clear i6
      go_wp2_with (with_reducible refine stop_builtin .append ?_)
      refine unpark ?_
      obtain ⟨v7, w7, hr7, o7, g7, o67⟩ := append_noughts (P := Tryz.prog) w6 39 5 3 39 _ Tryz.underlying39 Tryz.underlying3 rfl rfl rfl rfl w.heap.size (.slice (some ⟨g6, 0, none⟩) (9 + n) c6) HD O6.out (by rw [HHL.out]; omega) m (by rw [HHL.out]; omega) B6.out.size
      refine Lib.wpList_append_run w6 rfl _ _ _ _ rfl _ _ rfl rfl v7 w7 hr7 ?_
      have b7 := B6.out.grown g7 B6.out.size (fun k hk => (O6.out.block k hk).1)
      have o7l : (HD ++ List.replicate m 0).length = 25 := by rw [List.length_append, HHL.out, List.length_replicate]; have := HM.out; omega
      clear hr7 g7 O6 I6 B6 y3 X6
      obtain ⟨a7', c7', rfl, i7', -⟩ := own_len o7 o7l
      have hse := Seal_calls i7' (by decide)
      have Hse := Lib.hid hse; clear hse o7 i7' o7l
      have O67 := Lib.hid o67; clear o67
      have B7 := Lib.hid b7; clear b7
      go_wp2_with fail
      refine Hse.out.mono ?_
      rintro e w8 ⟨v8, rfl, o8, k8⟩
      have o68 := O67.out.below k8
      have o8' := o8.mono B7.out.size
      have b8 := B7.out.trans (k8.mono B7.out.size)
      clear O67 B7 Hse k8 o8
      obtain ⟨a68, c68, e68, i68, -⟩ := o68.ints
      injection e68 with e681 e682 e683
      have i68' : Ints w8 .u8 (some ⟨g6, 0, none⟩) (9 + n) c6 HD := by rw [e681, e683]; rw [← HHL.out]; exact i68
      clear i68 e681 e682 e683 o68
      have j4 := i68'.take 4 (by omega)
      rw [HH4.out] at j4
      clear i68'
      have J4 := Lib.hid j4; clear j4
      have O8 := Lib.hid o8'; clear o8'
      have B8 := Lib.hid b8; clear b8
      have h4 : (4 : Int) ≤ (c6 : Int) := by omega
      have hslen : (sealed (HD ++ List.replicate m 0)).length ≤ 28 := by rw [sealed_len, List.length_append, HHL.out, List.length_replicate]; have := HM.out; omega
      have Hslen := Lib.hid hslen; clear hslen
      go_wp2_with (with_reducible refine stop_builtin .append ?_)
      refine unpark ?_
      refine wpList_append_nums byteElem w8 rfl _ _ rfl w.heap.size v8 _ rfl O8.out (some ⟨g6, 0, none⟩) 4 c6 (bytesZ 4 num) rfl J4.out (by have := Hslen.out; omega) B8.out.size ?_
      intro v9 w9 o9 g9' _
      have b9 := B8.out.grown g9' B8.out.size (fun k hk => (O8.out.block k hk).1)
      rw [HM.out, ← HZ.out] at o9
      clear O8 B8 J4 g9'
      have O9 := Lib.hid o9; clear o9
      have B9 := Lib.hid b9; clear b9
      go_wp2
      go_ret
      exact ⟨_, rfl, O9.out, B9.out⟩
  | false =>
    have hfe : n = fl := by rw [hfl']; simp
    clear hfl'
    subst hfe
    go_enter Tryz.func61, Tryz.ntmps61
    go_wp2_with fail
    rw [← hw1]
    clear hw1
    have sd := below_drew w1
    refine wp_region_plan (fun w' => Below w1.heap.size w1 w') (.pre [0, 1, 4, 5, 8, 10, 11] (.yld 2 (.yld 6 (.two 3 (.two 7 (.one 9 (.segs [[12], [13], [14]])) 9 (.one 7 (.segs [[12], [13], [14]]))) 9 (.one 3 (.one 7 (.segs [[12], [13], [14]]))))))) (by kernel_rfl) (by kernel_rfl) rfl (by kernel_rfl) (fun _ _ _ h => by obtain ⟨_, _, h, _⟩ := h; cases h) (fun _ _ h => by obtain ⟨_, h, _⟩ := h; cases h) sd ?_
    generalize w1.drew = wd at sd ⊢
    refine plan_pre (by kernel_rfl) ?_
    apply Exists.intro
    apply And.intro
    · intro w' s
      have x5 := (s.block _ (Array.getElem?_eq_some_iff.1 X1.out).1).trans X1.out
      have z0 := cells_at x5 0
      have z1 := cells_at x5 1
      have z3 := cells_at x5 3
      clear s x5
      simp only [List.map_cons, List.map_nil, List.getD_cons_zero, List.getD_cons_succ]
      go_wp2_with fail
      exact pre_end
    refine yld_at (.int .u64 (num : Int)) rfl (fun w2 _ => (congrArg (fun z => Result.ok (Next.value (.int .u64 z)) w2) hu1)) ?_
    refine yld_at (.int .u64 (first : Int)) rfl (fun w2 _ => (congrArg (fun z => Result.ok (Next.value (.int .u64 z)) w2) hu2)) ?_
    refine plan_two ?_ ?_
    · simp only [List.getD_cons_zero, List.getD_cons_succ]
      go_wp2_with fail
      refine (Hby1.out _).mono ?_
      rintro e wa ⟨u3, rfl, o3, ka⟩
      obtain ⟨a3, c3, rfl, i3, -⟩ := own_len o3 (n := 4) (bytes_len _ _)
      clear o3
      have sa := sd.trans (ka.mono sd.size)
      clear ka sd
      have I3 := Lib.hid i3; clear i3
      go_wp2_with fail
      refine ⟨sa, ?_⟩
      refine plan_two ?_ ?_
      · simp only [List.getD_cons_zero, List.getD_cons_succ]
        go_wp2_with fail
        refine (Hby2.out _).mono ?_
        rintro e wb ⟨u7, rfl, o7, kb⟩
        obtain ⟨a7, c7, rfl, i7, -⟩ := own_len o7 (n := 4) (bytes_len _ _)
        clear o7
        have sb := sa.trans (kb.mono sa.size)
        have i3_ := I3.out.keep kb
        clear I3
        clear kb sa
        have I7 := Lib.hid i7; clear i7
        have I3 := Lib.hid i3_; clear i3_
        go_wp2_with fail
        refine ⟨sb, ?_⟩
        refine plan_one ?_
        simp only [List.getD_cons_zero, List.getD_cons_succ]
        go_wp2_with fail
        have kc : Below wb.heap.size wb (wb.alloc (.cells #[.int .u8 (n : Int)] 5)) := (Below.refl _ _).alloc (Nat.le_refl _) _
        have i9 : Ints (wb.alloc (.cells #[.int .u8 (n : Int)] 5)) .u8 (some ⟨wb.heap.size, 0, none⟩) 1 1 [(n : Int)] := ints_alloc [(n : Int)] rfl rfl (by simp) (fun z hz => by rw [List.mem_singleton] at hz; subst hz; exact Hfw.out)
        generalize wb.alloc (.cells #[.int .u8 (n : Int)] 5) = wc at i9 kc ⊢
        skip
        obtain ⟨g9, hg9⟩ : ∃ g, g = wb.heap.size := ⟨_, rfl⟩
        rw [← hg9] at i9 ⊢
        clear hg9
        have sc := sb.trans (kc.mono sb.size)
        have i3_ := I3.out.keep kc
        clear I3
        have i7_ := I7.out.keep kc
        clear I7
        clear kc sb
        have I9 := Lib.hid i9; clear i9
        have I3 := Lib.hid i3_; clear i3_
        have I7 := Lib.hid i7_; clear i7_
        refine ⟨sc, ?_⟩
        have d4 := D1.out.keep sc
        have x4 := (sc.block _ (Array.getElem?_eq_some_iff.1 X1.out).1).trans X1.out
        have b4 := B1.out.trans (sc.mono B1.out.size)
        refine plan_segs (segs_more ?_)
        simp only [List.map_cons, List.map_nil, List.getD_cons_zero, List.getD_cons_succ]
        go_wp2_with fail
        obtain ⟨w5, hw5⟩ : ∃ w5, w5 = wc.alloc (.cells #[.slice a3 4 c3, .slice a7 4 c7, .slice (some ⟨g9, 0, none⟩) 1 1, .slice a n c] 39) := ⟨_, rfl⟩
        have k5 : Below wc.heap.size wc w5 := by rw [hw5]; exact (Below.refl _ _).alloc (Nat.le_refl _) _
        have x5 : w5.heap[wc.heap.size]? = some (.cells #[.slice a3 4 c3, .slice a7 4 c7, .slice (some ⟨g9, 0, none⟩) 1 1, .slice a n c] 39) := by rw [hw5]; exact heap_alloc_new wc _
        rw [← hw5]
        clear hw5
        have hli : Lists w5 .u8 wc.heap.size 4 [bytesZ 4 num, bytesZ 4 first, [(n : Int)], data] := by
          have j3 := I3.out.keep k5
          have j7 := I7.out.keep k5
          have j9 := I9.out.keep k5
          have jd := d4.keep k5
          refine ⟨rfl, fun j hj => ?_⟩
          match j, hj with
          | 0, _ => exact ⟨a3, c3, by rw [cells_at x5 0]; simp [bytes_len], by simpa [bytes_len] using j3⟩
          | 1, _ => exact ⟨a7, c7, by rw [cells_at x5 1]; simp [bytes_len], by simpa [bytes_len] using j7⟩
          | 2, _ => exact ⟨some ⟨g9, 0, none⟩, 1, by rw [cells_at x5 2]; simp, by simpa using j9⟩
          | 3, _ => exact ⟨a, c, by rw [cells_at x5 3]; simp [← Hn.out], by simpa [← Hn.out] using jd⟩
        have s5 := sc.trans (k5.mono sc.size)
        have hco := Concat_calls hli (by decide) (by unfold total; simp [bytes_len, ← Hn.out]; omega)
        have d5 := d4.keep k5
        have x5' := (k5.block _ (Array.getElem?_eq_some_iff.1 x4).1).trans x4
        have b5 := b4.trans (k5.mono b4.size)
        clear d4 x4 b4 k5 x5 hli I3 I7 I9 sc D1 X1 B1
        obtain ⟨HD, hHD⟩ : ∃ H, H = ([bytesZ 4 num, bytesZ 4 first, [(n : Int)], data] : List (List Int)).flatten := ⟨_, rfl⟩
        have hHL : HD.length = 9 + n := by rw [hHD]; simp [bytes_len, ← Hn.out]; omega
        have hH4 : HD.take 4 = bytesZ 4 num := by rw [hHD, List.flatten_cons, List.take_append_of_le_length (by simp [bytes_len]), List.take_of_length_le (by simp [bytes_len])]
        have hZ := HZ.out
        rw [← hHD] at hco hZ
        clear HZ hHD
        have HZ := Lib.hid hZ; clear hZ
        have HHL := Lib.hid hHL; clear hHL
        have HH4 := Lib.hid hH4; clear hH4
        have Hco := Lib.hid hco; clear hco
        have X5 := Lib.hid x5'; clear x5'
        have B5 := Lib.hid b5; clear b5
        refine seg_end s5 (segs_more ?_)
        go_wp2_with fail
        refine Hco.out.mono ?_
        rintro e w6 ⟨v6, rfl, o6, k6⟩
        have s6 := s5.trans (k6.mono s5.size)
        have x6 := (k6.block _ (Array.getElem?_eq_some_iff.1 X5.out).1).trans X5.out
        have b6 := B5.out.trans (k6.mono B5.out.size)
        have o6' := o6.mono B5.out.size
        clear k6 X5 B5 Hco s5 d5 o6
        have X6 := Lib.hid x6; clear x6
        have B6 := Lib.hid b6; clear b6
        obtain ⟨g6, c6, rfl, i6⟩ := o6'.ofInts (n := 9 + n) HHL.out (by omega)
        have O6 := Lib.hid o6'; clear o6'
        go_wp2_with fail
        refine seg_end s6 (segs_last ?_)
        clear s6
        have y3 := cells_at X6.out 3
        obtain ⟨m, hm⟩ : ∃ m, m = 16 - n := ⟨_, rfl⟩
        have hsub : (16 : Int) - (n : Int) = (m : Int) := by omega
        have hm16 : m ≤ 16 := by omega
        have HM := Lib.hid hm; clear hm
        obtain ⟨hl6, hc6⟩ : 9 + n ≤ c6 ∧ c6 ≤ 9223372036854775807 := ⟨i6.le, i6.max⟩
        have I6 := Lib.hid i6; clear i6
        go_wp2_with (with_reducible refine stop_builtin .append ?_)
        refine unpark ?_
        obtain ⟨v7, w7, hr7, o7, g7, o67⟩ := append_noughts (P := Tryz.prog) w6 39 5 3 39 _ Tryz.underlying39 Tryz.underlying3 rfl rfl rfl rfl w.heap.size (.slice (some ⟨g6, 0, none⟩) (9 + n) c6) HD O6.out (by rw [HHL.out]; omega) m (by rw [HHL.out]; omega) B6.out.size
        refine Lib.wpList_append_run w6 rfl _ _ _ _ rfl _ _ rfl rfl v7 w7 hr7 ?_
        have b7 := B6.out.grown g7 B6.out.size (fun k hk => (O6.out.block k hk).1)
        have o7l : (HD ++ List.replicate m 0).length = 25 := by rw [List.length_append, HHL.out, List.length_replicate]; have := HM.out; omega
        clear hr7 g7 O6 I6 B6 y3 X6
        obtain ⟨a7', c7', rfl, i7', -⟩ := own_len o7 o7l
        have hse := Seal_calls i7' (by decide)
        have Hse := Lib.hid hse; clear hse o7 i7' o7l
        have O67 := Lib.hid o67; clear o67
        have B7 := Lib.hid b7; clear b7
        go_wp2_with fail
        refine Hse.out.mono ?_
        rintro e w8 ⟨v8, rfl, o8, k8⟩
        have o68 := O67.out.below k8
        have o8' := o8.mono B7.out.size
        have b8 := B7.out.trans (k8.mono B7.out.size)
        clear O67 B7 Hse k8 o8
        obtain ⟨a68, c68, e68, i68, -⟩ := o68.ints
        injection e68 with e681 e682 e683
        have i68' : Ints w8 .u8 (some ⟨g6, 0, none⟩) (9 + n) c6 HD := by rw [e681, e683]; rw [← HHL.out]; exact i68
        clear i68 e681 e682 e683 o68
        have j4 := i68'.take 4 (by omega)
        rw [HH4.out] at j4
        clear i68'
        have J4 := Lib.hid j4; clear j4
        have O8 := Lib.hid o8'; clear o8'
        have B8 := Lib.hid b8; clear b8
        have h4 : (4 : Int) ≤ (c6 : Int) := by omega
        have hslen : (sealed (HD ++ List.replicate m 0)).length ≤ 28 := by rw [sealed_len, List.length_append, HHL.out, List.length_replicate]; have := HM.out; omega
        have Hslen := Lib.hid hslen; clear hslen
        go_wp2_with (with_reducible refine stop_builtin .append ?_)
        refine unpark ?_
        refine wpList_append_nums byteElem w8 rfl _ _ rfl w.heap.size v8 _ rfl O8.out (some ⟨g6, 0, none⟩) 4 c6 (bytesZ 4 num) rfl J4.out (by have := Hslen.out; omega) B8.out.size ?_
        intro v9 w9 o9 g9' _
        have b9 := B8.out.grown g9' B8.out.size (fun k hk => (O8.out.block k hk).1)
        rw [HM.out, ← HZ.out] at o9
        clear O8 B8 J4 g9'
        have O9 := Lib.hid o9; clear o9
        have B9 := Lib.hid b9; clear b9
        go_wp2
        go_ret
        exact ⟨_, rfl, O9.out, B9.out⟩
      · simp only [List.getD_cons_zero, List.getD_cons_succ]
        go_wp2_with fail
        have kb : Below wa.heap.size wa (wa.alloc (.cells #[.int .u8 (n : Int)] 5)) := (Below.refl _ _).alloc (Nat.le_refl _) _
        have i9 : Ints (wa.alloc (.cells #[.int .u8 (n : Int)] 5)) .u8 (some ⟨wa.heap.size, 0, none⟩) 1 1 [(n : Int)] := ints_alloc [(n : Int)] rfl rfl (by simp) (fun z hz => by rw [List.mem_singleton] at hz; subst hz; exact Hfw.out)
        generalize wa.alloc (.cells #[.int .u8 (n : Int)] 5) = wb at i9 kb ⊢
        skip
        obtain ⟨g9, hg9⟩ : ∃ g, g = wa.heap.size := ⟨_, rfl⟩
        rw [← hg9] at i9 ⊢
        clear hg9
        have sb := sa.trans (kb.mono sa.size)
        have i3_ := I3.out.keep kb
        clear I3
        clear kb sa
        have I9 := Lib.hid i9; clear i9
        have I3 := Lib.hid i3_; clear i3_
        refine ⟨sb, ?_⟩
        refine plan_one ?_
        simp only [List.getD_cons_zero, List.getD_cons_succ]
        go_wp2_with fail
        refine (Hby2.out _).mono ?_
        rintro e wc ⟨u7, rfl, o7, kc⟩
        obtain ⟨a7, c7, rfl, i7, -⟩ := own_len o7 (n := 4) (bytes_len _ _)
        clear o7
        have sc := sb.trans (kc.mono sb.size)
        have i3_ := I3.out.keep kc
        clear I3
        have i9_ := I9.out.keep kc
        clear I9
        clear kc sb
        have I7 := Lib.hid i7; clear i7
        have I3 := Lib.hid i3_; clear i3_
        have I9 := Lib.hid i9_; clear i9_
        go_wp2_with fail
        refine ⟨sc, ?_⟩
        have d4 := D1.out.keep sc
        have x4 := (sc.block _ (Array.getElem?_eq_some_iff.1 X1.out).1).trans X1.out
        have b4 := B1.out.trans (sc.mono B1.out.size)
        refine plan_segs (segs_more ?_)
        simp only [List.map_cons, List.map_nil, List.getD_cons_zero, List.getD_cons_succ]
        go_wp2_with fail
        obtain ⟨w5, hw5⟩ : ∃ w5, w5 = wc.alloc (.cells #[.slice a3 4 c3, .slice a7 4 c7, .slice (some ⟨g9, 0, none⟩) 1 1, .slice a n c] 39) := ⟨_, rfl⟩
        have k5 : Below wc.heap.size wc w5 := by rw [hw5]; exact (Below.refl _ _).alloc (Nat.le_refl _) _
        have x5 : w5.heap[wc.heap.size]? = some (.cells #[.slice a3 4 c3, .slice a7 4 c7, .slice (some ⟨g9, 0, none⟩) 1 1, .slice a n c] 39) := by rw [hw5]; exact heap_alloc_new wc _
        rw [← hw5]
        clear hw5
        have hli : Lists w5 .u8 wc.heap.size 4 [bytesZ 4 num, bytesZ 4 first, [(n : Int)], data] := by
          have j3 := I3.out.keep k5
          have j7 := I7.out.keep k5
          have j9 := I9.out.keep k5
          have jd := d4.keep k5
          refine ⟨rfl, fun j hj => ?_⟩
          match j, hj with
          | 0, _ => exact ⟨a3, c3, by rw [cells_at x5 0]; simp [bytes_len], by simpa [bytes_len] using j3⟩
          | 1, _ => exact ⟨a7, c7, by rw [cells_at x5 1]; simp [bytes_len], by simpa [bytes_len] using j7⟩
          | 2, _ => exact ⟨some ⟨g9, 0, none⟩, 1, by rw [cells_at x5 2]; simp, by simpa using j9⟩
          | 3, _ => exact ⟨a, c, by rw [cells_at x5 3]; simp [← Hn.out], by simpa [← Hn.out] using jd⟩
        have s5 := sc.trans (k5.mono sc.size)
        have hco := Concat_calls hli (by decide) (by unfold total; simp [bytes_len, ← Hn.out]; omega)
        have d5 := d4.keep k5
        have x5' := (k5.block _ (Array.getElem?_eq_some_iff.1 x4).1).trans x4
        have b5 := b4.trans (k5.mono b4.size)
        clear d4 x4 b4 k5 x5 hli I3 I7 I9 sc D1 X1 B1
        obtain ⟨HD, hHD⟩ : ∃ H, H = ([bytesZ 4 num, bytesZ 4 first, [(n : Int)], data] : List (List Int)).flatten := ⟨_, rfl⟩
        have hHL : HD.length = 9 + n := by rw [hHD]; simp [bytes_len, ← Hn.out]; omega
        have hH4 : HD.take 4 = bytesZ 4 num := by rw [hHD, List.flatten_cons, List.take_append_of_le_length (by simp [bytes_len]), List.take_of_length_le (by simp [bytes_len])]
        have hZ := HZ.out
        rw [← hHD] at hco hZ
        clear HZ hHD
        have HZ := Lib.hid hZ; clear hZ
        have HHL := Lib.hid hHL; clear hHL
        have HH4 := Lib.hid hH4; clear hH4
        have Hco := Lib.hid hco; clear hco
        have X5 := Lib.hid x5'; clear x5'
        have B5 := Lib.hid b5; clear b5
        refine seg_end s5 (segs_more ?_)
        go_wp2_with fail
        refine Hco.out.mono ?_
        rintro e w6 ⟨v6, rfl, o6, k6⟩
        have s6 := s5.trans (k6.mono s5.size)
        have x6 := (k6.block _ (Array.getElem?_eq_some_iff.1 X5.out).1).trans X5.out
        have b6 := B5.out.trans (k6.mono B5.out.size)
        have o6' := o6.mono B5.out.size
        clear k6 X5 B5 Hco s5 d5 o6
        have X6 := Lib.hid x6; clear x6
        have B6 := Lib.hid b6; clear b6
        obtain ⟨g6, c6, rfl, i6⟩ := o6'.ofInts (n := 9 + n) HHL.out (by omega)
        have O6 := Lib.hid o6'; clear o6'
        go_wp2_with fail
        refine seg_end s6 (segs_last ?_)
        clear s6
        have y3 := cells_at X6.out 3
        obtain ⟨m, hm⟩ : ∃ m, m = 16 - n := ⟨_, rfl⟩
        have hsub : (16 : Int) - (n : Int) = (m : Int) := by omega
        have hm16 : m ≤ 16 := by omega
        have HM := Lib.hid hm; clear hm
        obtain ⟨hl6, hc6⟩ : 9 + n ≤ c6 ∧ c6 ≤ 9223372036854775807 := ⟨i6.le, i6.max⟩
        have I6 := Lib.hid i6; clear i6
        go_wp2_with (with_reducible refine stop_builtin .append ?_)
        refine unpark ?_
        obtain ⟨v7, w7, hr7, o7, g7, o67⟩ := append_noughts (P := Tryz.prog) w6 39 5 3 39 _ Tryz.underlying39 Tryz.underlying3 rfl rfl rfl rfl w.heap.size (.slice (some ⟨g6, 0, none⟩) (9 + n) c6) HD O6.out (by rw [HHL.out]; omega) m (by rw [HHL.out]; omega) B6.out.size
        refine Lib.wpList_append_run w6 rfl _ _ _ _ rfl _ _ rfl rfl v7 w7 hr7 ?_
        have b7 := B6.out.grown g7 B6.out.size (fun k hk => (O6.out.block k hk).1)
        have o7l : (HD ++ List.replicate m 0).length = 25 := by rw [List.length_append, HHL.out, List.length_replicate]; have := HM.out; omega
        clear hr7 g7 O6 I6 B6 y3 X6
        obtain ⟨a7', c7', rfl, i7', -⟩ := own_len o7 o7l
        have hse := Seal_calls i7' (by decide)
        have Hse := Lib.hid hse; clear hse o7 i7' o7l
        have O67 := Lib.hid o67; clear o67
        have B7 := Lib.hid b7; clear b7
        go_wp2_with fail
        refine Hse.out.mono ?_
        rintro e w8 ⟨v8, rfl, o8, k8⟩
        have o68 := O67.out.below k8
        have o8' := o8.mono B7.out.size
        have b8 := B7.out.trans (k8.mono B7.out.size)
        clear O67 B7 Hse k8 o8
        obtain ⟨a68, c68, e68, i68, -⟩ := o68.ints
        injection e68 with e681 e682 e683
        have i68' : Ints w8 .u8 (some ⟨g6, 0, none⟩) (9 + n) c6 HD := by rw [e681, e683]; rw [← HHL.out]; exact i68
        clear i68 e681 e682 e683 o68
        have j4 := i68'.take 4 (by omega)
        rw [HH4.out] at j4
        clear i68'
        have J4 := Lib.hid j4; clear j4
        have O8 := Lib.hid o8'; clear o8'
        have B8 := Lib.hid b8; clear b8
        have h4 : (4 : Int) ≤ (c6 : Int) := by omega
        have hslen : (sealed (HD ++ List.replicate m 0)).length ≤ 28 := by rw [sealed_len, List.length_append, HHL.out, List.length_replicate]; have := HM.out; omega
        have Hslen := Lib.hid hslen; clear hslen
        go_wp2_with (with_reducible refine stop_builtin .append ?_)
        refine unpark ?_
        refine wpList_append_nums byteElem w8 rfl _ _ rfl w.heap.size v8 _ rfl O8.out (some ⟨g6, 0, none⟩) 4 c6 (bytesZ 4 num) rfl J4.out (by have := Hslen.out; omega) B8.out.size ?_
        intro v9 w9 o9 g9' _
        have b9 := B8.out.grown g9' B8.out.size (fun k hk => (O8.out.block k hk).1)
        rw [HM.out, ← HZ.out] at o9
        clear O8 B8 J4 g9'
        have O9 := Lib.hid o9; clear o9
        have B9 := Lib.hid b9; clear b9
        go_wp2
        go_ret
        exact ⟨_, rfl, O9.out, B9.out⟩
    · simp only [List.getD_cons_zero, List.getD_cons_succ]
      go_wp2_with fail
      have ka : Below wd.heap.size wd (wd.alloc (.cells #[.int .u8 (n : Int)] 5)) := (Below.refl _ _).alloc (Nat.le_refl _) _
      have i9 : Ints (wd.alloc (.cells #[.int .u8 (n : Int)] 5)) .u8 (some ⟨wd.heap.size, 0, none⟩) 1 1 [(n : Int)] := ints_alloc [(n : Int)] rfl rfl (by simp) (fun z hz => by rw [List.mem_singleton] at hz; subst hz; exact Hfw.out)
      generalize wd.alloc (.cells #[.int .u8 (n : Int)] 5) = wa at i9 ka ⊢
      skip
      obtain ⟨g9, hg9⟩ : ∃ g, g = wd.heap.size := ⟨_, rfl⟩
      rw [← hg9] at i9 ⊢
      clear hg9
      have sa := sd.trans (ka.mono sd.size)
      clear ka sd
      have I9 := Lib.hid i9; clear i9
      refine ⟨sa, ?_⟩
      refine plan_one ?_
      simp only [List.getD_cons_zero, List.getD_cons_succ]
      go_wp2_with fail
      refine (Hby1.out _).mono ?_
      rintro e wb ⟨u3, rfl, o3, kb⟩
      obtain ⟨a3, c3, rfl, i3, -⟩ := own_len o3 (n := 4) (bytes_len _ _)
      clear o3
      have sb := sa.trans (kb.mono sa.size)
      have i9_ := I9.out.keep kb
      clear I9
      clear kb sa
      have I3 := Lib.hid i3; clear i3
      have I9 := Lib.hid i9_; clear i9_
      go_wp2_with fail
      refine ⟨sb, ?_⟩
      refine plan_one ?_
      simp only [List.getD_cons_zero, List.getD_cons_succ]
      go_wp2_with fail
      refine (Hby2.out _).mono ?_
      rintro e wc ⟨u7, rfl, o7, kc⟩
      obtain ⟨a7, c7, rfl, i7, -⟩ := own_len o7 (n := 4) (bytes_len _ _)
      clear o7
      have sc := sb.trans (kc.mono sb.size)
      have i9_ := I9.out.keep kc
      clear I9
      have i3_ := I3.out.keep kc
      clear I3
      clear kc sb
      have I7 := Lib.hid i7; clear i7
      have I9 := Lib.hid i9_; clear i9_
      have I3 := Lib.hid i3_; clear i3_
      go_wp2_with fail
      refine ⟨sc, ?_⟩
      have d4 := D1.out.keep sc
      have x4 := (sc.block _ (Array.getElem?_eq_some_iff.1 X1.out).1).trans X1.out
      have b4 := B1.out.trans (sc.mono B1.out.size)
      refine plan_segs (segs_more ?_)
      simp only [List.map_cons, List.map_nil, List.getD_cons_zero, List.getD_cons_succ]
      go_wp2_with fail
      obtain ⟨w5, hw5⟩ : ∃ w5, w5 = wc.alloc (.cells #[.slice a3 4 c3, .slice a7 4 c7, .slice (some ⟨g9, 0, none⟩) 1 1, .slice a n c] 39) := ⟨_, rfl⟩
      have k5 : Below wc.heap.size wc w5 := by rw [hw5]; exact (Below.refl _ _).alloc (Nat.le_refl _) _
      have x5 : w5.heap[wc.heap.size]? = some (.cells #[.slice a3 4 c3, .slice a7 4 c7, .slice (some ⟨g9, 0, none⟩) 1 1, .slice a n c] 39) := by rw [hw5]; exact heap_alloc_new wc _
      rw [← hw5]
      clear hw5
      have hli : Lists w5 .u8 wc.heap.size 4 [bytesZ 4 num, bytesZ 4 first, [(n : Int)], data] := by
        have j3 := I3.out.keep k5
        have j7 := I7.out.keep k5
        have j9 := I9.out.keep k5
        have jd := d4.keep k5
        refine ⟨rfl, fun j hj => ?_⟩
        match j, hj with
        | 0, _ => exact ⟨a3, c3, by rw [cells_at x5 0]; simp [bytes_len], by simpa [bytes_len] using j3⟩
        | 1, _ => exact ⟨a7, c7, by rw [cells_at x5 1]; simp [bytes_len], by simpa [bytes_len] using j7⟩
        | 2, _ => exact ⟨some ⟨g9, 0, none⟩, 1, by rw [cells_at x5 2]; simp, by simpa using j9⟩
        | 3, _ => exact ⟨a, c, by rw [cells_at x5 3]; simp [← Hn.out], by simpa [← Hn.out] using jd⟩
      have s5 := sc.trans (k5.mono sc.size)
      have hco := Concat_calls hli (by decide) (by unfold total; simp [bytes_len, ← Hn.out]; omega)
      have d5 := d4.keep k5
      have x5' := (k5.block _ (Array.getElem?_eq_some_iff.1 x4).1).trans x4
      have b5 := b4.trans (k5.mono b4.size)
      clear d4 x4 b4 k5 x5 hli I3 I7 I9 sc D1 X1 B1
      obtain ⟨HD, hHD⟩ : ∃ H, H = ([bytesZ 4 num, bytesZ 4 first, [(n : Int)], data] : List (List Int)).flatten := ⟨_, rfl⟩
      have hHL : HD.length = 9 + n := by rw [hHD]; simp [bytes_len, ← Hn.out]; omega
      have hH4 : HD.take 4 = bytesZ 4 num := by rw [hHD, List.flatten_cons, List.take_append_of_le_length (by simp [bytes_len]), List.take_of_length_le (by simp [bytes_len])]
      have hZ := HZ.out
      rw [← hHD] at hco hZ
      clear HZ hHD
      have HZ := Lib.hid hZ; clear hZ
      have HHL := Lib.hid hHL; clear hHL
      have HH4 := Lib.hid hH4; clear hH4
      have Hco := Lib.hid hco; clear hco
      have X5 := Lib.hid x5'; clear x5'
      have B5 := Lib.hid b5; clear b5
      refine seg_end s5 (segs_more ?_)
      go_wp2_with fail
      refine Hco.out.mono ?_
      rintro e w6 ⟨v6, rfl, o6, k6⟩
      have s6 := s5.trans (k6.mono s5.size)
      have x6 := (k6.block _ (Array.getElem?_eq_some_iff.1 X5.out).1).trans X5.out
      have b6 := B5.out.trans (k6.mono B5.out.size)
      have o6' := o6.mono B5.out.size
      clear k6 X5 B5 Hco s5 d5 o6
      have X6 := Lib.hid x6; clear x6
      have B6 := Lib.hid b6; clear b6
      obtain ⟨g6, c6, rfl, i6⟩ := o6'.ofInts (n := 9 + n) HHL.out (by omega)
      have O6 := Lib.hid o6'; clear o6'
      go_wp2_with fail
      refine seg_end s6 (segs_last ?_)
      clear s6
      have y3 := cells_at X6.out 3
      obtain ⟨m, hm⟩ : ∃ m, m = 16 - n := ⟨_, rfl⟩
      have hsub : (16 : Int) - (n : Int) = (m : Int) := by omega
      have hm16 : m ≤ 16 := by omega
      have HM := Lib.hid hm; clear hm
      obtain ⟨hl6, hc6⟩ : 9 + n ≤ c6 ∧ c6 ≤ 9223372036854775807 := ⟨i6.le, i6.max⟩
      have I6 := Lib.hid i6; clear i6
      go_wp2_with (with_reducible refine stop_builtin .append ?_)
      refine unpark ?_
      obtain ⟨v7, w7, hr7, o7, g7, o67⟩ := append_noughts (P := Tryz.prog) w6 39 5 3 39 _ Tryz.underlying39 Tryz.underlying3 rfl rfl rfl rfl w.heap.size (.slice (some ⟨g6, 0, none⟩) (9 + n) c6) HD O6.out (by rw [HHL.out]; omega) m (by rw [HHL.out]; omega) B6.out.size
      refine Lib.wpList_append_run w6 rfl _ _ _ _ rfl _ _ rfl rfl v7 w7 hr7 ?_
      have b7 := B6.out.grown g7 B6.out.size (fun k hk => (O6.out.block k hk).1)
      have o7l : (HD ++ List.replicate m 0).length = 25 := by rw [List.length_append, HHL.out, List.length_replicate]; have := HM.out; omega
      clear hr7 g7 O6 I6 B6 y3 X6
      obtain ⟨a7', c7', rfl, i7', -⟩ := own_len o7 o7l
      have hse := Seal_calls i7' (by decide)
      have Hse := Lib.hid hse; clear hse o7 i7' o7l
      have O67 := Lib.hid o67; clear o67
      have B7 := Lib.hid b7; clear b7
      go_wp2_with fail
      refine Hse.out.mono ?_
      rintro e w8 ⟨v8, rfl, o8, k8⟩
      have o68 := O67.out.below k8
      have o8' := o8.mono B7.out.size
      have b8 := B7.out.trans (k8.mono B7.out.size)
      clear O67 B7 Hse k8 o8
      obtain ⟨a68, c68, e68, i68, -⟩ := o68.ints
      injection e68 with e681 e682 e683
      have i68' : Ints w8 .u8 (some ⟨g6, 0, none⟩) (9 + n) c6 HD := by rw [e681, e683]; rw [← HHL.out]; exact i68
      clear i68 e681 e682 e683 o68
      have j4 := i68'.take 4 (by omega)
      rw [HH4.out] at j4
      clear i68'
      have J4 := Lib.hid j4; clear j4
      have O8 := Lib.hid o8'; clear o8'
      have B8 := Lib.hid b8; clear b8
      have h4 : (4 : Int) ≤ (c6 : Int) := by omega
      have hslen : (sealed (HD ++ List.replicate m 0)).length ≤ 28 := by rw [sealed_len, List.length_append, HHL.out, List.length_replicate]; have := HM.out; omega
      have Hslen := Lib.hid hslen; clear hslen
      go_wp2_with (with_reducible refine stop_builtin .append ?_)
      refine unpark ?_
      refine wpList_append_nums byteElem w8 rfl _ _ rfl w.heap.size v8 _ rfl O8.out (some ⟨g6, 0, none⟩) 4 c6 (bytesZ 4 num) rfl J4.out (by have := Hslen.out; omega) B8.out.size ?_
      intro v9 w9 o9 g9' _
      have b9 := B8.out.grown g9' B8.out.size (fun k hk => (O8.out.block k hk).1)
      rw [HM.out, ← HZ.out] at o9
      clear O8 B8 J4 g9'
      have O9 := Lib.hid o9; clear o9
      have B9 := Lib.hid b9; clear b9
      go_wp2
      go_ret
      exact ⟨_, rfl, O9.out, B9.out⟩
end Go.Proofs.YtgpedejeifmfdaaGreat
