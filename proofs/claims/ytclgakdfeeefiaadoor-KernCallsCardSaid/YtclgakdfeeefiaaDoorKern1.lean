/- The pool of categories, the gate, a set of one. -/
import Derived.Test.YtclgakdfeeefiaaDoorWord1
import Derived.Test.YtclgakdfeeefiaaDoorBox9
import Derived.Test.YtclgakdfeeefiaaDoorSlotQ
namespace Go.Proofs.YtclgakdfeeefiaaDoor
open Go.RowKit

/-- n categories are taken. -/
def allOf (n : Nat) : Nat := 2 ^ n - 1
theorem six {n : Nat} (h : n < 6) : n = 0 ∨ n = 1 ∨ n = 2 ∨ n = 3 ∨ n = 4 ∨ n = 5 := by omega
theorem pop_free : ∀ n, n < 6 → 1 ≤ pop (18446744073709551615 - allOf n) := by decide +kernel
theorem low_free : ∀ n, n < 6 → lowS (18446744073709551615 - allOf n) = n := by decide +kernel
theorem low_one : ∀ n, n < 6 → lowS (2 ^ n) = n := by decide +kernel
theorem or_one : ∀ n, n < 6 → bits .or .u64 (allOf n : Nat) (2 ^ n : Nat) = ((allOf (n + 1) : Nat) : Int) := by decide +kernel
theorem or_zero : ∀ n, n < 6 → bits .or .u64 (allOf n : Nat) 0 = ((allOf n : Nat) : Int) := by decide +kernel
theorem xor_free : ∀ n, n < 6 → bits .xor .u64 (IntKind.u64.max) (allOf n : Nat) = ((18446744073709551615 - allOf n : Nat) : Int) := by decide +kernel
theorem shl_one : ∀ n, n < 6 → bits .or .u64 0 (IntKind.u64.wrap (2 ^ n)) = ((2 ^ n : Nat) : Int) := by decide +kernel
theorem NewPool_calls {w : World} (u : Int) : Calls Tryd.prog 35 #[.int .u64 u] w fun e w' => e = .returned (.pointer (some ⟨w.heap.size, 0, none⟩)) ∧ w' = w.alloc (.cells #[.int .u64 u] 113) := by
  go_enter Tryd.func35, Tryd.ntmps35
  go_wp2
  go_ret
  exact ⟨rfl, rfl⟩
set_option maxHeartbeats 2000000 in
theorem Many_calls {w : World} {b n : Nat} (hT : TabOk w) (hn : n < 6) (h : w.heap[b]? = some (.cells #[.int .u64 (allOf n : Nat)] 113 (0, 0))) :
    Calls Tryd.prog 61 #[.pointer (some ⟨b, 0, none⟩), .int .i64 1] w fun e w' => e = .returned (.tuple #[.int .u64 (2 ^ n : Nat), .int .i64 0]) ∧ w'.heap[b]? = some (.cells #[.int .u64 (allOf (n + 1) : Nat)] 113 (0, 0)) ∧ Mod (fun k => k = b) w w' := by
  have h0 := cells_at h 0
  have hx := xor_free n hn
  have hz := or_zero n hn
  have ho1 := or_one n hn
  have hp := pop_free n hn
  have hsh := shl_one n hn
  have hon := Ones_calls (w := w) (u := 18446744073709551615 - allOf n) (by omega)
  have hlow := Low_calls hT (u := 18446744073709551615 - allOf n) (by omega)
  rw [low_free n hn] at hlow
  generalize 18446744073709551615 - allOf n = X at *
  generalize pop X = P at *
  have d1 : decide ((P : Int) < 1) = false := decide_eq_false (by omega)
  have Hon := Lib.hid hon; clear hon
  have Hlow := Lib.hid hlow; clear hlow
  have H := Lib.hid h; clear h
  have Ho1 := Lib.hid ho1; clear ho1
  clear hT
  generalize (2 ^ n : Nat) = Q at *
  generalize allOf n = A at *
  generalize allOf (n + 1) = A' at *
  go_enter Tryd.func61, Tryd.ntmps61
  go_wp2_with fail
  refine Hon.out.mono ?_
  rintro e w1 ⟨rfl, rfl⟩
  go_wp2_with fail
  refine wp_loop_rounds 2 ?_
  rw [rounds_succ]
  go_wp2_with fail
  refine Hlow.out.mono ?_
  rintro e w2 ⟨rfl, rfl⟩
  go_wp2_with fail
  rw [rounds_succ]
  clear hx hz hsh
  have ho1 := Ho1.out
  go_wp2_with (with_reducible refine stop_store 30 ?_)
  refine unpark ?_
  refine wpList_store_at rfl _ _ _ rfl b 0 rfl _ rfl [.int .u64 (A' : Int)] rfl _ _ H.out 1 rfl (by simp) (by simp [Value.oneCell']) (by kernel_rfl) ?_
  intro w3 h3 g3 _
  have hm := Mod.of_grown (F := fun k => k = b) g3 (fun k hk => by cases hk; rfl)
  clear ho1 h0 g3
  have H3 := Lib.hid h3; clear h3
  have Hm := Lib.hid hm; clear hm
  go_wp2
  go_ret2
  exact ⟨rfl, H3.out, Hm.out⟩
theorem Take_pool {w : World} {b n : Nat} (hT : TabOk w) (hn : n < 6) (hb : 0 < b) (h : w.heap[b]? = some (.cells #[.int .u64 (allOf n : Nat)] 113 (0, 0))) :
    Calls Tryd.prog 36 #[.pointer (some ⟨b, 0, none⟩)] w fun e w' => e = .returned (.tuple #[.int .i64 (n : Int), .int .i64 0]) ∧ w'.heap[b]? = some (.cells #[.int .u64 (allOf (n + 1) : Nat)] 113 (0, 0)) ∧ Mod (fun k => k = b) w w' := by
  have hm := Many_calls hT hn h
  have hT2 : ∀ w', Mod (fun k => k = b) w w' → TabOk w' := fun w' hm j hj => by
    have h0 := hT j hj
    rw [← h0]
    unfold World.cell?
    rw [hm.block 0 (World.block_lt_of_cell? _ _ h0) (by show ¬ 0 = b; omega)]
  have hlow := fun w' hm => Low_calls (hT2 w' hm) (u := 2 ^ n) (Nat.lt_of_le_of_lt (Nat.pow_le_pow_right (by decide) (by omega : n ≤ 6)) (by decide))
  rw [low_one n hn] at hlow
  generalize (2 ^ n : Nat) = Q at *
  have Hm := Lib.hid hm; clear hm
  have Hlow := Lib.hid hlow; clear hlow hT2 hT h
  go_enter Tryd.func36, Tryd.ntmps36
  go_wp2_with fail
  refine Hm.out.mono ?_
  rintro e w1 ⟨rfl, h1, m1⟩
  have H1 := Lib.hid h1; clear h1
  have M1 := Lib.hid m1; clear m1
  go_wp2_with fail
  refine (Hlow.out _ M1.out).mono ?_
  rintro e w2 ⟨rfl, rfl⟩
  go_wp2
  go_ret2
  exact ⟨rfl, H1.out, M1.out⟩
theorem Taken_calls {w : World} {b : Nat} {u : Int} (h : w.heap[b]? = some (.cells #[.int .u64 u] 113 (0, 0))) : Calls Tryd.prog 39 #[.pointer (some ⟨b, 0, none⟩)] w fun e w' => e = .returned (.int .u64 u) ∧ w' = w := by
  have h0 := cells_at h 0
  clear h
  go_enter Tryd.func39, Tryd.ntmps39
  go_wp2
  go_ret
  exact ⟨rfl, rfl⟩
theorem setthere_calls {w : World} {n : Nat} (hn : n < 6) : Calls Tryd.prog 63 #[.int .i64 (n : Int)] w fun e w' => e = .returned (.bool true) ∧ w' = w := by
  have d1 : decide ((n : Int) < 64) = true := decide_eq_true (by omega)
  have d2 : decide (0 ≤ (n : Int)) = true := decide_eq_true (by omega)
  go_enter Tryd.func63, Tryd.ntmps63
  go_wp2
  go_ret
  exact ⟨rfl, rfl⟩
set_option maxHeartbeats 1000000 in
theorem Of_one {w : World} {g n c : Nat} (hn : n < 6) (hx : w.cell? ⟨g, 0, none⟩ = some (.int .i64 (n : Int))) : Calls Tryd.prog 37 #[.slice (some ⟨g, 0, none⟩) 1 c] w fun e w' => e = .returned (.tuple #[.int .u64 (2 ^ n : Nat), .bool true]) ∧ w' = w := by
  have hsh := shl_one n hn
  have ht := fun w : World => setthere_calls (w := w) hn
  generalize (2 ^ n : Nat) = Q at *
  have Ht := Lib.hid ht; clear ht
  go_enter Tryd.func37, Tryd.ntmps37
  go_wp2_with fail
  refine wp_loop_rounds 2 ?_
  rw [rounds_succ]
  go_wp2_with fail
  refine (Ht.out _).mono ?_
  rintro e w1 ⟨rfl, rfl⟩
  go_wp2_with fail
  rw [rounds_succ]
  clear hsh hx
  go_wp2
  go_ret2
  exact ⟨rfl, rfl⟩
/-- A gate that owns categories. -/
structure GateAt (w : World) (g : Nat) (u : Int) : Prop where
  at_ : ∃ r, w.heap[g]? = some (.cells #[.int .u64 u, .map (some r)] 92 (0, 0))
theorem GateAt.keep {w w' : World} {g : Nat} {u : Int} (h : GateAt w g u) (hk : w'.heap[g]? = w.heap[g]?) : GateAt w' g u := by
  obtain ⟨r, h⟩ := h.at_
  exact ⟨r, hk.trans h⟩
theorem GateAt.lt {w : World} {g : Nat} {u : Int} (h : GateAt w g u) : g < w.heap.size := by
  obtain ⟨r, h⟩ := h.at_
  exact (Array.getElem?_eq_some_iff.1 h).1
theorem GateNew_calls {w : World} (u : Int) : Calls Tryd.prog 40 #[.int .u64 u] w fun e w' => ∃ g, e = .returned (.pointer (some ⟨g, 0, none⟩)) ∧ w.heap.size ≤ g ∧ GateAt w' g u ∧ Below w.heap.size w w' := by
  have b1 := (Below.refl w.heap.size w).alloc (Nat.le_refl _) (.map #[] 0)
  have b2 := b1.alloc (by simp) (.cells #[.int .u64 u, .map (some w.heap.size)] 92)
  have z := heap_alloc_new (w.alloc (.map #[] 0)) (.cells #[.int .u64 u, .map (some w.heap.size)] 92)
  rw [World.size_alloc] at z
  have B2 := Lib.hid b2; clear b2 b1
  have Z := Lib.hid z; clear z
  have hmm := @run_makeMap Tryd.prog
  go_enter Tryd.func40, Tryd.ntmps40
  go_wp2
  go_ret
  exact ⟨_, rfl, by simp, ⟨⟨_, Z.out⟩⟩, B2.out⟩
theorem Give_calls {w : World} {g : Nat} {u a b : Int} (h : GateAt w g u) : Calls Tryd.prog 66 #[.pointer (some ⟨g, 0, none⟩), .int .u64 a, .int .u64 b] w fun e w' => e = .returned (.int .u64 (bits .and .u64 b (bits .or .u64 a u))) ∧ w' = w := by
  obtain ⟨r, h⟩ := h.at_
  have h0 := cells_at h 0
  clear h
  go_enter Tryd.func66, Tryd.ntmps66
  go_wp2
  go_ret
  exact ⟨rfl, rfl⟩
set_option maxHeartbeats 1000000 in
theorem Pass_calls {w : World} {g : Nat} {u : Int} (h : GateAt w g u) (a b : Label) : Calls Tryd.prog 14 #[.pointer (some ⟨g, 0, none⟩), .agg a.cells.toArray, .agg b.cells.toArray] w fun e w' => e = .returned (.bool (withOf a b u)) ∧ Below w.heap.size w w' := by
  obtain ⟨r, h⟩ := h.at_
  have hwc := fun w : World => With_calls (w := w) a b u
  obtain ⟨W, hW⟩ : ∃ W, W = withOf a b u := ⟨_, rfl⟩
  rw [← hW] at hwc ⊢
  clear hW
  obtain ⟨a1, a2⟩ := a
  obtain ⟨b1, b2⟩ := b
  simp only [Label.cells] at hwc ⊢
  have Hwc := Lib.hid hwc; clear hwc
  obtain ⟨w1, hw1⟩ : ∃ w1, w1 = w.alloc (.cells #[.int .u64 a1, .int .u64 a2] 32) := ⟨_, rfl⟩
  have c1 : Below w.heap.size w w1 := by rw [hw1]; exact (Below.refl _ _).alloc (Nat.le_refl _) _
  have z1 : w1.heap[w.heap.size]? = some (.cells #[.int .u64 a1, .int .u64 a2] 32 (0, 0)) := by rw [hw1]; exact heap_alloc_new w _
  have s1 : w1.heap.size = w.heap.size + 1 := by rw [hw1, World.size_alloc]
  obtain ⟨w2, hw2⟩ : ∃ w2, w2 = w1.alloc (.cells #[.int .u64 b1, .int .u64 b2] 32) := ⟨_, rfl⟩
  have c2 : Below w1.heap.size w1 w2 := by rw [hw2]; exact (Below.refl _ _).alloc (Nat.le_refl _) _
  have z2 : w2.heap[w1.heap.size]? = some (.cells #[.int .u64 b1, .int .u64 b2] 32 (0, 0)) := by rw [hw2]; exact heap_alloc_new w1 _
  rw [s1] at z2
  have c12 := c1.trans (c2.mono c1.size)
  have y1 := (c2.block _ (Array.getElem?_eq_some_iff.1 z1).1).trans z1
  have y0 := (c12.block _ (Array.getElem?_eq_some_iff.1 h).1).trans h
  have q0 := cell_regrown (cells_at y1 0)
  have q1 := cell_regrown (cells_at y1 1)
  have q2 := cell_regrown (cells_at z2 0)
  have q3 := cell_regrown (cells_at z2 1)
  have q4 := cell_regrown (cells_at y0 0)
  have C := Lib.hid c12; clear c12 c1 c2 z1 z2 y1 y0 h s1
  go_enter Tryd.func14, Tryd.ntmps14
  go_wp2_with fail
  rw [← hw1, ← hw2]
  clear hw1 hw2
  refine wp_region_quiet_below (by kernel_rfl) (by kernel_rfl) ?_
  repeat (go_big_quiet_step ((go_at_call 42; exact Calls.regrown_of (Hwc.out _))))
  refine wpQuiet_nil ?_
  intro wq hwq
  have bk : Below w2.heap.size w2 wq := by obtain ⟨q, rfl⟩ := hwq; exact below_regrown _ _ _
  have hb := C.out.trans (bk.mono C.out.size)
  clear q0 q1 q2 q3 q4 C bk hwq
  have Hb := Lib.hid hb; clear hb
  go_wp2_with fail
  go_ret
  exact ⟨rfl, Hb.out⟩
end Go.Proofs.YtclgakdfeeefiaaDoor
