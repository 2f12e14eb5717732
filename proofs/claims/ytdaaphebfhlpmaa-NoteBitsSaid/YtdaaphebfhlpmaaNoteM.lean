/- Messages: right ones, up or down; compared; handed in. -/
import Derived.Test.YtdaaphebfhlpmaaList
import Derived.Test.YtdaaphebfhlpmaaPark
import Derived.Test.YtdaaphebfhlpmaaSeq
import Derived.Test.YtdaaphebfhlpmaaPhase
import Derived.Test.YtdaaphebfhlpmaaEq
import Derived.Test.YtdaaphebfhlpmaaOpen
import Derived.Test.YtdaaphebfhlpmaaChecked
namespace Go.Proofs.Ytdaaphebfhlpmaa
open Go.RowKit Go.ChangeShapes Go.WideShapes

/-- kind, part, tx, what -/
abbrev Msg := Int × Int × Int × Int
abbrev Msg.kind (m : Msg) : Int := m.1
abbrev Msg.part (m : Msg) : Int := m.2.1
abbrev Msg.tx (m : Msg) : Int := m.2.2.1
abbrev Msg.what (m : Msg) : Int := m.2.2.2
def Msg.cells (m : Msg) : List Value := [.int .i64 m.kind, .int .i64 m.part, .int .i64 m.tx, .int .i64 m.what]
def msgF : Fmt Msg := ⟨Msg.cells, 4, fun _ => rfl, by decide, fun x u hu => by simp [Msg.cells] at hu; rcases hu with rfl | rfl | rfl | rfl <;> rfl⟩
def noMsg : Msg := (0, 0, 0, 0)
def mostOf (k : Int) : Int := if k = 1 then 2 else if k = 4 then 1 else if k = 2 ∨ k = 3 ∨ k = 5 then 0 else -1
def rightOf (m : Msg) : Bool := decide (0 ≤ m.part ∧ m.part < 6 ∧ 1 ≤ m.tx ∧ m.tx ≤ 1048576 ∧ 0 ≤ m.what ∧ m.what ≤ mostOf m.kind)
theorem most_calls {w : World} (k : Int) : Calls Try.prog 37 #[.int .i64 k] w fun e w' => e = .returned (.int .i64 (mostOf k)) ∧ w' = w := by
  by_cases h1 : k = 1
  · subst h1
    go_enter Try.func37, Try.ntmps37
    go_wp2
    go_ret
    exact ⟨rfl, rfl⟩
  by_cases h4 : k = 4
  · subst h4
    go_enter Try.func37, Try.ntmps37
    go_wp2
    go_ret
    exact ⟨rfl, rfl⟩
  by_cases h2 : k = 2
  · subst h2
    go_enter Try.func37, Try.ntmps37
    go_wp2
    go_ret
    exact ⟨rfl, rfl⟩
  by_cases h3 : k = 3
  · subst h3
    go_enter Try.func37, Try.ntmps37
    go_wp2
    go_ret
    exact ⟨rfl, rfl⟩
  by_cases h5 : k = 5
  · subst h5
    go_enter Try.func37, Try.ntmps37
    go_wp2
    go_ret
    exact ⟨rfl, rfl⟩
  have e : mostOf k = -1 := by
    unfold mostOf
    rw [if_neg h1, if_neg h4, if_neg (by omega)]
  rw [e]
  have e1 : (k == 1) = false := by simpa using h1
  have e2 : (k == 2) = false := by simpa using h2
  have e3 : (k == 3) = false := by simpa using h3
  have e4 : (k == 4) = false := by simpa using h4
  have e5 : (k == 5) = false := by simpa using h5
  clear h1 h2 h3 h4 h5 e
  go_enter Try.func37, Try.ntmps37
  go_wp2
  go_ret
  exact ⟨rfl, rfl⟩
set_option maxHeartbeats 4000000 in
theorem Right_calls {w : World} (m : Msg) : Calls Try.prog 19 #[.agg m.cells.toArray] w fun e w' => e = .returned (.bool (rightOf m)) ∧ Below w.heap.size w w' := by
  obtain ⟨k, p, t, x⟩ := m
  obtain ⟨R, hR⟩ : ∃ R, R = rightOf (k, p, t, x) := ⟨_, rfl⟩
  rw [← hR]
  unfold rightOf at hR
  simp only [Msg.kind, Msg.part, Msg.tx, Msg.what] at hR
  have hm := fun w : World => most_calls (w := w) k
  generalize mostOf k = M at hR hm
  have Hm := Lib.hid hm; clear hm
  have hd : (decide (0 ≤ p) = false ∧ R = false) ∨ (decide (0 ≤ p) = true ∧ decide (p < 6) = false ∧ R = false) ∨ (decide (0 ≤ p) = true ∧ decide (p < 6) = true ∧ decide (1 ≤ t) = false ∧ R = false) ∨
      (decide (0 ≤ p) = true ∧ decide (p < 6) = true ∧ decide (1 ≤ t) = true ∧ decide (t ≤ 1048576) = false ∧ R = false) ∨ (decide (0 ≤ p) = true ∧ decide (p < 6) = true ∧ decide (1 ≤ t) = true ∧ decide (t ≤ 1048576) = true ∧ decide (0 ≤ x) = false ∧ R = false) ∨
      (decide (0 ≤ p) = true ∧ decide (p < 6) = true ∧ decide (1 ≤ t) = true ∧ decide (t ≤ 1048576) = true ∧ decide (0 ≤ x) = true ∧ decide (x ≤ M) = false ∧ R = false) ∨
      (decide (0 ≤ p) = true ∧ decide (p < 6) = true ∧ decide (1 ≤ t) = true ∧ decide (t ≤ 1048576) = true ∧ decide (0 ≤ x) = true ∧ decide (x ≤ M) = true ∧ R = true) := by
    rw [hR]
    by_cases c1 : 0 ≤ p <;> by_cases c2 : p < 6 <;> by_cases c3 : 1 ≤ t <;> by_cases c4 : t ≤ 1048576 <;> by_cases c5 : 0 ≤ x <;> by_cases c6 : x ≤ M <;> simp [c1, c2, c3, c4, c5, c6]
  clear hR
  simp only [Msg.cells, Msg.kind, Msg.part, Msg.tx, Msg.what]
  have b1 := (Below.refl w.heap.size w).alloc (Nat.le_refl _) (.cells #[.int .i64 k, .int .i64 p, .int .i64 t, .int .i64 x] 23)
  have hx := heap_alloc_new w (.cells #[.int .i64 k, .int .i64 p, .int .i64 t, .int .i64 x] 23)
  have Hb1 := Lib.hid b1; clear b1
  have z0 := cell_regrown (cells_at hx 0)
  have z1 := cell_regrown (cells_at hx 1)
  have z2 := cell_regrown (cells_at hx 2)
  have z3 := cell_regrown (cells_at hx 3)
  clear hx
  go_enter Try.func19, Try.ntmps19
  go_wp2_with fail
  generalize w.alloc (.cells #[.int .i64 k, .int .i64 p, .int .i64 t, .int .i64 x] 23) = w1 at *
  rcases hd with ⟨d1, rfl⟩ | ⟨d1, d2, rfl⟩ | ⟨d1, d2, d3, rfl⟩ | ⟨d1, d2, d3, d4, rfl⟩ | ⟨d1, d2, d3, d4, d5, rfl⟩ | ⟨d1, d2, d3, d4, d5, d6, rfl⟩ | ⟨d1, d2, d3, d4, d5, d6, rfl⟩
  all_goals
    refine wp_region_quiet_below (by kernel_rfl) (by kernel_rfl) ?_
    repeat (any_goals (first | go_big_quiet_step ((go_at_call 37; exact Calls.regrown_of ((Hm.out _).mono fun _ _ h => ⟨h.1, by rw [h.2]; exact Below.refl _ _⟩))) | quiet_step ((go_at_call 37; exact Calls.regrown_of ((Hm.out _).mono fun _ _ h => ⟨h.1, by rw [h.2]; exact Below.refl _ _⟩)))))
    refine wpQuiet_nil ?_
    intro w3 hw3
    have bf : Below w1.heap.size w1 w3 := by obtain ⟨q, rfl⟩ := hw3; exact below_regrown _ _ _
    clear hw3 z0 z1 z2 z3
    have bz := Hb1.out.trans (bf.mono Hb1.out.size)
    clear bf
    have Hbz := Lib.hid bz; clear bz
    go_wp2
    go_ret
    exact ⟨rfl, Hbz.out⟩
def Msg.ok (m : Msg) : Prop := (Lit.int .i64 m.kind).wf = true ∧ (Lit.int .i64 m.part).wf = true ∧ (Lit.int .i64 m.tx).wf = true ∧ (Lit.int .i64 m.what).wf = true
theorem msg_equal (w : World) (a b : Msg) : (Op.equalIn 10000 23 (.agg a.cells.toArray) (.agg b.cells.toArray)).run Try.prog w = .ok (decide (a = b)) w := by
  obtain ⟨a1, a2, a3, a4⟩ := a
  obtain ⟨b1, b2, b3, b4⟩ := b
  rw [run_equalIn_struct w 9999 23 _ _ (by kernel_rfl) (by kernel_rfl)]
  rw [eq_ints [(3, .i64, 0, a1, b1), (3, .i64, 1, a2, b2), (3, .i64, 2, a3, b3), (3, .i64, 3, a4, b4)] _ w (by kernel_rfl) fun x hx => ?_]
  · congr 1
    rw [Bool.eq_iff_iff]
    simp
  · simp only [List.mem_cons, List.not_mem_nil, or_false] at hx
    rcases hx with rfl | rfl | rfl | rfl
    all_goals exact ⟨Try.underlying3, fun _ => rfl, fun _ => rfl⟩
theorem msg_neq (w : World) (a b : Msg) : (binOp .neq 23 (.agg a.cells.toArray) (.agg b.cells.toArray)).run Try.prog w = .ok (.bool (!decide (a = b))) w := by
  rw [run_neq_struct, msg_equal]; rfl
theorem msg_eql (w : World) (a b : Msg) : (binOp .eql 23 (.agg a.cells.toArray) (.agg b.cells.toArray)).run Try.prog w = .ok (.bool (decide (a = b))) w := by
  rw [run_eql_struct, msg_equal]; rfl
theorem msg_guard (op : BinOp) (x y : Operand) (a b : Msg) (w : World) : (eqGuard op 23 x y (.agg a.cells.toArray) (.agg b.cells.toArray)).run Try.prog w = .ok () w := run_eqGuard_agg w op _ x y _ _ (by kernel_rfl)
theorem right_iff (k p t x : Int) : rightOf (k, p, t, x) = true ↔ 0 ≤ p ∧ p ≤ 5 ∧ 1 ≤ t ∧ t ≤ 1048576 ∧ ((k = 1 ∧ 0 ≤ x ∧ x ≤ 2) ∨ (k = 4 ∧ 0 ≤ x ∧ x ≤ 1) ∨ ((k = 2 ∨ k = 3 ∨ k = 5) ∧ x = 0)) := by
  unfold rightOf mostOf
  rw [decide_eq_true_iff]
  simp only [Msg.kind, Msg.part, Msg.tx, Msg.what]
  split
  · omega
  · split
    · omega
    · split <;> omega
set_option maxHeartbeats 4000000 in
theorem RRight_calls {w : World} (m : Msg) : Calls Try.prog 20 #[.agg m.cells.toArray] w fun e w' => e = .returned (.bool (rightOf m)) ∧ Below w.heap.size w w' := by
  obtain ⟨k, p, t, x⟩ := m
  have hR := right_iff k p t x
  generalize rightOf (k, p, t, x) = R at hR ⊢
  have hb : Below w.heap.size w (w.alloc (.cells #[.int .i64 k, .int .i64 p, .int .i64 t, .int .i64 x] 23)) := (Below.refl _ _).alloc (Nat.le_refl _) _
  simp only [Msg.cells, Msg.kind, Msg.part, Msg.tx, Msg.what]
  have ff : (R = true → False) → R = false := fun h => by cases R; rfl; exact absurd rfl h
  have d1 : decide (p < 0) = true ∧ R = false ∨ decide (p < 0) = false ∧ decide (5 < p) = true ∧ R = false ∨ decide (p < 0) = false ∧ decide (5 < p) = false ∧ decide (t < 1) = true ∧ R = false ∨
      decide (p < 0) = false ∧ decide (5 < p) = false ∧ decide (t < 1) = false ∧ decide (1048576 < t) = true ∧ R = false ∨
      decide (p < 0) = false ∧ decide (5 < p) = false ∧ decide (t < 1) = false ∧ decide (1048576 < t) = false ∧ (R = true ↔ ((k = 1 ∧ 0 ≤ x ∧ x ≤ 2) ∨ (k = 4 ∧ 0 ≤ x ∧ x ≤ 1) ∨ ((k = 2 ∨ k = 3 ∨ k = 5) ∧ x = 0))) := by
    by_cases h1 : p < 0
    · exact .inl ⟨decide_eq_true h1, ff fun h => by have := hR.1 h; omega⟩
    · by_cases h2 : 5 < p
      · exact .inr (.inl ⟨decide_eq_false h1, decide_eq_true h2, ff fun h => by have := hR.1 h; omega⟩)
      · by_cases h3 : t < 1
        · exact .inr (.inr (.inl ⟨decide_eq_false h1, decide_eq_false h2, decide_eq_true h3, ff fun h => by have := hR.1 h; omega⟩))
        · by_cases h4 : 1048576 < t
          · exact .inr (.inr (.inr (.inl ⟨decide_eq_false h1, decide_eq_false h2, decide_eq_false h3, decide_eq_true h4, ff fun h => by have := hR.1 h; omega⟩)))
          · exact .inr (.inr (.inr (.inr ⟨decide_eq_false h1, decide_eq_false h2, decide_eq_false h3, decide_eq_false h4, hR.trans ⟨fun h => h.2.2.2.2, fun h => ⟨by omega, by omega, by omega, by omega, h⟩⟩⟩)))
  clear hR
  have Hb := Lib.hid hb; clear hb
  rcases d1 with ⟨d1, rfl⟩ | ⟨d1, d2, rfl⟩ | ⟨d1, d2, d3, rfl⟩ | ⟨d1, d2, d3, d4, rfl⟩ | ⟨d1, d2, d3, d4, hR⟩
  case inr.inr.inr.inr =>
    have kd : (k = 1 ∧ ((decide (0 ≤ x) = false ∧ R = false) ∨ (decide (0 ≤ x) = true ∧ decide (x ≤ 2) = R))) ∨ (k = 4 ∧ (((x == 0) = true ∧ R = true) ∨ ((x == 0) = false ∧ (x == 1) = R))) ∨ ((k = 2 ∨ k = 3 ∨ k = 5) ∧ (x == 0) = R) ∨
        ((k == 1) = false ∧ (k == 4) = false ∧ (k == 2) = false ∧ (k == 3) = false ∧ (k == 5) = false ∧ R = false) := by
      by_cases k1 : k = 1
      · refine .inl ⟨k1, ?_⟩
        by_cases x0 : 0 ≤ x
        · refine .inr ⟨decide_eq_true x0, ?_⟩
          rw [Bool.eq_iff_iff, decide_eq_true_iff, hR]; omega
        · exact .inl ⟨decide_eq_false x0, ff fun h => by have := hR.1 h; omega⟩
      · by_cases k4 : k = 4
        · refine .inr (.inl ⟨k4, ?_⟩)
          by_cases x0 : x = 0
          · exact .inl ⟨by simpa using x0, hR.2 (by omega)⟩
          · refine .inr ⟨by simpa using x0, ?_⟩
            rw [Bool.eq_iff_iff, beq_iff_eq, hR]; omega
        · by_cases k2 : k = 2 ∨ k = 3 ∨ k = 5
          · refine .inr (.inr (.inl ⟨k2, ?_⟩))
            rw [Bool.eq_iff_iff, beq_iff_eq, hR]; omega
          · exact .inr (.inr (.inr ⟨by simpa using k1, by simpa using k4, by simp; omega, by simp; omega, by simp; omega, ff fun h => by have := hR.1 h; omega⟩))
    clear hR ff
    rcases kd with ⟨rfl, ⟨e1, rfl⟩ | ⟨e1, e2⟩⟩ | ⟨rfl, ⟨e1, rfl⟩ | ⟨e1, e2⟩⟩ | ⟨rfl | rfl | rfl, e1⟩ | ⟨e1, e2, e3, e4, e5, rfl⟩
    all_goals
      go_enter Try.func20, Try.ntmps20
      go_wp2
      go_ret
      exact ⟨rfl, Hb.out⟩
  all_goals
    clear ff
    go_enter Try.func20, Try.ntmps20
    go_wp2
    go_ret
    exact ⟨rfl, Hb.out⟩
theorem open_msg {H : Type} {enc : TypeId × Value → H} {w : World} {base : Nat} {held : Bool} {fuel : Nat} {cs : List Value} {x : DataW H × List MemPlace} (h : DataW.trod enc Try.prog w base (fun _ => true) held fuel 23 cs = some x) : ∃ m : Msg, cs = m.cells ∧ m.ok := by
  obtain ⟨hl, hf⟩ := open_parts Try.underlying23 h
  have hl4 : cs.length = 4 := hl.trans (by kernel_rfl)
  obtain ⟨n0, y0, h0⟩ := hf 0 _ rfl
  obtain ⟨n1, y1, h1⟩ := hf 1 _ rfl
  obtain ⟨n2, y2, h2⟩ := hf 2 _ rfl
  obtain ⟨n3, y3, h3⟩ := hf 3 _ rfl
  obtain ⟨z0, e0, _, w0⟩ := DataW.trod_int Try.underlying3 h0
  obtain ⟨z1, e1, _, w1⟩ := DataW.trod_int Try.underlying3 h1
  obtain ⟨z2, e2, _, w2⟩ := DataW.trod_int Try.underlying3 h2
  obtain ⟨z3, e3, _, w3⟩ := DataW.trod_int Try.underlying3 h3
  have c1 : Try.prog.cellsOf 3 = 1 := by kernel_rfl
  match cs, hl4 with
  | [v0, v1, v2, v3], _ =>
    simp [c1] at e0 e1 e2 e3
    subst e0 e1 e2 e3
    exact ⟨(z0, z1, z2, z3), rfl, w0, w1, w2, w3⟩
end Go.Proofs.Ytdaaphebfhlpmaa
