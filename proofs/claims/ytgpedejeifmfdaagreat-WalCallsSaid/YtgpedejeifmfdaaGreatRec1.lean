/- Records: their cells, compared; the small functions of rec. -/
import Derived.Test.YtgpedejeifmfdaaGreatRecP
import Derived.Test.YtgpedejeifmfdaaGreatList
import Derived.Test.YtgpedejeifmfdaaGreatPhase
import Derived.Test.YtgpedejeifmfdaaGreatSeq
import Derived.Test.YtgpedejeifmfdaaGreatHeldB
import Derived.Test.YtgpedejeifmfdaaGreatEq
import Derived.ChangeKeysEq
namespace Go.Proofs.YtgpedejeifmfdaaGreat
open Go.RowKit

def Rc.cells (r : Rc) : List Value := [.int .i64 r.kind, .int .i64 r.tx, .int .u16 r.mask, .int .u8 r.k0, .int .u8 r.k1, .int .u8 r.k2, .int .u8 r.k3, .bool r.ot, .int .i64 r.o, .bool r.nt, .int .i64 r.n]
def rcF : Fmt Rc := ⟨Rc.cells, 11, fun _ => rfl, by decide, fun x u hu => by
  simp [Rc.cells] at hu
  rcases hu with rfl | rfl | rfl | rfl | rfl | rfl | rfl | rfl | rfl | rfl | rfl <;> rfl⟩
section
variable {P : Program}
theorem eq_fields {d : Nat} {A B : Array Value} : ∀ (l : List (TypeId × Nat × Value × Value × Bool)) (fs : List Field) (w : World), fs.map (fun f => (f.name != "_", f.type, f.offset)) = l.map (fun x => (true, x.1, x.2.1)) →
    (∀ x ∈ l, ∀ w, (part x.1 A x.2.1).run P w = .ok x.2.2.1 w ∧ (part x.1 B x.2.1).run P w = .ok x.2.2.2.1 w ∧ (Op.equalIn d x.1 x.2.2.1 x.2.2.2.1).run P w = .ok x.2.2.2.2 w) →
    (Op.eqFields d A B fs).run P w = .ok (l.all fun x => x.2.2.2.2) w
  | [], fs, w, hl, _ => by
    obtain rfl := List.map_eq_nil_iff.1 hl
    rfl
  | x :: l, fs, w, hl, h => by
    obtain ⟨f, fs, rfl, h0, h1⟩ := List.map_eq_cons_iff.1 hl
    obtain ⟨hA, hB, he⟩ := h x (.head _) w
    obtain ⟨t, off, a, b, r⟩ := x
    simp only [Prod.mk.injEq, bne_iff_ne, ne_eq] at h0
    obtain ⟨n0, rfl, rfl⟩ := h0
    have ih := eq_fields (d := d) l fs w h1 fun y hy => h y (.tail _ hy)
    simp only at hA hB he
    cases r with
    | true => simp [Op.eqFields, n0, hA, hB, he, ih]
    | false => simp [Op.eqFields, n0, hA, hB, he]
theorem eq_items {d : Nat} {e : TypeId} {n : Nat} {A B : Array Value} : ∀ (l : List (Nat × Value × Value × Bool)) (w : World),
    (∀ x ∈ l, ∀ w, (part e A (x.1 * n)).run P w = .ok x.2.1 w ∧ (part e B (x.1 * n)).run P w = .ok x.2.2.1 w ∧ (Op.equalIn d e x.2.1 x.2.2.1).run P w = .ok x.2.2.2 w) →
    (Op.eqItems d e n A B (l.map fun x => x.1)).run P w = .ok (l.all fun x => x.2.2.2) w
  | [], w, _ => rfl
  | x :: l, w, h => by
    obtain ⟨hA, hB, he⟩ := h x (.head _) w
    obtain ⟨i, a, b, r⟩ := x
    have ih := eq_items (d := d) (n := n) l w fun y hy => h y (.tail _ hy)
    simp only at hA hB he
    cases r with
    | true => simp [Op.eqItems, hA, hB, he, ih]
    | false => simp [Op.eqItems, hA, hB, he]
end
set_option maxRecDepth 100000 in
theorem val_equal (d : Nat) (w : World) (s t : Bool) (x y : Int) : (Op.equalIn (d + 2) 61 (.agg #[.bool s, .int .i64 x]) (.agg #[.bool t, .int .i64 y])).run Tryz.prog w = .ok (decide (s = t ∧ x = y)) w := by
  rw [run_equalIn_struct w (d + 1) 61 _ _ (by kernel_rfl) (by kernel_rfl)]
  rw [eq_fields [(4, 0, .bool s, .bool t, s == t), (3, 1, .int .i64 x, .int .i64 y, x == y)] _ w (by kernel_rfl) fun x hx w => ?_]
  · congr 1
    rw [Bool.eq_iff_iff]
    simp
  · simp only [List.mem_cons, List.not_mem_nil, or_false] at hx
    rcases hx with rfl | rfl
    · exact ⟨rfl, rfl, run_equalIn_bool w d _ _ _ Tryz.underlying4⟩
    · exact ⟨rfl, rfl, run_equalIn_int w d _ _ _ _ _ Tryz.underlying3⟩
set_option maxRecDepth 100000 in
theorem Tryz.recInfoU8 : ∃ i, Tryz.prog.info? 5 = some i ∧ Tryz.prog.cellsOf 5 = 1 := ⟨_, rfl, by kernel_rfl⟩
set_option maxRecDepth 100000 in
theorem key_equal (d : Nat) (w : World) (a0 a1 a2 a3 b0 b1 b2 b3 : Int) : (Op.equalIn (d + 2) 59 (.agg #[.int .u8 a0, .int .u8 a1, .int .u8 a2, .int .u8 a3]) (.agg #[.int .u8 b0, .int .u8 b1, .int .u8 b2, .int .u8 b3])).run Tryz.prog w = .ok (decide (a0 = b0 ∧ a1 = b1 ∧ a2 = b2 ∧ a3 = b3)) w := by
  obtain ⟨i, hi, hc⟩ := Tryz.recInfoU8
  rw [run_equalIn_array (n := 4) (e := 5) w (d + 1) _ _ (by kernel_rfl) hi, hc]
  have := eq_items (P := Tryz.prog) (d := d + 1) (e := 5) (n := 1) (A := #[.int .u8 a0, .int .u8 a1, .int .u8 a2, .int .u8 a3]) (B := #[.int .u8 b0, .int .u8 b1, .int .u8 b2, .int .u8 b3])
    [(0, .int .u8 a0, .int .u8 b0, a0 == b0), (1, .int .u8 a1, .int .u8 b1, a1 == b1), (2, .int .u8 a2, .int .u8 b2, a2 == b2), (3, .int .u8 a3, .int .u8 b3, a3 == b3)] w fun x hx w => ?_
  · rw [show List.range 4 = ([(0, .int .u8 a0, .int .u8 b0, a0 == b0), (1, .int .u8 a1, .int .u8 b1, a1 == b1), (2, .int .u8 a2, .int .u8 b2, a2 == b2), (3, .int .u8 a3, .int .u8 b3, a3 == b3)] : List (Nat × Value × Value × Bool)).map (fun x => x.1) from rfl, this]
    congr 1
    rw [Bool.eq_iff_iff]
    simp
  · simp only [List.mem_cons, List.not_mem_nil, or_false] at hx
    rcases hx with rfl | rfl | rfl | rfl
    all_goals exact ⟨rfl, rfl, run_equalIn_int w d _ _ _ _ _ Tryz.underlying5⟩
set_option maxRecDepth 100000 in
theorem rc_equal (w : World) (a b : Rc) : (Op.equalIn 10000 63 (.agg a.cells.toArray) (.agg b.cells.toArray)).run Tryz.prog w = .ok (decide (a = b)) w := by
  obtain ⟨ak, at_, am, a0, a1, a2, a3, aot, ao, ant, an⟩ := a
  obtain ⟨bk, bt, bm, b0, b1, b2, b3, bot, bo, bnt, bn⟩ := b
  rw [run_equalIn_struct w 9999 63 _ _ (by kernel_rfl) (by kernel_rfl)]
  rw [eq_fields [(3, 0, .int .i64 ak, .int .i64 bk, ak == bk), (3, 1, .int .i64 at_, .int .i64 bt, at_ == bt), (57, 2, .int .u16 am, .int .u16 bm, am == bm), (59, 3, .agg #[.int .u8 a0, .int .u8 a1, .int .u8 a2, .int .u8 a3], .agg #[.int .u8 b0, .int .u8 b1, .int .u8 b2, .int .u8 b3], decide (a0 = b0 ∧ a1 = b1 ∧ a2 = b2 ∧ a3 = b3)), (61, 7, .agg #[.bool aot, .int .i64 ao], .agg #[.bool bot, .int .i64 bo], decide (aot = bot ∧ ao = bo)), (61, 9, .agg #[.bool ant, .int .i64 an], .agg #[.bool bnt, .int .i64 bn], decide (ant = bnt ∧ an = bn))] _ w (by kernel_rfl) fun x hx w => ?_]
  · congr 1
    rw [Bool.eq_iff_iff]
    simp only [List.all_cons, List.all_nil, Bool.and_true, Bool.and_eq_true, beq_iff_eq, decide_eq_true_eq, Rc.mk.injEq]
    constructor
    · rintro ⟨h1, h2, h3, ⟨h4, h5, h6, h7⟩, ⟨h8, h9⟩, h10, h11⟩
      exact ⟨h1, h2, h3, h4, h5, h6, h7, h8, h9, h10, h11⟩
    · rintro ⟨h1, h2, h3, h4, h5, h6, h7, h8, h9, h10, h11⟩
      exact ⟨h1, h2, h3, ⟨h4, h5, h6, h7⟩, ⟨h8, h9⟩, h10, h11⟩
  · simp only [List.mem_cons, List.not_mem_nil, or_false] at hx
    rcases hx with rfl | rfl | rfl | rfl | rfl | rfl
    · exact ⟨rfl, rfl, run_equalIn_int w _ _ _ _ _ _ Tryz.underlying3⟩
    · exact ⟨rfl, rfl, run_equalIn_int w _ _ _ _ _ _ Tryz.underlying3⟩
    · exact ⟨rfl, rfl, run_equalIn_int w _ _ _ _ _ _ Tryz.underlying57⟩
    · exact ⟨rfl, rfl, key_equal _ w _ _ _ _ _ _ _ _⟩
    · exact ⟨rfl, rfl, val_equal _ w _ _ _ _⟩
    · exact ⟨rfl, rfl, val_equal _ w _ _ _ _⟩
set_option maxRecDepth 100000 in
theorem rc_neq (w : World) (a b : Rc) : (binOp .neq 63 (.agg a.cells.toArray) (.agg b.cells.toArray)).run Tryz.prog w = .ok (.bool (!decide (a = b))) w := by
  rw [run_neq_struct, rc_equal]; rfl
set_option maxRecDepth 100000 in
theorem rc_eql (w : World) (a b : Rc) : (binOp .eql 63 (.agg a.cells.toArray) (.agg b.cells.toArray)).run Tryz.prog w = .ok (.bool (decide (a = b))) w := by
  rw [run_eql_struct, rc_equal]; rfl
set_option maxRecDepth 100000 in
theorem rc_guard (op : BinOp) (x y : Operand) (a b : Rc) (w : World) : (eqGuard op 63 x y (.agg a.cells.toArray) (.agg b.cells.toArray)).run Tryz.prog w = .ok () w := run_eqGuard_agg w op _ x y _ _ (by kernel_rfl)
theorem masked_calls {w : World} (k : Int) : Calls Tryz.prog 81 #[.int .i64 k] w fun e w' => e = .returned (.bool (decide (maskedK k))) ∧ w' = w := by
  by_cases h1 : k = 2
  · subst h1
    go_enter Tryz.func81, Tryz.ntmps81
    go_wp2
    go_ret
    exact ⟨rfl, rfl⟩
  · by_cases h2 : k = 8
    · subst h2
      go_enter Tryz.func81, Tryz.ntmps81
      go_wp2
      go_ret
      exact ⟨rfl, rfl⟩
    · have e1 : (k == 2) = false := by simpa using h1
      have e2 : (k == 8) = false := by simpa using h2
      rw [decide_eq_false (show ¬ maskedK k by unfold maskedK; omega)]
      clear h1 h2
      go_enter Tryz.func81, Tryz.ntmps81
      go_wp2
      go_ret
      exact ⟨rfl, rfl⟩
theorem keyed_calls {w : World} (k : Int) : Calls Tryz.prog 82 #[.int .i64 k] w fun e w' => e = .returned (.bool (decide (keyedK k))) ∧ w' = w := by
  by_cases h1 : k = 1
  · subst h1
    go_enter Tryz.func82, Tryz.ntmps82
    go_wp2
    go_ret
    exact ⟨rfl, rfl⟩
  · by_cases h2 : k = 7
    · subst h2
      go_enter Tryz.func82, Tryz.ntmps82
      go_wp2
      go_ret
      exact ⟨rfl, rfl⟩
    · have e1 : (k == 1) = false := by simpa using h1
      have e2 : (k == 7) = false := by simpa using h2
      rw [decide_eq_false (show ¬ keyedK k by unfold keyedK; omega)]
      clear h1 h2
      go_enter Tryz.func82, Tryz.ntmps82
      go_wp2
      go_ret
      exact ⟨rfl, rfl⟩
theorem bit_calls {w : World} (b : Bool) : Calls Tryz.prog 85 #[.bool b] w fun e w' => e = .returned (.int .i64 (bitN b : Nat)) ∧ w' = w := by
  cases b
  all_goals
    go_enter Tryz.func85, Tryz.ntmps85
    go_wp2
    go_ret
    exact ⟨rfl, rfl⟩
theorem value_calls {w : World} (t : Bool) (n : Int) : Calls Tryz.prog 103 #[.agg #[.bool t, .int .i64 n]] w fun e w' => e = .returned (.bool (decide (valOk t n))) ∧ Below w.heap.size w w' := by
  have hb := (Below.refl w.heap.size w).alloc (Nat.le_refl _) (.cells #[.bool t, .int .i64 n] 61)
  cases t
  · by_cases h : n = 0
    · subst h
      go_enter Tryz.func103, Tryz.ntmps103
      go_wp2
      go_ret
      exact ⟨rfl, hb⟩
    · have e1 : (n == 0) = false := by simpa using h
      rw [decide_eq_false (show ¬ valOk false n by unfold valOk; simpa using h)]
      clear h
      go_enter Tryz.func103, Tryz.ntmps103
      go_wp2
      go_ret
      exact ⟨rfl, hb⟩
  · rw [decide_eq_true (show valOk true n from .inl rfl)]
    go_enter Tryz.func103, Tryz.ntmps103
    go_wp2
    go_ret
    exact ⟨rfl, hb⟩
theorem heads_calls {w : World} : Calls Tryz.prog 80 #[] w fun e w' => ∃ a, e = .returned (.slice a 2 2) ∧ Ints w' .i64 a 2 2 [3, 21] ∧ Below w.heap.size w w' := by
  have hb := (Below.refl w.heap.size w).alloc (Nat.le_refl _) (.cells #[.int .i64 3, .int .i64 21] 3)
  have z := heap_alloc_new w (.cells #[.int .i64 3, .int .i64 21] 3)
  go_enter Tryz.func80, Tryz.ntmps80
  go_wp2
  go_ret
  refine ⟨_, rfl, ⟨rfl, Nat.le_refl _, by decide, by decide, fun _ => ⟨_, _, rfl, fun j hj => ?_⟩⟩, hb⟩
  match j, hj with
  | 0, _ => exact cells_at z 0
  | 1, _ => exact cells_at z 1
theorem flags_calls {w : World} : Calls Tryz.prog 84 #[] w fun e w' => ∃ a, e = .returned (.slice a 4 4) ∧ Ints w' .i64 a 4 4 [1, 1, 3, 3] ∧ Below w.heap.size w w' := by
  have hb := (Below.refl w.heap.size w).alloc (Nat.le_refl _) (.cells #[.int .i64 1, .int .i64 1, .int .i64 3, .int .i64 3] 3)
  have z := heap_alloc_new w (.cells #[.int .i64 1, .int .i64 1, .int .i64 3, .int .i64 3] 3)
  go_enter Tryz.func84, Tryz.ntmps84
  go_wp2
  go_ret
  refine ⟨_, rfl, ⟨rfl, Nat.le_refl _, by decide, by decide, fun _ => ⟨_, _, rfl, fun j hj => ?_⟩⟩, hb⟩
  match j, hj with
  | 0, _ => exact cells_at z 0
  | 1, _ => exact cells_at z 1
  | 2, _ => exact cells_at z 2
  | 3, _ => exact cells_at z 3
end Go.Proofs.YtgpedejeifmfdaaGreat
