/- Messages and labels compared; SameMsgs; msg. -/
import Derived.Test.YtclgakdfeeefiaaDoorBox5
import Derived.Laws.StructEq
namespace Go.Proofs.YtclgakdfeeefiaaDoor
open Go.RowKit

theorem eq4 {P : Program} {d : Nat} {w : World} {t : TypeId} {k : IntKind} (ht : P.underlying t = some (.int k)) (hp : ∀ (x y z u : Int) (i : Nat) (w : World), i < 4 → (part t #[.int k x, .int k y, .int k z, .int k u] i).run P w = .ok (([Value.int k x, .int k y, .int k z, .int k u]).getD i undef) w)
    (a1 a2 a3 a4 b1 b2 b3 b4 : Int) {fs : List Field} (hl : fs.map (fun f => (f.name != "_", f.type, f.offset)) = [(true, t, 0), (true, t, 1), (true, t, 2), (true, t, 3)]) :
    (Op.eqFields (d + 1) #[.int k a1, .int k a2, .int k a3, .int k a4] #[.int k b1, .int k b2, .int k b3, .int k b4] fs).run P w = .ok (decide ((a1, a2, a3, a4) = (b1, b2, b3, b4))) w := by
  obtain ⟨f0, fs, rfl, h0, hl⟩ := List.map_eq_cons_iff.1 hl
  obtain ⟨f1, fs, rfl, h1, hl⟩ := List.map_eq_cons_iff.1 hl
  obtain ⟨f2, fs, rfl, h2, hl⟩ := List.map_eq_cons_iff.1 hl
  obtain ⟨f3, fs, rfl, h3, hl⟩ := List.map_eq_cons_iff.1 hl
  obtain rfl := List.map_eq_nil_iff.1 hl
  simp only [Prod.mk.injEq, bne_iff_ne, ne_eq] at h0 h1 h2 h3
  obtain ⟨n0, t0, o0⟩ := h0
  obtain ⟨n1, t1, o1⟩ := h1
  obtain ⟨n2, t2, o2⟩ := h2
  obtain ⟨n3, t3, o3⟩ := h3
  have he := fun (w : World) (a b : Int) => run_equalIn_int (P := P) w d t k k a b ht
  by_cases h1 : a1 = b1 <;> by_cases h2 : a2 = b2 <;> by_cases h3 : a3 = b3 <;> by_cases h4 : a4 = b4 <;>
    simp [Op.eqFields, n0, n1, n2, n3, t0, t1, t2, t3, o0, o1, o2, o3, hp, he, h1, h2, h3, h4]
theorem eq2 {P : Program} {d : Nat} {w : World} {t : TypeId} {k : IntKind} (ht : P.underlying t = some (.int k)) (hp : ∀ (x y : Int) (i : Nat) (w : World), i < 2 → (part t #[.int k x, .int k y] i).run P w = .ok (([Value.int k x, .int k y]).getD i undef) w)
    (a1 a2 b1 b2 : Int) {fs : List Field} (hl : fs.map (fun f => (f.name != "_", f.type, f.offset)) = [(true, t, 0), (true, t, 1)]) :
    (Op.eqFields (d + 1) #[.int k a1, .int k a2] #[.int k b1, .int k b2] fs).run P w = .ok (decide ((a1, a2) = (b1, b2))) w := by
  obtain ⟨f0, fs, rfl, h0, hl⟩ := List.map_eq_cons_iff.1 hl
  obtain ⟨f1, fs, rfl, h1, hl⟩ := List.map_eq_cons_iff.1 hl
  obtain rfl := List.map_eq_nil_iff.1 hl
  simp only [Prod.mk.injEq, bne_iff_ne, ne_eq] at h0 h1
  obtain ⟨n0, t0, o0⟩ := h0
  obtain ⟨n1, t1, o1⟩ := h1
  have he := fun (w : World) (a b : Int) => run_equalIn_int (P := P) w d t k k a b ht
  by_cases h1 : a1 = b1 <;> by_cases h2 : a2 = b2 <;>
    simp [Op.eqFields, n0, n1, t0, t1, o0, o1, hp, he, h1, h2]

set_option maxRecDepth 100000 in
theorem msg_equal (w : World) (a b : Msg) : (Op.equalIn 10000 39 (.agg a.cells.toArray) (.agg b.cells.toArray)).run Tryd.prog w = .ok (decide (a = b)) w := by
  obtain ⟨a1, a2, a3, a4⟩ := a
  obtain ⟨b1, b2, b3, b4⟩ := b
  rw [run_equalIn_struct w 9999 39 _ _ (by kernel_rfl) (by kernel_rfl)]
  have hp : ∀ (x y z u : Int) (i : Nat) (w : World), i < 4 → (part 3 #[.int .i64 x, .int .i64 y, .int .i64 z, .int .i64 u] i).run Tryd.prog w = .ok (([Value.int .i64 x, .int .i64 y, .int .i64 z, .int .i64 u]).getD i undef) w := by
    intro x y z u i w hi
    rcases i with _ | _ | _ | _ | i
    · rfl
    · rfl
    · rfl
    · rfl
    · omega
  exact eq4 (d := 9998) (t := 3) (k := .i64) Tryd.underlying3 hp a1 a2 a3 a4 b1 b2 b3 b4 (by kernel_rfl)
set_option maxRecDepth 100000 in
theorem label_equal (w : World) (a b : Label) : (Op.equalIn 10000 32 (.agg a.cells.toArray) (.agg b.cells.toArray)).run Tryd.prog w = .ok (decide (a = b)) w := by
  obtain ⟨a1, a2⟩ := a
  obtain ⟨b1, b2⟩ := b
  rw [run_equalIn_struct w 9999 32 _ _ (by kernel_rfl) (by kernel_rfl)]
  have hp : ∀ (x y : Int) (i : Nat) (w : World), i < 2 → (part 30 #[.int .u64 x, .int .u64 y] i).run Tryd.prog w = .ok (([Value.int .u64 x, .int .u64 y]).getD i undef) w := by
    intro x y i w hi
    rcases i with _ | _ | i
    · rfl
    · rfl
    · omega
  exact eq2 (d := 9998) (t := 30) (k := .u64) Tryd.underlying30 hp a1 a2 b1 b2 (by kernel_rfl)
theorem msg_eql (w : World) (a b : Msg) : (binOp .eql 39 (.agg a.cells.toArray) (.agg b.cells.toArray)).run Tryd.prog w = .ok (.bool (decide (a = b))) w := by
  rw [run_eql_struct, msg_equal]; rfl
theorem msg_neq (w : World) (a b : Msg) : (binOp .neq 39 (.agg a.cells.toArray) (.agg b.cells.toArray)).run Tryd.prog w = .ok (.bool (!decide (a = b))) w := by
  rw [run_neq_struct, msg_equal]; rfl
theorem label_eql (w : World) (a b : Label) : (binOp .eql 32 (.agg a.cells.toArray) (.agg b.cells.toArray)).run Tryd.prog w = .ok (.bool (decide (a = b))) w := by
  rw [run_eql_struct, label_equal]; rfl
theorem label_neq (w : World) (a b : Label) : (binOp .neq 32 (.agg a.cells.toArray) (.agg b.cells.toArray)).run Tryd.prog w = .ok (.bool (!decide (a = b))) w := by
  rw [run_neq_struct, label_equal]; rfl
theorem msg_guard (op : BinOp) (x y : Operand) (a b : Msg) (w : World) : (eqGuard op 39 x y (.agg a.cells.toArray) (.agg b.cells.toArray)).run Tryd.prog w = .ok () w := run_eqGuard_agg w op _ x y _ _ (by kernel_rfl)
theorem label_guard (op : BinOp) (x y : Operand) (a b : Label) (w : World) : (eqGuard op 32 x y (.agg a.cells.toArray) (.agg b.cells.toArray)).run Tryd.prog w = .ok () w := run_eqGuard_agg w op _ x y _ _ (by kernel_rfl)

set_option maxHeartbeats 1000000 in
theorem SameMsgs_calls {a1 a2 : Option Addr} {n1 n2 c1 c2 : Nat} {xs ys : List Msg} {w : World} (hx : Msgs w a1 n1 c1 xs) (hy : Msgs w a2 n2 c2 ys) (he : xs = ys) :
    Calls Tryd.prog 18 #[.slice a1 n1 c1, .slice a2 n2 c2] w fun e w' => e = .returned (.bool true) ∧ ∃ n, w' = w.drewN n := by
  subst he
  have hl1 := hx.len
  have hl2 := hy.len
  have m1 := hx.max
  have m2 := hy.max
  have p1 := hx.le
  have p2 := hy.le
  obtain rfl : n1 = n2 := by omega
  have hne : ((n1 : Int) != (n1 : Int)) = false := by simp
  have Hl1 := Lib.hid hl1; clear hl1
  have Hl2 := Lib.hid hl2; clear hl2
  go_enter Tryd.func18, Tryd.ntmps18
  go_wp2_with fail
  go_loopw [5] (fun i wr => ∃ k : Nat, k ≤ n1 ∧ i = .int .i64 k ∧ ∃ n, wr = w.drewN n) (fun i _ => n1 - (intOf i).toNat)
  case atStart => exact ⟨0, by omega, rfl, 0, rfl⟩
  case round =>
    obtain ⟨k, hk, rfl, nd, rfl⟩ := hrel
    by_cases hlt : k < n1
    · obtain ⟨b1, o1, rfl, cx⟩ := hx.cell (by omega)
      obtain ⟨b2, o2, rfl, cy⟩ := hy.cell (by omega)
      have hkx : k < xs.length := by rw [Hl1.out]; exact hlt
      have hcx : ∀ j u, (xs[k].cells)[j]? = some u → w.cell? ⟨b1, o1 + k * 4 + j, none⟩ = some u := fun j u hu => by
        have hj : j < 4 := (List.getElem?_eq_some_iff.1 hu).1
        rw [Nat.add_assoc]
        exact cx _ _ ((mrow_at xs hkx j hj).trans hu)
      have hcy : ∀ j u, (xs[k].cells)[j]? = some u → w.cell? ⟨b2, o2 + k * 4 + j, none⟩ = some u := fun j u hu => by
        have hj : j < 4 := (List.getElem?_eq_some_iff.1 hu).1
        rw [Nat.add_assoc]
        exact cy _ _ ((mrow_at xs hkx j hj).trans hu)
      obtain ⟨m, hm⟩ : ∃ m, m = xs[k] := ⟨_, rfl⟩
      rw [← hm] at hcx hcy
      have hq := fun w => msg_neq w m m
      have hg := fun x y w => msg_guard .neq x y m m w
      clear hm cx cy
      obtain ⟨m1', m2', m3', m4'⟩ := m
      simp only [Msg.cells, Msg.kind, Msg.part, Msg.tx, Msg.what, decide_true, Bool.not_true] at hcx hcy hq hg
      have x0 := hcx 0 _ rfl
      have x1 := hcx 1 _ rfl
      have x2 := hcx 2 _ rfl
      have x3 := hcx 3 _ rfl
      have y0 := hcy 0 _ rfl
      have y1 := hcy 1 _ rfl
      have y2 := hcy 2 _ rfl
      have y3 := hcy 3 _ rfl
      simp only [Nat.add_zero] at x0 y0
      clear hcx hcy
      have i1 : (0 : Int) ≤ (k : Int) := by omega
      have i2 : (k : Int) < (n1 : Int) := by omega
      go_wp2_with fail
      go_quiet (fail)
      go_wp2_with fail
      go_roundw
      case rel => exact ⟨k + 1, by omega, by go_num, _, rfl⟩
      case measure => simp [intOf]; omega
    · obtain rfl : k = n1 := by omega
      go_wp2
      go_ret
      exact ⟨rfl, _, rfl⟩
end Go.Proofs.YtclgakdfeeefiaaDoor
