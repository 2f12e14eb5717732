/- Entries compared; a list of entries beside a desk. -/
import Derived.Test.YtdccocgdgcjfcaaDesk9
import Derived.Test.YtdccocgdgcjfcaaEq
namespace Go.Proofs.Ytdccocgdgcjfcaa
open Go.RowKit

theorem ent_equal (w : World) (a b : Ent) : (Op.equalIn 10000 50 (.agg a.cells.toArray) (.agg b.cells.toArray)).run Try.prog w = .ok (decide (a = b)) w := by
  obtain ⟨a1, a2, a3⟩ := a
  obtain ⟨b1, b2, b3⟩ := b
  rw [run_equalIn_struct w 9999 50 _ _ (by kernel_rfl) (by kernel_rfl)]
  rw [eq_ints [(3, .i64, 0, a1, b1), (3, .i64, 1, a2, b2), (37, .u16, 2, a3, b3)] _ w (by kernel_rfl) fun x hx => ?_]
  · congr 1
    rw [Bool.eq_iff_iff]
    simp
  · simp only [List.mem_cons, List.not_mem_nil, or_false] at hx
    rcases hx with rfl | rfl | rfl
    · exact ⟨Try.underlying3, fun _ => rfl, fun _ => rfl⟩
    · exact ⟨Try.underlying3, fun _ => rfl, fun _ => rfl⟩
    · exact ⟨Try.underlying37, fun _ => rfl, fun _ => rfl⟩
theorem ent_neq (w : World) (a b : Ent) : (binOp .neq 50 (.agg a.cells.toArray) (.agg b.cells.toArray)).run Try.prog w = .ok (.bool (!decide (a = b))) w := by
  rw [run_neq_struct, ent_equal]; rfl
theorem ent_eql (w : World) (a b : Ent) : (binOp .eql 50 (.agg a.cells.toArray) (.agg b.cells.toArray)).run Try.prog w = .ok (.bool (decide (a = b))) w := by
  rw [run_eql_struct, ent_equal]; rfl
theorem ent_guard (op : BinOp) (x y : Operand) (a b : Ent) (w : World) : (eqGuard op 50 x y (.agg a.cells.toArray) (.agg b.cells.toArray)).run Try.prog w = .ok () w := run_eqGuard_agg w op _ x y _ _ (by kernel_rfl)

theorem Entry_some {w0 w : World} {b : Nat} {F : Nat → Prop} {p : Pl} {es : List Ent} (h : Dk w0 w b F p es) {t : Nat} (ht : t < es.length) : Calls Try.prog 22 #[.pointer (some ⟨b, 0, none⟩), .int .i64 ((t + 1 : Nat) : Int)] w fun e w' =>
    e = .returned (.tuple #[.agg #[.int .i64 es[t].client, .int .i64 es[t].begin, .int .u16 es[t].mask], .bool true]) ∧ Below w.heap.size w w' := by
  have h64 := h.facts.2.1
  have hen := Entry_dk h ((t + 1 : Nat) : Int) (by simp [Lit.wf, IntKind.min, IntKind.max, IntKind.signed, IntKind.bits]; omega)
  have hent : entAt es ((t + 1 : Nat) : Int) = es[t] := by
    unfold entAt
    rw [if_pos (by omega), show (((t + 1 : Nat) : Int) - 1).toNat = t by omega, List.getD_eq_getElem?_getD, List.getElem?_eq_getElem ht, Option.getD_some]
  rw [hent, decide_eq_true (by omega)] at hen
  exact hen.mono fun _ _ h => ⟨h.1, h.2.1⟩

/-- The call's own list of entries, apart from the desk's blocks. -/
structure AllR (w0 w : World) (F : Nat → Prop) (v : Value) (es : List Ent) : Prop where
  own : EOwn w w0.heap.size v es
  out : ∀ g, v.ownBlock = some g → ¬ F g
section
variable {w0 w w' : World} {F : Nat → Prop} {v : Value} {es : List Ent}
theorem AllR.step (h : AllR w0 w F v es) (hb : Below w.heap.size w w') : AllR w0 w' F v es := ⟨h.own.below hb, h.out⟩
theorem AllR.mod (h : AllR w0 w F v es) (hm : Mod F w w') : AllR w0 w' (grownF F w w') v es := ⟨h.own.grown hm h.out, fun g hg hf => hf.elim (h.out g hg) fun hf => by have := (h.own.lt g hg).2; omega⟩
end

theorem begin_cases {p : Pl} (hp : p.good) (es : List Ent) (c mask now : Int) :
    (beginOf p es c mask now = (es.length + 1, 0, es ++ [(c, now, mask)]) ∧ ofOf p es c now = 0 ∧ ofOf p (es ++ [(c, now, mask)]) c now = es.length + 1) ∨
    ∃ E : Int, beginOf p es c mask now = (0, E, es) ∧ E ≠ 0 ∧ (E = 13 → ofOf p es c now ≠ 0) := by
  unfold beginOf
  split
  · exact .inr ⟨11, rfl, by decide, fun h => by cases h⟩
  · rename_i hr
    split
    · exact .inr ⟨10, rfl, by decide, fun h => by cases h⟩
    · split
      · rename_i h; exact .inr ⟨13, rfl, by decide, fun _ => h⟩
      · rename_i ho
        split
        · exact .inr ⟨16, rfl, by decide, fun h => by cases h⟩
        · refine .inl ⟨rfl, by simpa using ho, ?_⟩
          have hr' : 0 ≤ c ∧ c < 8 ∧ 0 ≤ now ∧ now ≤ 1099511627776 := Classical.not_not.1 hr
          unfold ofOf
          have hl : lastOf (es ++ [(c, now, mask)]) c = es.length + 1 := by rw [lastOf_snoc]; simp
          rw [hl, if_neg (by omega), if_neg, ]
          rw [Nat.add_sub_cancel, List.getD_eq_getElem?_getD, List.getElem?_append_right (Nat.le_refl _), Nat.sub_self]
          show ¬ releaseOf p now ≤ now
          unfold releaseOf laterOf lowTick
          obtain ⟨h1, h2, h3, h4, h5, h6⟩ := hp
          clear hr hl ho
          obtain ⟨P, W, D⟩ := p
          simp only [Pl.parts, Pl.window, Pl.delay] at h1 h2 h3 h4 h5 h6 ⊢
          rw [if_neg (by omega), if_neg (by omega)]
          have := Int.mul_le_mul (a := 1) (b := 1) (c := D) (d := P + 1) (by omega) (by omega) (by omega) (by omega)
          omega
end Go.Proofs.Ytdccocgdgcjfcaa
