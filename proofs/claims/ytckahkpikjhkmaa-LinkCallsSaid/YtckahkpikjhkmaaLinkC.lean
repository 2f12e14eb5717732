/- The document's Right; rows of messages that come in. -/
import Derived.Test.YtckahkpikjhkmaaLinkB
namespace Go.Proofs.Ytckahkpikjhkmaa
open Go.RowKit Go.ChangeShapes Go.WideShapes

theorem right_iff (k p t x : Int) : rightOf (k, p, t, x) = true ↔ 0 ≤ p ∧ p ≤ 5 ∧ 1 ≤ t ∧ t ≤ 1048576 ∧ ((k = 1 ∧ 0 ≤ x ∧ x ≤ 2) ∨ (k = 4 ∧ 0 ≤ x ∧ x ≤ 1) ∨ ((k = 2 ∨ k = 3 ∨ k = 5) ∧ x = 0)) := by
  unfold rightOf mostOf
  rw [decide_eq_true_iff]
  simp only [Msg.kind, Msg.part, Msg.tx, Msg.what]
  split
  · omega
  · split
    · omega
    · split <;> omega
set_option maxHeartbeats 4000000 in
theorem RRight_calls {w : World} (m : Msg) : Calls Try.prog 23 #[.agg m.cells.toArray] w fun e w' => e = .returned (.bool (rightOf m)) ∧ Below w.heap.size w w' := by
  obtain ⟨k, p, t, x⟩ := m
  have hR := right_iff k p t x
  generalize rightOf (k, p, t, x) = R at hR ⊢
  have hb : Below w.heap.size w (w.alloc (.cells #[.int .i64 k, .int .i64 p, .int .i64 t, .int .i64 x] 38)) := (Below.refl _ _).alloc (Nat.le_refl _) _
  simp only [Msg.cells, Msg.kind, Msg.part, Msg.tx, Msg.what]
  have ff : (R = true → False) → R = false := fun h => by cases R; rfl; exact absurd rfl h
  have d1 : decide (p < 0) = true ∧ R = false ∨ decide (p < 0) = false ∧ decide (5 < p) = true ∧ R = false ∨ decide (p < 0) = false ∧ decide (5 < p) = false ∧ decide (t < 1) = true ∧ R = false ∨
      decide (p < 0) = false ∧ decide (5 < p) = false ∧ decide (t < 1) = false ∧ decide (1048576 < t) = true ∧ R = false ∨
      decide (p < 0) = false ∧ decide (5 < p) = false ∧ decide (t < 1) = false ∧ decide (1048576 < t) = false ∧ (R = true ↔ ((k = 1 ∧ 0 ≤ x ∧ x ≤ 2) ∨ (k = 4 ∧ 0 ≤ x ∧ x ≤ 1) ∨ ((k = 2 ∨ k = 3 ∨ k = 5) ∧ x = 0))) := by
    by_cases h1 : p < 0
    · exact .inl ⟨decide_eq_true h1, ff fun h => by have := hR.1 h; omega⟩
    · by_cases h2 : 5 < p
      · exact .inr (.inl ⟨decide_eq_false h1, decide_eq_true h2, ff fun h => by have := hR.1 h; omega⟩)
      · by_cases h3 : t < 1
        · exact .inr (.inr (.inl ⟨decide_eq_false h1, decide_eq_false h2, decide_eq_true h3, ff fun h => by have := hR.1 h; omega⟩))
        · by_cases h4 : 1048576 < t
          · exact .inr (.inr (.inr (.inl ⟨decide_eq_false h1, decide_eq_false h2, decide_eq_false h3, decide_eq_true h4, ff fun h => by have := hR.1 h; omega⟩)))
          · exact .inr (.inr (.inr (.inr ⟨decide_eq_false h1, decide_eq_false h2, decide_eq_false h3, decide_eq_false h4, hR.trans ⟨fun h => h.2.2.2.2, fun h => ⟨by omega, by omega, by omega, by omega, h⟩⟩⟩)))
  clear hR
  have Hb := Lib.hid hb; clear hb
  rcases d1 with ⟨d1, rfl⟩ | ⟨d1, d2, rfl⟩ | ⟨d1, d2, d3, rfl⟩ | ⟨d1, d2, d3, d4, rfl⟩ | ⟨d1, d2, d3, d4, hR⟩
  case inr.inr.inr.inr =>
    have kd : (k = 1 ∧ ((decide (0 ≤ x) = false ∧ R = false) ∨ (decide (0 ≤ x) = true ∧ decide (x ≤ 2) = R))) ∨ (k = 4 ∧ (((x == 0) = true ∧ R = true) ∨ ((x == 0) = false ∧ (x == 1) = R))) ∨ ((k = 2 ∨ k = 3 ∨ k = 5) ∧ (x == 0) = R) ∨
        ((k == 1) = false ∧ (k == 4) = false ∧ (k == 2) = false ∧ (k == 3) = false ∧ (k == 5) = false ∧ R = false) := by
      by_cases k1 : k = 1
      · refine .inl ⟨k1, ?_⟩
        by_cases x0 : 0 ≤ x
        · refine .inr ⟨decide_eq_true x0, ?_⟩
          rw [Bool.eq_iff_iff, decide_eq_true_iff, hR]; omega
        · exact .inl ⟨decide_eq_false x0, ff fun h => by have := hR.1 h; omega⟩
      · by_cases k4 : k = 4
        · refine .inr (.inl ⟨k4, ?_⟩)
          by_cases x0 : x = 0
          · exact .inl ⟨by simpa using x0, hR.2 (by omega)⟩
          · refine .inr ⟨by simpa using x0, ?_⟩
            rw [Bool.eq_iff_iff, beq_iff_eq, hR]; omega
        · by_cases k2 : k = 2 ∨ k = 3 ∨ k = 5
          · refine .inr (.inr (.inl ⟨k2, ?_⟩))
            rw [Bool.eq_iff_iff, beq_iff_eq, hR]; omega
          · exact .inr (.inr (.inr ⟨by simpa using k1, by simpa using k4, by simp; omega, by simp; omega, by simp; omega, ff fun h => by have := hR.1 h; omega⟩))
    clear hR ff
    rcases kd with ⟨rfl, ⟨e1, rfl⟩ | ⟨e1, e2⟩⟩ | ⟨rfl, ⟨e1, rfl⟩ | ⟨e1, e2⟩⟩ | ⟨rfl | rfl | rfl, e1⟩ | ⟨e1, e2, e3, e4, e5, rfl⟩
    all_goals
      go_enter Try.func23, Try.ntmps23
      go_wp2
      go_ret
      exact ⟨rfl, Hb.out⟩
  all_goals
    clear ff
    go_enter Try.func23, Try.ntmps23
    go_wp2
    go_ret
    exact ⟨rfl, Hb.out⟩

abbrev Msgs (w : World) (a : Option Addr) (n c : Nat) (ms : List Msg) : Prop := Recs msgF w a n c ms
section
variable {H : Type} {enc : TypeId × Value → H} {w : World} {base : Nat} {held : Bool} {fuel : Nat}
theorem open_msg1 {cs : List Value} {x : DataW H × List MemPlace} (h : DataW.trod enc Try.prog w base (fun _ => true) held fuel 38 cs = some x) : ∃ v : Msg, cs = v.cells := by
  obtain ⟨hl, hf⟩ := open_parts Try.underlying38 h
  have hl4 : cs.length = 4 := hl.trans (by kernel_rfl)
  obtain ⟨n0, y0, h0⟩ := hf 0 _ rfl
  obtain ⟨n1, y1, h1⟩ := hf 1 _ rfl
  obtain ⟨n2, y2, h2⟩ := hf 2 _ rfl
  obtain ⟨n3, y3, h3⟩ := hf 3 _ rfl
  obtain ⟨z0, e0, _, _⟩ := DataW.trod_int Try.underlying3 h0
  obtain ⟨z1, e1, _, _⟩ := DataW.trod_int Try.underlying3 h1
  obtain ⟨z2, e2, _, _⟩ := DataW.trod_int Try.underlying3 h2
  obtain ⟨z3, e3, _, _⟩ := DataW.trod_int Try.underlying3 h3
  have c1 : Try.prog.cellsOf 3 = 1 := by kernel_rfl
  match cs, hl4 with
  | [v0, v1, v2, v3], _ =>
    simp [c1] at e0 e1 e2 e3
    subst e0 e1 e2 e3
    exact ⟨(z0, z1, z2, z3), rfl⟩
theorem open_msgs {a : Option Addr} {n c : Nat} {x : DataW H × List MemPlace}
    (h : DataW.trod enc Try.prog w base (fun _ => true) held fuel 32 [.slice a n c] = some x) : ∃ xs, Msgs w a n c xs := by
  obtain ⟨a', n', c', rs, e, hr, hx⟩ := open_rows Try.underlying32 (m := 4) (by kernel_rfl) (by decide) h
  cases e
  obtain ⟨xs, rfl, -⟩ := list_map_choose (f := Msg.cells) (p := fun _ => True) rs fun r hr => by
    obtain ⟨f, y, h⟩ := hx r hr
    obtain ⟨v, hv⟩ := open_msg1 h
    exact ⟨v, hv, trivial⟩
  exact ⟨xs, recs_of_rows (F := msgF) hr⟩
end

theorem upd_upd {β : Type} (f : Pla → β) (k : Pla) (v v' : β) : upd (upd f k v) k v' = upd f k v' := by
  funext x; unfold upd; split <;> rfl
/-- A list of the call's own, beside a link. -/
structure OwnM (w0 w : World) (F : Nat → Prop) (v : Value) (ms : List Msg) : Prop where
  own : Mo w w0.heap.size v ms
  out : ∀ g, v.ownBlock = some g → ¬ F g
section
variable {w0 w w' : World} {F : Nat → Prop} {v : Value} {ms : List Msg}
theorem OwnM.step (h : OwnM w0 w F v ms) (hb : Below w.heap.size w w') : OwnM w0 w' F v ms := ⟨h.own.below hb, h.out⟩
theorem OwnM.mod (h : OwnM w0 w F v ms) (hm : Mod F w w') : OwnM w0 w' (grownF F w w') v ms := ⟨h.own.grown hm h.out, fun g hg hf => hf.elim (h.out g hg) fun hf => by have := (h.own.lt g hg).2; omega⟩
end
end Go.Proofs.Ytckahkpikjhkmaa
