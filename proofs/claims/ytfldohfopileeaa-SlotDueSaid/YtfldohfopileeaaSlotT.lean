/- Timers that a law holds. -/
import Derived.Test.YtfldohfopileeaaSlot8
import Derived.Test.YtfldohfopileeaaSlotR
namespace Go.Proofs.Ytfldohfopileeaa
open Go.RowKit

structure Tim (w0 w : World) (F : Nat → Prop) (b : Nat) (xs : List Tm) : Prop where
  ex : ∃ v, TmAt w w0.heap.size b v xs ∧ ∀ k, v.ownBlock = some k → F k
  own : F b
  lt : ∀ k, F k → w0.heap.size ≤ k ∧ k < w.heap.size
  bel : Below w0.heap.size w0 w
  good : Good xs
section
variable {w0 w w' : World} {F : Nat → Prop} {b : Nat} {xs : List Tm}
theorem Tim.step (h : Tim w0 w F b xs) (hb : Below w.heap.size w w') : Tim w0 w' F b xs := by
  obtain ⟨v, ht, hv⟩ := h.ex
  exact ⟨⟨v, ht.below hb, hv⟩, h.own, fun k hk => ⟨(h.lt k hk).1, Nat.lt_of_lt_of_le (h.lt k hk).2 hb.size⟩, h.bel.trans (hb.mono h.bel.size), h.good⟩
theorem tim_next {v v' : Value} {ys : List Tm} (h : Tim w0 w F b xs) (hF : ∀ k, v.ownBlock = some k → F k) (ht : TmAt w' w0.heap.size b v' ys) (hm : Mod (fun k => k = b ∨ v.ownBlock = some k) w w') (ho : v'.ownBlock = v.ownBlock ∨ ∃ g, v'.ownBlock = some g ∧ w.heap.size ≤ g) (hg : Good ys) :
    Tim w0 w' (grownF F w w') b ys ∧ Mod F w w' := by
  have hm' : Mod F w w' := hm.mono fun k hk => hk.elim (fun e => e ▸ h.own) (hF k)
  refine ⟨⟨⟨v', ht, fun k hk => ?_⟩, .inl h.own, fun k hk => ?_, hm'.below h.bel h.bel.size (fun k hk => (h.lt k hk).1), hg⟩, hm'⟩
  · rcases ho with ho | ⟨g, ho, hge⟩
    · exact .inl (hF k (by rw [← ho]; exact hk))
    · have e : k = g := by rw [hk] at ho; exact Option.some.inj ho
      subst e
      exact .inr ⟨hge, (ht.row.lt k hk).2⟩
  · rcases hk with hk | ⟨h1, h2⟩
    · exact ⟨(h.lt k hk).1, Nat.lt_of_lt_of_le (h.lt k hk).2 hm'.size⟩
    · exact ⟨Nat.le_trans h.bel.size h1, h2⟩
theorem tim_set (h : Tim w0 w F b xs) (hn : xs.length ≤ 1000) (t : Int) {id : Int} (hid : (Lit.int .i64 id).wf = true) : Calls Try.prog 22 #[.pointer (some ⟨b, 0, none⟩), .int .i64 t, .int .i64 id] w fun e w' =>
    e = .returned (.tuple #[]) ∧ Tim w0 w' (grownF F w w') b (setT xs t id) ∧ Mod F w w' := by
  obtain ⟨v, ht, hv⟩ := h.ex
  refine (Set_calls (t := t) (id := id) ht h.bel.size (by omega) h.good.sort).mono ?_
  rintro e w' ⟨he, v', ht', hm, ho⟩
  exact ⟨he, tim_next h hv ht' hm ho (h.good.set t hid)⟩
theorem tim_drop (h : Tim w0 w F b xs) (hn : xs.length ≤ 1000) (id : Int) : Calls Try.prog 28 #[.pointer (some ⟨b, 0, none⟩), .int .i64 id] w fun e w' =>
    e = .returned (.bool (decide ((xs.filter (kpT id)).length < xs.length))) ∧ Tim w0 w' (grownF F w w') b (xs.filter (kpT id)) ∧ Mod F w w' := by
  obtain ⟨v, ht, hv⟩ := h.ex
  refine (Drop_calls (id := id) ht (by omega)).mono ?_
  rintro e w' ⟨he, v', ht', hm, ho⟩
  exact ⟨he, tim_next h hv ht' hm (.inl ho) (h.good.drop id)⟩
theorem tim_due (h : Tim w0 w F b xs) (hn : xs.length ≤ 1000) (t : Int) : Calls Try.prog 26 #[.pointer (some ⟨b, 0, none⟩), .int .i64 t] w fun e w' =>
    ∃ out, e = .returned out ∧ Own w' w.heap.size 3 .i64 out (idsT (dueT xs t)) ∧ Tim w0 w' (grownF F w w') b (restT xs t) ∧ Mod F w w' ∧ Mod (fun k => k = b) w w' := by
  obtain ⟨v, ht, hv⟩ := h.ex
  refine (Due_calls (t := t) ht (by omega) h.good.ok).mono ?_
  rintro e w' ⟨out, he, hout, v', ht', hm, ho⟩
  have := tim_next h hv ht' (hm.mono fun k hk => .inl hk) (.inl ho) (h.good.rest t)
  exact ⟨out, he, hout, this.1, this.2, hm⟩
theorem tim_len (h : Tim w0 w F b xs) : Calls Try.prog 30 #[.pointer (some ⟨b, 0, none⟩)] w fun e w' => e = .returned (.int .i64 xs.length) ∧ w' = w := by
  obtain ⟨v, ht, -⟩ := h.ex
  exact Len_calls ht
theorem tim_first (h : Tim w0 w F b xs) : Calls Try.prog 29 #[.pointer (some ⟨b, 0, none⟩)] w fun e w' => e = .returned (.tuple #[.int .i64 (xs.headD (0, 0)).1, .bool (decide (0 < xs.length))]) ∧ w' = w := by
  obtain ⟨v, ht, -⟩ := h.ex
  exact First_calls ht
theorem tim_new (w : World) : Tim w (w.alloc (.cells #[.slice none 0 0] 39)) (fun k => k = w.heap.size) w.heap.size [] :=
  ⟨⟨.slice none 0 0, ⟨heap_alloc_new w _, FRow.nil _ _, (fun e => by cases e), Nat.le_refl _⟩, (fun k hk => by cases hk)⟩, rfl, (fun k hk => ⟨by rw [hk]; exact Nat.le_refl _, by rw [hk]; simp⟩), (Below.refl _ _).alloc (Nat.le_refl _) _, Good.nil⟩
end
end Go.Proofs.Ytfldohfopileeaa
