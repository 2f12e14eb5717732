/- What came in, read by its type: slices of integers, rows of many-celled elements. Of no program. -/
import Derived.Test.YtgpedejeifmfdaaGreatBase
import Derived.ChangeArms
import Derived.ChangeSlices
import Derived.Deep.Slices
namespace Go.Proofs.YtgpedejeifmfdaaGreat
open Go.RowKit Go.ChangeShapes Go.WideShapes

theorem ints_of_row {w : World} {k : IntKind} {x : Addr} {len cap : Nat} {zs : List Int} (hl : len ≤ cap) (hm : cap ≤ maxLen) (hz : zs.length = cap)
    (hc : ∀ i, i < zs.length → w.cell? (x.add i) = some (.int k (zs.getD i 0))) (hw : ∀ n ∈ zs, (Lit.int k n).wf = true) : Ints w k (some x) len cap (zs.take len) := by
  refine ⟨by rw [List.length_take]; omega, hl, by unfold maxLen at hm; omega, fun z h => hw z (List.mem_of_mem_take h), fun hp => ?_⟩
  obtain ⟨b, o, spot⟩ := x
  have h0 := hc 0 (by omega)
  have hs : spot = none := by simpa [Addr.add] using World.cell?_spot h0
  subst hs
  refine ⟨b, o, rfl, fun j hj => ?_⟩
  have hadd : (⟨b, o, none⟩ : Addr).add j = ⟨b, o + j, none⟩ := by unfold Addr.add; split <;> simp_all
  rw [← hadd, hc j (by omega), List.getD_eq_getElem?_getD, List.getD_eq_getElem?_getD, List.getElem?_take, if_pos hj]

section
variable {H : Type} {enc : TypeId × Value → H} {P : Program} {w : World} {base : Nat} {held : Bool}

theorem piece_ints {t e : TypeId} {k : IntKind} {fuel : Nat} {cs : List Value} {x : DataW H × List MemPlace} (ht : P.underlying t = some (.slice e)) (he : P.underlying e = some (.int k)) (hc : P.cellsOf e = 1)
    (h : DataW.trod enc P w base (fun _ => true) held fuel t cs = some x) : ∃ a n c zs, cs = [.slice a n c] ∧ Ints w k a n c zs := by
  rcases open_ints ht he hc h with ⟨rfl, _⟩ | ⟨a, l, c, zs, rfl, _, hl, hm, hz, _, hcell, hwz⟩
  · exact ⟨none, 0, 0, [], rfl, Ints.nil0 _ _⟩
  · exact ⟨some a, l, c, zs.take l, rfl, ints_of_row hl hm (by simpa using hz) hcell hwz⟩

structure Rows (w : World) (ce : Nat) (a : Option Addr) (n c : Nat) (rs : List (List Value)) : Prop where
  len : rs.length = n
  le : n ≤ c
  max : c ≤ 9223372036854775807
  wide : ∀ r ∈ rs, r.length = ce
  cell : 0 < n → ∃ b o, a = some ⟨b, o, none⟩ ∧ ∀ j (hj : j < rs.length) k, k < ce → w.cell? ⟨b, o + (j * ce + k), none⟩ = rs[j][k]?

theorem list_choose {α β : Type} {p : α → β → Prop} : ∀ (l : List α), (∀ a ∈ l, ∃ b, p a b) → ∃ bs : List β, bs.length = l.length ∧ ∀ i (h : i < l.length) (h' : i < bs.length), p l[i] bs[i]
  | [], _ => ⟨[], rfl, fun i h => absurd h (by simp)⟩
  | a :: l, h => by
    obtain ⟨b, hb⟩ := h a (.head _)
    obtain ⟨bs, h1, h2⟩ := list_choose l fun x hx => h x (.tail _ hx)
    refine ⟨b :: bs, by simp [h1], fun i hi hi' => ?_⟩
    cases i with
    | zero => exact hb
    | succ i => exact h2 i (by simpa using hi) (by simpa using hi')
theorem list_map_choose {α β : Type} {f : β → α} {p : β → Prop} : ∀ (l : List α), (∀ a ∈ l, ∃ b, a = f b ∧ p b) → ∃ bs : List β, l = bs.map f ∧ ∀ b ∈ bs, p b
  | [], _ => ⟨[], rfl, fun _ h => by cases h⟩
  | a :: l, h => by
    obtain ⟨b, rfl, hb⟩ := h a (.head _)
    obtain ⟨bs, rfl, h2⟩ := list_map_choose l fun x hx => h x (.tail _ hx)
    refine ⟨b :: bs, rfl, fun x hx => ?_⟩
    rcases List.mem_cons.1 hx with rfl | hx
    · exact hb
    · exact h2 x hx

theorem open_rows {t e : TypeId} {m : Nat} {fuel : Nat} {cs : List Value} {x : DataW H × List MemPlace} (ht : P.underlying t = some (.slice e)) (hm : P.cellsOf e = m) (h0 : 0 < m)
    (h : DataW.trod enc P w base (fun _ => true) held fuel t cs = some x) :
    ∃ a n c rs, cs = [.slice a n c] ∧ Rows w m a n c rs ∧ ∀ r ∈ rs, ∃ f y, DataW.trod enc P w base (fun _ => true) held f e r = some y := by
  rcases Deep.open_slice ht h with ⟨rfl, _⟩ | ⟨a, len, cap, mm, n, D, Pl, rfl, _, hle, hmx, hmm, _, hall⟩
  · exact ⟨none, 0, 0, [], rfl, ⟨rfl, Nat.le_refl _, by omega, fun _ h => (by cases h), fun h => absurd h (by omega)⟩, fun _ h => by cases h⟩
  · simp only [if_true] at hmm
    subst hmm
    rw [hm] at hall
    obtain ⟨rs, hl, hp⟩ := list_choose (List.range len) (p := fun i (r : List Value) => w.cells? base (a.add (i * m)) m = some r ∧ DataW.trod enc P w base (fun _ => true) held n e r = some (D i, Pl i)) fun i hi => hall i (by have := List.mem_range.1 hi; omega)
    rw [List.length_range] at hl
    have hp' : ∀ i (h : i < rs.length), w.cells? base (a.add (i * m)) m = some rs[i] ∧ DataW.trod enc P w base (fun _ => true) held n e rs[i] = some (D i, Pl i) := fun i h => by
      have := hp i (by simpa [hl] using h) h
      simpa using this
    refine ⟨some a, len, mm, rs, rfl, ⟨hl, hle, by unfold maxLen at hmx; omega, fun r hr => ?_, fun hn => ?_⟩, fun r hr => ?_⟩
    · obtain ⟨i, hi, rfl⟩ := List.mem_iff_getElem.1 hr
      exact (World.cells?_some (hp' i hi).1).2.1
    · obtain ⟨b, o, spot⟩ := a
      have hz := World.cells?_some (hp' 0 (by omega)).1
      obtain ⟨_, hl0, hc0⟩ := hz
      have h00 := hc0 0 (by omega)
      have hs : spot = none := by
        have e : (rs[0]'(by omega))[0]? = some ((rs[0]'(by omega))[0]'(by omega)) := List.getElem?_eq_getElem _
        rw [e] at h00
        simpa [Addr.add] using World.cell?_spot h00
      subst hs
      refine ⟨b, o, rfl, fun j hj k hk => ?_⟩
      have hadd : ∀ q, (⟨b, o, none⟩ : Addr).add q = ⟨b, o + q, none⟩ := fun q => by unfold Addr.add; split <;> simp_all
      have := (World.cells?_some (hp' j hj).1).2.2 k hk
      rw [Deep.add_add, hadd] at this
      exact this
    · obtain ⟨i, hi, rfl⟩ := List.mem_iff_getElem.1 hr
      exact ⟨n, _, (hp' i hi).2⟩

theorem open_parts {t : TypeId} {fs : Array Field} {fuel : Nat} {cs : List Value} {x : DataW H × List MemPlace} (ht : P.underlying t = some (.struct fs)) (h : DataW.trod enc P w base (fun _ => true) held fuel t cs = some x) :
    cs.length = P.cellsOf t ∧ ∀ (i : Nat) (f : Field), fs[i]? = some f → ∃ n y, DataW.trod enc P w base (fun _ => true) held n f.type ((cs.drop f.offset).take (P.cellsOf f.type)) = some y := by
  obtain ⟨xs, n, _, _, hl, hx, hf⟩ := DataW.trod_struct ht h
  refine ⟨hl, fun i f hi => ?_⟩
  have hlt : i < fs.size := (Array.getElem?_eq_some_iff.1 hi).1
  rw [← hx] at hlt
  exact ⟨n, xs[i], by rw [hf i f hi, List.getElem?_eq_getElem hlt]⟩
end
end Go.Proofs.YtgpedejeifmfdaaGreat
