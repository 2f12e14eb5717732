/- Structs of integers of several kinds compared. Of no program. -/
import Derived.Test.YtgpedejeifmfdaaBase
import Derived.Laws.StructEq
namespace Go.Proofs.Ytgpedejeifmfdaa
open Go.RowKit

/-- type, kind, offset, both values -/
abbrev Cmp := TypeId × IntKind × Nat × Int × Int
theorem eq_ints {P : Program} {d : Nat} {A B : Array Value} : ∀ (l : List Cmp) (fs : List Field) (w : World), fs.map (fun f => (f.name != "_", f.type, f.offset)) = l.map (fun x => (true, x.1, x.2.2.1)) →
    (∀ x ∈ l, P.underlying x.1 = some (.int x.2.1) ∧ (∀ w, (part x.1 A x.2.2.1).run P w = .ok (.int x.2.1 x.2.2.2.1) w) ∧ (∀ w, (part x.1 B x.2.2.1).run P w = .ok (.int x.2.1 x.2.2.2.2) w)) →
    (Op.eqFields (d + 1) A B fs).run P w = .ok (l.all fun x => decide (x.2.2.2.1 = x.2.2.2.2)) w
  | [], fs, w, hl, _ => by
    obtain rfl := List.map_eq_nil_iff.1 hl
    rfl
  | x :: l, fs, w, hl, h => by
    obtain ⟨f, fs, rfl, h0, h1⟩ := List.map_eq_cons_iff.1 hl
    obtain ⟨ht, hA, hB⟩ := h x (.head _)
    obtain ⟨t, k, off, a, b⟩ := x
    simp only [Prod.mk.injEq, bne_iff_ne, ne_eq] at h0
    obtain ⟨n0, rfl, rfl⟩ := h0
    have he := fun (w : World) (a b : Int) => run_equalIn_int (P := P) w d f.type k k a b ht
    have ih := eq_ints (d := d) l fs w h1 fun y hy => h y (.tail _ hy)
    simp only at hA hB
    by_cases hab : a = b
    · subst hab
      simp [Op.eqFields, n0, hA, hB, he, ih]
    · simp [Op.eqFields, n0, hA, hB, he, hab]
end Go.Proofs.Ytgpedejeifmfdaa
