/- What came in, read by its type: slices of integers, rows of many-celled elements. Of no program. -/
import Derived.Test.YtgpedejeifmfdaaGreatBase
import Derived.ChangeArms
import Derived.ChangeSlices
import Derived.Deep.Slices
namespace Go.Proofs.YtgpedejeifmfdaaGreat
open Go.RowKit Go.ChangeShapes Go.WideShapes

section
variable {H : Type} {enc : TypeId × Value → H} {P : Program} {w : World} {base : Nat} {held : Bool}

structure Rows (w : World) (ce : Nat) (a : Option Addr) (n c : Nat) (rs : List (List Value)) : Prop where
  len : rs.length = n
  le : n ≤ c
  max : c ≤ 9223372036854775807
  wide : ∀ r ∈ rs, r.length = ce
  cell : 0 < n → ∃ b o, a = some ⟨b, o, none⟩ ∧ ∀ j (hj : j < rs.length) k, k < ce → w.cell? ⟨b, o + (j * ce + k), none⟩ = rs[j][k]?

end
end Go.Proofs.YtgpedejeifmfdaaGreat
