/- The shared helpers CopyBytes and SameBytes: what they return, for every slice of bytes. -/
import Derived.Test.YtgpedejeifmfdaaBase
import Derived.Test.YtgpedejeifmfdaaChecked
namespace Go.Proofs.Ytgpedejeifmfdaa
open Go.RowKit

theorem Try.infoU8 : (Try.prog.info? 5).map (fun i => (i.zero, i.size, i.bytes)) = some (some (.int .u8 0), 1, 1) := by kernel_rfl

theorem take_succ_iff (xs ys : List Int) (i : Nat) (h1 : i < xs.length) (h2 : xs.length = ys.length) :
    (xs.take (i+1) = ys.take (i+1)) ↔ (xs.take i = ys.take i ∧ xs.getD i 0 = ys.getD i 0) := by
  rw [List.take_succ_eq_append_getElem h1, List.take_succ_eq_append_getElem (by omega)]
  constructor
  · intro h
    have := List.append_inj h (by simp; omega)
    simp at this
    simp [List.getD, h1, show i < ys.length by omega, this]
  · rintro ⟨h, h'⟩
    simp [List.getD, h1, show i < ys.length by omega] at h'
    rw [h, h']



end Go.Proofs.Ytgpedejeifmfdaa
