/- Packing and unpacking, bytes and back: plain. -/
import Derived.Test.YtgpedejeifmfdaaGreatPk5
namespace Go.Proofs.YtgpedejeifmfdaaGreat
open Go.RowKit

theorem from_bytes : ∀ (n u : Nat), fromZ (bytesZ n u) = val8 (dig8 n u)
  | 0, _ => rfl
  | n + 1, u => by
    have := from_bytes n (u / 256)
    unfold bytesZ at this ⊢
    show ((u % 256 : Nat) : Int).toNat + 256 * fromZ _ = u % 256 + 256 * val8 (dig8 n (u / 256))
    rw [this, Int.toNat_natCast]
theorem pow8 (n : Nat) : 2 ^ (8 * n) = 256 ^ n := by rw [Nat.pow_mul]
end Go.Proofs.YtgpedejeifmfdaaGreat
