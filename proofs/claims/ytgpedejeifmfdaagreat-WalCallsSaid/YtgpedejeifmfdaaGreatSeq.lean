/- A region that draws its order but has at first no choice: the operations π0, one at a time, each the only one that is ready; then loads beside calls, as in Held. Of no program. -/
import Derived.Test.YtgpedejeifmfdaaGreatHeld
namespace Go.Proofs.YtgpedejeifmfdaaGreat
open Go.RowKit

section
variable {P : Program} {ops : Array Oper} {Q : Exit → Act → World → Prop}

def seqB (ops : Array Oper) : List Nat → Array Bool → Bool
  | [], _ => true
  | i :: rest, listed => (ops[i]?).isSome && decide (Region.ready .any ops listed = [i]) && seqB ops rest (listed.setIfInBounds i true)

end
end Go.Proofs.YtgpedejeifmfdaaGreat
