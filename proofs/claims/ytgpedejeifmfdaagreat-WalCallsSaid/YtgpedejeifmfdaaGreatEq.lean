/- Structs of integers of several kinds compared. Of no program. -/
import Derived.Test.YtgpedejeifmfdaaGreatBase
import Derived.Laws.StructEq
namespace Go.Proofs.YtgpedejeifmfdaaGreat
open Go.RowKit

end Go.Proofs.YtgpedejeifmfdaaGreat
