/-
  DERIVED. GIVEN WITH THE SEED: THE CARDS: each row of YtclgakdfeeefiaaDoorRows.lean that lists a variable, with what it lists TIED to the program's text (the seventh form; the later family's looks); each row that meets fmt, with fmt's text TOLD by the authors' own Lean function (tested against real Go, not proved from fmt's source: count such statements apart). THE CARD IS WHAT COUNTS. Prove the row's statement (the work); the ties are given (YtclgakdfeeefiaaDoorTie.lean); close each card by the builder's one call (the guide's Derived/Test/ToyasCard.lean, 'card_holds'). Laid BY PROGRAM, IN A SANDBOX (cutbox-door.mjs). By AI agents, Wed Nov 11 2026. No macro, syntax, notation, axiom, sorry.
-/
import Derived.Test.YtclgakdfeeefiaaDoorRows
import GoSem.ClaimSeven
namespace Go.Proofs.YtclgakdfeeefiaaDoor
namespace Rows

/-- THE TIED CARD OF 'concordatlaw16.KernFlows'. -/
def kernFlowsCard : Claim7 := { stood := { row := kernFlowsRow, standIns := [], harness := (true, "8c6f264a8ced598a34fb58a6b194394166253085718dd79195a00358bbef3f38"), looks := false }, kinds := [], alts := [], laidByText := true, laidKinds := [.data], laidTests := true, laidLooks := .later }
def KernFlowsCardSaid : Prop := Claim7.holds Tryd.pinned (.plain (OpenSpec.ofChange kernFlowsSpec)) kernFlowsCard

/-- THE TIED CARD OF 'concordatlaw16.KernTurns'. -/
def kernTurnsCard : Claim7 := { stood := { row := kernTurnsRow, standIns := [], harness := (true, "8c6f264a8ced598a34fb58a6b194394166253085718dd79195a00358bbef3f38"), looks := false }, kinds := [], alts := [], laidByText := true, laidKinds := [.data], laidTests := true, laidLooks := .later }
def KernTurnsCardSaid : Prop := Claim7.holds Tryd.pinned (.plain (OpenSpec.ofChange kernTurnsSpec)) kernTurnsCard

/-- THE TIED CARD OF 'concordatlaw16.KernBoxes'. -/
def kernBoxesCard : Claim7 := { stood := { row := kernBoxesRow, standIns := [], harness := (true, "8c6f264a8ced598a34fb58a6b194394166253085718dd79195a00358bbef3f38"), looks := false }, kinds := [], alts := [], laidByText := true, laidKinds := [.data], laidTests := true, laidLooks := .later }
def KernBoxesCardSaid : Prop := Claim7.holds Tryd.pinned (.plain (OpenSpec.ofChange kernBoxesSpec)) kernBoxesCard

/-- THE TIED CARD OF 'concordatlaw16.KernCalls'. -/
def kernCallsCard : Claim7 := { stood := { row := kernCallsRow, standIns := [], harness := (true, "8c6f264a8ced598a34fb58a6b194394166253085718dd79195a00358bbef3f38"), looks := false }, kinds := [], alts := [], laidByText := true, laidKinds := [.data], laidTests := true, laidLooks := .later }
def KernCallsCardSaid : Prop := Claim7.holds Tryd.pinned (.plain (OpenSpec.ofChange kernCallsSpec)) kernCallsCard

/-- THE TIED CARD OF 'concordatlaw16.KernApart'. -/
def kernApartCard : Claim7 := { stood := { row := kernApartRow, standIns := [], harness := (true, "8c6f264a8ced598a34fb58a6b194394166253085718dd79195a00358bbef3f38"), looks := false }, kinds := [], alts := [], laidByText := true, laidKinds := [.data], laidTests := true, laidLooks := .later }
def KernApartCardSaid : Prop := Claim7.holds Tryd.pinned (.plain (OpenSpec.ofChange kernApartSpec)) kernApartCard

/-- THE TIED CARD OF 'concordatlaw16.KernClears'. -/
def kernClearsCard : Claim7 := { stood := { row := kernClearsRow, standIns := [], harness := (true, "8c6f264a8ced598a34fb58a6b194394166253085718dd79195a00358bbef3f38"), looks := false }, kinds := [], alts := [], laidByText := true, laidKinds := [.data], laidTests := true, laidLooks := .later }
def KernClearsCardSaid : Prop := Claim7.holds Tryd.pinned (.plain (OpenSpec.ofChange kernClearsSpec)) kernClearsCard

/-- THE SECOND FORM's CARD OF 'concordatlaw16.KernFlows'. -/
def kernFlowsUptoCard : Claim7 := { stood := { row := kernFlowsUptoRow, standIns := [], harness := (true, "8c6f264a8ced598a34fb58a6b194394166253085718dd79195a00358bbef3f38"), looks := false }, kinds := [], alts := [], laidByText := true, laidKinds := [.data], laidTests := true, laidLooks := .later }
def KernFlowsUptoCardSaid : Prop := Claim7.holds Tryd.pinned (.plain (OpenSpec.upto kernFlowsSpec)) kernFlowsUptoCard

/-- THE SECOND FORM's CARD OF 'concordatlaw16.KernTurns'. -/
def kernTurnsUptoCard : Claim7 := { stood := { row := kernTurnsUptoRow, standIns := [], harness := (true, "8c6f264a8ced598a34fb58a6b194394166253085718dd79195a00358bbef3f38"), looks := false }, kinds := [], alts := [], laidByText := true, laidKinds := [.data], laidTests := true, laidLooks := .later }
def KernTurnsUptoCardSaid : Prop := Claim7.holds Tryd.pinned (.plain (OpenSpec.upto kernTurnsSpec)) kernTurnsUptoCard

/-- THE SECOND FORM's CARD OF 'concordatlaw16.KernBoxes'. -/
def kernBoxesUptoCard : Claim7 := { stood := { row := kernBoxesUptoRow, standIns := [], harness := (true, "8c6f264a8ced598a34fb58a6b194394166253085718dd79195a00358bbef3f38"), looks := false }, kinds := [], alts := [], laidByText := true, laidKinds := [.data], laidTests := true, laidLooks := .later }
def KernBoxesUptoCardSaid : Prop := Claim7.holds Tryd.pinned (.plain (OpenSpec.upto kernBoxesSpec)) kernBoxesUptoCard

/-- THE SECOND FORM's CARD OF 'concordatlaw16.KernCalls'. -/
def kernCallsUptoCard : Claim7 := { stood := { row := kernCallsUptoRow, standIns := [], harness := (true, "8c6f264a8ced598a34fb58a6b194394166253085718dd79195a00358bbef3f38"), looks := false }, kinds := [], alts := [], laidByText := true, laidKinds := [.data], laidTests := true, laidLooks := .later }
def KernCallsUptoCardSaid : Prop := Claim7.holds Tryd.pinned (.plain (OpenSpec.upto kernCallsSpec)) kernCallsUptoCard

/-- THE SECOND FORM's CARD OF 'concordatlaw16.KernApart'. -/
def kernApartUptoCard : Claim7 := { stood := { row := kernApartUptoRow, standIns := [], harness := (true, "8c6f264a8ced598a34fb58a6b194394166253085718dd79195a00358bbef3f38"), looks := false }, kinds := [], alts := [], laidByText := true, laidKinds := [.data], laidTests := true, laidLooks := .later }
def KernApartUptoCardSaid : Prop := Claim7.holds Tryd.pinned (.plain (OpenSpec.upto kernApartSpec)) kernApartUptoCard

/-- THE SECOND FORM's CARD OF 'concordatlaw16.KernClears'. -/
def kernClearsUptoCard : Claim7 := { stood := { row := kernClearsUptoRow, standIns := [], harness := (true, "8c6f264a8ced598a34fb58a6b194394166253085718dd79195a00358bbef3f38"), looks := false }, kinds := [], alts := [], laidByText := true, laidKinds := [.data], laidTests := true, laidLooks := .later }
def KernClearsUptoCardSaid : Prop := Claim7.holds Tryd.pinned (.plain (OpenSpec.upto kernClearsSpec)) kernClearsUptoCard
end Rows
end Go.Proofs.YtclgakdfeeefiaaDoor
