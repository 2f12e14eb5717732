/-
  DERIVED. GIVEN WITH THE SEED: THE CARDS: each row of YtjbpoegpmbnglaaDoorRows.lean that lists a variable, with what it lists TIED to the program's text (the seventh form; the later family's looks); each row that meets fmt, with fmt's text TOLD by the authors' own Lean function (tested against real Go, not proved from fmt's source: count such statements apart). THE CARD IS WHAT COUNTS. Prove the row's statement (the work); the ties are given (YtjbpoegpmbnglaaDoorTie.lean); close each card by the builder's one call (the guide's Derived/Test/ToyasCard.lean, 'card_holds'). Laid BY PROGRAM, IN A SANDBOX (cutbox-door.mjs). By AI agents, Wed Nov 11 2026. No macro, syntax, notation, axiom, sorry.
-/
import Derived.Test.YtjbpoegpmbnglaaDoorRows
import GoSem.ClaimSeven
namespace Go.Proofs.YtjbpoegpmbnglaaDoor
namespace Rows

/-- THE TIED CARD OF 'concordatlaw01.WordNumbers'. -/
def wordNumbersCard : Claim7 := { stood := { row := wordNumbersRow, standIns := [], harness := (true, "1abe67d1bc2e0023e62e57e69330e837296a8187ab7fa74398828713fa1d31da"), looks := false }, kinds := [], alts := [], laidByText := true, laidKinds := [.data], laidTests := true, laidLooks := .later }
def WordNumbersCardSaid : Prop := Claim7.holds Tryd.pinned (.plain (OpenSpec.ofChange wordNumbersSpec)) wordNumbersCard

/-- THE TIED CARD OF 'concordatlaw01.WordPacks'. -/
def wordPacksCard : Claim7 := { stood := { row := wordPacksRow, standIns := [], harness := (true, "1abe67d1bc2e0023e62e57e69330e837296a8187ab7fa74398828713fa1d31da"), looks := false }, kinds := [], alts := [], laidByText := true, laidKinds := [.data], laidTests := true, laidLooks := .later }
def WordPacksCardSaid : Prop := Claim7.holds Tryd.pinned (.plain (OpenSpec.ofChange wordPacksSpec)) wordPacksCard

/-- THE TIED CARD OF 'concordatlaw01.WordCuts'. -/
def wordCutsCard : Claim7 := { stood := { row := wordCutsRow, standIns := [], harness := (true, "1abe67d1bc2e0023e62e57e69330e837296a8187ab7fa74398828713fa1d31da"), looks := false }, kinds := [], alts := [], laidByText := true, laidKinds := [.data], laidTests := true, laidLooks := .later }
def WordCutsCardSaid : Prop := Claim7.holds Tryd.pinned (.plain (OpenSpec.ofChange wordCutsSpec)) wordCutsCard

/-- THE TIED CARD OF 'concordatlaw01.WordZigs'. -/
def wordZigsCard : Claim7 := { stood := { row := wordZigsRow, standIns := [], harness := (true, "1abe67d1bc2e0023e62e57e69330e837296a8187ab7fa74398828713fa1d31da"), looks := false }, kinds := [], alts := [], laidByText := true, laidKinds := [.data], laidTests := true, laidLooks := .later }
def WordZigsCardSaid : Prop := Claim7.holds Tryd.pinned (.plain (OpenSpec.ofChange wordZigsSpec)) wordZigsCard

/-- THE TIED CARD OF 'concordatlaw01.WordTurns'. -/
def wordTurnsCard : Claim7 := { stood := { row := wordTurnsRow, standIns := [], harness := (true, "1abe67d1bc2e0023e62e57e69330e837296a8187ab7fa74398828713fa1d31da"), looks := false }, kinds := [], alts := [], laidByText := true, laidKinds := [.data], laidTests := true, laidLooks := .later }
def WordTurnsCardSaid : Prop := Claim7.holds Tryd.pinned (.plain (OpenSpec.ofChange wordTurnsSpec)) wordTurnsCard

/-- THE TIED CARD OF 'concordatlaw01.WordBack'. -/
def wordBackCard : Claim7 := { stood := { row := wordBackRow, standIns := [], harness := (true, "1abe67d1bc2e0023e62e57e69330e837296a8187ab7fa74398828713fa1d31da"), looks := false }, kinds := [], alts := [], laidByText := true, laidKinds := [.data], laidTests := true, laidLooks := .later }
def WordBackCardSaid : Prop := Claim7.holds Tryd.pinned (.plain (OpenSpec.ofChange wordBackSpec)) wordBackCard

/-- THE TIED CARD OF 'concordatlaw01.WordBytes'. -/
def wordBytesCard : Claim7 := { stood := { row := wordBytesRow, standIns := [], harness := (true, "1abe67d1bc2e0023e62e57e69330e837296a8187ab7fa74398828713fa1d31da"), looks := false }, kinds := [], alts := [], laidByText := true, laidKinds := [.data], laidTests := true, laidLooks := .later }
def WordBytesCardSaid : Prop := Claim7.holds Tryd.pinned (.plain (OpenSpec.ofChange wordBytesSpec)) wordBytesCard

/-- THE TIED CARD OF 'concordatlaw01.WordCounts'. -/
def wordCountsCard : Claim7 := { stood := { row := wordCountsRow, standIns := [], harness := (true, "1abe67d1bc2e0023e62e57e69330e837296a8187ab7fa74398828713fa1d31da"), looks := false }, kinds := [], alts := [], laidByText := true, laidKinds := [.data], laidTests := true, laidLooks := .later }
def WordCountsCardSaid : Prop := Claim7.holds Tryd.pinned (.plain (OpenSpec.ofChange wordCountsSpec)) wordCountsCard

/-- THE SECOND FORM's CARD OF 'concordatlaw01.WordNumbers'. -/
def wordNumbersUptoCard : Claim7 := { stood := { row := wordNumbersUptoRow, standIns := [], harness := (true, "1abe67d1bc2e0023e62e57e69330e837296a8187ab7fa74398828713fa1d31da"), looks := false }, kinds := [], alts := [], laidByText := true, laidKinds := [.data], laidTests := true, laidLooks := .later }
def WordNumbersUptoCardSaid : Prop := Claim7.holds Tryd.pinned (.plain (OpenSpec.upto wordNumbersSpec)) wordNumbersUptoCard

/-- THE SECOND FORM's CARD OF 'concordatlaw01.WordPacks'. -/
def wordPacksUptoCard : Claim7 := { stood := { row := wordPacksUptoRow, standIns := [], harness := (true, "1abe67d1bc2e0023e62e57e69330e837296a8187ab7fa74398828713fa1d31da"), looks := false }, kinds := [], alts := [], laidByText := true, laidKinds := [.data], laidTests := true, laidLooks := .later }
def WordPacksUptoCardSaid : Prop := Claim7.holds Tryd.pinned (.plain (OpenSpec.upto wordPacksSpec)) wordPacksUptoCard

/-- THE SECOND FORM's CARD OF 'concordatlaw01.WordCuts'. -/
def wordCutsUptoCard : Claim7 := { stood := { row := wordCutsUptoRow, standIns := [], harness := (true, "1abe67d1bc2e0023e62e57e69330e837296a8187ab7fa74398828713fa1d31da"), looks := false }, kinds := [], alts := [], laidByText := true, laidKinds := [.data], laidTests := true, laidLooks := .later }
def WordCutsUptoCardSaid : Prop := Claim7.holds Tryd.pinned (.plain (OpenSpec.upto wordCutsSpec)) wordCutsUptoCard

/-- THE SECOND FORM's CARD OF 'concordatlaw01.WordZigs'. -/
def wordZigsUptoCard : Claim7 := { stood := { row := wordZigsUptoRow, standIns := [], harness := (true, "1abe67d1bc2e0023e62e57e69330e837296a8187ab7fa74398828713fa1d31da"), looks := false }, kinds := [], alts := [], laidByText := true, laidKinds := [.data], laidTests := true, laidLooks := .later }
def WordZigsUptoCardSaid : Prop := Claim7.holds Tryd.pinned (.plain (OpenSpec.upto wordZigsSpec)) wordZigsUptoCard

/-- THE SECOND FORM's CARD OF 'concordatlaw01.WordTurns'. -/
def wordTurnsUptoCard : Claim7 := { stood := { row := wordTurnsUptoRow, standIns := [], harness := (true, "1abe67d1bc2e0023e62e57e69330e837296a8187ab7fa74398828713fa1d31da"), looks := false }, kinds := [], alts := [], laidByText := true, laidKinds := [.data], laidTests := true, laidLooks := .later }
def WordTurnsUptoCardSaid : Prop := Claim7.holds Tryd.pinned (.plain (OpenSpec.upto wordTurnsSpec)) wordTurnsUptoCard

/-- THE SECOND FORM's CARD OF 'concordatlaw01.WordBack'. -/
def wordBackUptoCard : Claim7 := { stood := { row := wordBackUptoRow, standIns := [], harness := (true, "1abe67d1bc2e0023e62e57e69330e837296a8187ab7fa74398828713fa1d31da"), looks := false }, kinds := [], alts := [], laidByText := true, laidKinds := [.data], laidTests := true, laidLooks := .later }
def WordBackUptoCardSaid : Prop := Claim7.holds Tryd.pinned (.plain (OpenSpec.upto wordBackSpec)) wordBackUptoCard

/-- THE SECOND FORM's CARD OF 'concordatlaw01.WordBytes'. -/
def wordBytesUptoCard : Claim7 := { stood := { row := wordBytesUptoRow, standIns := [], harness := (true, "1abe67d1bc2e0023e62e57e69330e837296a8187ab7fa74398828713fa1d31da"), looks := false }, kinds := [], alts := [], laidByText := true, laidKinds := [.data], laidTests := true, laidLooks := .later }
def WordBytesUptoCardSaid : Prop := Claim7.holds Tryd.pinned (.plain (OpenSpec.upto wordBytesSpec)) wordBytesUptoCard

/-- THE SECOND FORM's CARD OF 'concordatlaw01.WordCounts'. -/
def wordCountsUptoCard : Claim7 := { stood := { row := wordCountsUptoRow, standIns := [], harness := (true, "1abe67d1bc2e0023e62e57e69330e837296a8187ab7fa74398828713fa1d31da"), looks := false }, kinds := [], alts := [], laidByText := true, laidKinds := [.data], laidTests := true, laidLooks := .later }
def WordCountsUptoCardSaid : Prop := Claim7.holds Tryd.pinned (.plain (OpenSpec.upto wordCountsSpec)) wordCountsUptoCard
end Rows
end Go.Proofs.YtjbpoegpmbnglaaDoor
