/-
  NARROWER THAN 'FOR EVERY INPUT', by the rows' own cells (each row's printed sentence says how): KernFlows: laid · KernTurns: laid · KernBoxes: laid · KernCalls: laid · KernApart: laid · KernClears: laid.
  DERIVED. THE GIVEN ROWS OF THIS SEAT. 6 by the template 'for every input the law returns true; each argument reads behind the call as it read before'; 0 by the template 'total and deterministic' (their statements: YtclgakdfeeefiaaDoorTotals.lean).
  GIVEN WITH THE SEED: the statements are not yours to turn. If you find one false, say at which input.
  Laid BY PROGRAM, IN A SANDBOX (cutbox-rows.mjs): the forced cells as the released guide's own fill.sh prints them over the translation 7fedcc4f96c2203a… (all of the seat's roots in one cut). By AI agents, Wed Nov 11 2026. No macro, syntax, notation, axiom, sorry.
-/
import Derived.Test.YtclgakdfeeefiaaDoorChecked
import GoSem.Claim
import GoSem.ClaimJoined
import GoSem.ClaimMapViews
import Derived.JoinedTies
import Derived.KernelRfl
namespace Go.Proofs.YtclgakdfeeefiaaDoor
/- THE CELL 'sum', in the pinned program and in every row, IS THE sha256 OF THE DUMP (.gsa) THAT YtclgakdfeeefiaaDoorProg.lean LOADS. Nothing in Lean hashes anything: it is a label: what it is worth is what the hold of that sum in a sandbox is worth. -/
noncomputable def Tryd.pinned : Pinned := { name := "ytclgakdfeeefiaadoor", sum := "7fedcc4f96c2203a7983d9d2ccd9cc807e1d75f9ec62a21a8f7d11f3cc1a5e5e", checked := Tryd.checked }
namespace Rows
def none {H : Type} : Left H := { results := [], args := [] }

/- WHAT THE LISTED PACKAGE-LEVEL VARIABLES READ AS WHEN THE CALL BEGINS. Each datum BY PROGRAM (the guide's laid-datum.mjs) off the statement by which the dump's own 'gosem.cut.vars' lays the variable. In a bare row this is a premise. The card (YtclgakdfeeefiaaDoorCards.lean) ties it to the program's text. -/
def laid_math_bits_deBruijn64tab {H : Type} : DataW H := .agg [.lit (.int .u8 0), .lit (.int .u8 1), .lit (.int .u8 56), .lit (.int .u8 2), .lit (.int .u8 57), .lit (.int .u8 49), .lit (.int .u8 28), .lit (.int .u8 3), .lit (.int .u8 61), .lit (.int .u8 58), .lit (.int .u8 42), .lit (.int .u8 50), .lit (.int .u8 38), .lit (.int .u8 29), .lit (.int .u8 17), .lit (.int .u8 4), .lit (.int .u8 62), .lit (.int .u8 47), .lit (.int .u8 59), .lit (.int .u8 36), .lit (.int .u8 45), .lit (.int .u8 43), .lit (.int .u8 51), .lit (.int .u8 22), .lit (.int .u8 53), .lit (.int .u8 39), .lit (.int .u8 33), .lit (.int .u8 30), .lit (.int .u8 24), .lit (.int .u8 18), .lit (.int .u8 12), .lit (.int .u8 5), .lit (.int .u8 63), .lit (.int .u8 55), .lit (.int .u8 48), .lit (.int .u8 27), .lit (.int .u8 60), .lit (.int .u8 41), .lit (.int .u8 37), .lit (.int .u8 16), .lit (.int .u8 46), .lit (.int .u8 35), .lit (.int .u8 44), .lit (.int .u8 21), .lit (.int .u8 52), .lit (.int .u8 32), .lit (.int .u8 23), .lit (.int .u8 11), .lit (.int .u8 54), .lit (.int .u8 26), .lit (.int .u8 40), .lit (.int .u8 15), .lit (.int .u8 34), .lit (.int .u8 20), .lit (.int .u8 31), .lit (.int .u8 10), .lit (.int .u8 25), .lit (.int .u8 14), .lit (.int .u8 19), .lit (.int .u8 9), .lit (.int .u8 13), .lit (.int .u8 8), .lit (.int .u8 7), .lit (.int .u8 6)]

/-- 'concordatlaw16.KernFlows': WHATEVER THE INPUT: true; the input reads as it did. -/
def kernFlowsSpec : ChangeSpec := { name := "kernFlows", fn := fun _ => fun
  | [d1, d2, d3] => { results := [.lit (.bool true)], args := [d1, d2, d3] }
  | _ => none }
def kernFlowsRow : OpenClaim := { program := "ytclgakdfeeefiaadoor", sum := "7fedcc4f96c2203a7983d9d2ccd9cc807e1d75f9ec62a21a8f7d11f3cc1a5e5e", func := "concordat/concordatlaw16.KernFlows", spec := "kernFlows", named := ["math/bits.deBruijn64tab"], plainKeys := false, apart := false, laid := [("math/bits.deBruijn64tab", laid_math_bits_deBruijn64tab)] }
def KernFlowsSaid : Prop := kernFlowsRow.holds Tryd.pinned (OpenSpec.ofChange kernFlowsSpec)

/-- ITS FALSE NEIGHBOUR: 'it returns false'. Refute it at one input. -/
def kernFlowsWrong : ChangeSpec := { name := "kernFlows", fn := fun _ => fun
  | [d1, d2, d3] => { results := [.lit (.bool false)], args := [d1, d2, d3] }
  | _ => none }
def KernFlowsWrongFalsely : Prop := kernFlowsRow.holds Tryd.pinned (OpenSpec.ofChange kernFlowsWrong)

/-- 'concordatlaw16.KernTurns': WHATEVER THE INPUT: true; the input reads as it did. -/
def kernTurnsSpec : ChangeSpec := { name := "kernTurns", fn := fun _ => fun
  | [d1, d2, d3, d4, d5] => { results := [.lit (.bool true)], args := [d1, d2, d3, d4, d5] }
  | _ => none }
def kernTurnsRow : OpenClaim := { program := "ytclgakdfeeefiaadoor", sum := "7fedcc4f96c2203a7983d9d2ccd9cc807e1d75f9ec62a21a8f7d11f3cc1a5e5e", func := "concordat/concordatlaw16.KernTurns", spec := "kernTurns", named := ["math/bits.deBruijn64tab"], plainKeys := false, apart := false, laid := [("math/bits.deBruijn64tab", laid_math_bits_deBruijn64tab)] }
def KernTurnsSaid : Prop := kernTurnsRow.holds Tryd.pinned (OpenSpec.ofChange kernTurnsSpec)

/-- ITS FALSE NEIGHBOUR: 'it returns false'. Refute it at one input. -/
def kernTurnsWrong : ChangeSpec := { name := "kernTurns", fn := fun _ => fun
  | [d1, d2, d3, d4, d5] => { results := [.lit (.bool false)], args := [d1, d2, d3, d4, d5] }
  | _ => none }
def KernTurnsWrongFalsely : Prop := kernTurnsRow.holds Tryd.pinned (OpenSpec.ofChange kernTurnsWrong)

/-- 'concordatlaw16.KernBoxes': WHATEVER THE INPUT: true; the input reads as it did. -/
def kernBoxesSpec : ChangeSpec := { name := "kernBoxes", fn := fun _ => fun
  | [d1, d2, d3] => { results := [.lit (.bool true)], args := [d1, d2, d3] }
  | _ => none }
def kernBoxesRow : OpenClaim := { program := "ytclgakdfeeefiaadoor", sum := "7fedcc4f96c2203a7983d9d2ccd9cc807e1d75f9ec62a21a8f7d11f3cc1a5e5e", func := "concordat/concordatlaw16.KernBoxes", spec := "kernBoxes", named := ["math/bits.deBruijn64tab"], plainKeys := false, apart := false, laid := [("math/bits.deBruijn64tab", laid_math_bits_deBruijn64tab)] }
def KernBoxesSaid : Prop := kernBoxesRow.holds Tryd.pinned (OpenSpec.ofChange kernBoxesSpec)

/-- ITS FALSE NEIGHBOUR: 'it returns false'. Refute it at one input. -/
def kernBoxesWrong : ChangeSpec := { name := "kernBoxes", fn := fun _ => fun
  | [d1, d2, d3] => { results := [.lit (.bool false)], args := [d1, d2, d3] }
  | _ => none }
def KernBoxesWrongFalsely : Prop := kernBoxesRow.holds Tryd.pinned (OpenSpec.ofChange kernBoxesWrong)

/-- 'concordatlaw16.KernCalls': WHATEVER THE INPUT: true; the input reads as it did. -/
def kernCallsSpec : ChangeSpec := { name := "kernCalls", fn := fun _ => fun
  | [d1, d2, d3, d4] => { results := [.lit (.bool true)], args := [d1, d2, d3, d4] }
  | _ => none }
def kernCallsRow : OpenClaim := { program := "ytclgakdfeeefiaadoor", sum := "7fedcc4f96c2203a7983d9d2ccd9cc807e1d75f9ec62a21a8f7d11f3cc1a5e5e", func := "concordat/concordatlaw16.KernCalls", spec := "kernCalls", named := ["math/bits.deBruijn64tab"], plainKeys := false, apart := false, laid := [("math/bits.deBruijn64tab", laid_math_bits_deBruijn64tab)] }
def KernCallsSaid : Prop := kernCallsRow.holds Tryd.pinned (OpenSpec.ofChange kernCallsSpec)

/-- ITS FALSE NEIGHBOUR: 'it returns false'. Refute it at one input. -/
def kernCallsWrong : ChangeSpec := { name := "kernCalls", fn := fun _ => fun
  | [d1, d2, d3, d4] => { results := [.lit (.bool false)], args := [d1, d2, d3, d4] }
  | _ => none }
def KernCallsWrongFalsely : Prop := kernCallsRow.holds Tryd.pinned (OpenSpec.ofChange kernCallsWrong)

/-- 'concordatlaw16.KernApart': WHATEVER THE INPUT: true; the input reads as it did. -/
def kernApartSpec : ChangeSpec := { name := "kernApart", fn := fun _ => fun
  | [d1, d2, d3] => { results := [.lit (.bool true)], args := [d1, d2, d3] }
  | _ => none }
def kernApartRow : OpenClaim := { program := "ytclgakdfeeefiaadoor", sum := "7fedcc4f96c2203a7983d9d2ccd9cc807e1d75f9ec62a21a8f7d11f3cc1a5e5e", func := "concordat/concordatlaw16.KernApart", spec := "kernApart", named := ["math/bits.deBruijn64tab"], plainKeys := false, apart := false, laid := [("math/bits.deBruijn64tab", laid_math_bits_deBruijn64tab)] }
def KernApartSaid : Prop := kernApartRow.holds Tryd.pinned (OpenSpec.ofChange kernApartSpec)

/-- ITS FALSE NEIGHBOUR: 'it returns false'. Refute it at one input. -/
def kernApartWrong : ChangeSpec := { name := "kernApart", fn := fun _ => fun
  | [d1, d2, d3] => { results := [.lit (.bool false)], args := [d1, d2, d3] }
  | _ => none }
def KernApartWrongFalsely : Prop := kernApartRow.holds Tryd.pinned (OpenSpec.ofChange kernApartWrong)

/-- 'concordatlaw16.KernClears': WHATEVER THE INPUT: true; the input reads as it did. -/
def kernClearsSpec : ChangeSpec := { name := "kernClears", fn := fun _ => fun
  | [d1, d2, d3] => { results := [.lit (.bool true)], args := [d1, d2, d3] }
  | _ => none }
def kernClearsRow : OpenClaim := { program := "ytclgakdfeeefiaadoor", sum := "7fedcc4f96c2203a7983d9d2ccd9cc807e1d75f9ec62a21a8f7d11f3cc1a5e5e", func := "concordat/concordatlaw16.KernClears", spec := "kernClears", named := ["math/bits.deBruijn64tab"], plainKeys := false, apart := false, laid := [("math/bits.deBruijn64tab", laid_math_bits_deBruijn64tab)] }
def KernClearsSaid : Prop := kernClearsRow.holds Tryd.pinned (OpenSpec.ofChange kernClearsSpec)

/-- ITS FALSE NEIGHBOUR: 'it returns false'. Refute it at one input. -/
def kernClearsWrong : ChangeSpec := { name := "kernClears", fn := fun _ => fun
  | [d1, d2, d3] => { results := [.lit (.bool false)], args := [d1, d2, d3] }
  | _ => none }
def KernClearsWrongFalsely : Prop := kernClearsRow.holds Tryd.pinned (OpenSpec.ofChange kernClearsWrong)

/- THE SECOND FORM. 'bulk': how many values and letters a reading holds, each counted each time it is reached (what is shared counts as often as it is met; a slice's spare places count too). A statement '..UptoSaid' is the law's where the arguments, and the package variables that the reading takes, are together of bulk at most 1048576: NARROWER than '..Said'. Prove '..Said' where nothing that the law and all that it calls make is longer than what came in: it says more and counts as full. Else prove '..UptoSaid'. A law counts once. -/
mutual
def uptoBulk {H : Type} : DataW H → Nat
  | .lit (.string bytes) => bytes.length + 1
  | .lit _ => 1
  | .nil => 1
  | .ptr d => uptoBulk d + 1
  | .slice elems spare => uptoBulkAll elems + uptoBulkAll spare + 1
  | .agg parts => uptoBulkAll parts + 1
  | .iface _ d => uptoBulk d + 1
  | .map entries => uptoBulkEntries entries + 1
  | .held _ => 1
def uptoBulkAll {H : Type} : List (DataW H) → Nat
  | [] => 0
  | d :: r => uptoBulk d + uptoBulkAll r
def uptoBulkEntries {H : Type} : List (Lit × DataW H) → Nat
  | [] => 0
  | x :: r => uptoBulkEntry x + uptoBulkEntries r
def uptoBulkEntry {H : Type} : Lit × DataW H → Nat
  | (.string bytes, d) => bytes.length + uptoBulk d + 1
  | (_, d) => uptoBulk d + 1
 end
def uptoSmall : (H : Type) → List (DataW H) → Bool := fun _ ds => decide (uptoBulkAll ds ≤ 1048576)
def OpenSpec.upto (s : _root_.Go.ChangeSpec) : _root_.Go.OpenSpec := { _root_.Go.OpenSpec.ofChange s with cond := some uptoSmall }

/-- 'concordatlaw16.KernFlows', WHERE WHAT IT READS IS OF BULK AT MOST 1048576: true; the input reads as it did. -/
def kernFlowsUptoRow : OpenClaim := { program := "ytclgakdfeeefiaadoor", sum := "7fedcc4f96c2203a7983d9d2ccd9cc807e1d75f9ec62a21a8f7d11f3cc1a5e5e", func := "concordat/concordatlaw16.KernFlows", spec := "kernFlows", named := ["math/bits.deBruijn64tab"], plainKeys := false, apart := false, laid := [("math/bits.deBruijn64tab", laid_math_bits_deBruijn64tab)], narrowed := true }
def KernFlowsUptoSaid : Prop := kernFlowsUptoRow.holds Tryd.pinned (OpenSpec.upto kernFlowsSpec)

/-- 'concordatlaw16.KernTurns', WHERE WHAT IT READS IS OF BULK AT MOST 1048576: true; the input reads as it did. -/
def kernTurnsUptoRow : OpenClaim := { program := "ytclgakdfeeefiaadoor", sum := "7fedcc4f96c2203a7983d9d2ccd9cc807e1d75f9ec62a21a8f7d11f3cc1a5e5e", func := "concordat/concordatlaw16.KernTurns", spec := "kernTurns", named := ["math/bits.deBruijn64tab"], plainKeys := false, apart := false, laid := [("math/bits.deBruijn64tab", laid_math_bits_deBruijn64tab)], narrowed := true }
def KernTurnsUptoSaid : Prop := kernTurnsUptoRow.holds Tryd.pinned (OpenSpec.upto kernTurnsSpec)

/-- 'concordatlaw16.KernBoxes', WHERE WHAT IT READS IS OF BULK AT MOST 1048576: true; the input reads as it did. -/
def kernBoxesUptoRow : OpenClaim := { program := "ytclgakdfeeefiaadoor", sum := "7fedcc4f96c2203a7983d9d2ccd9cc807e1d75f9ec62a21a8f7d11f3cc1a5e5e", func := "concordat/concordatlaw16.KernBoxes", spec := "kernBoxes", named := ["math/bits.deBruijn64tab"], plainKeys := false, apart := false, laid := [("math/bits.deBruijn64tab", laid_math_bits_deBruijn64tab)], narrowed := true }
def KernBoxesUptoSaid : Prop := kernBoxesUptoRow.holds Tryd.pinned (OpenSpec.upto kernBoxesSpec)

/-- 'concordatlaw16.KernCalls', WHERE WHAT IT READS IS OF BULK AT MOST 1048576: true; the input reads as it did. -/
def kernCallsUptoRow : OpenClaim := { program := "ytclgakdfeeefiaadoor", sum := "7fedcc4f96c2203a7983d9d2ccd9cc807e1d75f9ec62a21a8f7d11f3cc1a5e5e", func := "concordat/concordatlaw16.KernCalls", spec := "kernCalls", named := ["math/bits.deBruijn64tab"], plainKeys := false, apart := false, laid := [("math/bits.deBruijn64tab", laid_math_bits_deBruijn64tab)], narrowed := true }
def KernCallsUptoSaid : Prop := kernCallsUptoRow.holds Tryd.pinned (OpenSpec.upto kernCallsSpec)

/-- 'concordatlaw16.KernApart', WHERE WHAT IT READS IS OF BULK AT MOST 1048576: true; the input reads as it did. -/
def kernApartUptoRow : OpenClaim := { program := "ytclgakdfeeefiaadoor", sum := "7fedcc4f96c2203a7983d9d2ccd9cc807e1d75f9ec62a21a8f7d11f3cc1a5e5e", func := "concordat/concordatlaw16.KernApart", spec := "kernApart", named := ["math/bits.deBruijn64tab"], plainKeys := false, apart := false, laid := [("math/bits.deBruijn64tab", laid_math_bits_deBruijn64tab)], narrowed := true }
def KernApartUptoSaid : Prop := kernApartUptoRow.holds Tryd.pinned (OpenSpec.upto kernApartSpec)

/-- 'concordatlaw16.KernClears', WHERE WHAT IT READS IS OF BULK AT MOST 1048576: true; the input reads as it did. -/
def kernClearsUptoRow : OpenClaim := { program := "ytclgakdfeeefiaadoor", sum := "7fedcc4f96c2203a7983d9d2ccd9cc807e1d75f9ec62a21a8f7d11f3cc1a5e5e", func := "concordat/concordatlaw16.KernClears", spec := "kernClears", named := ["math/bits.deBruijn64tab"], plainKeys := false, apart := false, laid := [("math/bits.deBruijn64tab", laid_math_bits_deBruijn64tab)], narrowed := true }
def KernClearsUptoSaid : Prop := kernClearsUptoRow.holds Tryd.pinned (OpenSpec.upto kernClearsSpec)

end Rows
end Go.Proofs.YtclgakdfeeefiaaDoor
