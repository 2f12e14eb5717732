/-
  No cell of these rows narrows 'for every input' (looked for: loops, veiled, ifaces, maps, wideKeys, modest, calm, conditions, laid).
  DERIVED. THE GIVEN ROWS OF THIS SEAT. 5 by the template 'for every input the law returns true; each argument reads behind the call as it read before'; 0 by the template 'total and deterministic' (their statements: YtjmifnhpgedafaaTotals.lean).
  GIVEN WITH THE SEED: the statements are not yours to turn. If you find one false, say at which input.
  Laid BY PROGRAM, IN A SANDBOX (cutbox-rows.mjs): the forced cells as the released guide's own fill.sh prints them over the translation 2ccb2405c2bed607… (all of the seat's roots in one cut). By AI agents, Wed Nov 11 2026. No macro, syntax, notation, axiom, sorry.
-/
import Derived.Test.YtjmifnhpgedafaaChecked
import GoSem.Claim
import GoSem.ClaimJoined
import GoSem.ClaimMapViews
import Derived.JoinedTies
import Derived.KernelRfl
namespace Go.Proofs.Ytjmifnhpgedafaa
/- THE CELL 'sum', in the pinned program and in every row, IS THE sha256 OF THE DUMP (.gsa) THAT YtjmifnhpgedafaaProg.lean LOADS. Nothing in Lean hashes anything: it is a label: what it is worth is what the hold of that sum in a sandbox is worth. -/
noncomputable def Try.pinned : Pinned := { name := "ytjmifnhpgedafaa", sum := "2ccb2405c2bed6071462c52949ad2af02f0d6c365d07e531184e6be0f2190a29", checked := Try.checked }
namespace Rows
def none {H : Type} : Left H := { results := [], args := [] }

/-- 'concordatlaw13.BoxSecret': WHATEVER THE INPUT: true; the input reads as it did. -/
def boxSecretSpec : ChangeSpec := { name := "boxSecret", fn := fun _ => fun
  | [d1, d2, d3, d4, d5] => { results := [.lit (.bool true)], args := [d1, d2, d3, d4, d5] }
  | _ => none }
def boxSecretRow : OpenClaim := { program := "ytjmifnhpgedafaa", sum := "2ccb2405c2bed6071462c52949ad2af02f0d6c365d07e531184e6be0f2190a29", func := "concordat/concordatlaw13.BoxSecret", spec := "boxSecret", apart := false }
def BoxSecretSaid : Prop := boxSecretRow.holds Try.pinned (OpenSpec.ofChange boxSecretSpec)

/-- ITS FALSE NEIGHBOUR: 'it returns false'. Refute it at one input. -/
def boxSecretWrong : ChangeSpec := { name := "boxSecret", fn := fun _ => fun
  | [d1, d2, d3, d4, d5] => { results := [.lit (.bool false)], args := [d1, d2, d3, d4, d5] }
  | _ => none }
def BoxSecretWrongFalsely : Prop := boxSecretRow.holds Try.pinned (OpenSpec.ofChange boxSecretWrong)

/-- 'concordatlaw13.BoxOrder': WHATEVER THE INPUT: true; the input reads as it did. -/
def boxOrderSpec : ChangeSpec := { name := "boxOrder", fn := fun _ => fun
  | [d1, d2] => { results := [.lit (.bool true)], args := [d1, d2] }
  | _ => none }
def boxOrderRow : OpenClaim := { program := "ytjmifnhpgedafaa", sum := "2ccb2405c2bed6071462c52949ad2af02f0d6c365d07e531184e6be0f2190a29", func := "concordat/concordatlaw13.BoxOrder", spec := "boxOrder", apart := false }
def BoxOrderSaid : Prop := boxOrderRow.holds Try.pinned (OpenSpec.ofChange boxOrderSpec)

/-- ITS FALSE NEIGHBOUR: 'it returns false'. Refute it at one input. -/
def boxOrderWrong : ChangeSpec := { name := "boxOrder", fn := fun _ => fun
  | [d1, d2] => { results := [.lit (.bool false)], args := [d1, d2] }
  | _ => none }
def BoxOrderWrongFalsely : Prop := boxOrderRow.holds Try.pinned (OpenSpec.ofChange boxOrderWrong)

/-- 'concordatlaw13.BoxFlows': WHATEVER THE INPUT: true; the input reads as it did. -/
def boxFlowsSpec : ChangeSpec := { name := "boxFlows", fn := fun _ => fun
  | [d1, d2, d3, d4] => { results := [.lit (.bool true)], args := [d1, d2, d3, d4] }
  | _ => none }
def boxFlowsRow : OpenClaim := { program := "ytjmifnhpgedafaa", sum := "2ccb2405c2bed6071462c52949ad2af02f0d6c365d07e531184e6be0f2190a29", func := "concordat/concordatlaw13.BoxFlows", spec := "boxFlows", apart := false }
def BoxFlowsSaid : Prop := boxFlowsRow.holds Try.pinned (OpenSpec.ofChange boxFlowsSpec)

/-- ITS FALSE NEIGHBOUR: 'it returns false'. Refute it at one input. -/
def boxFlowsWrong : ChangeSpec := { name := "boxFlows", fn := fun _ => fun
  | [d1, d2, d3, d4] => { results := [.lit (.bool false)], args := [d1, d2, d3, d4] }
  | _ => none }
def BoxFlowsWrongFalsely : Prop := boxFlowsRow.holds Try.pinned (OpenSpec.ofChange boxFlowsWrong)

/-- 'concordatlaw13.BoxPlaces': WHATEVER THE INPUT: true; the input reads as it did. -/
def boxPlacesSpec : ChangeSpec := { name := "boxPlaces", fn := fun _ => fun
  | [d1, d2, d3] => { results := [.lit (.bool true)], args := [d1, d2, d3] }
  | _ => none }
def boxPlacesRow : OpenClaim := { program := "ytjmifnhpgedafaa", sum := "2ccb2405c2bed6071462c52949ad2af02f0d6c365d07e531184e6be0f2190a29", func := "concordat/concordatlaw13.BoxPlaces", spec := "boxPlaces", apart := false }
def BoxPlacesSaid : Prop := boxPlacesRow.holds Try.pinned (OpenSpec.ofChange boxPlacesSpec)

/-- ITS FALSE NEIGHBOUR: 'it returns false'. Refute it at one input. -/
def boxPlacesWrong : ChangeSpec := { name := "boxPlaces", fn := fun _ => fun
  | [d1, d2, d3] => { results := [.lit (.bool false)], args := [d1, d2, d3] }
  | _ => none }
def BoxPlacesWrongFalsely : Prop := boxPlacesRow.holds Try.pinned (OpenSpec.ofChange boxPlacesWrong)

/-- 'concordatlaw13.BoxCalls': WHATEVER THE INPUT: true; the input reads as it did. -/
def boxCallsSpec : ChangeSpec := { name := "boxCalls", fn := fun _ => fun
  | [d1, d2, d3] => { results := [.lit (.bool true)], args := [d1, d2, d3] }
  | _ => none }
def boxCallsRow : OpenClaim := { program := "ytjmifnhpgedafaa", sum := "2ccb2405c2bed6071462c52949ad2af02f0d6c365d07e531184e6be0f2190a29", func := "concordat/concordatlaw13.BoxCalls", spec := "boxCalls", apart := false }
def BoxCallsSaid : Prop := boxCallsRow.holds Try.pinned (OpenSpec.ofChange boxCallsSpec)

/-- ITS FALSE NEIGHBOUR: 'it returns false'. Refute it at one input. -/
def boxCallsWrong : ChangeSpec := { name := "boxCalls", fn := fun _ => fun
  | [d1, d2, d3] => { results := [.lit (.bool false)], args := [d1, d2, d3] }
  | _ => none }
def BoxCallsWrongFalsely : Prop := boxCallsRow.holds Try.pinned (OpenSpec.ofChange boxCallsWrong)

/- THE SECOND FORM. 'bulk': how many values and letters a reading holds, each counted each time it is reached (what is shared counts as often as it is met; a slice's spare places count too). A statement '..UptoSaid' is the law's where the arguments, and the package variables that the reading takes, are together of bulk at most 1048576: NARROWER than '..Said'. Prove '..Said' where nothing that the law and all that it calls make is longer than what came in: it says more and counts as full. Else prove '..UptoSaid'. A law counts once. -/
mutual
def uptoBulk {H : Type} : DataW H → Nat
  | .lit (.string bytes) => bytes.length + 1
  | .lit _ => 1
  | .nil => 1
  | .ptr d => uptoBulk d + 1
  | .slice elems spare => uptoBulkAll elems + uptoBulkAll spare + 1
  | .agg parts => uptoBulkAll parts + 1
  | .iface _ d => uptoBulk d + 1
  | .map entries => uptoBulkEntries entries + 1
  | .held _ => 1
def uptoBulkAll {H : Type} : List (DataW H) → Nat
  | [] => 0
  | d :: r => uptoBulk d + uptoBulkAll r
def uptoBulkEntries {H : Type} : List (Lit × DataW H) → Nat
  | [] => 0
  | x :: r => uptoBulkEntry x + uptoBulkEntries r
def uptoBulkEntry {H : Type} : Lit × DataW H → Nat
  | (.string bytes, d) => bytes.length + uptoBulk d + 1
  | (_, d) => uptoBulk d + 1
 end
def uptoSmall : (H : Type) → List (DataW H) → Bool := fun _ ds => decide (uptoBulkAll ds ≤ 1048576)
def OpenSpec.upto (s : _root_.Go.ChangeSpec) : _root_.Go.OpenSpec := { _root_.Go.OpenSpec.ofChange s with cond := some uptoSmall }

/-- 'concordatlaw13.BoxSecret', WHERE WHAT IT READS IS OF BULK AT MOST 1048576: true; the input reads as it did. -/
def boxSecretUptoRow : OpenClaim := { program := "ytjmifnhpgedafaa", sum := "2ccb2405c2bed6071462c52949ad2af02f0d6c365d07e531184e6be0f2190a29", func := "concordat/concordatlaw13.BoxSecret", spec := "boxSecret", apart := false, narrowed := true }
def BoxSecretUptoSaid : Prop := boxSecretUptoRow.holds Try.pinned (OpenSpec.upto boxSecretSpec)

/-- 'concordatlaw13.BoxOrder', WHERE WHAT IT READS IS OF BULK AT MOST 1048576: true; the input reads as it did. -/
def boxOrderUptoRow : OpenClaim := { program := "ytjmifnhpgedafaa", sum := "2ccb2405c2bed6071462c52949ad2af02f0d6c365d07e531184e6be0f2190a29", func := "concordat/concordatlaw13.BoxOrder", spec := "boxOrder", apart := false, narrowed := true }
def BoxOrderUptoSaid : Prop := boxOrderUptoRow.holds Try.pinned (OpenSpec.upto boxOrderSpec)

/-- 'concordatlaw13.BoxFlows', WHERE WHAT IT READS IS OF BULK AT MOST 1048576: true; the input reads as it did. -/
def boxFlowsUptoRow : OpenClaim := { program := "ytjmifnhpgedafaa", sum := "2ccb2405c2bed6071462c52949ad2af02f0d6c365d07e531184e6be0f2190a29", func := "concordat/concordatlaw13.BoxFlows", spec := "boxFlows", apart := false, narrowed := true }
def BoxFlowsUptoSaid : Prop := boxFlowsUptoRow.holds Try.pinned (OpenSpec.upto boxFlowsSpec)

/-- 'concordatlaw13.BoxPlaces', WHERE WHAT IT READS IS OF BULK AT MOST 1048576: true; the input reads as it did. -/
def boxPlacesUptoRow : OpenClaim := { program := "ytjmifnhpgedafaa", sum := "2ccb2405c2bed6071462c52949ad2af02f0d6c365d07e531184e6be0f2190a29", func := "concordat/concordatlaw13.BoxPlaces", spec := "boxPlaces", apart := false, narrowed := true }
def BoxPlacesUptoSaid : Prop := boxPlacesUptoRow.holds Try.pinned (OpenSpec.upto boxPlacesSpec)

/-- 'concordatlaw13.BoxCalls', WHERE WHAT IT READS IS OF BULK AT MOST 1048576: true; the input reads as it did. -/
def boxCallsUptoRow : OpenClaim := { program := "ytjmifnhpgedafaa", sum := "2ccb2405c2bed6071462c52949ad2af02f0d6c365d07e531184e6be0f2190a29", func := "concordat/concordatlaw13.BoxCalls", spec := "boxCalls", apart := false, narrowed := true }
def BoxCallsUptoSaid : Prop := boxCallsUptoRow.holds Try.pinned (OpenSpec.upto boxCallsSpec)

end Rows
end Go.Proofs.Ytjmifnhpgedafaa
