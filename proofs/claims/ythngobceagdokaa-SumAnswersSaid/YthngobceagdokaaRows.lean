/-
  No cell of these rows narrows 'for every input' (looked for: loops, veiled, ifaces, maps, wideKeys, modest, calm, conditions, laid).
  DERIVED. THE GIVEN ROWS OF THIS SEAT. 5 by the template 'for every input the law returns true; each argument reads behind the call as it read before'; 0 by the template 'total and deterministic' (their statements: YthngobceagdokaaTotals.lean).
  GIVEN WITH THE SEED: the statements are not yours to turn. If you find one false, say at which input.
  Laid BY PROGRAM, IN A SANDBOX (cutbox-rows.mjs): the forced cells as the released guide's own fill.sh prints them over the translation 236b1919bf2aaa11… (all of the seat's roots in one cut). By AI agents, Wed Nov 11 2026. No macro, syntax, notation, axiom, sorry.
-/
import Derived.Test.YthngobceagdokaaChecked
import GoSem.Claim
import GoSem.ClaimJoined
import GoSem.ClaimMapViews
import Derived.JoinedTies
import Derived.KernelRfl
namespace Go.Proofs.Ythngobceagdokaa
/- THE CELL 'sum', in the pinned program and in every row, IS THE sha256 OF THE DUMP (.gsa) THAT YthngobceagdokaaProg.lean LOADS. Nothing in Lean hashes anything: it is a label: what it is worth is what the hold of that sum in a sandbox is worth. -/
noncomputable def Try.pinned : Pinned := { name := "ythngobceagdokaa", sum := "236b1919bf2aaa1176a2db2c8e69084733d10f8c31b373be08035268d3c180ee", checked := Try.checked }
namespace Rows
def none {H : Type} : Left H := { results := [], args := [] }

/-- 'concordatlaw02.SumAnswers': WHATEVER THE INPUT: true; the input reads as it did. -/
def sumAnswersSpec : ChangeSpec := { name := "sumAnswers", fn := fun _ => fun
  | [d1, d2, d3] => { results := [.lit (.bool true)], args := [d1, d2, d3] }
  | _ => none }
def sumAnswersRow : OpenClaim := { program := "ythngobceagdokaa", sum := "236b1919bf2aaa1176a2db2c8e69084733d10f8c31b373be08035268d3c180ee", func := "concordat/concordatlaw02.SumAnswers", spec := "sumAnswers", apart := false }
def SumAnswersSaid : Prop := sumAnswersRow.holds Try.pinned (OpenSpec.ofChange sumAnswersSpec)

/-- ITS FALSE NEIGHBOUR: 'it returns false'. Refute it at one input. -/
def sumAnswersWrong : ChangeSpec := { name := "sumAnswers", fn := fun _ => fun
  | [d1, d2, d3] => { results := [.lit (.bool false)], args := [d1, d2, d3] }
  | _ => none }
def SumAnswersWrongFalsely : Prop := sumAnswersRow.holds Try.pinned (OpenSpec.ofChange sumAnswersWrong)

/-- 'concordatlaw02.SumParts': WHATEVER THE INPUT: true; the input reads as it did. -/
def sumPartsSpec : ChangeSpec := { name := "sumParts", fn := fun _ => fun
  | [d1, d2] => { results := [.lit (.bool true)], args := [d1, d2] }
  | _ => none }
def sumPartsRow : OpenClaim := { program := "ythngobceagdokaa", sum := "236b1919bf2aaa1176a2db2c8e69084733d10f8c31b373be08035268d3c180ee", func := "concordat/concordatlaw02.SumParts", spec := "sumParts", apart := false }
def SumPartsSaid : Prop := sumPartsRow.holds Try.pinned (OpenSpec.ofChange sumPartsSpec)

/-- ITS FALSE NEIGHBOUR: 'it returns false'. Refute it at one input. -/
def sumPartsWrong : ChangeSpec := { name := "sumParts", fn := fun _ => fun
  | [d1, d2] => { results := [.lit (.bool false)], args := [d1, d2] }
  | _ => none }
def SumPartsWrongFalsely : Prop := sumPartsRow.holds Try.pinned (OpenSpec.ofChange sumPartsWrong)

/-- 'concordatlaw02.SumBits': WHATEVER THE INPUT: true; the input reads as it did. -/
def sumBitsSpec : ChangeSpec := { name := "sumBits", fn := fun _ => fun
  | [d1, d2, d3] => { results := [.lit (.bool true)], args := [d1, d2, d3] }
  | _ => none }
def sumBitsRow : OpenClaim := { program := "ythngobceagdokaa", sum := "236b1919bf2aaa1176a2db2c8e69084733d10f8c31b373be08035268d3c180ee", func := "concordat/concordatlaw02.SumBits", spec := "sumBits", apart := false }
def SumBitsSaid : Prop := sumBitsRow.holds Try.pinned (OpenSpec.ofChange sumBitsSpec)

/-- ITS FALSE NEIGHBOUR: 'it returns false'. Refute it at one input. -/
def sumBitsWrong : ChangeSpec := { name := "sumBits", fn := fun _ => fun
  | [d1, d2, d3] => { results := [.lit (.bool false)], args := [d1, d2, d3] }
  | _ => none }
def SumBitsWrongFalsely : Prop := sumBitsRow.holds Try.pinned (OpenSpec.ofChange sumBitsWrong)

/-- 'concordatlaw02.SumSeals': WHATEVER THE INPUT: true; the input reads as it did. -/
def sumSealsSpec : ChangeSpec := { name := "sumSeals", fn := fun _ => fun
  | [d1, d2] => { results := [.lit (.bool true)], args := [d1, d2] }
  | _ => none }
def sumSealsRow : OpenClaim := { program := "ythngobceagdokaa", sum := "236b1919bf2aaa1176a2db2c8e69084733d10f8c31b373be08035268d3c180ee", func := "concordat/concordatlaw02.SumSeals", spec := "sumSeals", apart := false }
def SumSealsSaid : Prop := sumSealsRow.holds Try.pinned (OpenSpec.ofChange sumSealsSpec)

/-- ITS FALSE NEIGHBOUR: 'it returns false'. Refute it at one input. -/
def sumSealsWrong : ChangeSpec := { name := "sumSeals", fn := fun _ => fun
  | [d1, d2] => { results := [.lit (.bool false)], args := [d1, d2] }
  | _ => none }
def SumSealsWrongFalsely : Prop := sumSealsRow.holds Try.pinned (OpenSpec.ofChange sumSealsWrong)

/-- 'concordatlaw02.SumFits': WHATEVER THE INPUT: true; the input reads as it did. -/
def sumFitsSpec : ChangeSpec := { name := "sumFits", fn := fun _ => fun
  | [d1, d2] => { results := [.lit (.bool true)], args := [d1, d2] }
  | _ => none }
def sumFitsRow : OpenClaim := { program := "ythngobceagdokaa", sum := "236b1919bf2aaa1176a2db2c8e69084733d10f8c31b373be08035268d3c180ee", func := "concordat/concordatlaw02.SumFits", spec := "sumFits", apart := false }
def SumFitsSaid : Prop := sumFitsRow.holds Try.pinned (OpenSpec.ofChange sumFitsSpec)

/-- ITS FALSE NEIGHBOUR: 'it returns false'. Refute it at one input. -/
def sumFitsWrong : ChangeSpec := { name := "sumFits", fn := fun _ => fun
  | [d1, d2] => { results := [.lit (.bool false)], args := [d1, d2] }
  | _ => none }
def SumFitsWrongFalsely : Prop := sumFitsRow.holds Try.pinned (OpenSpec.ofChange sumFitsWrong)

/- THE SECOND FORM. 'bulk': how many values and letters a reading holds, each counted each time it is reached (what is shared counts as often as it is met; a slice's spare places count too). A statement '..UptoSaid' is the law's where the arguments, and the package variables that the reading takes, are together of bulk at most 1048576: NARROWER than '..Said'. Prove '..Said' where nothing that the law and all that it calls make is longer than what came in: it says more and counts as full. Else prove '..UptoSaid'. A law counts once. -/
mutual
def uptoBulk {H : Type} : DataW H → Nat
  | .lit (.string bytes) => bytes.length + 1
  | .lit _ => 1
  | .nil => 1
  | .ptr d => uptoBulk d + 1
  | .slice elems spare => uptoBulkAll elems + uptoBulkAll spare + 1
  | .agg parts => uptoBulkAll parts + 1
  | .iface _ d => uptoBulk d + 1
  | .map entries => uptoBulkEntries entries + 1
  | .held _ => 1
def uptoBulkAll {H : Type} : List (DataW H) → Nat
  | [] => 0
  | d :: r => uptoBulk d + uptoBulkAll r
def uptoBulkEntries {H : Type} : List (Lit × DataW H) → Nat
  | [] => 0
  | x :: r => uptoBulkEntry x + uptoBulkEntries r
def uptoBulkEntry {H : Type} : Lit × DataW H → Nat
  | (.string bytes, d) => bytes.length + uptoBulk d + 1
  | (_, d) => uptoBulk d + 1
 end
def uptoSmall : (H : Type) → List (DataW H) → Bool := fun _ ds => decide (uptoBulkAll ds ≤ 1048576)
def OpenSpec.upto (s : _root_.Go.ChangeSpec) : _root_.Go.OpenSpec := { _root_.Go.OpenSpec.ofChange s with cond := some uptoSmall }

/-- 'concordatlaw02.SumAnswers', WHERE WHAT IT READS IS OF BULK AT MOST 1048576: true; the input reads as it did. -/
def sumAnswersUptoRow : OpenClaim := { program := "ythngobceagdokaa", sum := "236b1919bf2aaa1176a2db2c8e69084733d10f8c31b373be08035268d3c180ee", func := "concordat/concordatlaw02.SumAnswers", spec := "sumAnswers", apart := false, narrowed := true }
def SumAnswersUptoSaid : Prop := sumAnswersUptoRow.holds Try.pinned (OpenSpec.upto sumAnswersSpec)

/-- 'concordatlaw02.SumParts', WHERE WHAT IT READS IS OF BULK AT MOST 1048576: true; the input reads as it did. -/
def sumPartsUptoRow : OpenClaim := { program := "ythngobceagdokaa", sum := "236b1919bf2aaa1176a2db2c8e69084733d10f8c31b373be08035268d3c180ee", func := "concordat/concordatlaw02.SumParts", spec := "sumParts", apart := false, narrowed := true }
def SumPartsUptoSaid : Prop := sumPartsUptoRow.holds Try.pinned (OpenSpec.upto sumPartsSpec)

/-- 'concordatlaw02.SumBits', WHERE WHAT IT READS IS OF BULK AT MOST 1048576: true; the input reads as it did. -/
def sumBitsUptoRow : OpenClaim := { program := "ythngobceagdokaa", sum := "236b1919bf2aaa1176a2db2c8e69084733d10f8c31b373be08035268d3c180ee", func := "concordat/concordatlaw02.SumBits", spec := "sumBits", apart := false, narrowed := true }
def SumBitsUptoSaid : Prop := sumBitsUptoRow.holds Try.pinned (OpenSpec.upto sumBitsSpec)

/-- 'concordatlaw02.SumSeals', WHERE WHAT IT READS IS OF BULK AT MOST 1048576: true; the input reads as it did. -/
def sumSealsUptoRow : OpenClaim := { program := "ythngobceagdokaa", sum := "236b1919bf2aaa1176a2db2c8e69084733d10f8c31b373be08035268d3c180ee", func := "concordat/concordatlaw02.SumSeals", spec := "sumSeals", apart := false, narrowed := true }
def SumSealsUptoSaid : Prop := sumSealsUptoRow.holds Try.pinned (OpenSpec.upto sumSealsSpec)

/-- 'concordatlaw02.SumFits', WHERE WHAT IT READS IS OF BULK AT MOST 1048576: true; the input reads as it did. -/
def sumFitsUptoRow : OpenClaim := { program := "ythngobceagdokaa", sum := "236b1919bf2aaa1176a2db2c8e69084733d10f8c31b373be08035268d3c180ee", func := "concordat/concordatlaw02.SumFits", spec := "sumFits", apart := false, narrowed := true }
def SumFitsUptoSaid : Prop := sumFitsUptoRow.holds Try.pinned (OpenSpec.upto sumFitsSpec)

end Rows
end Go.Proofs.Ythngobceagdokaa
