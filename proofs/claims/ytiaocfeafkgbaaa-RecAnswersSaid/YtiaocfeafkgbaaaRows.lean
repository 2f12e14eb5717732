/-
  No cell of these rows narrows 'for every input' (looked for: loops, veiled, ifaces, maps, wideKeys, modest, calm, conditions, laid).
  DERIVED. THE GIVEN ROWS OF THIS SEAT. 5 by the template 'for every input the law returns true; each argument reads behind the call as it read before'; 0 by the template 'total and deterministic' (their statements: YtiaocfeafkgbaaaTotals.lean).
  GIVEN WITH THE SEED: the statements are not yours to turn. If you find one false, say at which input.
  Laid BY PROGRAM, IN A SANDBOX (cutbox-rows.mjs): the forced cells as the released guide's own fill.sh prints them over the translation 2ffc10fdad34073b… (all of the seat's roots in one cut). By AI agents, Wed Nov 11 2026. No macro, syntax, notation, axiom, sorry.
-/
import Derived.Test.YtiaocfeafkgbaaaChecked
import GoSem.Claim
import GoSem.ClaimJoined
import GoSem.ClaimMapViews
import Derived.JoinedTies
import Derived.KernelRfl
namespace Go.Proofs.Ytiaocfeafkgbaaa
/- THE CELL 'sum', in the pinned program and in every row, IS THE sha256 OF THE DUMP (.gsa) THAT YtiaocfeafkgbaaaProg.lean LOADS. Nothing in Lean hashes anything: it is a label: what it is worth is what the hold of that sum in a sandbox is worth. -/
noncomputable def Try.pinned : Pinned := { name := "ytiaocfeafkgbaaa", sum := "2ffc10fdad34073be64817873ee87433a4c466cacbe34a3c36aaf511294fb845", checked := Try.checked }
namespace Rows
def none {H : Type} : Left H := { results := [], args := [] }

/-- 'concordatlaw04.RecBack': WHATEVER THE INPUT: true; the input reads as it did. -/
def recBackSpec : ChangeSpec := { name := "recBack", fn := fun _ => fun
  | [d1, d2] => { results := [.lit (.bool true)], args := [d1, d2] }
  | _ => none }
def recBackRow : OpenClaim := { program := "ytiaocfeafkgbaaa", sum := "2ffc10fdad34073be64817873ee87433a4c466cacbe34a3c36aaf511294fb845", func := "concordat/concordatlaw04.RecBack", spec := "recBack", unfollowed := true, recurses := true, apart := false }
def RecBackSaid : Prop := recBackRow.holds Try.pinned (OpenSpec.ofChange recBackSpec)

/-- ITS FALSE NEIGHBOUR: 'it returns false'. Refute it at one input. -/
def recBackWrong : ChangeSpec := { name := "recBack", fn := fun _ => fun
  | [d1, d2] => { results := [.lit (.bool false)], args := [d1, d2] }
  | _ => none }
def RecBackWrongFalsely : Prop := recBackRow.holds Try.pinned (OpenSpec.ofChange recBackWrong)

/-- 'concordatlaw04.RecApart': WHATEVER THE INPUT: true; the input reads as it did. -/
def recApartSpec : ChangeSpec := { name := "recApart", fn := fun _ => fun
  | [d1, d2] => { results := [.lit (.bool true)], args := [d1, d2] }
  | _ => none }
def recApartRow : OpenClaim := { program := "ytiaocfeafkgbaaa", sum := "2ffc10fdad34073be64817873ee87433a4c466cacbe34a3c36aaf511294fb845", func := "concordat/concordatlaw04.RecApart", spec := "recApart", unfollowed := true, recurses := true, apart := false }
def RecApartSaid : Prop := recApartRow.holds Try.pinned (OpenSpec.ofChange recApartSpec)

/-- ITS FALSE NEIGHBOUR: 'it returns false'. Refute it at one input. -/
def recApartWrong : ChangeSpec := { name := "recApart", fn := fun _ => fun
  | [d1, d2] => { results := [.lit (.bool false)], args := [d1, d2] }
  | _ => none }
def RecApartWrongFalsely : Prop := recApartRow.holds Try.pinned (OpenSpec.ofChange recApartWrong)

/-- 'concordatlaw04.RecPlain': WHATEVER THE INPUT: true; the input reads as it did. -/
def recPlainSpec : ChangeSpec := { name := "recPlain", fn := fun _ => fun
  | [d1, d2] => { results := [.lit (.bool true)], args := [d1, d2] }
  | _ => none }
def recPlainRow : OpenClaim := { program := "ytiaocfeafkgbaaa", sum := "2ffc10fdad34073be64817873ee87433a4c466cacbe34a3c36aaf511294fb845", func := "concordat/concordatlaw04.RecPlain", spec := "recPlain", unfollowed := true, recurses := true, apart := false }
def RecPlainSaid : Prop := recPlainRow.holds Try.pinned (OpenSpec.ofChange recPlainSpec)

/-- ITS FALSE NEIGHBOUR: 'it returns false'. Refute it at one input. -/
def recPlainWrong : ChangeSpec := { name := "recPlain", fn := fun _ => fun
  | [d1, d2] => { results := [.lit (.bool false)], args := [d1, d2] }
  | _ => none }
def RecPlainWrongFalsely : Prop := recPlainRow.holds Try.pinned (OpenSpec.ofChange recPlainWrong)

/-- 'concordatlaw04.RecAnswers': WHATEVER THE INPUT: true; the input reads as it did. -/
def recAnswersSpec : ChangeSpec := { name := "recAnswers", fn := fun _ => fun
  | [d1, d2] => { results := [.lit (.bool true)], args := [d1, d2] }
  | _ => none }
def recAnswersRow : OpenClaim := { program := "ytiaocfeafkgbaaa", sum := "2ffc10fdad34073be64817873ee87433a4c466cacbe34a3c36aaf511294fb845", func := "concordat/concordatlaw04.RecAnswers", spec := "recAnswers", unfollowed := true, recurses := true, apart := false }
def RecAnswersSaid : Prop := recAnswersRow.holds Try.pinned (OpenSpec.ofChange recAnswersSpec)

/-- ITS FALSE NEIGHBOUR: 'it returns false'. Refute it at one input. -/
def recAnswersWrong : ChangeSpec := { name := "recAnswers", fn := fun _ => fun
  | [d1, d2] => { results := [.lit (.bool false)], args := [d1, d2] }
  | _ => none }
def RecAnswersWrongFalsely : Prop := recAnswersRow.holds Try.pinned (OpenSpec.ofChange recAnswersWrong)

/-- 'concordatlaw04.RecSizes': WHATEVER THE INPUT: true; the input reads as it did. -/
def recSizesSpec : ChangeSpec := { name := "recSizes", fn := fun _ => fun
  | [d] => { results := [.lit (.bool true)], args := [d] }
  | _ => none }
def recSizesRow : OpenClaim := { program := "ytiaocfeafkgbaaa", sum := "2ffc10fdad34073be64817873ee87433a4c466cacbe34a3c36aaf511294fb845", func := "concordat/concordatlaw04.RecSizes", spec := "recSizes", unfollowed := true, recurses := true, apart := false }
def RecSizesSaid : Prop := recSizesRow.holds Try.pinned (OpenSpec.ofChange recSizesSpec)

/-- ITS FALSE NEIGHBOUR: 'it returns false'. Refute it at one input. -/
def recSizesWrong : ChangeSpec := { name := "recSizes", fn := fun _ => fun
  | [d] => { results := [.lit (.bool false)], args := [d] }
  | _ => none }
def RecSizesWrongFalsely : Prop := recSizesRow.holds Try.pinned (OpenSpec.ofChange recSizesWrong)

/- THE SECOND FORM. 'bulk': how many values and letters a reading holds, each counted each time it is reached (what is shared counts as often as it is met; a slice's spare places count too). A statement '..UptoSaid' is the law's where the arguments, and the package variables that the reading takes, are together of bulk at most 1048576: NARROWER than '..Said'. Prove '..Said' where nothing that the law and all that it calls make is longer than what came in: it says more and counts as full. Else prove '..UptoSaid'. A law counts once. -/
mutual
def uptoBulk {H : Type} : DataW H → Nat
  | .lit (.string bytes) => bytes.length + 1
  | .lit _ => 1
  | .nil => 1
  | .ptr d => uptoBulk d + 1
  | .slice elems spare => uptoBulkAll elems + uptoBulkAll spare + 1
  | .agg parts => uptoBulkAll parts + 1
  | .iface _ d => uptoBulk d + 1
  | .map entries => uptoBulkEntries entries + 1
  | .held _ => 1
def uptoBulkAll {H : Type} : List (DataW H) → Nat
  | [] => 0
  | d :: r => uptoBulk d + uptoBulkAll r
def uptoBulkEntries {H : Type} : List (Lit × DataW H) → Nat
  | [] => 0
  | x :: r => uptoBulkEntry x + uptoBulkEntries r
def uptoBulkEntry {H : Type} : Lit × DataW H → Nat
  | (.string bytes, d) => bytes.length + uptoBulk d + 1
  | (_, d) => uptoBulk d + 1
 end
def uptoSmall : (H : Type) → List (DataW H) → Bool := fun _ ds => decide (uptoBulkAll ds ≤ 1048576)
def OpenSpec.upto (s : _root_.Go.ChangeSpec) : _root_.Go.OpenSpec := { _root_.Go.OpenSpec.ofChange s with cond := some uptoSmall }

/-- 'concordatlaw04.RecBack', WHERE WHAT IT READS IS OF BULK AT MOST 1048576: true; the input reads as it did. -/
def recBackUptoRow : OpenClaim := { program := "ytiaocfeafkgbaaa", sum := "2ffc10fdad34073be64817873ee87433a4c466cacbe34a3c36aaf511294fb845", func := "concordat/concordatlaw04.RecBack", spec := "recBack", unfollowed := true, recurses := true, apart := false, narrowed := true }
def RecBackUptoSaid : Prop := recBackUptoRow.holds Try.pinned (OpenSpec.upto recBackSpec)

/-- 'concordatlaw04.RecApart', WHERE WHAT IT READS IS OF BULK AT MOST 1048576: true; the input reads as it did. -/
def recApartUptoRow : OpenClaim := { program := "ytiaocfeafkgbaaa", sum := "2ffc10fdad34073be64817873ee87433a4c466cacbe34a3c36aaf511294fb845", func := "concordat/concordatlaw04.RecApart", spec := "recApart", unfollowed := true, recurses := true, apart := false, narrowed := true }
def RecApartUptoSaid : Prop := recApartUptoRow.holds Try.pinned (OpenSpec.upto recApartSpec)

/-- 'concordatlaw04.RecPlain', WHERE WHAT IT READS IS OF BULK AT MOST 1048576: true; the input reads as it did. -/
def recPlainUptoRow : OpenClaim := { program := "ytiaocfeafkgbaaa", sum := "2ffc10fdad34073be64817873ee87433a4c466cacbe34a3c36aaf511294fb845", func := "concordat/concordatlaw04.RecPlain", spec := "recPlain", unfollowed := true, recurses := true, apart := false, narrowed := true }
def RecPlainUptoSaid : Prop := recPlainUptoRow.holds Try.pinned (OpenSpec.upto recPlainSpec)

/-- 'concordatlaw04.RecAnswers', WHERE WHAT IT READS IS OF BULK AT MOST 1048576: true; the input reads as it did. -/
def recAnswersUptoRow : OpenClaim := { program := "ytiaocfeafkgbaaa", sum := "2ffc10fdad34073be64817873ee87433a4c466cacbe34a3c36aaf511294fb845", func := "concordat/concordatlaw04.RecAnswers", spec := "recAnswers", unfollowed := true, recurses := true, apart := false, narrowed := true }
def RecAnswersUptoSaid : Prop := recAnswersUptoRow.holds Try.pinned (OpenSpec.upto recAnswersSpec)

/-- 'concordatlaw04.RecSizes', WHERE WHAT IT READS IS OF BULK AT MOST 1048576: true; the input reads as it did. -/
def recSizesUptoRow : OpenClaim := { program := "ytiaocfeafkgbaaa", sum := "2ffc10fdad34073be64817873ee87433a4c466cacbe34a3c36aaf511294fb845", func := "concordat/concordatlaw04.RecSizes", spec := "recSizes", unfollowed := true, recurses := true, apart := false, narrowed := true }
def RecSizesUptoSaid : Prop := recSizesUptoRow.holds Try.pinned (OpenSpec.upto recSizesSpec)

end Rows
end Go.Proofs.Ytiaocfeafkgbaaa
