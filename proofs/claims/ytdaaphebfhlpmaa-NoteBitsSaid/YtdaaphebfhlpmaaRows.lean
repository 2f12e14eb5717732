/-
  No cell of these rows narrows 'for every input' (looked for: loops, veiled, ifaces, maps, wideKeys, modest, calm, conditions, laid).
  DERIVED. THE GIVEN ROWS OF THIS SEAT. 5 by the template 'for every input the law returns true; each argument reads behind the call as it read before'; 0 by the template 'total and deterministic' (their statements: YtdaaphebfhlpmaaTotals.lean).
  GIVEN WITH THE SEED: the statements are not yours to turn. If you find one false, say at which input.
  Laid BY PROGRAM, IN A SANDBOX (cutbox-rows.mjs): the forced cells as the released guide's own fill.sh prints them over the translation 9406964a842bcf4f… (all of the seat's roots in one cut). By AI agents, Wed Nov 11 2026. No macro, syntax, notation, axiom, sorry.
-/
import Derived.Test.YtdaaphebfhlpmaaChecked
import GoSem.Claim
import GoSem.ClaimJoined
import GoSem.ClaimMapViews
import Derived.JoinedTies
import Derived.KernelRfl
namespace Go.Proofs.Ytdaaphebfhlpmaa
/- THE CELL 'sum', in the pinned program and in every row, IS THE sha256 OF THE DUMP (.gsa) THAT YtdaaphebfhlpmaaProg.lean LOADS. Nothing in Lean hashes anything: it is a label: what it is worth is what the hold of that sum in a sandbox is worth. -/
noncomputable def Try.pinned : Pinned := { name := "ytdaaphebfhlpmaa", sum := "9406964a842bcf4fd0cb206c6baae3285ce1cd68d7acac6614ea882ead57958b", checked := Try.checked }
namespace Rows
def none {H : Type} : Left H := { results := [], args := [] }

/-- 'concordatlaw12.NoteAnswers': WHATEVER THE INPUT: true; the input reads as it did. -/
def noteAnswersSpec : ChangeSpec := { name := "noteAnswers", fn := fun _ => fun
  | [d1, d2, d3, d4] => { results := [.lit (.bool true)], args := [d1, d2, d3, d4] }
  | _ => none }
def noteAnswersRow : OpenClaim := { program := "ytdaaphebfhlpmaa", sum := "9406964a842bcf4fd0cb206c6baae3285ce1cd68d7acac6614ea882ead57958b", func := "concordat/concordatlaw12.NoteAnswers", spec := "noteAnswers", unfollowed := true, recurses := true, apart := false }
def NoteAnswersSaid : Prop := noteAnswersRow.holds Try.pinned (OpenSpec.ofChange noteAnswersSpec)

/-- ITS FALSE NEIGHBOUR: 'it returns false'. Refute it at one input. -/
def noteAnswersWrong : ChangeSpec := { name := "noteAnswers", fn := fun _ => fun
  | [d1, d2, d3, d4] => { results := [.lit (.bool false)], args := [d1, d2, d3, d4] }
  | _ => none }
def NoteAnswersWrongFalsely : Prop := noteAnswersRow.holds Try.pinned (OpenSpec.ofChange noteAnswersWrong)

/-- 'concordatlaw12.NoteBack': WHATEVER THE INPUT: true; the input reads as it did. -/
def noteBackSpec : ChangeSpec := { name := "noteBack", fn := fun _ => fun
  | [d1, d2] => { results := [.lit (.bool true)], args := [d1, d2] }
  | _ => none }
def noteBackRow : OpenClaim := { program := "ytdaaphebfhlpmaa", sum := "9406964a842bcf4fd0cb206c6baae3285ce1cd68d7acac6614ea882ead57958b", func := "concordat/concordatlaw12.NoteBack", spec := "noteBack", unfollowed := true, recurses := true, apart := false }
def NoteBackSaid : Prop := noteBackRow.holds Try.pinned (OpenSpec.ofChange noteBackSpec)

/-- ITS FALSE NEIGHBOUR: 'it returns false'. Refute it at one input. -/
def noteBackWrong : ChangeSpec := { name := "noteBack", fn := fun _ => fun
  | [d1, d2] => { results := [.lit (.bool false)], args := [d1, d2] }
  | _ => none }
def NoteBackWrongFalsely : Prop := noteBackRow.holds Try.pinned (OpenSpec.ofChange noteBackWrong)

/-- 'concordatlaw12.NoteBits': WHATEVER THE INPUT: true; the input reads as it did. -/
def noteBitsSpec : ChangeSpec := { name := "noteBits", fn := fun _ => fun
  | [d1, d2, d3, d4] => { results := [.lit (.bool true)], args := [d1, d2, d3, d4] }
  | _ => none }
def noteBitsRow : OpenClaim := { program := "ytdaaphebfhlpmaa", sum := "9406964a842bcf4fd0cb206c6baae3285ce1cd68d7acac6614ea882ead57958b", func := "concordat/concordatlaw12.NoteBits", spec := "noteBits", unfollowed := true, recurses := true, apart := false }
def NoteBitsSaid : Prop := noteBitsRow.holds Try.pinned (OpenSpec.ofChange noteBitsSpec)

/-- ITS FALSE NEIGHBOUR: 'it returns false'. Refute it at one input. -/
def noteBitsWrong : ChangeSpec := { name := "noteBits", fn := fun _ => fun
  | [d1, d2, d3, d4] => { results := [.lit (.bool false)], args := [d1, d2, d3, d4] }
  | _ => none }
def NoteBitsWrongFalsely : Prop := noteBitsRow.holds Try.pinned (OpenSpec.ofChange noteBitsWrong)

/-- 'concordatlaw12.NoteWays': WHATEVER THE INPUT: true; the input reads as it did. -/
def noteWaysSpec : ChangeSpec := { name := "noteWays", fn := fun _ => fun
  | [d] => { results := [.lit (.bool true)], args := [d] }
  | _ => none }
def noteWaysRow : OpenClaim := { program := "ytdaaphebfhlpmaa", sum := "9406964a842bcf4fd0cb206c6baae3285ce1cd68d7acac6614ea882ead57958b", func := "concordat/concordatlaw12.NoteWays", spec := "noteWays", unfollowed := true, recurses := true, apart := false }
def NoteWaysSaid : Prop := noteWaysRow.holds Try.pinned (OpenSpec.ofChange noteWaysSpec)

/-- ITS FALSE NEIGHBOUR: 'it returns false'. Refute it at one input. -/
def noteWaysWrong : ChangeSpec := { name := "noteWays", fn := fun _ => fun
  | [d] => { results := [.lit (.bool false)], args := [d] }
  | _ => none }
def NoteWaysWrongFalsely : Prop := noteWaysRow.holds Try.pinned (OpenSpec.ofChange noteWaysWrong)

/-- 'concordatlaw12.NoteOrder': WHATEVER THE INPUT: true; the input reads as it did. -/
def noteOrderSpec : ChangeSpec := { name := "noteOrder", fn := fun _ => fun
  | [d1, d2, d3] => { results := [.lit (.bool true)], args := [d1, d2, d3] }
  | _ => none }
def noteOrderRow : OpenClaim := { program := "ytdaaphebfhlpmaa", sum := "9406964a842bcf4fd0cb206c6baae3285ce1cd68d7acac6614ea882ead57958b", func := "concordat/concordatlaw12.NoteOrder", spec := "noteOrder", unfollowed := true, recurses := true, apart := false }
def NoteOrderSaid : Prop := noteOrderRow.holds Try.pinned (OpenSpec.ofChange noteOrderSpec)

/-- ITS FALSE NEIGHBOUR: 'it returns false'. Refute it at one input. -/
def noteOrderWrong : ChangeSpec := { name := "noteOrder", fn := fun _ => fun
  | [d1, d2, d3] => { results := [.lit (.bool false)], args := [d1, d2, d3] }
  | _ => none }
def NoteOrderWrongFalsely : Prop := noteOrderRow.holds Try.pinned (OpenSpec.ofChange noteOrderWrong)

/- THE SECOND FORM. 'bulk': how many values and letters a reading holds, each counted each time it is reached (what is shared counts as often as it is met; a slice's spare places count too). A statement '..UptoSaid' is the law's where the arguments, and the package variables that the reading takes, are together of bulk at most 1048576: NARROWER than '..Said'. Prove '..Said' where nothing that the law and all that it calls make is longer than what came in: it says more and counts as full. Else prove '..UptoSaid'. A law counts once. -/
mutual
def uptoBulk {H : Type} : DataW H → Nat
  | .lit (.string bytes) => bytes.length + 1
  | .lit _ => 1
  | .nil => 1
  | .ptr d => uptoBulk d + 1
  | .slice elems spare => uptoBulkAll elems + uptoBulkAll spare + 1
  | .agg parts => uptoBulkAll parts + 1
  | .iface _ d => uptoBulk d + 1
  | .map entries => uptoBulkEntries entries + 1
  | .held _ => 1
def uptoBulkAll {H : Type} : List (DataW H) → Nat
  | [] => 0
  | d :: r => uptoBulk d + uptoBulkAll r
def uptoBulkEntries {H : Type} : List (Lit × DataW H) → Nat
  | [] => 0
  | x :: r => uptoBulkEntry x + uptoBulkEntries r
def uptoBulkEntry {H : Type} : Lit × DataW H → Nat
  | (.string bytes, d) => bytes.length + uptoBulk d + 1
  | (_, d) => uptoBulk d + 1
 end
def uptoSmall : (H : Type) → List (DataW H) → Bool := fun _ ds => decide (uptoBulkAll ds ≤ 1048576)
def OpenSpec.upto (s : _root_.Go.ChangeSpec) : _root_.Go.OpenSpec := { _root_.Go.OpenSpec.ofChange s with cond := some uptoSmall }

/-- 'concordatlaw12.NoteAnswers', WHERE WHAT IT READS IS OF BULK AT MOST 1048576: true; the input reads as it did. -/
def noteAnswersUptoRow : OpenClaim := { program := "ytdaaphebfhlpmaa", sum := "9406964a842bcf4fd0cb206c6baae3285ce1cd68d7acac6614ea882ead57958b", func := "concordat/concordatlaw12.NoteAnswers", spec := "noteAnswers", unfollowed := true, recurses := true, apart := false, narrowed := true }
def NoteAnswersUptoSaid : Prop := noteAnswersUptoRow.holds Try.pinned (OpenSpec.upto noteAnswersSpec)

/-- 'concordatlaw12.NoteBack', WHERE WHAT IT READS IS OF BULK AT MOST 1048576: true; the input reads as it did. -/
def noteBackUptoRow : OpenClaim := { program := "ytdaaphebfhlpmaa", sum := "9406964a842bcf4fd0cb206c6baae3285ce1cd68d7acac6614ea882ead57958b", func := "concordat/concordatlaw12.NoteBack", spec := "noteBack", unfollowed := true, recurses := true, apart := false, narrowed := true }
def NoteBackUptoSaid : Prop := noteBackUptoRow.holds Try.pinned (OpenSpec.upto noteBackSpec)

/-- 'concordatlaw12.NoteBits', WHERE WHAT IT READS IS OF BULK AT MOST 1048576: true; the input reads as it did. -/
def noteBitsUptoRow : OpenClaim := { program := "ytdaaphebfhlpmaa", sum := "9406964a842bcf4fd0cb206c6baae3285ce1cd68d7acac6614ea882ead57958b", func := "concordat/concordatlaw12.NoteBits", spec := "noteBits", unfollowed := true, recurses := true, apart := false, narrowed := true }
def NoteBitsUptoSaid : Prop := noteBitsUptoRow.holds Try.pinned (OpenSpec.upto noteBitsSpec)

/-- 'concordatlaw12.NoteWays', WHERE WHAT IT READS IS OF BULK AT MOST 1048576: true; the input reads as it did. -/
def noteWaysUptoRow : OpenClaim := { program := "ytdaaphebfhlpmaa", sum := "9406964a842bcf4fd0cb206c6baae3285ce1cd68d7acac6614ea882ead57958b", func := "concordat/concordatlaw12.NoteWays", spec := "noteWays", unfollowed := true, recurses := true, apart := false, narrowed := true }
def NoteWaysUptoSaid : Prop := noteWaysUptoRow.holds Try.pinned (OpenSpec.upto noteWaysSpec)

/-- 'concordatlaw12.NoteOrder', WHERE WHAT IT READS IS OF BULK AT MOST 1048576: true; the input reads as it did. -/
def noteOrderUptoRow : OpenClaim := { program := "ytdaaphebfhlpmaa", sum := "9406964a842bcf4fd0cb206c6baae3285ce1cd68d7acac6614ea882ead57958b", func := "concordat/concordatlaw12.NoteOrder", spec := "noteOrder", unfollowed := true, recurses := true, apart := false, narrowed := true }
def NoteOrderUptoSaid : Prop := noteOrderUptoRow.holds Try.pinned (OpenSpec.upto noteOrderSpec)

end Rows
end Go.Proofs.Ytdaaphebfhlpmaa
