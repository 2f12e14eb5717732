/-
  No cell of these rows narrows 'for every input' (looked for: loops, veiled, ifaces, maps, wideKeys, modest, calm, conditions, laid).
  DERIVED. THE GIVEN ROWS OF THIS SEAT. 4 by the template 'for every input the law returns true; each argument reads behind the call as it read before'; 0 by the template 'total and deterministic' (their statements: YtdccocgdgcjfcaaTotals.lean).
  GIVEN WITH THE SEED: the statements are not yours to turn. If you find one false, say at which input.
  Laid BY PROGRAM, IN A SANDBOX (cutbox-rows.mjs): the forced cells as the released guide's own fill.sh prints them over the translation 907b69d950d1bcdc… (all of the seat's roots in one cut). By AI agents, Wed Nov 11 2026. No macro, syntax, notation, axiom, sorry.
-/
import Derived.Test.YtdccocgdgcjfcaaChecked
import GoSem.Claim
import GoSem.ClaimJoined
import GoSem.ClaimMapViews
import Derived.JoinedTies
import Derived.KernelRfl
namespace Go.Proofs.Ytdccocgdgcjfcaa
/- THE CELL 'sum', in the pinned program and in every row, IS THE sha256 OF THE DUMP (.gsa) THAT YtdccocgdgcjfcaaProg.lean LOADS. Nothing in Lean hashes anything: it is a label: what it is worth is what the hold of that sum in a sandbox is worth. -/
noncomputable def Try.pinned : Pinned := { name := "ytdccocgdgcjfcaa", sum := "907b69d950d1bcdca5df299fbb6e711f68941ce1163f0d4b7b76793f06a27c0c", checked := Try.checked }
namespace Rows
def none {H : Type} : Left H := { results := [], args := [] }

/-- 'concordatlaw20.DeskCalls': WHATEVER THE INPUT: true; the input reads as it did. -/
def deskCallsSpec : ChangeSpec := { name := "deskCalls", fn := fun _ => fun
  | [d1, d2, d3, d4, d5] => { results := [.lit (.bool true)], args := [d1, d2, d3, d4, d5] }
  | _ => none }
def deskCallsRow : OpenClaim := { program := "ytdccocgdgcjfcaa", sum := "907b69d950d1bcdca5df299fbb6e711f68941ce1163f0d4b7b76793f06a27c0c", func := "concordat/concordatlaw20.DeskCalls", spec := "deskCalls", unfollowed := true, recurses := true, apart := false }
def DeskCallsSaid : Prop := deskCallsRow.holds Try.pinned (OpenSpec.ofChange deskCallsSpec)

/-- ITS FALSE NEIGHBOUR: 'it returns false'. Refute it at one input. -/
def deskCallsWrong : ChangeSpec := { name := "deskCalls", fn := fun _ => fun
  | [d1, d2, d3, d4, d5] => { results := [.lit (.bool false)], args := [d1, d2, d3, d4, d5] }
  | _ => none }
def DeskCallsWrongFalsely : Prop := deskCallsRow.holds Try.pinned (OpenSpec.ofChange deskCallsWrong)

/-- 'concordatlaw20.DeskOnce': WHATEVER THE INPUT: true; the input reads as it did. -/
def deskOnceSpec : ChangeSpec := { name := "deskOnce", fn := fun _ => fun
  | [d1, d2] => { results := [.lit (.bool true)], args := [d1, d2] }
  | _ => none }
def deskOnceRow : OpenClaim := { program := "ytdccocgdgcjfcaa", sum := "907b69d950d1bcdca5df299fbb6e711f68941ce1163f0d4b7b76793f06a27c0c", func := "concordat/concordatlaw20.DeskOnce", spec := "deskOnce", unfollowed := true, recurses := true, apart := false }
def DeskOnceSaid : Prop := deskOnceRow.holds Try.pinned (OpenSpec.ofChange deskOnceSpec)

/-- ITS FALSE NEIGHBOUR: 'it returns false'. Refute it at one input. -/
def deskOnceWrong : ChangeSpec := { name := "deskOnce", fn := fun _ => fun
  | [d1, d2] => { results := [.lit (.bool false)], args := [d1, d2] }
  | _ => none }
def DeskOnceWrongFalsely : Prop := deskOnceRow.holds Try.pinned (OpenSpec.ofChange deskOnceWrong)

/-- 'concordatlaw20.DeskMay': WHATEVER THE INPUT: true; the input reads as it did. -/
def deskMaySpec : ChangeSpec := { name := "deskMay", fn := fun _ => fun
  | [d1, d2, d3, d4, d5] => { results := [.lit (.bool true)], args := [d1, d2, d3, d4, d5] }
  | _ => none }
def deskMayRow : OpenClaim := { program := "ytdccocgdgcjfcaa", sum := "907b69d950d1bcdca5df299fbb6e711f68941ce1163f0d4b7b76793f06a27c0c", func := "concordat/concordatlaw20.DeskMay", spec := "deskMay", unfollowed := true, recurses := true, apart := false }
def DeskMaySaid : Prop := deskMayRow.holds Try.pinned (OpenSpec.ofChange deskMaySpec)

/-- ITS FALSE NEIGHBOUR: 'it returns false'. Refute it at one input. -/
def deskMayWrong : ChangeSpec := { name := "deskMay", fn := fun _ => fun
  | [d1, d2, d3, d4, d5] => { results := [.lit (.bool false)], args := [d1, d2, d3, d4, d5] }
  | _ => none }
def DeskMayWrongFalsely : Prop := deskMayRow.holds Try.pinned (OpenSpec.ofChange deskMayWrong)

/-- 'concordatlaw20.DeskLists': WHATEVER THE INPUT: true; the input reads as it did. -/
def deskListsSpec : ChangeSpec := { name := "deskLists", fn := fun _ => fun
  | [d1, d2, d3] => { results := [.lit (.bool true)], args := [d1, d2, d3] }
  | _ => none }
def deskListsRow : OpenClaim := { program := "ytdccocgdgcjfcaa", sum := "907b69d950d1bcdca5df299fbb6e711f68941ce1163f0d4b7b76793f06a27c0c", func := "concordat/concordatlaw20.DeskLists", spec := "deskLists", unfollowed := true, recurses := true, apart := false }
def DeskListsSaid : Prop := deskListsRow.holds Try.pinned (OpenSpec.ofChange deskListsSpec)

/-- ITS FALSE NEIGHBOUR: 'it returns false'. Refute it at one input. -/
def deskListsWrong : ChangeSpec := { name := "deskLists", fn := fun _ => fun
  | [d1, d2, d3] => { results := [.lit (.bool false)], args := [d1, d2, d3] }
  | _ => none }
def DeskListsWrongFalsely : Prop := deskListsRow.holds Try.pinned (OpenSpec.ofChange deskListsWrong)

/- THE SECOND FORM. 'bulk': how many values and letters a reading holds, each counted each time it is reached (what is shared counts as often as it is met; a slice's spare places count too). A statement '..UptoSaid' is the law's where the arguments, and the package variables that the reading takes, are together of bulk at most 1048576: NARROWER than '..Said'. Prove '..Said' where nothing that the law and all that it calls make is longer than what came in: it says more and counts as full. Else prove '..UptoSaid'. A law counts once. -/
mutual
def uptoBulk {H : Type} : DataW H → Nat
  | .lit (.string bytes) => bytes.length + 1
  | .lit _ => 1
  | .nil => 1
  | .ptr d => uptoBulk d + 1
  | .slice elems spare => uptoBulkAll elems + uptoBulkAll spare + 1
  | .agg parts => uptoBulkAll parts + 1
  | .iface _ d => uptoBulk d + 1
  | .map entries => uptoBulkEntries entries + 1
  | .held _ => 1
def uptoBulkAll {H : Type} : List (DataW H) → Nat
  | [] => 0
  | d :: r => uptoBulk d + uptoBulkAll r
def uptoBulkEntries {H : Type} : List (Lit × DataW H) → Nat
  | [] => 0
  | x :: r => uptoBulkEntry x + uptoBulkEntries r
def uptoBulkEntry {H : Type} : Lit × DataW H → Nat
  | (.string bytes, d) => bytes.length + uptoBulk d + 1
  | (_, d) => uptoBulk d + 1
 end
def uptoSmall : (H : Type) → List (DataW H) → Bool := fun _ ds => decide (uptoBulkAll ds ≤ 1048576)
def OpenSpec.upto (s : _root_.Go.ChangeSpec) : _root_.Go.OpenSpec := { _root_.Go.OpenSpec.ofChange s with cond := some uptoSmall }

/-- 'concordatlaw20.DeskCalls', WHERE WHAT IT READS IS OF BULK AT MOST 1048576: true; the input reads as it did. -/
def deskCallsUptoRow : OpenClaim := { program := "ytdccocgdgcjfcaa", sum := "907b69d950d1bcdca5df299fbb6e711f68941ce1163f0d4b7b76793f06a27c0c", func := "concordat/concordatlaw20.DeskCalls", spec := "deskCalls", unfollowed := true, recurses := true, apart := false, narrowed := true }
def DeskCallsUptoSaid : Prop := deskCallsUptoRow.holds Try.pinned (OpenSpec.upto deskCallsSpec)

/-- 'concordatlaw20.DeskOnce', WHERE WHAT IT READS IS OF BULK AT MOST 1048576: true; the input reads as it did. -/
def deskOnceUptoRow : OpenClaim := { program := "ytdccocgdgcjfcaa", sum := "907b69d950d1bcdca5df299fbb6e711f68941ce1163f0d4b7b76793f06a27c0c", func := "concordat/concordatlaw20.DeskOnce", spec := "deskOnce", unfollowed := true, recurses := true, apart := false, narrowed := true }
def DeskOnceUptoSaid : Prop := deskOnceUptoRow.holds Try.pinned (OpenSpec.upto deskOnceSpec)

/-- 'concordatlaw20.DeskMay', WHERE WHAT IT READS IS OF BULK AT MOST 1048576: true; the input reads as it did. -/
def deskMayUptoRow : OpenClaim := { program := "ytdccocgdgcjfcaa", sum := "907b69d950d1bcdca5df299fbb6e711f68941ce1163f0d4b7b76793f06a27c0c", func := "concordat/concordatlaw20.DeskMay", spec := "deskMay", unfollowed := true, recurses := true, apart := false, narrowed := true }
def DeskMayUptoSaid : Prop := deskMayUptoRow.holds Try.pinned (OpenSpec.upto deskMaySpec)

/-- 'concordatlaw20.DeskLists', WHERE WHAT IT READS IS OF BULK AT MOST 1048576: true; the input reads as it did. -/
def deskListsUptoRow : OpenClaim := { program := "ytdccocgdgcjfcaa", sum := "907b69d950d1bcdca5df299fbb6e711f68941ce1163f0d4b7b76793f06a27c0c", func := "concordat/concordatlaw20.DeskLists", spec := "deskLists", unfollowed := true, recurses := true, apart := false, narrowed := true }
def DeskListsUptoSaid : Prop := deskListsUptoRow.holds Try.pinned (OpenSpec.upto deskListsSpec)

end Rows
end Go.Proofs.Ytdccocgdgcjfcaa
