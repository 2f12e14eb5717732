/-
  No cell of these rows narrows 'for every input' (looked for: loops, veiled, ifaces, maps, wideKeys, modest, calm, conditions, laid).
  DERIVED. THE GIVEN ROWS OF THIS SEAT. 5 by the template 'for every input the law returns true; each argument reads behind the call as it read before'; 0 by the template 'total and deterministic' (their statements: YtgpedejeifmfdaaTotals.lean).
  GIVEN WITH THE SEED: the statements are not yours to turn. If you find one false, say at which input.
  Laid BY PROGRAM, IN A SANDBOX (cutbox-rows.mjs): the forced cells as the released guide's own fill.sh prints them over the translation 85a5ef3e10200c4b… (all of the seat's roots in one cut). By AI agents, Wed Nov 11 2026. No macro, syntax, notation, axiom, sorry.
-/
import Derived.Test.YtgpedejeifmfdaaChecked
import GoSem.Claim
import GoSem.ClaimJoined
import GoSem.ClaimMapViews
import Derived.JoinedTies
import Derived.KernelRfl
namespace Go.Proofs.Ytgpedejeifmfdaa
/- THE CELL 'sum', in the pinned program and in every row, IS THE sha256 OF THE DUMP (.gsa) THAT YtgpedejeifmfdaaProg.lean LOADS. Nothing in Lean hashes anything: it is a label: what it is worth is what the hold of that sum in a sandbox is worth. -/
noncomputable def Try.pinned : Pinned := { name := "ytgpedejeifmfdaa", sum := "85a5ef3e10200c4b3d298632f02e1874ac865bc9fbd8c9876d51dc4adef1dad7", checked := Try.checked }
namespace Rows
def none {H : Type} : Left H := { results := [], args := [] }

/-- 'concordatlaw05.WalLasts': WHATEVER THE INPUT: true; the input reads as it did. -/
def walLastsSpec : ChangeSpec := { name := "walLasts", fn := fun _ => fun
  | [d1, d2, d3, d4, d5] => { results := [.lit (.bool true)], args := [d1, d2, d3, d4, d5] }
  | _ => none }
def walLastsRow : OpenClaim := { program := "ytgpedejeifmfdaa", sum := "85a5ef3e10200c4b3d298632f02e1874ac865bc9fbd8c9876d51dc4adef1dad7", func := "concordat/concordatlaw05.WalLasts", spec := "walLasts", unfollowed := true, recurses := true, apart := false }
def WalLastsSaid : Prop := walLastsRow.holds Try.pinned (OpenSpec.ofChange walLastsSpec)

/-- ITS FALSE NEIGHBOUR: 'it returns false'. Refute it at one input. -/
def walLastsWrong : ChangeSpec := { name := "walLasts", fn := fun _ => fun
  | [d1, d2, d3, d4, d5] => { results := [.lit (.bool false)], args := [d1, d2, d3, d4, d5] }
  | _ => none }
def WalLastsWrongFalsely : Prop := walLastsRow.holds Try.pinned (OpenSpec.ofChange walLastsWrong)

/-- 'concordatlaw05.WalTwice': WHATEVER THE INPUT: true; the input reads as it did. -/
def walTwiceSpec : ChangeSpec := { name := "walTwice", fn := fun _ => fun
  | [d1, d2, d3, d4, d5] => { results := [.lit (.bool true)], args := [d1, d2, d3, d4, d5] }
  | _ => none }
def walTwiceRow : OpenClaim := { program := "ytgpedejeifmfdaa", sum := "85a5ef3e10200c4b3d298632f02e1874ac865bc9fbd8c9876d51dc4adef1dad7", func := "concordat/concordatlaw05.WalTwice", spec := "walTwice", unfollowed := true, recurses := true, apart := false }
def WalTwiceSaid : Prop := walTwiceRow.holds Try.pinned (OpenSpec.ofChange walTwiceSpec)

/-- ITS FALSE NEIGHBOUR: 'it returns false'. Refute it at one input. -/
def walTwiceWrong : ChangeSpec := { name := "walTwice", fn := fun _ => fun
  | [d1, d2, d3, d4, d5] => { results := [.lit (.bool false)], args := [d1, d2, d3, d4, d5] }
  | _ => none }
def WalTwiceWrongFalsely : Prop := walTwiceRow.holds Try.pinned (OpenSpec.ofChange walTwiceWrong)

/-- 'concordatlaw05.WalChecks': WHATEVER THE INPUT: true; the input reads as it did. -/
def walChecksSpec : ChangeSpec := { name := "walChecks", fn := fun _ => fun
  | [d1, d2, d3, d4, d5, d6] => { results := [.lit (.bool true)], args := [d1, d2, d3, d4, d5, d6] }
  | _ => none }
def walChecksRow : OpenClaim := { program := "ytgpedejeifmfdaa", sum := "85a5ef3e10200c4b3d298632f02e1874ac865bc9fbd8c9876d51dc4adef1dad7", func := "concordat/concordatlaw05.WalChecks", spec := "walChecks", unfollowed := true, recurses := true, apart := false }
def WalChecksSaid : Prop := walChecksRow.holds Try.pinned (OpenSpec.ofChange walChecksSpec)

/-- ITS FALSE NEIGHBOUR: 'it returns false'. Refute it at one input. -/
def walChecksWrong : ChangeSpec := { name := "walChecks", fn := fun _ => fun
  | [d1, d2, d3, d4, d5, d6] => { results := [.lit (.bool false)], args := [d1, d2, d3, d4, d5, d6] }
  | _ => none }
def WalChecksWrongFalsely : Prop := walChecksRow.holds Try.pinned (OpenSpec.ofChange walChecksWrong)

/-- 'concordatlaw05.WalRing': WHATEVER THE INPUT: true; the input reads as it did. -/
def walRingSpec : ChangeSpec := { name := "walRing", fn := fun _ => fun
  | [d1, d2, d3] => { results := [.lit (.bool true)], args := [d1, d2, d3] }
  | _ => none }
def walRingRow : OpenClaim := { program := "ytgpedejeifmfdaa", sum := "85a5ef3e10200c4b3d298632f02e1874ac865bc9fbd8c9876d51dc4adef1dad7", func := "concordat/concordatlaw05.WalRing", spec := "walRing", unfollowed := true, recurses := true, apart := false }
def WalRingSaid : Prop := walRingRow.holds Try.pinned (OpenSpec.ofChange walRingSpec)

/-- ITS FALSE NEIGHBOUR: 'it returns false'. Refute it at one input. -/
def walRingWrong : ChangeSpec := { name := "walRing", fn := fun _ => fun
  | [d1, d2, d3] => { results := [.lit (.bool false)], args := [d1, d2, d3] }
  | _ => none }
def WalRingWrongFalsely : Prop := walRingRow.holds Try.pinned (OpenSpec.ofChange walRingWrong)

/-- 'concordatlaw05.WalRight': WHATEVER THE INPUT: true; the input reads as it did. -/
def walRightSpec : ChangeSpec := { name := "walRight", fn := fun _ => fun
  | [d1, d2, d3] => { results := [.lit (.bool true)], args := [d1, d2, d3] }
  | _ => none }
def walRightRow : OpenClaim := { program := "ytgpedejeifmfdaa", sum := "85a5ef3e10200c4b3d298632f02e1874ac865bc9fbd8c9876d51dc4adef1dad7", func := "concordat/concordatlaw05.WalRight", spec := "walRight", unfollowed := true, recurses := true, apart := false }
def WalRightSaid : Prop := walRightRow.holds Try.pinned (OpenSpec.ofChange walRightSpec)

/-- ITS FALSE NEIGHBOUR: 'it returns false'. Refute it at one input. -/
def walRightWrong : ChangeSpec := { name := "walRight", fn := fun _ => fun
  | [d1, d2, d3] => { results := [.lit (.bool false)], args := [d1, d2, d3] }
  | _ => none }
def WalRightWrongFalsely : Prop := walRightRow.holds Try.pinned (OpenSpec.ofChange walRightWrong)

/- THE SECOND FORM. 'bulk': how many values and letters a reading holds, each counted each time it is reached (what is shared counts as often as it is met; a slice's spare places count too). A statement '..UptoSaid' is the law's where the arguments, and the package variables that the reading takes, are together of bulk at most 1048576: NARROWER than '..Said'. Prove '..Said' where nothing that the law and all that it calls make is longer than what came in: it says more and counts as full. Else prove '..UptoSaid'. A law counts once. -/
mutual
def uptoBulk {H : Type} : DataW H → Nat
  | .lit (.string bytes) => bytes.length + 1
  | .lit _ => 1
  | .nil => 1
  | .ptr d => uptoBulk d + 1
  | .slice elems spare => uptoBulkAll elems + uptoBulkAll spare + 1
  | .agg parts => uptoBulkAll parts + 1
  | .iface _ d => uptoBulk d + 1
  | .map entries => uptoBulkEntries entries + 1
  | .held _ => 1
def uptoBulkAll {H : Type} : List (DataW H) → Nat
  | [] => 0
  | d :: r => uptoBulk d + uptoBulkAll r
def uptoBulkEntries {H : Type} : List (Lit × DataW H) → Nat
  | [] => 0
  | x :: r => uptoBulkEntry x + uptoBulkEntries r
def uptoBulkEntry {H : Type} : Lit × DataW H → Nat
  | (.string bytes, d) => bytes.length + uptoBulk d + 1
  | (_, d) => uptoBulk d + 1
 end
def uptoSmall : (H : Type) → List (DataW H) → Bool := fun _ ds => decide (uptoBulkAll ds ≤ 1048576)
def OpenSpec.upto (s : _root_.Go.ChangeSpec) : _root_.Go.OpenSpec := { _root_.Go.OpenSpec.ofChange s with cond := some uptoSmall }

/-- 'concordatlaw05.WalLasts', WHERE WHAT IT READS IS OF BULK AT MOST 1048576: true; the input reads as it did. -/
def walLastsUptoRow : OpenClaim := { program := "ytgpedejeifmfdaa", sum := "85a5ef3e10200c4b3d298632f02e1874ac865bc9fbd8c9876d51dc4adef1dad7", func := "concordat/concordatlaw05.WalLasts", spec := "walLasts", unfollowed := true, recurses := true, apart := false, narrowed := true }
def WalLastsUptoSaid : Prop := walLastsUptoRow.holds Try.pinned (OpenSpec.upto walLastsSpec)

/-- 'concordatlaw05.WalTwice', WHERE WHAT IT READS IS OF BULK AT MOST 1048576: true; the input reads as it did. -/
def walTwiceUptoRow : OpenClaim := { program := "ytgpedejeifmfdaa", sum := "85a5ef3e10200c4b3d298632f02e1874ac865bc9fbd8c9876d51dc4adef1dad7", func := "concordat/concordatlaw05.WalTwice", spec := "walTwice", unfollowed := true, recurses := true, apart := false, narrowed := true }
def WalTwiceUptoSaid : Prop := walTwiceUptoRow.holds Try.pinned (OpenSpec.upto walTwiceSpec)

/-- 'concordatlaw05.WalChecks', WHERE WHAT IT READS IS OF BULK AT MOST 1048576: true; the input reads as it did. -/
def walChecksUptoRow : OpenClaim := { program := "ytgpedejeifmfdaa", sum := "85a5ef3e10200c4b3d298632f02e1874ac865bc9fbd8c9876d51dc4adef1dad7", func := "concordat/concordatlaw05.WalChecks", spec := "walChecks", unfollowed := true, recurses := true, apart := false, narrowed := true }
def WalChecksUptoSaid : Prop := walChecksUptoRow.holds Try.pinned (OpenSpec.upto walChecksSpec)

/-- 'concordatlaw05.WalRing', WHERE WHAT IT READS IS OF BULK AT MOST 1048576: true; the input reads as it did. -/
def walRingUptoRow : OpenClaim := { program := "ytgpedejeifmfdaa", sum := "85a5ef3e10200c4b3d298632f02e1874ac865bc9fbd8c9876d51dc4adef1dad7", func := "concordat/concordatlaw05.WalRing", spec := "walRing", unfollowed := true, recurses := true, apart := false, narrowed := true }
def WalRingUptoSaid : Prop := walRingUptoRow.holds Try.pinned (OpenSpec.upto walRingSpec)

/-- 'concordatlaw05.WalRight', WHERE WHAT IT READS IS OF BULK AT MOST 1048576: true; the input reads as it did. -/
def walRightUptoRow : OpenClaim := { program := "ytgpedejeifmfdaa", sum := "85a5ef3e10200c4b3d298632f02e1874ac865bc9fbd8c9876d51dc4adef1dad7", func := "concordat/concordatlaw05.WalRight", spec := "walRight", unfollowed := true, recurses := true, apart := false, narrowed := true }
def WalRightUptoSaid : Prop := walRightUptoRow.holds Try.pinned (OpenSpec.upto walRightSpec)

end Rows
end Go.Proofs.Ytgpedejeifmfdaa
