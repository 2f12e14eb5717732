/-
  No cell of these rows narrows 'for every input' (looked for: loops, veiled, ifaces, maps, wideKeys, modest, calm, conditions, laid).
  DERIVED. THE GIVEN ROWS OF THIS SEAT. 6 by the template 'for every input the law returns true; each argument reads behind the call as it read before'; 0 by the template 'total and deterministic' (their statements: YtfldohfopileeaaTotals.lean).
  GIVEN WITH THE SEED: the statements are not yours to turn. If you find one false, say at which input.
  Laid BY PROGRAM, IN A SANDBOX (cutbox-rows.mjs): the forced cells as the released guide's own fill.sh prints them over the translation c95bc434fc105e21… (all of the seat's roots in one cut). By AI agents, Wed Nov 11 2026. No macro, syntax, notation, axiom, sorry.
-/
import Derived.Test.YtfldohfopileeaaChecked
import GoSem.Claim
import GoSem.ClaimJoined
import GoSem.ClaimMapViews
import Derived.JoinedTies
import Derived.KernelRfl
namespace Go.Proofs.Ytfldohfopileeaa
/- THE CELL 'sum', in the pinned program and in every row, IS THE sha256 OF THE DUMP (.gsa) THAT YtfldohfopileeaaProg.lean LOADS. Nothing in Lean hashes anything: it is a label: what it is worth is what the hold of that sum in a sandbox is worth. -/
noncomputable def Try.pinned : Pinned := { name := "ytfldohfopileeaa", sum := "c95bc434fc105e21961ef857d15a396cd2470a8b9fc24c5144f773be9e921471", checked := Try.checked }
namespace Rows
def none {H : Type} : Left H := { results := [], args := [] }

/-- 'concordatlaw15.SlotPlans': WHATEVER THE INPUT: true; the input reads as it did. -/
def slotPlansSpec : ChangeSpec := { name := "slotPlans", fn := fun _ => fun
  | [d1, d2, d3, d4, d5] => { results := [.lit (.bool true)], args := [d1, d2, d3, d4, d5] }
  | _ => none }
def slotPlansRow : OpenClaim := { program := "ytfldohfopileeaa", sum := "c95bc434fc105e21961ef857d15a396cd2470a8b9fc24c5144f773be9e921471", func := "concordat/concordatlaw15.SlotPlans", spec := "slotPlans", inPlace := ["slices.overlaps[concordat/slot.timer]"], unfollowed := true, recurses := true, apart := false }
def SlotPlansSaid : Prop := slotPlansRow.holds Try.pinned (OpenSpec.ofChange slotPlansSpec)

/-- ITS FALSE NEIGHBOUR: 'it returns false'. Refute it at one input. -/
def slotPlansWrong : ChangeSpec := { name := "slotPlans", fn := fun _ => fun
  | [d1, d2, d3, d4, d5] => { results := [.lit (.bool false)], args := [d1, d2, d3, d4, d5] }
  | _ => none }
def SlotPlansWrongFalsely : Prop := slotPlansRow.holds Try.pinned (OpenSpec.ofChange slotPlansWrong)

/-- 'concordatlaw15.SlotTurns': WHATEVER THE INPUT: true; the input reads as it did. -/
def slotTurnsSpec : ChangeSpec := { name := "slotTurns", fn := fun _ => fun
  | [d1, d2, d3] => { results := [.lit (.bool true)], args := [d1, d2, d3] }
  | _ => none }
def slotTurnsRow : OpenClaim := { program := "ytfldohfopileeaa", sum := "c95bc434fc105e21961ef857d15a396cd2470a8b9fc24c5144f773be9e921471", func := "concordat/concordatlaw15.SlotTurns", spec := "slotTurns", inPlace := ["slices.overlaps[concordat/slot.timer]"], unfollowed := true, recurses := true, apart := false }
def SlotTurnsSaid : Prop := slotTurnsRow.holds Try.pinned (OpenSpec.ofChange slotTurnsSpec)

/-- ITS FALSE NEIGHBOUR: 'it returns false'. Refute it at one input. -/
def slotTurnsWrong : ChangeSpec := { name := "slotTurns", fn := fun _ => fun
  | [d1, d2, d3] => { results := [.lit (.bool false)], args := [d1, d2, d3] }
  | _ => none }
def SlotTurnsWrongFalsely : Prop := slotTurnsRow.holds Try.pinned (OpenSpec.ofChange slotTurnsWrong)

/-- 'concordatlaw15.SlotWindows': WHATEVER THE INPUT: true; the input reads as it did. -/
def slotWindowsSpec : ChangeSpec := { name := "slotWindows", fn := fun _ => fun
  | [d1, d2, d3, d4, d5] => { results := [.lit (.bool true)], args := [d1, d2, d3, d4, d5] }
  | _ => none }
def slotWindowsRow : OpenClaim := { program := "ytfldohfopileeaa", sum := "c95bc434fc105e21961ef857d15a396cd2470a8b9fc24c5144f773be9e921471", func := "concordat/concordatlaw15.SlotWindows", spec := "slotWindows", inPlace := ["slices.overlaps[concordat/slot.timer]"], unfollowed := true, recurses := true, apart := false }
def SlotWindowsSaid : Prop := slotWindowsRow.holds Try.pinned (OpenSpec.ofChange slotWindowsSpec)

/-- ITS FALSE NEIGHBOUR: 'it returns false'. Refute it at one input. -/
def slotWindowsWrong : ChangeSpec := { name := "slotWindows", fn := fun _ => fun
  | [d1, d2, d3, d4, d5] => { results := [.lit (.bool false)], args := [d1, d2, d3, d4, d5] }
  | _ => none }
def SlotWindowsWrongFalsely : Prop := slotWindowsRow.holds Try.pinned (OpenSpec.ofChange slotWindowsWrong)

/-- 'concordatlaw15.SlotTimers': WHATEVER THE INPUT: true; the input reads as it did. -/
def slotTimersSpec : ChangeSpec := { name := "slotTimers", fn := fun _ => fun
  | [d] => { results := [.lit (.bool true)], args := [d] }
  | _ => none }
def slotTimersRow : OpenClaim := { program := "ytfldohfopileeaa", sum := "c95bc434fc105e21961ef857d15a396cd2470a8b9fc24c5144f773be9e921471", func := "concordat/concordatlaw15.SlotTimers", spec := "slotTimers", inPlace := ["slices.overlaps[concordat/slot.timer]"], unfollowed := true, recurses := true, apart := false }
def SlotTimersSaid : Prop := slotTimersRow.holds Try.pinned (OpenSpec.ofChange slotTimersSpec)

/-- ITS FALSE NEIGHBOUR: 'it returns false'. Refute it at one input. -/
def slotTimersWrong : ChangeSpec := { name := "slotTimers", fn := fun _ => fun
  | [d] => { results := [.lit (.bool false)], args := [d] }
  | _ => none }
def SlotTimersWrongFalsely : Prop := slotTimersRow.holds Try.pinned (OpenSpec.ofChange slotTimersWrong)

/-- 'concordatlaw15.SlotDue': WHATEVER THE INPUT: true; the input reads as it did. -/
def slotDueSpec : ChangeSpec := { name := "slotDue", fn := fun _ => fun
  | [d1, d2] => { results := [.lit (.bool true)], args := [d1, d2] }
  | _ => none }
def slotDueRow : OpenClaim := { program := "ytfldohfopileeaa", sum := "c95bc434fc105e21961ef857d15a396cd2470a8b9fc24c5144f773be9e921471", func := "concordat/concordatlaw15.SlotDue", spec := "slotDue", inPlace := ["slices.overlaps[concordat/slot.timer]"], unfollowed := true, recurses := true, apart := false }
def SlotDueSaid : Prop := slotDueRow.holds Try.pinned (OpenSpec.ofChange slotDueSpec)

/-- ITS FALSE NEIGHBOUR: 'it returns false'. Refute it at one input. -/
def slotDueWrong : ChangeSpec := { name := "slotDue", fn := fun _ => fun
  | [d1, d2] => { results := [.lit (.bool false)], args := [d1, d2] }
  | _ => none }
def SlotDueWrongFalsely : Prop := slotDueRow.holds Try.pinned (OpenSpec.ofChange slotDueWrong)

/-- 'concordatlaw15.SlotRounds': WHATEVER THE INPUT: true; the input reads as it did. -/
def slotRoundsSpec : ChangeSpec := { name := "slotRounds", fn := fun _ => fun
  | [d1, d2] => { results := [.lit (.bool true)], args := [d1, d2] }
  | _ => none }
def slotRoundsRow : OpenClaim := { program := "ytfldohfopileeaa", sum := "c95bc434fc105e21961ef857d15a396cd2470a8b9fc24c5144f773be9e921471", func := "concordat/concordatlaw15.SlotRounds", spec := "slotRounds", inPlace := ["slices.overlaps[concordat/slot.timer]"], unfollowed := true, recurses := true, apart := false }
def SlotRoundsSaid : Prop := slotRoundsRow.holds Try.pinned (OpenSpec.ofChange slotRoundsSpec)

/-- ITS FALSE NEIGHBOUR: 'it returns false'. Refute it at one input. -/
def slotRoundsWrong : ChangeSpec := { name := "slotRounds", fn := fun _ => fun
  | [d1, d2] => { results := [.lit (.bool false)], args := [d1, d2] }
  | _ => none }
def SlotRoundsWrongFalsely : Prop := slotRoundsRow.holds Try.pinned (OpenSpec.ofChange slotRoundsWrong)

/- THE SECOND FORM. 'bulk': how many values and letters a reading holds, each counted each time it is reached (what is shared counts as often as it is met; a slice's spare places count too). A statement '..UptoSaid' is the law's where the arguments, and the package variables that the reading takes, are together of bulk at most 1048576: NARROWER than '..Said'. Prove '..Said' where nothing that the law and all that it calls make is longer than what came in: it says more and counts as full. Else prove '..UptoSaid'. A law counts once. -/
mutual
def uptoBulk {H : Type} : DataW H → Nat
  | .lit (.string bytes) => bytes.length + 1
  | .lit _ => 1
  | .nil => 1
  | .ptr d => uptoBulk d + 1
  | .slice elems spare => uptoBulkAll elems + uptoBulkAll spare + 1
  | .agg parts => uptoBulkAll parts + 1
  | .iface _ d => uptoBulk d + 1
  | .map entries => uptoBulkEntries entries + 1
  | .held _ => 1
def uptoBulkAll {H : Type} : List (DataW H) → Nat
  | [] => 0
  | d :: r => uptoBulk d + uptoBulkAll r
def uptoBulkEntries {H : Type} : List (Lit × DataW H) → Nat
  | [] => 0
  | x :: r => uptoBulkEntry x + uptoBulkEntries r
def uptoBulkEntry {H : Type} : Lit × DataW H → Nat
  | (.string bytes, d) => bytes.length + uptoBulk d + 1
  | (_, d) => uptoBulk d + 1
 end
def uptoSmall : (H : Type) → List (DataW H) → Bool := fun _ ds => decide (uptoBulkAll ds ≤ 1048576)
def OpenSpec.upto (s : _root_.Go.ChangeSpec) : _root_.Go.OpenSpec := { _root_.Go.OpenSpec.ofChange s with cond := some uptoSmall }

/-- 'concordatlaw15.SlotPlans', WHERE WHAT IT READS IS OF BULK AT MOST 1048576: true; the input reads as it did. -/
def slotPlansUptoRow : OpenClaim := { program := "ytfldohfopileeaa", sum := "c95bc434fc105e21961ef857d15a396cd2470a8b9fc24c5144f773be9e921471", func := "concordat/concordatlaw15.SlotPlans", spec := "slotPlans", inPlace := ["slices.overlaps[concordat/slot.timer]"], unfollowed := true, recurses := true, apart := false, narrowed := true }
def SlotPlansUptoSaid : Prop := slotPlansUptoRow.holds Try.pinned (OpenSpec.upto slotPlansSpec)

/-- 'concordatlaw15.SlotTurns', WHERE WHAT IT READS IS OF BULK AT MOST 1048576: true; the input reads as it did. -/
def slotTurnsUptoRow : OpenClaim := { program := "ytfldohfopileeaa", sum := "c95bc434fc105e21961ef857d15a396cd2470a8b9fc24c5144f773be9e921471", func := "concordat/concordatlaw15.SlotTurns", spec := "slotTurns", inPlace := ["slices.overlaps[concordat/slot.timer]"], unfollowed := true, recurses := true, apart := false, narrowed := true }
def SlotTurnsUptoSaid : Prop := slotTurnsUptoRow.holds Try.pinned (OpenSpec.upto slotTurnsSpec)

/-- 'concordatlaw15.SlotWindows', WHERE WHAT IT READS IS OF BULK AT MOST 1048576: true; the input reads as it did. -/
def slotWindowsUptoRow : OpenClaim := { program := "ytfldohfopileeaa", sum := "c95bc434fc105e21961ef857d15a396cd2470a8b9fc24c5144f773be9e921471", func := "concordat/concordatlaw15.SlotWindows", spec := "slotWindows", inPlace := ["slices.overlaps[concordat/slot.timer]"], unfollowed := true, recurses := true, apart := false, narrowed := true }
def SlotWindowsUptoSaid : Prop := slotWindowsUptoRow.holds Try.pinned (OpenSpec.upto slotWindowsSpec)

/-- 'concordatlaw15.SlotTimers', WHERE WHAT IT READS IS OF BULK AT MOST 1048576: true; the input reads as it did. -/
def slotTimersUptoRow : OpenClaim := { program := "ytfldohfopileeaa", sum := "c95bc434fc105e21961ef857d15a396cd2470a8b9fc24c5144f773be9e921471", func := "concordat/concordatlaw15.SlotTimers", spec := "slotTimers", inPlace := ["slices.overlaps[concordat/slot.timer]"], unfollowed := true, recurses := true, apart := false, narrowed := true }
def SlotTimersUptoSaid : Prop := slotTimersUptoRow.holds Try.pinned (OpenSpec.upto slotTimersSpec)

/-- 'concordatlaw15.SlotDue', WHERE WHAT IT READS IS OF BULK AT MOST 1048576: true; the input reads as it did. -/
def slotDueUptoRow : OpenClaim := { program := "ytfldohfopileeaa", sum := "c95bc434fc105e21961ef857d15a396cd2470a8b9fc24c5144f773be9e921471", func := "concordat/concordatlaw15.SlotDue", spec := "slotDue", inPlace := ["slices.overlaps[concordat/slot.timer]"], unfollowed := true, recurses := true, apart := false, narrowed := true }
def SlotDueUptoSaid : Prop := slotDueUptoRow.holds Try.pinned (OpenSpec.upto slotDueSpec)

/-- 'concordatlaw15.SlotRounds', WHERE WHAT IT READS IS OF BULK AT MOST 1048576: true; the input reads as it did. -/
def slotRoundsUptoRow : OpenClaim := { program := "ytfldohfopileeaa", sum := "c95bc434fc105e21961ef857d15a396cd2470a8b9fc24c5144f773be9e921471", func := "concordat/concordatlaw15.SlotRounds", spec := "slotRounds", inPlace := ["slices.overlaps[concordat/slot.timer]"], unfollowed := true, recurses := true, apart := false, narrowed := true }
def SlotRoundsUptoSaid : Prop := slotRoundsUptoRow.holds Try.pinned (OpenSpec.upto slotRoundsSpec)

end Rows
end Go.Proofs.Ytfldohfopileeaa
