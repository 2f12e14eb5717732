/-
  No cell of these rows narrows 'for every input' (looked for: loops, veiled, ifaces, maps, wideKeys, modest, calm, conditions, laid).
  DERIVED. THE GIVEN ROWS OF THIS SEAT. 5 by the template 'for every input the law returns true; each argument reads behind the call as it read before'; 0 by the template 'total and deterministic' (their statements: YtckahkpikjhkmaaTotals.lean).
  GIVEN WITH THE SEED: the statements are not yours to turn. If you find one false, say at which input.
  Laid BY PROGRAM, IN A SANDBOX (cutbox-rows.mjs): the forced cells as the released guide's own fill.sh prints them over the translation 68ab011c9bd40ddb… (all of the seat's roots in one cut). By AI agents, Wed Nov 11 2026. No macro, syntax, notation, axiom, sorry.
-/
import Derived.Test.YtckahkpikjhkmaaChecked
import GoSem.Claim
import GoSem.ClaimJoined
import GoSem.ClaimMapViews
import Derived.JoinedTies
import Derived.KernelRfl
namespace Go.Proofs.Ytckahkpikjhkmaa
/- THE CELL 'sum', in the pinned program and in every row, IS THE sha256 OF THE DUMP (.gsa) THAT YtckahkpikjhkmaaProg.lean LOADS. Nothing in Lean hashes anything: it is a label: what it is worth is what the hold of that sum in a sandbox is worth. -/
noncomputable def Try.pinned : Pinned := { name := "ytckahkpikjhkmaa", sum := "68ab011c9bd40ddb53306fca96656af894f399d3e7d7324abe1884583b41509d", checked := Try.checked }
namespace Rows
def none {H : Type} : Left H := { results := [], args := [] }

/-- 'concordatlaw19.LinkCalls': WHATEVER THE INPUT: true; the input reads as it did. -/
def linkCallsSpec : ChangeSpec := { name := "linkCalls", fn := fun _ => fun
  | [d1, d2] => { results := [.lit (.bool true)], args := [d1, d2] }
  | _ => none }
def linkCallsRow : OpenClaim := { program := "ytckahkpikjhkmaa", sum := "68ab011c9bd40ddb53306fca96656af894f399d3e7d7324abe1884583b41509d", func := "concordat/concordatlaw19.LinkCalls", spec := "linkCalls", unfollowed := true, recurses := true, plainKeys := false, apart := false }
def LinkCallsSaid : Prop := linkCallsRow.holds Try.pinned (OpenSpec.ofChange linkCallsSpec)

/-- ITS FALSE NEIGHBOUR: 'it returns false'. Refute it at one input. -/
def linkCallsWrong : ChangeSpec := { name := "linkCalls", fn := fun _ => fun
  | [d1, d2] => { results := [.lit (.bool false)], args := [d1, d2] }
  | _ => none }
def LinkCallsWrongFalsely : Prop := linkCallsRow.holds Try.pinned (OpenSpec.ofChange linkCallsWrong)

/-- 'concordatlaw19.LinkApart': WHATEVER THE INPUT: true; the input reads as it did. -/
def linkApartSpec : ChangeSpec := { name := "linkApart", fn := fun _ => fun
  | [d1, d2, d3, d4] => { results := [.lit (.bool true)], args := [d1, d2, d3, d4] }
  | _ => none }
def linkApartRow : OpenClaim := { program := "ytckahkpikjhkmaa", sum := "68ab011c9bd40ddb53306fca96656af894f399d3e7d7324abe1884583b41509d", func := "concordat/concordatlaw19.LinkApart", spec := "linkApart", unfollowed := true, recurses := true, plainKeys := false, apart := false }
def LinkApartSaid : Prop := linkApartRow.holds Try.pinned (OpenSpec.ofChange linkApartSpec)

/-- ITS FALSE NEIGHBOUR: 'it returns false'. Refute it at one input. -/
def linkApartWrong : ChangeSpec := { name := "linkApart", fn := fun _ => fun
  | [d1, d2, d3, d4] => { results := [.lit (.bool false)], args := [d1, d2, d3, d4] }
  | _ => none }
def LinkApartWrongFalsely : Prop := linkApartRow.holds Try.pinned (OpenSpec.ofChange linkApartWrong)

/-- 'concordatlaw19.LinkOnly': WHATEVER THE INPUT: true; the input reads as it did. -/
def linkOnlySpec : ChangeSpec := { name := "linkOnly", fn := fun _ => fun
  | [d] => { results := [.lit (.bool true)], args := [d] }
  | _ => none }
def linkOnlyRow : OpenClaim := { program := "ytckahkpikjhkmaa", sum := "68ab011c9bd40ddb53306fca96656af894f399d3e7d7324abe1884583b41509d", func := "concordat/concordatlaw19.LinkOnly", spec := "linkOnly", unfollowed := true, recurses := true, plainKeys := false, apart := false }
def LinkOnlySaid : Prop := linkOnlyRow.holds Try.pinned (OpenSpec.ofChange linkOnlySpec)

/-- ITS FALSE NEIGHBOUR: 'it returns false'. Refute it at one input. -/
def linkOnlyWrong : ChangeSpec := { name := "linkOnly", fn := fun _ => fun
  | [d] => { results := [.lit (.bool false)], args := [d] }
  | _ => none }
def LinkOnlyWrongFalsely : Prop := linkOnlyRow.holds Try.pinned (OpenSpec.ofChange linkOnlyWrong)

/-- 'concordatlaw19.LinkRooms': WHATEVER THE INPUT: true; the input reads as it did. -/
def linkRoomsSpec : ChangeSpec := { name := "linkRooms", fn := fun _ => fun
  | [d1, d2] => { results := [.lit (.bool true)], args := [d1, d2] }
  | _ => none }
def linkRoomsRow : OpenClaim := { program := "ytckahkpikjhkmaa", sum := "68ab011c9bd40ddb53306fca96656af894f399d3e7d7324abe1884583b41509d", func := "concordat/concordatlaw19.LinkRooms", spec := "linkRooms", unfollowed := true, recurses := true, plainKeys := false, apart := false }
def LinkRoomsSaid : Prop := linkRoomsRow.holds Try.pinned (OpenSpec.ofChange linkRoomsSpec)

/-- ITS FALSE NEIGHBOUR: 'it returns false'. Refute it at one input. -/
def linkRoomsWrong : ChangeSpec := { name := "linkRooms", fn := fun _ => fun
  | [d1, d2] => { results := [.lit (.bool false)], args := [d1, d2] }
  | _ => none }
def LinkRoomsWrongFalsely : Prop := linkRoomsRow.holds Try.pinned (OpenSpec.ofChange linkRoomsWrong)

/-- 'concordatlaw19.LinkOrders': WHATEVER THE INPUT: true; the input reads as it did. -/
def linkOrdersSpec : ChangeSpec := { name := "linkOrders", fn := fun _ => fun
  | [d] => { results := [.lit (.bool true)], args := [d] }
  | _ => none }
def linkOrdersRow : OpenClaim := { program := "ytckahkpikjhkmaa", sum := "68ab011c9bd40ddb53306fca96656af894f399d3e7d7324abe1884583b41509d", func := "concordat/concordatlaw19.LinkOrders", spec := "linkOrders", unfollowed := true, recurses := true, plainKeys := false, apart := false }
def LinkOrdersSaid : Prop := linkOrdersRow.holds Try.pinned (OpenSpec.ofChange linkOrdersSpec)

/-- ITS FALSE NEIGHBOUR: 'it returns false'. Refute it at one input. -/
def linkOrdersWrong : ChangeSpec := { name := "linkOrders", fn := fun _ => fun
  | [d] => { results := [.lit (.bool false)], args := [d] }
  | _ => none }
def LinkOrdersWrongFalsely : Prop := linkOrdersRow.holds Try.pinned (OpenSpec.ofChange linkOrdersWrong)

/- THE SECOND FORM. 'bulk': how many values and letters a reading holds, each counted each time it is reached (what is shared counts as often as it is met; a slice's spare places count too). A statement '..UptoSaid' is the law's where the arguments, and the package variables that the reading takes, are together of bulk at most 1048576: NARROWER than '..Said'. Prove '..Said' where nothing that the law and all that it calls make is longer than what came in: it says more and counts as full. Else prove '..UptoSaid'. A law counts once. -/
mutual
def uptoBulk {H : Type} : DataW H → Nat
  | .lit (.string bytes) => bytes.length + 1
  | .lit _ => 1
  | .nil => 1
  | .ptr d => uptoBulk d + 1
  | .slice elems spare => uptoBulkAll elems + uptoBulkAll spare + 1
  | .agg parts => uptoBulkAll parts + 1
  | .iface _ d => uptoBulk d + 1
  | .map entries => uptoBulkEntries entries + 1
  | .held _ => 1
def uptoBulkAll {H : Type} : List (DataW H) → Nat
  | [] => 0
  | d :: r => uptoBulk d + uptoBulkAll r
def uptoBulkEntries {H : Type} : List (Lit × DataW H) → Nat
  | [] => 0
  | x :: r => uptoBulkEntry x + uptoBulkEntries r
def uptoBulkEntry {H : Type} : Lit × DataW H → Nat
  | (.string bytes, d) => bytes.length + uptoBulk d + 1
  | (_, d) => uptoBulk d + 1
 end
def uptoSmall : (H : Type) → List (DataW H) → Bool := fun _ ds => decide (uptoBulkAll ds ≤ 1048576)
def OpenSpec.upto (s : _root_.Go.ChangeSpec) : _root_.Go.OpenSpec := { _root_.Go.OpenSpec.ofChange s with cond := some uptoSmall }

/-- 'concordatlaw19.LinkCalls', WHERE WHAT IT READS IS OF BULK AT MOST 1048576: true; the input reads as it did. -/
def linkCallsUptoRow : OpenClaim := { program := "ytckahkpikjhkmaa", sum := "68ab011c9bd40ddb53306fca96656af894f399d3e7d7324abe1884583b41509d", func := "concordat/concordatlaw19.LinkCalls", spec := "linkCalls", unfollowed := true, recurses := true, plainKeys := false, apart := false, narrowed := true }
def LinkCallsUptoSaid : Prop := linkCallsUptoRow.holds Try.pinned (OpenSpec.upto linkCallsSpec)

/-- 'concordatlaw19.LinkApart', WHERE WHAT IT READS IS OF BULK AT MOST 1048576: true; the input reads as it did. -/
def linkApartUptoRow : OpenClaim := { program := "ytckahkpikjhkmaa", sum := "68ab011c9bd40ddb53306fca96656af894f399d3e7d7324abe1884583b41509d", func := "concordat/concordatlaw19.LinkApart", spec := "linkApart", unfollowed := true, recurses := true, plainKeys := false, apart := false, narrowed := true }
def LinkApartUptoSaid : Prop := linkApartUptoRow.holds Try.pinned (OpenSpec.upto linkApartSpec)

/-- 'concordatlaw19.LinkOnly', WHERE WHAT IT READS IS OF BULK AT MOST 1048576: true; the input reads as it did. -/
def linkOnlyUptoRow : OpenClaim := { program := "ytckahkpikjhkmaa", sum := "68ab011c9bd40ddb53306fca96656af894f399d3e7d7324abe1884583b41509d", func := "concordat/concordatlaw19.LinkOnly", spec := "linkOnly", unfollowed := true, recurses := true, plainKeys := false, apart := false, narrowed := true }
def LinkOnlyUptoSaid : Prop := linkOnlyUptoRow.holds Try.pinned (OpenSpec.upto linkOnlySpec)

/-- 'concordatlaw19.LinkRooms', WHERE WHAT IT READS IS OF BULK AT MOST 1048576: true; the input reads as it did. -/
def linkRoomsUptoRow : OpenClaim := { program := "ytckahkpikjhkmaa", sum := "68ab011c9bd40ddb53306fca96656af894f399d3e7d7324abe1884583b41509d", func := "concordat/concordatlaw19.LinkRooms", spec := "linkRooms", unfollowed := true, recurses := true, plainKeys := false, apart := false, narrowed := true }
def LinkRoomsUptoSaid : Prop := linkRoomsUptoRow.holds Try.pinned (OpenSpec.upto linkRoomsSpec)

/-- 'concordatlaw19.LinkOrders', WHERE WHAT IT READS IS OF BULK AT MOST 1048576: true; the input reads as it did. -/
def linkOrdersUptoRow : OpenClaim := { program := "ytckahkpikjhkmaa", sum := "68ab011c9bd40ddb53306fca96656af894f399d3e7d7324abe1884583b41509d", func := "concordat/concordatlaw19.LinkOrders", spec := "linkOrders", unfollowed := true, recurses := true, plainKeys := false, apart := false, narrowed := true }
def LinkOrdersUptoSaid : Prop := linkOrdersUptoRow.holds Try.pinned (OpenSpec.upto linkOrdersSpec)

end Rows
end Go.Proofs.Ytckahkpikjhkmaa
