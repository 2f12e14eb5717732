/- Stops of the walk: where the next operation is of this kind, the goal is put behind a name, and the walk stands still. Of no program. -/
import Derived.Test.YtgpedejeifmfdaaGreatBase
namespace Go.Proofs.YtgpedejeifmfdaaGreat
open Go.RowKit

/-- A goal at which the walk stands still: 'go_wp2_with (with_reducible refine stop_load T ?_)', then 'refine unpark ?_'. -/
def Parked (p : Prop) : Prop := p
theorem park {p : Prop} (h : Parked p) : p := h
theorem unpark {p : Prop} (h : p) : Parked p := h

section
variable {P : Program} {ops : Array Oper} {rest : List Oper} {a : Act} {w : World} {Q : Exit → Act → World → Prop} {dst : Option Tmp} {ty : TypeId} {pos : String} {after : Array Edge} {guard : Option (Nat × Bool)}
theorem stop_load (t : TypeId) {x : Operand} (h : Parked (wpList P ops Q (⟨dst, .load t x, ty, pos, after, guard⟩ :: rest) a w)) : wpList P ops Q (⟨dst, .load t x, ty, pos, after, guard⟩ :: rest) a w := h
theorem stop_store (t : TypeId) {x y : Operand} (h : Parked (wpList P ops Q (⟨dst, .store t x y, ty, pos, after, guard⟩ :: rest) a w)) : wpList P ops Q (⟨dst, .store t x y, ty, pos, after, guard⟩ :: rest) a w := h
theorem stop_build (t : TypeId) {ps : Array (Nat × Operand)} (h : Parked (wpList P ops Q (⟨dst, .build t ps, ty, pos, after, guard⟩ :: rest) a w)) : wpList P ops Q (⟨dst, .build t ps, ty, pos, after, guard⟩ :: rest) a w := h
theorem stop_buildSlice (t : TypeId) {n : Nat} {ps : Array (Nat × Operand)} (h : Parked (wpList P ops Q (⟨dst, .buildSlice t n ps, ty, pos, after, guard⟩ :: rest) a w)) : wpList P ops Q (⟨dst, .buildSlice t n ps, ty, pos, after, guard⟩ :: rest) a w := h
theorem stop_mapUpdate (t : TypeId) {m x y : Operand} (h : Parked (wpList P ops Q (⟨dst, .mapUpdate t m x y, ty, pos, after, guard⟩ :: rest) a w)) : wpList P ops Q (⟨dst, .mapUpdate t m x y, ty, pos, after, guard⟩ :: rest) a w := h
theorem stop_call {c : Call} (h : Parked (wpList P ops Q (⟨dst, .call c, ty, pos, after, guard⟩ :: rest) a w)) : wpList P ops Q (⟨dst, .call c, ty, pos, after, guard⟩ :: rest) a w := h
theorem stop_builtin (b : Builtin) {args : Array Operand} {ats : Array TypeId} (h : Parked (wpList P ops Q (⟨dst, .call { callee := .builtin b, args := args, argTypes := ats }, ty, pos, after, guard⟩ :: rest) a w)) : wpList P ops Q (⟨dst, .call { callee := .builtin b, args := args, argTypes := ats }, ty, pos, after, guard⟩ :: rest) a w := h
end
end Go.Proofs.YtgpedejeifmfdaaGreat
