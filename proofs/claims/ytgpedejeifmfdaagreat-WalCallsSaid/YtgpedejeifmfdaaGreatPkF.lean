/- The document's From. -/
import Derived.Test.YtgpedejeifmfdaaGreatPk4
namespace Go.Proofs.YtgpedejeifmfdaaGreat
open Go.RowKit

theorem from_step {U : Nat} {b : Int} (hU : U < 72057594037927936) (h0 : 0 ≤ b) (h1 : b ≤ 255) : IntKind.u64.wrap (IntKind.u64.wrap ((U : Int) * 256) + b) = ((b.toNat + 256 * U : Nat) : Int) := by
  simp only [IntKind.wrap_u64]
  omega
set_option maxHeartbeats 1000000 in
theorem RFrom_calls {w : World} {a : Option Addr} {len cap : Nat} {zs : List Int} (hx : Ints w .u8 a len cap zs) (h8 : len ≤ 8) :
    Calls Tryz.prog 93 #[.slice a len cap] w fun e W' => e = .returned (.tuple #[.int .u64 (fromZ zs : Nat), .bool true]) ∧ W' = w := by
  have hl := hx.len
  have hle := hx.le
  have d1 : decide (8 < (len : Int)) = false := decide_eq_false (by omega)
  have hu8 := hx.u8
  obtain ⟨R, hR⟩ : ∃ R, R = fromZ zs := ⟨_, rfl⟩
  rw [← hR]
  have HR := Lib.hid hR; clear hR
  have Hx := Lib.hid hx; clear hx
  have Hl := Lib.hid hl; clear hl
  have Hu8 := Lib.hid hu8; clear hu8
  go_enter Tryz.func93, Tryz.ntmps93
  go_wp2_with fail
  go_loopw [4, 5] (fun u i wr => ∃ j : Nat, j ≤ len ∧ i = .int .i64 ((j : Int) - 1) ∧ u = .int .u64 (fromZ (zs.drop j) : Nat) ∧ wr = w) (fun _ i _ => (intOf i + 1).toNat)
  case atStart => exact ⟨len, by omega, rfl, by rw [List.drop_of_length_le (by rw [Hl.out]; exact Nat.le_refl _)]; rfl, rfl⟩
  case round =>
    obtain ⟨j, hj, rfl, rfl, rfl⟩ := hrel
    by_cases hlt : 0 < j
    · obtain ⟨J, rfl⟩ : ∃ J, j = J + 1 := ⟨j - 1, by omega⟩
      obtain ⟨b1, o1, rfl, cx⟩ := Hx.out.cell (by omega)
      have cx' := cx J (by omega)
      have hjl : J < zs.length := by rw [Hl.out]; omega
      rw [List.getD_eq_getElem?_getD, List.getElem?_eq_getElem hjl, Option.getD_some] at cx'
      have hz : ∀ b ∈ zs, 0 ≤ b ∧ b ≤ 255 := fun b hb => by
        obtain ⟨t, ht, rfl⟩ := List.mem_iff_getElem.1 hb
        have := Hu8.out t
        rw [List.getD_eq_getElem?_getD, List.getElem?_eq_getElem ht, Option.getD_some] at this
        exact this
      have hU := fromZ_lt (zs.drop (J + 1)) fun b hb => hz b (List.mem_of_mem_drop hb)
      rw [List.length_drop, Hl.out] at hU
      have hU : fromZ (zs.drop (J + 1)) < 256 ^ 7 := Nat.lt_of_lt_of_le hU (Nat.pow_le_pow_right (by decide) (by omega))
      have hs : fromZ (zs.drop J) = (zs[J]).toNat + 256 * fromZ (zs.drop (J + 1)) := by rw [List.drop_eq_getElem_cons hjl]; rfl
      have hb := hz _ (List.getElem_mem hjl)
      have hst := from_step (U := fromZ (zs.drop (J + 1))) (b := zs[J]) hU hb.1 hb.2
      rw [← hs] at hst
      generalize fromZ (zs.drop (J + 1)) = U at *
      have Hst := Lib.hid hst; clear hst hs
      have hj1 : (((J + 1 : Nat) : Int) - 1) = (J : Int) := by omega
      rw [hj1]
      have i1 : (0 : Int) ≤ (J : Int) := by omega
      have i2 : (J : Int) < (len : Int) := by omega
      clear cx hz hU hj1
      go_wp2_with fail
      go_roundw
      case rel => exact ⟨J, by omega, by go_num, by rw [Hst.out], trivial⟩
      case measure => simp [intOf]
    · obtain rfl : j = 0 := by omega
      rw [List.drop_zero, ← HR.out]
      go_wp2
      go_ret2
      exact ⟨rfl, rfl⟩
theorem own_empty (w : World) (B : Nat) (E : TypeId) (k : IntKind) (hB : B ≤ w.heap.size) : Own (w.alloc (.cells #[] E)) B E k (.slice (some ⟨w.heap.size, 0, none⟩) 0 0) [] :=
  ⟨⟨rfl, .inr ⟨w.heap.size, 0, #[], rfl, hB, heap_alloc_new w _, Nat.le_refl _, by decide, rfl, rfl⟩⟩, fun z hz => by cases hz⟩
end Go.Proofs.YtgpedejeifmfdaaGreat
