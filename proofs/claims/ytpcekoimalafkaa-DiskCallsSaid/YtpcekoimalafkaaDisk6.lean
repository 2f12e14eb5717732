/- The laws' helpers: full; a row of calls. -/
import Derived.Test.YtpcekoimalafkaaDisk5
namespace Go.Proofs.Ytpcekoimalafkaa
open Go.RowKit

theorem Own.put {w : World} {B g : Nat} {E : TypeId} {k : IntKind} {n c : Nat} {zs : List Int} (h : Own w B E k (.slice (some ⟨g, 0, none⟩) n c) zs) (hn : zs.length = n) (j : Nat) {z : Int} (hz : (Lit.int k z).wf = true) :
    Own (w.setCell ⟨g, j, none⟩ (.int k z)) B E k (.slice (some ⟨g, 0, none⟩) n c) (zs.set j z) := by
  subst hn
  refine ⟨?_, fun y hy => ?_⟩
  · have := World.ownsRow.stored h.1 j (.int k z)
    rw [List.map_set, List.length_set]
    exact this.1
  · rcases List.mem_or_eq_of_mem_set hy with hy | rfl
    · exact h.2 y hy
    · exact hz

theorem Own.at {w : World} {B g : Nat} {E : TypeId} {k : IntKind} {n c : Nat} {zs : List Int} (h : Own w B E k (.slice (some ⟨g, 0, none⟩) n c) zs) (hn : zs.length = n) (j : Nat) (hj : j < n) :
    w.cell? ⟨g, j, none⟩ = some (.int k (zs.getD j 0)) ∧ w.frozen? ⟨g, j, none⟩ = false := by
  subst hn
  refine ⟨?_, h.1.frozenAt j⟩
  rw [h.1.cellAt j (by omega), List.getElem?_map, List.getD_eq_getElem?_getD, List.getElem?_eq_getElem hj]
  rfl
theorem Own.shape {w : World} {B : Nat} {E : TypeId} {k : IntKind} {v : Value} {n : Nat} {zs : List Int} (h : Own w B E k v zs) (hn : zs.length = n) (h0 : 0 < n) :
    ∃ g c, v = .slice (some ⟨g, 0, none⟩) n c ∧ n ≤ c ∧ c ≤ 9223372036854775807 ∧ B ≤ g ∧ g < w.heap.size ∧ Ints w k (some ⟨g, 0, none⟩) n c zs := by
  subst hn
  have hb := h.block
  obtain ⟨a, c', hv, hi, _⟩ := h.ints
  rcases h.1.2 with ⟨_, h1⟩ | ⟨g, cap, cur, rfl, _, _, h1, h2, _⟩
  · omega
  · simp only [Value.slice.injEq] at hv
    obtain ⟨rfl, _, rfl⟩ := hv
    exact ⟨g, cap, rfl, h1, hi.max, (hb g rfl).1, (hb g rfl).2, hi⟩


theorem Try.infoU8' : ∃ i, Try.prog.info? 5 = some i ∧ i.zero = some (.int .u8 0) ∧ i.size = 1 ∧ i.bytes = 1 := by
  obtain ⟨i, hi, h0, h1, h2⟩ := info_parts Try.infoU8
  exact ⟨i, hi, h0, h1, h2⟩

set_option maxHeartbeats 1000000 in
theorem full_calls {w : World} {c : Int} (hc : (Lit.int .u8 c).wf = true) :
    Calls Try.prog 28 #[.int .u8 c] w fun e w' => ∃ v, e = .returned v ∧ Own w' w.heap.size 5 .u8 v (List.replicate 32 c) ∧ Below w.heap.size w w' := by
  obtain ⟨i, hi, hz0, hz1, hz2⟩ := Try.infoU8'
  have hmk : ∀ w : World, (Instr.makeSlice 32 (.int .i64 32) (.int .i64 32)).run Try.prog w = .ok (.slice (some ⟨w.heap.size, 0, none⟩) 32 32) (w.alloc (.cells ((List.replicate 32 0).map (Value.int .u8)).toArray 5)) := fun w => by kernel_rfl
  have own0 : Own (w.alloc (.cells ((List.replicate 32 0).map (Value.int .u8)).toArray 5)) w.heap.size 5 .u8 (.slice (some ⟨w.heap.size, 0, none⟩) 32 32) (List.replicate 32 0) :=
    ⟨⟨by simp, .inr ⟨w.heap.size, 32, _, rfl, Nat.le_refl _, heap_alloc_new w _, Nat.le_refl _, by unfold maxLen; omega, by simp, by simp⟩⟩, fun z hz => by obtain ⟨_, rfl⟩ := List.mem_replicate.1 hz; decide⟩
  have Hown0 := Lib.hid own0; clear own0
  go_enter Try.func28, Try.ntmps28
  go_wp2_with fail
  go_loopw [4] (fun i wr' => ∃ j : Nat, j ≤ 32 ∧ i = .int .i64 j ∧ Own wr' w.heap.size 5 .u8 (.slice (some ⟨w.heap.size, 0, none⟩) 32 32) (List.replicate j c ++ List.replicate (32 - j) 0) ∧ Below w.heap.size w wr') (fun i _ => 32 - (intOf i).toNat)
  case atStart => exact ⟨0, by omega, rfl, Hown0.out, (Below.refl _ _).alloc (Nat.le_refl _) _⟩
  case round =>
    obtain ⟨j, hj, rfl, hown, hbel⟩ := hrel
    by_cases hlt : j < 32
    · have hl : (List.replicate j c ++ List.replicate (32 - j) 0).length = 32 := by simp; omega
      obtain ⟨hcl, hfr⟩ := hown.at hl j hlt
      have hput := hown.put hl j hc
      have hset : (List.replicate j c ++ List.replicate (32 - j) 0).set j c = List.replicate (j + 1) c ++ List.replicate (32 - (j + 1)) 0 := by
        rw [List.set_append_right _ _ (by simp), List.length_replicate, Nat.sub_self, show 32 - j = (32 - (j + 1)) + 1 by omega, List.replicate_succ, List.set_cons_zero, List.replicate_succ']
        simp
      rw [hset] at hput
      have Hput := Lib.hid hput; clear hput hset hl hown
      have Hbel := Lib.hid hbel; clear hbel
      have i1 : (0 : Int) ≤ (j : Int) := by omega
      have i2 : (j : Int) < 32 := by omega
      go_wp2
      go_roundw
      case rel => exact ⟨j + 1, by omega, by go_num, Hput.out, Hbel.out.trans ⟨rfl, rfl, rfl, by simp, fun k hk => heap_setCell_other wr _ k _ (by simp; omega)⟩⟩
      case measure => simp [intOf]; omega
    · obtain rfl : j = 32 := by omega
      have Hown := Lib.hid hown; clear hown
      have Hbel := Lib.hid hbel; clear hbel
      go_wp2
      go_ret
      exact ⟨_, rfl, by simpa using Hown.out, Hbel.out⟩
end Go.Proofs.Ytpcekoimalafkaa
