/- The device: Image, New. -/
import Derived.Test.YtpcekoimalafkaaDisk4
namespace Go.Proofs.Ytpcekoimalafkaa
open Go.RowKit

set_option maxHeartbeats 1000000 in
theorem Image_calls {w : World} {B b gs gm : Nat} {cv : Value} {S : List (List Int)} {C : List (Int × List Int)} (h : DiskAt w B b gs gm cv S C) :
    Calls Try.prog 25 #[.pointer (some ⟨b, 0, none⟩)] w fun e w' => ∃ v, e = .returned v ∧ Own w' w.heap.size 5 .u8 v S.flatten ∧ Below w.heap.size w w' := by
  have c0 := cells_at h.root 0
  have hp := h.len
  have hlt := h.lt
  have hflat : ∀ j, j ≤ S.length → (S.take j).flatten.length = j * 32 := by
    intro j hj
    induction j with
    | zero => simp
    | succ j ih =>
      rw [List.take_succ_eq_append_getElem (show j < S.length by omega), List.flatten_append, List.length_append, ih (by omega)]
      have := (h.sec _ (List.getElem_mem (l := S) (n := j) (by omega))).1
      simp [this]
      omega
  go_enter Try.func25, Try.ntmps25
  go_wp2_with fail
  go_loopw [3, 11] (fun v i wr' => ∃ j : Nat, j ≤ S.length ∧ i = .int .i64 j ∧ Own wr' w.heap.size 5 .u8 v (S.take j).flatten ∧ Below w.heap.size w wr') (fun _ i _ => S.length - (intOf i).toNat)
  case atStart => exact ⟨0, by omega, rfl, ⟨World.ownsRow_nil _ _ _ _, fun _ h => by simp at h⟩, Below.refl _ _⟩
  case round =>
    obtain ⟨j, hj, rfl, hown, hbel⟩ := hrel
    by_cases hlt' : j < S.length
    · have h' := h.keep (w' := wr) fun x hx => hbel.block x (hlt x hx).2
      have hs := h'.safe
      have hsa := h'.sec_at hlt'
      have hz := h.sec _ (List.getElem_mem (l := S) (n := j) hlt')
      have hge : S.getD j [] = S[j] := by rw [List.getD_eq_getElem?_getD, List.getElem?_eq_getElem hlt']; rfl
      have htake : (S.take (j + 1)).flatten = (S.take j).flatten ++ S[j] := by rw [List.take_succ_eq_append_getElem hlt', List.flatten_append]; simp only [List.flatten_cons, List.flatten_nil, List.append_nil]
      rw [hge] at hsa
      have hfj := hflat j hj
      obtain ⟨Z, hZ⟩ : ∃ Z, Z = S[j] := ⟨_, rfl⟩
      rw [← hZ] at hsa hz htake
      clear hge hZ c0
      have Htake := Lib.hid htake; clear htake
      have Hbel := Lib.hid hbel; clear hbel
      have i1 : (0 : Int) ≤ (j : Int) := by omega
      have i2 : (j : Int) < (S.length : Int) := by omega
      go_wp2_with (with_reducible refine stop_load 61 ?_)
      refine unpark ?_
      refine wpList_load_at rfl _ _ rfl gs (j * 32) rfl _ _ _ hs 32 (sct Z) (by rw [sct_len, hz.1]) (by simpa using hsa) _ Try.underlying61 rfl Try.sizeSec ?_
      go_wp2_with (with_reducible refine stop_store 61 ?_)
      refine unpark ?_
      refine wpList_store_at rfl _ _ _ rfl _ 0 rfl _ rfl _ rfl _ _ (heap_alloc_new _ _) 32 (by rw [sct_len]; exact hz.1) (by decide) (sct_one _) Try.sizeSec ?_
      intro w2 hw2 hg2 hs2
      clear hs2
      rw [splice_all _ _ (by rw [sct_len, hz.1]; rfl)] at hw2
      have hal : Below wr.heap.size wr w2 := ((Below.refl _ _).alloc (Nat.le_refl _) _).grown hg2 (by simp) (fun k hk => by cases hk; exact Nat.le_refl _)
      have own2 := hown.below hal
      have bel2 := Hbel.out.trans (hal.mono Hbel.out.size)
      have hi2 := ints_of_sct hz hw2
      have Hbel2 := Lib.hid bel2; clear bel2
      clear hg2 hal hown Hbel hs hw2
      go_wp2_with (with_reducible refine stop_builtin .append ?_)
      refine unpark ?_
      refine wpList_append_ints _ rfl _ _ 32 rfl .u8 w.heap.size 5 (.int .u8 0) 1 Try.underlying32 Try.infoU8 rfl _ _ rfl own2 _ 32 32 Z rfl hi2 (by rw [hfj]; omega) (by decide) Hbel2.out.size ?_
      intro v' w3 hown3 hg3 hne3
      have bel3 := Hbel2.out.grown hg3 Hbel2.out.size (fun k hk => (own2.block k hk).1)
      rw [← Htake.out] at hown3
      have Hbel3 := Lib.hid bel3; clear bel3
      have Hown3 := Lib.hid hown3; clear hown3
      clear hg3 hne3 own2 hi2
      go_wp2_with fail
      go_roundw
      case rel => exact ⟨j + 1, by omega, by go_num, Hown3.out, Hbel3.out⟩
      case measure => simp [intOf]; omega
    · obtain rfl : j = S.length := by omega
      rw [List.take_length] at hown
      have Hown := Lib.hid hown; clear hown
      have Hbel := Lib.hid hbel; clear hbel
      go_wp2
      go_ret
      exact ⟨_, rfl, Hown.out, Hbel.out⟩

def fresh (n : Nat) : List (List Int) := List.replicate n zsec
theorem fresh_sec (n : Nat) : ∀ s ∈ fresh n, Sector s := by
  intro s hs
  obtain ⟨_, rfl⟩ := List.mem_replicate.1 hs
  exact ⟨rfl, by decide⟩

theorem Try.infoSec : (Try.prog.info? 61).map (fun i => (i.zero, i.size, i.bytes)) = some (some (.agg (sct zsec).toArray), 32, 32) := by kernel_rfl

theorem made_flat (n : Nat) : madeCells (sct zsec).toArray (n * 32) = (flat (fresh n)).toArray := by
  have h0 : ∀ i, (sct zsec).toArray[i % (sct zsec).toArray.size]! = .int .u8 0 := by
    intro i
    have hsz : (sct zsec).toArray.size = 32 := by rw [List.size_toArray, sct_len]; rfl
    rw [hsz]
    have hlt : i % 32 < 32 := Nat.mod_lt _ (by decide)
    have hr : (sct zsec) = List.replicate 32 (Value.int .u8 0) := rfl
    have hm : (sct zsec).toArray[i % 32]! ∈ sct zsec := by
      rw [getElem!_pos _ _ (by rw [hsz]; exact hlt), List.getElem_toArray]
      exact List.getElem_mem _
    rw [hr] at hm ⊢
    exact (List.mem_replicate.1 hm).2
  apply Array.ext
  · simp [madeCells, flat, fresh, sct_len, flatMap_len sct 32 (List.replicate n zsec) (fun s hs => by rw [sct_len]; exact (fresh_sec n s hs).1)]
  · intro i h1 h2
    have e1 : (madeCells (sct zsec).toArray (n * 32))[i] = .int .u8 0 := by
      simp only [madeCells, Array.getElem_map, Array.getElem_range]
      exact h0 i
    rw [e1]
    have : ∀ u ∈ flat (fresh n), u = Value.int .u8 0 := by
      intro u hu
      obtain ⟨s, hs, hu⟩ := List.mem_flatMap.1 hu
      obtain ⟨_, rfl⟩ := List.mem_replicate.1 hs
      have hr : (sct zsec) = List.replicate 32 (Value.int .u8 0) := rfl
      rw [hr] at hu
      exact (List.mem_replicate.1 hu).2
    exact (this _ (by rw [List.getElem_toArray]; exact List.getElem_mem _)).symm

theorem New_bad {w : World} {n : Int} (hn : ¬ (1 ≤ n ∧ n ≤ 512)) :
    Calls Try.prog 11 #[.int .i64 n] w fun e w' => e = .returned (.tuple #[.pointer none, .int .i64 11]) ∧ w' = w := by
  by_cases h1 : n < 1
  · have hd : decide (n < 1) = true := decide_eq_true h1
    go_enter Try.func11, Try.ntmps11
    go_wp2
    go_ret2
    exact ⟨rfl, rfl⟩
  · have hd : decide (n < 1) = false := decide_eq_false h1
    have hd2 : decide (512 < n) = true := decide_eq_true (by omega)
    go_enter Try.func11, Try.ntmps11
    go_wp2
    go_ret2
    exact ⟨rfl, rfl⟩

set_option maxHeartbeats 1000000 in
theorem New_calls {w : World} {n : Nat} (h1 : 1 ≤ n) (h2 : n ≤ 512) :
    Calls Try.prog 11 #[.int .i64 n] w fun e w' => ∃ b gs gm, e = .returned (.tuple #[.pointer (some ⟨b, 0, none⟩), .int .i64 0]) ∧ DiskAt w' w.heap.size b gs gm (.slice none 0 0) (fresh n) [] ∧ Below w.heap.size w w' := by
  obtain ⟨i, hi, hz0, hz1, hz2⟩ := info_parts Try.infoSec
  have hmk : ∀ w : World, (Instr.makeSlice 54 (.int .i64 (n : Int)) (.int .i64 (n : Int))).run Try.prog w = .ok (.slice (some ⟨w.heap.size, 0, none⟩) n n) (w.alloc (.cells (flat (fresh n)).toArray 61)) := fun w => by
    have := run_makeSlice (P := Try.prog) w 54 61 i _ Try.underlying54 hi hz0 .i64 .i64 (n : Int) (n : Int) (by omega) (Int.le_refl _) (by rw [hz1]; simp; omega) (by rw [hz2]; omega) (by omega)
    simp only [Int.toNat_natCast, hz1] at this
    rw [this]
    have e : (Value.agg (sct zsec).toArray).cells = (sct zsec).toArray := rfl
    rw [e, made_flat]
  have hd : decide ((n : Int) < 1) = false := decide_eq_false (by omega)
  have hd2 : decide (512 < (n : Int)) = false := decide_eq_false (by omega)
  have hfl : (fresh n).length = n := by simp [fresh]
  have hmm : ∀ w : World, (Instr.makeMap 55 none).run Try.prog w = .ok (.map (some w.heap.size)) (w.alloc (.map #[] 0)) := fun w => rfl
  go_enter Try.func11, Try.ntmps11
  go_wp2_with (with_reducible refine stop_build 58 ?_)
  refine unpark ?_
  refine wpList_build2 rfl _ _ _ _ _ rfl _ _ rfl rfl (.agg #[.slice (some ⟨w.heap.size, 0, none⟩) n n, .slice none 0 0, .map (some (w.heap.size + 1))]) (by kernel_rfl) ?_
  go_wp2
  go_ret2
  have e1 : (w.alloc (.cells (flat (fresh n)).toArray 61)).heap.size = w.heap.size + 1 := by simp
  have e2 : ((w.alloc (.cells (flat (fresh n)).toArray 61)).alloc (.map #[] 0)).heap.size = w.heap.size + 1 + 1 := by simp
  obtain ⟨w1, hw1⟩ : ∃ w1, w1 = w.alloc (.cells (flat (fresh n)).toArray 61) := ⟨_, rfl⟩
  rw [← hw1] at e1 e2 ⊢
  obtain ⟨w2, hw2⟩ : ∃ w2, w2 = w1.alloc (.map #[] 0) := ⟨_, rfl⟩
  rw [← hw2] at e2 ⊢
  have b1 : Below w.heap.size w w1 := by rw [hw1]; exact (Below.refl _ _).alloc (Nat.le_refl _) _
  have b2 : Below w.heap.size w w2 := by rw [hw2]; exact b1.alloc b1.size _
  have s1 : w1.heap[w.heap.size]? = some (.cells (flat (fresh n)).toArray 61 (0, 0)) := by rw [hw1]; exact heap_alloc_new w _
  have s2 : w2.heap[w.heap.size]? = some (.cells (flat (fresh n)).toArray 61 (0, 0)) := by
    rw [hw2, heap_alloc_old w1 _ (by omega)]; exact s1
  have n2 : MapI w2 .i64 (w.heap.size + 1) (fun _ => none) := by rw [hw2, ← e1]; exact MapI.made w1 .i64
  refine ⟨w.heap.size + 1 + 1, w.heap.size, w.heap.size + 1, rfl, ⟨?_, ?_, ⟨rfl, .inl ⟨rfl, rfl⟩⟩, ?_, fresh_sec n, (fun _ h => by cases h), by omega, Nat.le_refl _, by omega, by omega, by omega⟩, b2.alloc b2.size _⟩
  · rw [hfl, ← e2]; exact heap_alloc_new w2 _
  · rw [heap_alloc_old w2 _ (by omega)]; exact s2
  · exact n2.keep (heap_alloc_old w2 _ (by omega))
end Go.Proofs.Ytpcekoimalafkaa
