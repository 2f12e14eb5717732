/- slices.Grow and slices.Concat at []byte. -/
import Derived.Test.YtgpedejeifmfdaaGreatUse
import Derived.Lib.AppendZeros
namespace Go.Proofs.YtgpedejeifmfdaaGreat
open Go.RowKit

set_option maxHeartbeats 400000 in
set_option maxRecDepth 100000 in
theorem Grow_calls {n : Nat} {w : World} (hn : n ≤ 140737488355328) :
    Calls Tryz.prog 97 #[.slice none 0 0, .int .i64 n] w fun e w' => ∃ v, e = .returned v ∧ Own w' w.heap.size 5 .u8 v [] ∧ Below w.heap.size w w' := by
  by_cases h0 : n = 0
  · subst h0
    go_enter Tryz.func97, Tryz.ntmps97
    go_wp2
    go_ret
    exact ⟨_, rfl, ⟨World.ownsRow_nil _ _ _ _, fun _ h => by cases h⟩, Below.refl _ _⟩
  · obtain ⟨i, hi, hz0, hz1, hz2⟩ := info_parts Tryz.infoU8
    have hrun := Lib.run_append_nil_zeros (P := Tryz.prog) w 39 3 39 5 i (.int .u8 0) .i64 .i64 Tryz.underlying39 Tryz.underlying3 hi hz0 n (by omega) (by omega) (by omega) (by rw [hz2]; omega)
    have hge := grownCap_ge w n 0 5
    have hcm := grownCap_le_maxLen w n 0 5 (by unfold maxLen; omega)
    have hc0 : 0 ≤ grownCap w n 0 5 := by omega
    obtain ⟨C, hC⟩ : ∃ C, C = grownCap w n 0 5 := ⟨_, rfl⟩
    rw [← hC] at hrun hge hcm hc0
    have hsz : (Builtin.zeroCells (Value.int .u8 0).cells n ++ Builtin.zeroCells (Value.int .u8 0).cells (C - n)).size = C * 1 := by
      simp [size_zeroCells, Value.cells]; omega
    generalize (Builtin.zeroCells (Value.int .u8 0).cells n ++ Builtin.zeroCells (Value.int .u8 0).cells (C - n)) = cur at hrun hsz
    have Hrun := Lib.hid hrun; clear hrun hC
    have Hsz := Lib.hid hsz; clear hsz
    have hcm' : C ≤ 9223372036854775807 := by unfold maxLen at hcm; omega
    go_enter Tryz.func97, Tryz.ntmps97
    go_wp2_with (at_builtin; refine Lib.wpList_append_run _ rfl _ _ _ _ rfl _ _ rfl rfl _ _ Hrun.out ?_)
    go_ret
    refine ⟨_, rfl, ⟨?_, fun _ h => by cases h⟩, ((Below.refl _ _).drew).alloc (Nat.le_refl _) _⟩
    exact World.ownsRow_made w.drew cur C (Nat.le_refl _) hcm Hsz.out

/-- A row of slices, each of which reads as numbers. -/
structure Lists (w : World) (k : IntKind) (g m : Nat) (zss : List (List Int)) : Prop where
  len : zss.length = m
  row : ∀ j, j < m → ∃ a c, w.cell? ⟨g, j, none⟩ = some (.slice a (zss.getD j []).length c) ∧ Ints w k a (zss.getD j []).length c (zss.getD j [])

theorem Lists.keep {w w' : World} {k : IntKind} {g m : Nat} {zss : List (List Int)} (h : Lists w k g m zss) (hb : Below w.heap.size w w') : Lists w' k g m zss := by
  refine ⟨h.len, fun j hj => ?_⟩
  obtain ⟨a, c, h1, h2⟩ := h.row j hj
  exact ⟨a, c, (hb.cell (World.block_lt_of_cell? w _ h1)).trans h1, h2.keep hb⟩

def total (zss : List (List Int)) : Nat := (zss.map List.length).sum
theorem total_take (zss : List (List Int)) (k : Nat) (h : k < zss.length) : total (zss.take (k + 1)) = total (zss.take k) + (zss.getD k []).length := by
  unfold total
  rw [List.take_succ_eq_append_getElem h, List.map_append, List.sum_append, List.getD_eq_getElem?_getD, List.getElem?_eq_getElem h]
  simp
theorem total_le (zss : List (List Int)) (k : Nat) : total (zss.take k) ≤ total zss := by
  have : zss = zss.take k ++ zss.drop k := (List.take_append_drop k zss).symm
  have e : total zss = total (zss.take k) + total (zss.drop k) := by
    conv => lhs; rw [this]
    unfold total
    rw [List.map_append, List.sum_append]
  omega
theorem flat_take (zss : List (List Int)) (k : Nat) (h : k < zss.length) : (zss.take (k + 1)).flatten = (zss.take k).flatten ++ zss.getD k [] := by
  rw [List.take_succ_eq_append_getElem h, List.flatten_append, List.getD_eq_getElem?_getD, List.getElem?_eq_getElem h]
  simp
theorem flat_len (zss : List (List Int)) : zss.flatten.length = total zss := by unfold total; exact List.length_flatten

set_option maxHeartbeats 800000 in
set_option maxRecDepth 100000 in
theorem Concat_calls {g m : Nat} {zss : List (List Int)} {w : World} (hx : Lists w .u8 g m zss) (hm : m ≤ 1000) (ht : total zss ≤ 140737488355328) :
    Calls Tryz.prog 73 #[.slice (some ⟨g, 0, none⟩) m m] w fun e w' => ∃ v, e = .returned v ∧ Own w' w.heap.size 5 .u8 v zss.flatten ∧ Below w.heap.size w w' := by
  have hl := hx.len
  go_enter Tryz.func73, Tryz.ntmps73
  go_wp2
  go_loop [3, 5, 11] (fun s _ i => ∃ k : Nat, k ≤ m ∧ i = .int .i64 k ∧ s = .int .i64 ((total (zss.take k) : Nat) : Int)) (fun _ _ i => m - (intOf i).toNat)
  case atStart => exact ⟨0, by omega, rfl, by simp [total]⟩
  case round =>
    obtain ⟨k, hk, rfl, rfl⟩ := hrel
    by_cases hlt : k < m
    · obtain ⟨a, c, hc, hi⟩ := hx.row k hlt
      have h1 := total_take zss k (by omega)
      have h2 := total_le zss (k + 1)
      obtain ⟨T, hT⟩ : ∃ T, T = total (zss.take k) := ⟨_, rfl⟩
      obtain ⟨L, hL⟩ : ∃ L, L = (zss.getD k []).length := ⟨_, rfl⟩
      rw [← hL] at hc h1
      rw [← hT] at h1 ⊢
      have hTL : T + L ≤ 140737488355328 := by omega
      have H1 := Lib.hid h1; clear h1 hT hL h2 hi
      have Hl := Lib.hid hl; clear hl
      go_wp2
      go_round
      case rel => exact ⟨k + 1, by omega, by go_num, by rw [H1.out]; go_num⟩
      case measure => simp [intOf]; omega
    · have hke : zss.take k = zss := List.take_of_length_le (by omega)
      rw [hke]
      clear hke
      obtain ⟨T, hT⟩ : ∃ T, T = total zss := ⟨_, rfl⟩
      rw [← hT] at ht ⊢
      have HT := Lib.hid hT; clear hT
      have Hl := Lib.hid hl; clear hl
      go_wp2_with (go_at_call 97; refine (Grow_calls ht).mono ?_; rintro e w1 ⟨v, rfl, hv, hb⟩)
      go_loopw [6, 8, 27] (fun o _ i wr => ∃ k : Nat, k ≤ m ∧ i = .int .i64 k ∧ Own wr w.heap.size 5 .u8 o (zss.take k).flatten ∧ Below w.heap.size w wr) (fun _ _ i _ => m - (intOf i).toNat)
      case atStart => exact ⟨0, by omega, rfl, by simpa using hv, hb⟩
      case round =>
        obtain ⟨q, hq, rfl, hown, hbel⟩ := hrel
        clear hv hb
        by_cases hqm : q < m
        · obtain ⟨a, c, hc, hi⟩ := (hx.keep hbel).row q hqm
          have h1 := total_take zss q (by rw [Hl.out]; omega)
          have h2 := total_le zss (q + 1)
          have hfl := flat_len (zss.take q)
          have hft := flat_take zss q (by rw [Hl.out]; omega)
          have hTT := HT.out
          have hbnd : ((zss.take q).flatten.length + (zss.getD q []).length) * 1 ≤ 140737488355328 := by rw [hfl]; omega
          obtain ⟨R, hR⟩ : ∃ R, R = zss.getD q [] := ⟨_, rfl⟩
          rw [← hR] at hc hi hbnd hft
          have Hft := Lib.hid hft; clear hft hR h1 h2 hfl hTT
          have hwr := hbel.size
          go_wp2_with (at_builtin; refine wpList_append_ints _ rfl _ _ 39 rfl .u8 w.heap.size 5 (.int .u8 0) 1 Tryz.underlying39 Tryz.infoU8 rfl _ _ rfl hown a _ c R rfl hi hbnd (by decide) hwr ?_)
          intro v' w' hown' hg hne
          have hb' : Below w.heap.size w w' := hbel.grown hg hwr (fun k hk => (hown.block k hk).1)
          clear hne hg hown hi
          go_wp2
          go_roundw
          case rel => exact ⟨q + 1, by omega, by go_num, by rw [Hft.out]; exact hown', hb'⟩
          case measure => simp [intOf]; omega
        · have hke : zss.take q = zss := List.take_of_length_le (by rw [Hl.out]; omega)
          rw [hke] at hown
          have Hke := Lib.hid hke; clear hke
          go_wp2
          go_ret
          exact ⟨_, rfl, hown, hbel⟩
end Go.Proofs.YtgpedejeifmfdaaGreat
