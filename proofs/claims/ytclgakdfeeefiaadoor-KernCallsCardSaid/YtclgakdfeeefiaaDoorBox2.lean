/- Labels: With; messages: slices.Delete, slices.Clone. -/
import Derived.Test.YtclgakdfeeefiaaDoorBox1
import Derived.Test.YtclgakdfeeefiaaDoorDel
import Derived.Test.YtclgakdfeeefiaaDoorHeld
import Derived.Test.YtclgakdfeeefiaaDoorTable
namespace Go.Proofs.YtclgakdfeeefiaaDoor
open Go.RowKit

set_option maxHeartbeats 1000000 in
theorem With_calls {w : World} (a b : Label) (o : Int) : Calls Tryd.prog 42 #[.agg a.cells.toArray, .agg b.cells.toArray, .int .u64 o] w fun e w' => e = .returned (.bool (withOf a b o)) ∧ Below w.heap.size w w' := by
  have hn := fun w : World => Need_calls (w := w) a b
  obtain ⟨N, hN⟩ : ∃ N, N = needOf' a b := ⟨_, rfl⟩
  have hw : withOf a b o = (minusOf N o == 0) := by rw [hN]; rfl
  rw [hw]
  rw [← hN] at hn
  obtain ⟨a1, a2⟩ := a
  obtain ⟨b1, b2⟩ := b
  simp only [Label.cells] at hn ⊢
  have Hn := Lib.hid hn; clear hn hN hw
  go_enter Tryd.func42, Tryd.ntmps42
  go_wp2_with fail
  have b0 : Below w.heap.size w ((w.alloc (.cells #[.int .u64 a1, .int .u64 a2] 32)).alloc (.cells #[.int .u64 b1, .int .u64 b2] 32)) := ((Below.refl _ _).alloc (Nat.le_refl _) _).alloc (by simp) _
  refine (Hn.out _).mono ?_
  rintro e w1 ⟨rfl, b1⟩
  have b2 := b0.trans (b1.mono b0.size)
  have Hb := Lib.hid b2; clear b0 b1 b2
  go_wp2_with fail
  refine (Within_calls N o).mono ?_
  rintro e _ ⟨rfl, rfl⟩
  go_wp2
  go_ret
  exact ⟨rfl, Hb.out⟩

theorem Tryd.infoMsg : (Tryd.prog.info? 39).map (fun i => (i.zero, i.size, i.bytes)) = some (some (.agg #[.int .i64 0, .int .i64 0, .int .i64 0, .int .i64 0]), 4, 32) := by kernel_rfl
def mzero : List Value := [.int .i64 0, .int .i64 0, .int .i64 0, .int .i64 0]

theorem mzero1 : (Builtin.zeroCells (Value.agg mzero.toArray).cells 1).toList = mzero := by kernel_rfl
theorem splice_len (L : List Value) (off : Nat) (xs : List Value) (h : off + xs.length ≤ L.length) : (splice L off xs).length = L.length := by simp [splice]; omega

theorem delete_list {cur : List Value} {n i : Nat} {us : List Value} (hus : cur.take (n * 4) = us) (hi : i < n) (hu : us.length = n * 4) :
    (splice (splice cur (i * 4) (us.drop ((i + 1) * 4))) ((n - 1) * 4) mzero).take ((n - 1) * 4) = us.take (i * 4) ++ us.drop ((i + 1) * 4) := by
  have h1 : (us.drop ((i + 1) * 4)).length = (n - 1) * 4 - i * 4 := by rw [List.length_drop, hu]; omega
  have h2 : cur.take (i * 4) = us.take (i * 4) := by rw [← hus, List.take_take, Nat.min_eq_left (by omega)]
  have h3 : (us.take (i * 4)).length = i * 4 := by rw [List.length_take, hu]; omega
  have h4 : (us.take (i * 4) ++ us.drop ((i + 1) * 4)).length = (n - 1) * 4 := by rw [List.length_append, h3, h1]; omega
  have h5 : splice cur (i * 4) (us.drop ((i + 1) * 4)) = (us.take (i * 4) ++ us.drop ((i + 1) * 4)) ++ cur.drop (i * 4 + (us.drop ((i + 1) * 4)).length) := by
    unfold splice
    rw [h2, List.append_assoc]
  rw [h5]
  unfold splice
  rw [List.take_append_of_le_length (by rw [List.length_take, List.length_append, h4]; omega), List.take_take, Nat.min_self, List.take_append_of_le_length (by rw [h4]; exact Nat.le_refl _), List.take_of_length_le (by rw [h4]; exact Nat.le_refl _)]

set_option maxHeartbeats 2000000 in
theorem Delete_calls {w : World} {B g n cap : Nat} {us : List Value} (h : w.ownsRow B 39 4 (.slice (some ⟨g, 0, none⟩) n cap) n us) (h1 : ∀ u ∈ us, u.oneCell' = true) {i : Nat} (hi : i < n) :
    Calls Tryd.prog 71 #[.slice (some ⟨g, 0, none⟩) n cap, .int .i64 (i : Int), .int .i64 ((i : Int) + 1)] w fun e w' =>
      e = .returned (.slice (some ⟨g, 0, none⟩) (n - 1) cap) ∧ w'.ownsRow B 39 4 (.slice (some ⟨g, 0, none⟩) (n - 1) cap) (n - 1) (us.take (i * 4) ++ us.drop ((i + 1) * 4)) ∧ w.grownBy w' (some g) := by
  obtain ⟨hl, hr⟩ := h
  rcases hr with ⟨hr, _⟩ | ⟨g', cap', cur, hr, hB, hg, hnc, hcm, hcs, ht⟩
  · cases hr
  cases hr
  have hcm' : cap ≤ 9223372036854775807 := by simpa [maxLen] using hcm
  obtain ⟨m, rfl⟩ : ∃ m, n = i + 1 + m := ⟨n - (i + 1), by omega⟩
  rw [show i + 1 + m - 1 = i + m by omega]
  obtain ⟨ti, hti, hz0, hz1, hz2⟩ := info_parts Tryd.infoMsg
  have hul : (us.drop ((i + 1) * 4)).length = m * 4 := by rw [List.length_drop, hl]; omega
  have hcl : cur.toList.length = cap * 4 := by simpa using hcs
  have hdl := delete_list (cur := cur.toList) ht hi hl
  rw [show i + 1 + m - 1 = i + m by omega] at hdl
  have hnews : ∀ j u, (us.drop ((i + 1) * 4))[j]? = some u → w.cell? ⟨g, (i + 1) * 4 + j, none⟩ = some u := fun j u hu => by
    rw [cells_at hg, ← Array.getElem?_toList]
    rw [List.getElem?_drop, ← ht, List.getElem?_take] at hu
    split at hu
    · exact hu
    · cases hu
  have i1 : (0 : Int) ≤ (i : Int) := by omega
  have i2 : (i : Int) + 1 ≤ (i : Int) + 1 + (m : Int) := by omega
  have i3' : (i : Int) ≠ (i : Int) + 1 := by omega
  have i3 : ((i : Int) == (i : Int) + 1) = false := by simp; omega
  clear i3'
  have i4 : (i : Int) + 1 + (m : Int) ≤ (cap : Int) := by omega
  have Hl := Lib.hid hl; clear hl
  have Ht := Lib.hid ht; clear ht
  have Hg := Lib.hid hg; clear hg
  have Hul := Lib.hid hul; clear hul
  have Hdl := Lib.hid hdl; clear hdl
  have Hnews := Lib.hid hnews; clear hnews
  have Hti := Lib.hid hti; clear hti
  have Hz1 := Lib.hid hz1; clear hz1 hz0 hz2
  have Hcs := Lib.hid hcs; clear hcs
  have Hcl := Lib.hid hcl; clear hcl
  have H1 := Lib.hid h1; clear h1
  go_enter Tryd.func71, Tryd.ntmps71
  go_wp2_with fail
  refine wp_region_chain [0, 1, 2, 3, 4, 5, 6, 7] (by kernel_rfl) (by kernel_rfl) rfl (by kernel_rfl) (fun _ _ _ h => nomatch h.2.1) (fun _ _ h => nomatch h.1) ?_
  simp only [List.map_cons, List.map_nil, List.getD_cons_zero, List.getD_cons_succ]
  have hgd : w.drew.heap[g]? = _ := Hg.out
  have hnd : ∀ j u, (us.drop ((i + 1) * 4))[j]? = some u → w.drew.cell? ⟨g, (i + 1) * 4 + j, none⟩ = some u := Hnews.out
  have hmd : w.grownBy w.drew (some g) := ⟨rfl, rfl, rfl, Nat.le_refl _, fun _ _ _ => rfl⟩
  have hsd : w.drew.heap.size = w.heap.size := rfl
  clear Hnews
  generalize w.drew = w0 at hgd hnd hmd hsd ⊢
  have Hgd := Lib.hid hgd; clear hgd
  have Hnd := Lib.hid hnd; clear hnd
  have Hmd := Lib.hid hmd; clear hmd
  have Hsd := Lib.hid hsd; clear hsd
  by_cases hc : cap = i + 1
  case' pos =>
    obtain rfl : m = 0 := by omega
    subst hc
  all_goals
    go_wp2_with (with_reducible refine stop_builtin .append ?_)
    refine unpark ?_
    refine wpList_append_room rfl _ _ 44 rfl 39 ti 4 Tryd.underlying44 Hti.out Hz1.out g i _ rfl cur Hgd.out _ _ _ rfl (us.drop ((i + 1) * 4)) Hul.out (by
      first
        | (intro j u hu; rw [add_none]; exact Hnd.out j u hu)
        | (intro j u hu; have h0 := Hul.out; have hj := (List.getElem?_eq_some_iff.1 hu).1; omega)) (fun u hu => H1.out u (List.mem_of_mem_drop hu)) (by omega) (by rw [Hul.out, Hcs.out]; omega) ?_
    intro w1 hw1 hg1 hs1
    have hsz : (splice cur.toList (i * 4) (us.drop ((i + 1) * 4))).toArray.size = cur.size := by rw [List.size_toArray, splice_len _ _ _ (by rw [Hul.out, Hcl.out]; omega), Array.length_toList]
    have Hsz := Lib.hid hsz; clear hsz
    have Hw1 := Lib.hid hw1; clear hw1
    have Hg1 := Lib.hid hg1; clear hg1
    go_wp2_with (with_reducible refine stop_builtin .clear ?_)
    refine unpark ?_
    refine wpList_clear_row rfl _ 44 rfl 39 (.agg mzero.toArray) mzero Tryd.underlying44 (fun w => by kernel_rfl) _ _ (by omega) (by first | exact mzero1 | (rw [show i + 1 + m - (i + m) = 1 by omega]; exact mzero1)) g _ rfl _ Hw1.out (by rw [Hsz.out, Hcs.out]; simp [mzero]; omega) (by simp [mzero, Value.oneCell']) ?_
    intro w2 hw2 hg2 hs2
    have Hw2 := Lib.hid hw2; clear hw2
    go_wp2_with fail
    go_ret
    refine ⟨?_, ⟨?_, .inr ⟨g, _, _, rfl, hB, Hw2.out, ?_, hcm, ?_, ?_⟩⟩, ?_⟩
    · rfl
    · have h0 := Hul.out
      have h3 := Hl.out
      rw [List.length_append, h0, List.length_take, h3]
      omega
    · omega
    · have hL : (splice cur.toList (i * 4) (us.drop ((i + 1) * 4))).length = cur.size := by rw [splice_len _ _ _ (by rw [Hul.out, Hcl.out]; omega), Array.length_toList]
      have h2 := Hcs.out
      have h4 : mzero.length = 4 := rfl
      rw [List.size_toArray, splice_len _ _ _ (by rw [h4]; show _ ≤ (splice cur.toList (i * 4) (us.drop ((i + 1) * 4))).length; rw [hL, h2]; omega)]
      show (splice cur.toList (i * 4) (us.drop ((i + 1) * 4))).length = _
      rw [hL, h2]
    · exact Hdl.out
    · exact (Hmd.out.trans Hg1.out).trans hg2
end Go.Proofs.YtclgakdfeeefiaaDoor
