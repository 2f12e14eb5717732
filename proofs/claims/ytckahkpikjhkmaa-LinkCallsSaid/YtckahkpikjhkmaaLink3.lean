/- Messages: Clone, Delete. -/
import Derived.Test.YtckahkpikjhkmaaLink2
import Derived.Test.YtckahkpikjhkmaaTable
namespace Go.Proofs.Ytckahkpikjhkmaa
open Go.RowKit

theorem msgElem : Elem Try.prog msgF 32 38 := ⟨Try.underlying32, by
  have h : (Try.prog.info? 38).map (fun i => (i.zero, i.size, decide (i.bytes ≤ 1000))) = some (some (.agg #[.int .i64 0, .int .i64 0, .int .i64 0, .int .i64 0]), 4, true) := by kernel_rfl
  cases hi : Try.prog.info? 38 with
  | none => rw [hi] at h; cases h
  | some i =>
    rw [hi] at h
    simp only [Option.map_some, Option.some.injEq, Prod.mk.injEq, decide_eq_true_iff] at h
    exact ⟨i, _, rfl, h.1, h.2.1, rfl, h.2.2⟩⟩

set_option maxHeartbeats 1000000 in
theorem Clone_calls {w : World} {a : Option Addr} {n c : Nat} {ms : List Msg} (h : Recs msgF w a n c ms) (hn : n ≤ 1000000) :
    Calls Try.prog 28 #[.slice a n c] w fun e w' => ∃ v', e = .returned v' ∧ Mo w' w.heap.size v' ms ∧ Below w.heap.size w w' := by
  have hl := h.len
  cases a with
  | none =>
    have h0 : n = 0 := by
      rcases Nat.eq_zero_or_pos n with h0 | h0
      · exact h0
      · obtain ⟨_, _, e, _⟩ := h.cell h0; cases e
    subst h0
    obtain rfl : ms = [] := List.eq_nil_of_length_eq_zero hl
    have hq : ∀ w, (binOp .eql 32 (.slice none 0 c) (.slice none 0 0)).run Try.prog w = .ok (.bool true) w := fun w => by kernel_rfl
    clear hl h hn
    go_enter Try.func28, Try.ntmps28
    go_wp2
    go_ret
    exact ⟨_, rfl, ROwn.nil _ _, Below.refl _ _⟩
  | some x =>
    have b0 : Below w.heap.size w (w.alloc (.cells #[] 38)) := (Below.refl _ _).alloc (Nat.le_refl _) _
    have own0 := ROwn.made (F := msgF) (E := 38) w
    have hm0 := h.keep b0
    have hq : ∀ w, (binOp .eql 32 (.slice (some x) n c) (.slice none 0 0)).run Try.prog w = .ok (.bool false) w := fun w => by kernel_rfl
    have Hm0 := Lib.hid hm0; clear hm0 h
    have Hb0 := Lib.hid b0; clear b0
    have Hl := Lib.hid hl; clear hl
    go_enter Try.func28, Try.ntmps28
    go_wp2_with (with_reducible refine stop_builtin .append ?_)
    refine unpark ?_
    refine wpList_append_recs msgElem _ rfl _ _ rfl w.heap.size _ [] rfl own0 (some x) n c ms rfl Hm0.out (by simpa using hn) (by simp) ?_
    intro v' w' hown hg _
    have hf := Hb0.out.grown hg Hb0.out.size (fun k hk => (own0.lt k hk).1)
    rw [List.nil_append] at hown
    have Ho := Lib.hid hown; clear hown
    have Hf := Lib.hid hf; clear hf hg own0
    go_wp2
    go_ret
    exact ⟨v', rfl, Ho.out, Hf.out⟩

def mzero : List Value := [.int .i64 0, .int .i64 0, .int .i64 0, .int .i64 0]
theorem mzero1 : (Builtin.zeroCells (Value.agg mzero.toArray).cells 1).toList = mzero := by kernel_rfl
theorem splice_len (L : List Value) (off : Nat) (xs : List Value) (h : off + xs.length ≤ L.length) : (splice L off xs).length = L.length := by simp [splice]; omega
theorem Try.infoMsg : (Try.prog.info? 38).map (fun i => (i.zero, i.size, i.bytes)) = some (some (.agg #[.int .i64 0, .int .i64 0, .int .i64 0, .int .i64 0]), 4, 32) := by kernel_rfl
theorem delete_list {cur : List Value} {n i : Nat} {us : List Value} (hus : cur.take (n * 4) = us) (hi : i < n) (hu : us.length = n * 4) :
    (splice (splice cur (i * 4) (us.drop ((i + 1) * 4))) ((n - 1) * 4) mzero).take ((n - 1) * 4) = us.take (i * 4) ++ us.drop ((i + 1) * 4) := by
  have h1 : (us.drop ((i + 1) * 4)).length = (n - 1) * 4 - i * 4 := by rw [List.length_drop, hu]; omega
  have h2 : cur.take (i * 4) = us.take (i * 4) := by rw [← hus, List.take_take, Nat.min_eq_left (by omega)]
  have h3 : (us.take (i * 4)).length = i * 4 := by rw [List.length_take, hu]; omega
  have h4 : (us.take (i * 4) ++ us.drop ((i + 1) * 4)).length = (n - 1) * 4 := by rw [List.length_append, h3, h1]; omega
  have h5 : splice cur (i * 4) (us.drop ((i + 1) * 4)) = (us.take (i * 4) ++ us.drop ((i + 1) * 4)) ++ cur.drop (i * 4 + (us.drop ((i + 1) * 4)).length) := by
    unfold splice
    rw [h2, List.append_assoc]
  rw [h5]
  unfold splice
  rw [List.take_append_of_le_length (by rw [List.length_take, List.length_append, h4]; omega), List.take_take, Nat.min_self, List.take_append_of_le_length (by rw [h4]; exact Nat.le_refl _), List.take_of_length_le (by rw [h4]; exact Nat.le_refl _)]

set_option maxHeartbeats 2000000 in
theorem Delete_calls {w : World} {B g n cap : Nat} {us : List Value} (h : w.ownsRow B 38 4 (.slice (some ⟨g, 0, none⟩) n cap) n us) (h1 : ∀ u ∈ us, u.oneCell' = true) {i : Nat} (hi : i < n) :
    Calls Try.prog 30 #[.slice (some ⟨g, 0, none⟩) n cap, .int .i64 (i : Int), .int .i64 ((i : Int) + 1)] w fun e w' =>
      e = .returned (.slice (some ⟨g, 0, none⟩) (n - 1) cap) ∧ w'.ownsRow B 38 4 (.slice (some ⟨g, 0, none⟩) (n - 1) cap) (n - 1) (us.take (i * 4) ++ us.drop ((i + 1) * 4)) ∧ w.grownBy w' (some g) := by
  obtain ⟨hl, hr⟩ := h
  rcases hr with ⟨hr, _⟩ | ⟨g', cap', cur, hr, hB, hg, hnc, hcm, hcs, ht⟩
  · cases hr
  cases hr
  have hcm' : cap ≤ 9223372036854775807 := by simpa [maxLen] using hcm
  obtain ⟨m, rfl⟩ : ∃ m, n = i + 1 + m := ⟨n - (i + 1), by omega⟩
  rw [show i + 1 + m - 1 = i + m by omega]
  obtain ⟨ti, hti, hz0, hz1, hz2⟩ := info_parts Try.infoMsg
  have hul : (us.drop ((i + 1) * 4)).length = m * 4 := by rw [List.length_drop, hl]; omega
  have hcl : cur.toList.length = cap * 4 := by simpa using hcs
  have hdl := delete_list (cur := cur.toList) ht hi hl
  rw [show i + 1 + m - 1 = i + m by omega] at hdl
  have hnews : ∀ j u, (us.drop ((i + 1) * 4))[j]? = some u → w.cell? ⟨g, (i + 1) * 4 + j, none⟩ = some u := fun j u hu => by
    rw [cells_at hg, ← Array.getElem?_toList]
    rw [List.getElem?_drop, ← ht, List.getElem?_take] at hu
    split at hu
    · exact hu
    · cases hu
  have i1 : (0 : Int) ≤ (i : Int) := by omega
  have i2 : (i : Int) + 1 ≤ (i : Int) + 1 + (m : Int) := by omega
  have i3' : (i : Int) ≠ (i : Int) + 1 := by omega
  have i3 : ((i : Int) == (i : Int) + 1) = false := by simp; omega
  clear i3'
  have i4 : (i : Int) + 1 + (m : Int) ≤ (cap : Int) := by omega
  have Hl := Lib.hid hl; clear hl
  have Ht := Lib.hid ht; clear ht
  have Hg := Lib.hid hg; clear hg
  have Hul := Lib.hid hul; clear hul
  have Hdl := Lib.hid hdl; clear hdl
  have Hnews := Lib.hid hnews; clear hnews
  have Hti := Lib.hid hti; clear hti
  have Hz1 := Lib.hid hz1; clear hz1 hz0 hz2
  have Hcs := Lib.hid hcs; clear hcs
  have Hcl := Lib.hid hcl; clear hcl
  have H1 := Lib.hid h1; clear h1
  go_enter Try.func30, Try.ntmps30
  go_wp2_with fail
  refine wp_region_chain [0, 1, 2, 3, 4, 5, 6, 7] (by kernel_rfl) (by kernel_rfl) rfl (by kernel_rfl) (fun _ _ _ h => nomatch h.2.1) (fun _ _ h => nomatch h.1) ?_
  simp only [List.map_cons, List.map_nil, List.getD_cons_zero, List.getD_cons_succ]
  have hgd : w.drew.heap[g]? = _ := Hg.out
  have hnd : ∀ j u, (us.drop ((i + 1) * 4))[j]? = some u → w.drew.cell? ⟨g, (i + 1) * 4 + j, none⟩ = some u := Hnews.out
  have hmd : w.grownBy w.drew (some g) := ⟨rfl, rfl, rfl, Nat.le_refl _, fun _ _ _ => rfl⟩
  have hsd : w.drew.heap.size = w.heap.size := rfl
  clear Hnews
  generalize w.drew = w0 at hgd hnd hmd hsd ⊢
  have Hgd := Lib.hid hgd; clear hgd
  have Hnd := Lib.hid hnd; clear hnd
  have Hmd := Lib.hid hmd; clear hmd
  have Hsd := Lib.hid hsd; clear hsd
  by_cases hc : cap = i + 1
  case' pos =>
    obtain rfl : m = 0 := by omega
    subst hc
  all_goals
    go_wp2_with (with_reducible refine stop_builtin .append ?_)
    refine unpark ?_
    refine wpList_append_room rfl _ _ 32 rfl 38 ti 4 Try.underlying32 Hti.out Hz1.out g i _ rfl cur Hgd.out _ _ _ rfl (us.drop ((i + 1) * 4)) Hul.out (by
      first
        | (intro j u hu; rw [add_none]; exact Hnd.out j u hu)
        | (intro j u hu; have h0 := Hul.out; have hj := (List.getElem?_eq_some_iff.1 hu).1; omega)) (fun u hu => H1.out u (List.mem_of_mem_drop hu)) (by omega) (by rw [Hul.out, Hcs.out]; omega) ?_
    intro w1 hw1 hg1 hs1
    have hsz : (splice cur.toList (i * 4) (us.drop ((i + 1) * 4))).toArray.size = cur.size := by rw [List.size_toArray, splice_len _ _ _ (by rw [Hul.out, Hcl.out]; omega), Array.length_toList]
    have Hsz := Lib.hid hsz; clear hsz
    have Hw1 := Lib.hid hw1; clear hw1
    have Hg1 := Lib.hid hg1; clear hg1
    go_wp2_with (with_reducible refine stop_builtin .clear ?_)
    refine unpark ?_
    refine wpList_clear_row rfl _ 32 rfl 38 (.agg mzero.toArray) mzero Try.underlying32 (fun w => by kernel_rfl) _ _ (by omega) (by first | exact mzero1 | (rw [show i + 1 + m - (i + m) = 1 by omega]; exact mzero1)) g _ rfl _ Hw1.out (by rw [Hsz.out, Hcs.out]; simp [mzero]; omega) (by simp [mzero, Value.oneCell']) ?_
    intro w2 hw2 hg2 hs2
    have Hw2 := Lib.hid hw2; clear hw2
    go_wp2_with fail
    go_ret
    refine ⟨?_, ⟨?_, .inr ⟨g, _, _, rfl, hB, Hw2.out, ?_, hcm, ?_, ?_⟩⟩, ?_⟩
    · rfl
    · have h0 := Hul.out
      have h3 := Hl.out
      rw [List.length_append, h0, List.length_take, h3]
      omega
    · omega
    · have hL : (splice cur.toList (i * 4) (us.drop ((i + 1) * 4))).length = cur.size := by rw [splice_len _ _ _ (by rw [Hul.out, Hcl.out]; omega), Array.length_toList]
      have h2 := Hcs.out
      have h4 : mzero.length = 4 := rfl
      rw [List.size_toArray, splice_len _ _ _ (by rw [h4]; show _ ≤ (splice cur.toList (i * 4) (us.drop ((i + 1) * 4))).length; rw [hL, h2]; omega)]
      show (splice cur.toList (i * 4) (us.drop ((i + 1) * 4))).length = _
      rw [hL, h2]
    · exact Hdl.out
    · exact (Hmd.out.trans Hg1.out).trans hg2

theorem Del1_calls {w : World} {B : Nat} {v : Value} {ms : List Msg} (h : Mo w B v ms) {i : Nat} (hi : i < ms.length) :
    Calls Try.prog 30 #[v, .int .i64 (i : Int), .int .i64 ((i : Int) + 1)] w fun e w' => ∃ v', e = .returned v' ∧ Mo w' B v' (ms.eraseIdx i) ∧ w.grownBy w' v.ownBlock ∧ v'.ownBlock = v.ownBlock := by
  obtain ⟨a, c, rfl, hrec, -⟩ := h.recs
  obtain ⟨g, o, rfl⟩ := hrec.addr (by omega)
  obtain ⟨g', cap, cur, hv, hB, hg, hnc, hcm, hcs, ht⟩ := h.2.resolve_left fun h => by cases h.1
  cases hv
  refine (Delete_calls (us := msgF.row ms) h (msgF.row_one ms) hi).mono ?_
  rintro e w' ⟨rfl, h1, h2⟩
  have e1 : (msgF.row ms).take (i * 4) ++ (msgF.row ms).drop ((i + 1) * 4) = msgF.row (ms.eraseIdx i) := by
    have h1 := msgF.row_take ms i
    have h2 := msgF.row_drop ms (i + 1)
    rw [List.eraseIdx_eq_take_drop_succ, msgF.row_append, ← h1, ← h2]
    rfl
  have e2 : ms.length - 1 = (ms.eraseIdx i).length := by rw [List.length_eraseIdx, if_pos hi]
  rw [e1, e2] at h1
  exact ⟨_, rfl, by rw [e2]; exact h1, h2, rfl⟩
end Go.Proofs.Ytckahkpikjhkmaa
