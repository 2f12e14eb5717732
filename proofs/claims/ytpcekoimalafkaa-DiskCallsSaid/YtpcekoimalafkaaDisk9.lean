/- The laws' helper begin. -/
import Derived.Test.YtpcekoimalafkaaDisk8
namespace Go.Proofs.Ytpcekoimalafkaa
open Go.RowKit

def stepsOf (s : State) (xs : List CallV) : State := xs.foldl stepOf s
theorem stepOf_len (s : State) (x : CallV) : (stepOf s x).1.length = s.1.length ∧ (stepOf s x).2.length ≤ s.2.length + 1 := by
  unfold stepOf
  split
  · refine ⟨rfl, ?_⟩
    unfold written
    split <;> simp
  · split
    · exact ⟨settled_len _ _, by simp⟩
    · split
      · refine ⟨?_, by simp⟩
        simp only [crashed]
        split
        · exact settled_len _ _
        · unfold torn; rw [List.length_set]; exact settled_len _ _
      · exact ⟨rfl, Nat.le_succ _⟩
theorem stepsOf_len (s : State) (xs : List CallV) : (stepsOf s xs).1.length = s.1.length ∧ (stepsOf s xs).2.length ≤ s.2.length + xs.length := by
  unfold stepsOf
  induction xs generalizing s with
  | nil => exact ⟨rfl, Nat.le_refl _⟩
  | cons x xs ih =>
    have h1 := stepOf_len s x
    have h2 := ih (stepOf s x)
    rw [List.foldl_cons]
    exact ⟨h2.1.trans h1.1, by rw [List.length_cons]; omega⟩
theorem stepsOf_snoc (s : State) (xs : List CallV) (x : CallV) : stepsOf s (xs ++ [x]) = stepOf (stepsOf s xs) x := by
  unfold stepsOf; rw [List.foldl_append]; rfl

theorem notGreat {xs : List CallV} (h : greatOf xs = false) : xs.length ≤ 80 ∧ ∀ x ∈ xs, x.dn ≤ 100 := by
  unfold greatOf at h
  rw [Bool.or_eq_false_iff, decide_eq_false_iff_not, List.any_eq_false] at h
  exact ⟨by omega, fun x hx => by have := h.2 x hx; simp at this; exact this⟩

theorem Try.sizeCall : (Try.prog.info? 34).map (·.size) = some 4 := by kernel_rfl

set_option maxHeartbeats 1000000 in
theorem begin_calls {w : World} {n : Nat} (h1 : 1 ≤ n) (h2 : n ≤ 512) {a : Option Addr} {m c : Nat} {xs : List CallV} (hr : CallRow w a m c xs) (hg : greatOf xs = false) :
    Calls Try.prog 27 #[.int .i64 n, .slice a m c] w fun e w' =>
      ∃ b gs gm cv, e = .returned (.pointer (some ⟨b, 0, none⟩)) ∧ DiskAt w' w.heap.size b gs gm cv (stepsOf (fresh n, []) xs).1 (stepsOf (fresh n, []) xs).2 ∧ Below w.heap.size w w' := by
  have hng := notGreat hg
  have hl := hr.len
  go_enter Try.func27, Try.ntmps27
  go_wp2_with fail
  refine (New_calls h1 h2).mono ?_
  rintro e w1 ⟨b, gs, gm, rfl, hd, hb1⟩
  have Hb1 := Lib.hid hb1; clear hb1
  have Hl := Lib.hid hl; clear hl
  go_wp2_with fail
  go_loopw [7] (fun i wr' => ∃ (j : Nat) (cv : Value), j ≤ m ∧ i = .int .i64 j ∧ DiskAt wr' w.heap.size b gs gm cv (stepsOf (fresh n, []) (xs.take j)).1 (stepsOf (fresh n, []) (xs.take j)).2 ∧ Below w.heap.size w wr') (fun i _ => m - (intOf i).toNat)
  case atStart => exact ⟨0, _, by omega, rfl, by simpa [stepsOf] using hd, Hb1.out⟩
  case round =>
    obtain ⟨j, cv, hj, rfl, hdj, hbj⟩ := hrel
    have Hbj := Lib.hid hbj; clear hbj
    by_cases hlt : j < m
    · obtain ⟨bx, ox, rfl, hc⟩ := (hr.keep Hbj.out).cell (by omega)
      have hjx : j < xs.length := by rw [Hl.out]; exact hlt
      have htk : xs.take (j + 1) = xs.take j ++ [xs[j]] := List.take_succ_eq_append_getElem hjx
      have hin : xs[j] ∈ xs := List.getElem_mem _
      have hcx := hc j hjx
      obtain ⟨x, hx⟩ : ∃ x, x = xs[j] := ⟨_, rfl⟩
      rw [← hx] at hcx htk hin
      clear hx hc
      have hok := (hr.keep Hbj.out).ok x hin
      have hdn := hng.2 x hin
      have hlen := (stepsOf_len (fresh n, []) (xs.take j)).2
      have hlj : (xs.take j).length = j := by rw [List.length_take]; omega
      rw [hlj, List.length_nil, Nat.zero_add] at hlen
      have hdo := do_calls hdj hok (by have := hng.1; omega) (by omega)
      have hcells : ∀ i v, x.cells[i]? = some v → wr.cell? ⟨bx, ox + j * 4 + i, none⟩ = some v := fun i v hv => by
        have hi : i < 4 := (List.getElem?_eq_some_iff.1 hv).1
        rw [Nat.add_assoc, hcx i hi]; exact hv
      have Hcells := Lib.hid hcells; clear hcells hcx
      have Htk := Lib.hid htk; clear htk
      have i1 : (0 : Int) ≤ (j : Int) := by omega
      have i2 : (j : Int) < (m : Int) := by omega
      go_wp2_with (with_reducible refine stop_load 34 ?_)
      refine unpark ?_
      refine wpList_load_cells rfl _ _ rfl bx (ox + j * 4) rfl x.cells Hcells.out 4 rfl _ Try.underlying34 rfl Try.sizeCall ?_
      go_wp2_with fail
      refine hdo.mono ?_
      rintro e w2 ⟨cv', rfl, hd2, m2, o2⟩
      rw [← stepsOf_snoc, ← Htk.out] at hd2
      have bel2 := m2.below Hbj.out Hbj.out.size fun k hk => (hdj.lt k hk).1
      have Hbel2 := Lib.hid bel2; clear bel2 m2 o2 hdo hdj
      have Hd2 := Lib.hid hd2; clear hd2
      go_wp2_with fail
      go_roundw
      case rel => exact ⟨j + 1, cv', by omega, by go_num, Hd2.out, Hbel2.out⟩
      case measure => simp [intOf]; omega
    · obtain rfl : j = m := by omega
      have hd' := hdj
      rw [List.take_of_length_le (by rw [Hl.out]; exact Nat.le_refl _)] at hd'
      have Hd := Lib.hid hd'; clear hd' hdj
      go_wp2
      go_ret
      exact ⟨b, gs, gm, cv, rfl, Hd.out, Hbj.out⟩
end Go.Proofs.Ytpcekoimalafkaa
