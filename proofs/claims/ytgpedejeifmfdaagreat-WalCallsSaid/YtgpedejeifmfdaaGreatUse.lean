/- The shared helpers CopyBytes and SameBytes: what they return, for every slice of bytes. -/
import Derived.Test.YtgpedejeifmfdaaGreatBase
import Derived.Test.YtgpedejeifmfdaaGreatChecked
namespace Go.Proofs.YtgpedejeifmfdaaGreat
open Go.RowKit

theorem Tryz.infoU8 : (Tryz.prog.info? 5).map (fun i => (i.zero, i.size, i.bytes)) = some (some (.int .u8 0), 1, 1) := by kernel_rfl

theorem take_succ_iff (xs ys : List Int) (i : Nat) (h1 : i < xs.length) (h2 : xs.length = ys.length) :
    (xs.take (i+1) = ys.take (i+1)) ↔ (xs.take i = ys.take i ∧ xs.getD i 0 = ys.getD i 0) := by
  rw [List.take_succ_eq_append_getElem h1, List.take_succ_eq_append_getElem (by omega)]
  constructor
  · intro h
    have := List.append_inj h (by simp; omega)
    simp at this
    simp [List.getD, h1, show i < ys.length by omega, this]
  · rintro ⟨h, h'⟩
    simp [List.getD, h1, show i < ys.length by omega] at h'
    rw [h, h']

set_option maxHeartbeats 400000 in
theorem SameBytes_calls {a1 a2 : Option Addr} {n1 n2 c1 c2 : Nat} {xs ys : List Int} {w : World} (hx : Ints w .u8 a1 n1 c1 xs) (hy : Ints w .u8 a2 n2 c2 ys) :
    Calls Tryz.prog 25 #[.slice a1 n1 c1, .slice a2 n2 c2] w fun e w' => e = .returned (.bool (decide (xs = ys))) ∧ ∃ n, w' = w.drewN n := by
  have hl1 := hx.len
  have hl2 := hy.len
  have m1 := hx.max
  have m2 := hy.max
  have p1 := hx.le
  have p2 := hy.le
  by_cases hn : n1 = n2
  · subst hn
    have hne : ((n1 : Int) != (n1 : Int)) = false := by simp
    go_enter Tryz.func25, Tryz.ntmps25
    go_wp2
    go_loopw [5] (fun i wr => ∃ k : Nat, k ≤ n1 ∧ i = .int .i64 k ∧ xs.take k = ys.take k ∧ ∃ n, wr = w.drewN n) (fun i _ => n1 - (intOf i).toNat)
    case atStart => exact ⟨0, by omega, rfl, by simp, 0, rfl⟩
    case round =>
      obtain ⟨k, hk, rfl, htake, nd, rfl⟩ := hrel
      by_cases hlt : k < n1
      · obtain ⟨b1, o1, rfl, cx⟩ := hx.cell (by omega)
        obtain ⟨b2, o2, rfl, cy⟩ := hy.cell (by omega)
        have hts := take_succ_iff xs ys k (by omega) (by omega)
        have cx' := cx k hlt
        have cy' := cy k hlt
        obtain ⟨X, hX⟩ : ∃ X, X = xs.getD k 0 := ⟨_, rfl⟩
        obtain ⟨Y, hY⟩ : ∃ X, X = ys.getD k 0 := ⟨_, rfl⟩
        rw [← hX] at cx' hts
        rw [← hY] at cy' hts
        have HT := Lib.hid htake; clear htake
        have HS := Lib.hid hts; clear hts hX hY
        have Hl1 := Lib.hid hl1; clear hl1
        have Hl2 := Lib.hid hl2; clear hl2
        clear cx cy
        have i1 : (0 : Int) ≤ (k : Int) := by omega
        have i2 : (k : Int) < (n1 : Int) := by omega
        by_cases hXY : X = Y
        · have hb : (X != Y) = false := by simp [hXY]
          have Hxy := Lib.hid hXY; clear hXY
          go_wp2
          go_quiet (fail)
          go_wp2
          go_roundw
          case rel => exact ⟨k + 1, by omega, by go_num, HS.out.2 ⟨HT.out, Hxy.out⟩, _, rfl⟩
          case measure => simp [intOf]; omega
        · have hb : (X != Y) = true := by simp [hXY]
          have Hxy := Lib.hid hXY; clear hXY
          go_wp2
          go_quiet (fail)
          go_wp2
          go_ret
          refine ⟨?_, _, World.drewN_drewN _ _ _⟩
          have : decide (xs = ys) = false := by
            rw [decide_eq_false_iff_not]
            intro he
            exact Hxy.out (HS.out.1 (by rw [he])).2
          rw [this]; rfl
      · obtain rfl : k = n1 := by omega
        have HT := Lib.hid htake; clear htake
        have Hl1 := Lib.hid hl1; clear hl1
        have Hl2 := Lib.hid hl2; clear hl2
        go_wp2
        go_ret
        refine ⟨?_, _, rfl⟩
        have : decide (xs = ys) = true := by
          rw [decide_eq_true_iff]
          have h := HT.out
          rwa [List.take_of_length_le (by rw [Hl1.out]; omega), List.take_of_length_le (by rw [Hl2.out]; omega)] at h
        rw [this]; rfl
  · have hne : ((n1 : Int) != (n2 : Int)) = true := by simp; omega
    go_enter Tryz.func25, Tryz.ntmps25
    go_wp2
    go_ret
    refine ⟨?_, 0, rfl⟩
    have : decide (xs = ys) = false := by
      rw [decide_eq_false_iff_not]
      intro h; rw [h] at hl1; omega
    rw [this]; rfl

/-- SameBytes of what is the same. -/
theorem SameBytes_yes {a1 a2 : Option Addr} {n1 n2 c1 c2 : Nat} {xs ys : List Int} {w : World} (hx : Ints w .u8 a1 n1 c1 xs) (hy : Ints w .u8 a2 n2 c2 ys) (he : xs = ys) :
    Calls Tryz.prog 25 #[.slice a1 n1 c1, .slice a2 n2 c2] w fun e w' => e = .returned (.bool true) ∧ ∃ n, w' = w.drewN n :=
  (SameBytes_calls hx hy).mono fun e w' ⟨h, h'⟩ => ⟨by rw [h, decide_eq_true he], h'⟩

set_option maxHeartbeats 400000 in
theorem CopyBytes_calls {a : Option Addr} {n c : Nat} {xs : List Int} {w : World} (hx : Ints w .u8 a n c xs) (hn : n ≤ 140737488355328) :
    Calls Tryz.prog 49 #[.slice a n c] w fun e w' => ∃ v, e = .returned v ∧ Own w' w.heap.size 5 .u8 v xs ∧ v ≠ .slice none 0 0 ∧ Below w.heap.size w w' := by
  have h0 : Own (w.alloc (.cells #[] 5)) w.heap.size 5 .u8 (.slice (some ⟨w.heap.size, 0, none⟩) 0 0) [] :=
    ⟨World.ownsRow_made w #[] 0 (Nat.le_refl _) (by unfold maxLen; omega) rfl, fun _ h => by cases h⟩
  have hb0 : Below w.heap.size w (w.alloc (.cells #[] 5)) := (Below.refl _ _).alloc (Nat.le_refl _) _
  have hx0 := hx.alloc (.cells #[] 5)
  have Hb0 := Lib.hid hb0; clear hb0
  go_enter Tryz.func49, Tryz.ntmps49
  go_wp2_with (at_builtin; refine wpList_append_ints _ rfl _ _ 39 rfl .u8 w.heap.size 5 (.int .u8 0) 1 Tryz.underlying39 Tryz.infoU8 rfl _ [] rfl h0 a n c xs rfl hx0 (by simp; omega) (by decide) (by simp) ?_; intro v w' hown hg hne)
  go_wp2
  go_ret
  refine ⟨v, rfl, by simpa using hown, fun h => ?_, Hb0.out.grown hg (by simp) (fun k hk => ?_)⟩
  · cases hne h
  · exact (h0.block k hk).1
end Go.Proofs.YtgpedejeifmfdaaGreat
