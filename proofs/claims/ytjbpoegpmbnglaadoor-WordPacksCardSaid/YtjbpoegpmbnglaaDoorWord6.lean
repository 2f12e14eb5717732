/- Helpers of the laws; alive. -/
import Derived.Test.YtjbpoegpmbnglaaDoorWord5
import Derived.Test.YtjbpoegpmbnglaaDoorHeldB
namespace Go.Proofs.YtjbpoegpmbnglaaDoor
open Go.RowKit

theorem take_succ_iff (xs ys : List Int) (i : Nat) (h1 : i < xs.length) (h2 : xs.length = ys.length) :
    (xs.take (i+1) = ys.take (i+1)) ↔ (xs.take i = ys.take i ∧ xs.getD i 0 = ys.getD i 0) := by
  rw [List.take_succ_eq_append_getElem h1, List.take_succ_eq_append_getElem (by omega)]
  constructor
  · intro h
    have := List.append_inj h (by simp; omega)
    simp at this
    simp [List.getD, h1, show i < ys.length by omega, this]
  · rintro ⟨h, h'⟩
    simp [List.getD, h1, show i < ys.length by omega] at h'
    rw [h, h']

set_option maxHeartbeats 400000 in
theorem SameBytes_calls {a1 a2 : Option Addr} {n1 n2 c1 c2 : Nat} {xs ys : List Int} {w : World} (hx : Ints w .u8 a1 n1 c1 xs) (hy : Ints w .u8 a2 n2 c2 ys) :
    Calls Tryd.prog 34 #[.slice a1 n1 c1, .slice a2 n2 c2] w fun e w' => e = .returned (.bool (decide (xs = ys))) ∧ ∃ n, w' = w.drewN n := by
  have hl1 := hx.len
  have hl2 := hy.len
  have m1 := hx.max
  have m2 := hy.max
  have p1 := hx.le
  have p2 := hy.le
  by_cases hn : n1 = n2
  · subst hn
    have hne : ((n1 : Int) != (n1 : Int)) = false := by simp
    go_enter Tryd.func34, Tryd.ntmps34
    go_wp2
    go_loopw [5] (fun i wr => ∃ k : Nat, k ≤ n1 ∧ i = .int .i64 k ∧ xs.take k = ys.take k ∧ ∃ n, wr = w.drewN n) (fun i _ => n1 - (intOf i).toNat)
    case atStart => exact ⟨0, by omega, rfl, by simp, 0, rfl⟩
    case round =>
      obtain ⟨k, hk, rfl, htake, nd, rfl⟩ := hrel
      by_cases hlt : k < n1
      · obtain ⟨b1, o1, rfl, cx⟩ := hx.cell (by omega)
        obtain ⟨b2, o2, rfl, cy⟩ := hy.cell (by omega)
        have hts := take_succ_iff xs ys k (by omega) (by omega)
        have cx' := cx k hlt
        have cy' := cy k hlt
        obtain ⟨X, hX⟩ : ∃ X, X = xs.getD k 0 := ⟨_, rfl⟩
        obtain ⟨Y, hY⟩ : ∃ X, X = ys.getD k 0 := ⟨_, rfl⟩
        rw [← hX] at cx' hts
        rw [← hY] at cy' hts
        have HT := Lib.hid htake; clear htake
        have HS := Lib.hid hts; clear hts hX hY
        have Hl1 := Lib.hid hl1; clear hl1
        have Hl2 := Lib.hid hl2; clear hl2
        clear cx cy
        have i1 : (0 : Int) ≤ (k : Int) := by omega
        have i2 : (k : Int) < (n1 : Int) := by omega
        by_cases hXY : X = Y
        · have hb : (X != Y) = false := by simp [hXY]
          have Hxy := Lib.hid hXY; clear hXY
          go_wp2
          go_quiet (fail)
          go_wp2
          go_roundw
          case rel => exact ⟨k + 1, by omega, by go_num, HS.out.2 ⟨HT.out, Hxy.out⟩, _, rfl⟩
          case measure => simp [intOf]; omega
        · have hb : (X != Y) = true := by simp [hXY]
          have Hxy := Lib.hid hXY; clear hXY
          go_wp2
          go_quiet (fail)
          go_wp2
          go_ret
          refine ⟨?_, _, World.drewN_drewN _ _ _⟩
          have : decide (xs = ys) = false := by
            rw [decide_eq_false_iff_not]
            intro he
            exact Hxy.out (HS.out.1 (by rw [he])).2
          rw [this]; rfl
      · obtain rfl : k = n1 := by omega
        have HT := Lib.hid htake; clear htake
        have Hl1 := Lib.hid hl1; clear hl1
        have Hl2 := Lib.hid hl2; clear hl2
        go_wp2
        go_ret
        refine ⟨?_, _, rfl⟩
        have : decide (xs = ys) = true := by
          rw [decide_eq_true_iff]
          have h := HT.out
          rwa [List.take_of_length_le (by rw [Hl1.out]; omega), List.take_of_length_le (by rw [Hl2.out]; omega)] at h
        rw [this]; rfl
  · have hne : ((n1 : Int) != (n2 : Int)) = true := by simp; omega
    go_enter Tryd.func34, Tryd.ntmps34
    go_wp2
    go_ret
    refine ⟨?_, 0, rfl⟩
    have : decide (xs = ys) = false := by
      rw [decide_eq_false_iff_not]
      intro h; rw [h] at hl1; omega
    rw [this]; rfl

/-- SameBytes of what is the same. -/
theorem SameBytes_yes {a1 a2 : Option Addr} {n1 n2 c1 c2 : Nat} {xs ys : List Int} {w : World} (hx : Ints w .u8 a1 n1 c1 xs) (hy : Ints w .u8 a2 n2 c2 ys) (he : xs = ys) :
    Calls Tryd.prog 34 #[.slice a1 n1 c1, .slice a2 n2 c2] w fun e w' => e = .returned (.bool true) ∧ ∃ n, w' = w.drewN n :=
  (SameBytes_calls hx hy).mono fun e w' ⟨h, h'⟩ => ⟨by rw [h, decide_eq_true he], h'⟩

set_option maxHeartbeats 1000000 in
theorem SameInts_calls {a1 a2 : Option Addr} {n1 n2 c1 c2 : Nat} {xs ys : List Int} {w : World} (hx : Ints w .i64 a1 n1 c1 xs) (hy : Ints w .i64 a2 n2 c2 ys) (he : xs = ys) :
    Calls Tryd.prog 33 #[.slice a1 n1 c1, .slice a2 n2 c2] w fun e w' => e = .returned (.bool true) ∧ ∃ n, w' = w.drewN n := by
  subst he
  have hl1 := hx.len
  have hl2 := hy.len
  have m1 := hx.max
  have m2 := hy.max
  have p1 := hx.le
  have p2 := hy.le
  obtain rfl : n1 = n2 := by omega
  have hne : ((n1 : Int) != (n1 : Int)) = false := by simp
  have Hl1 := Lib.hid hl1; clear hl1
  have Hl2 := Lib.hid hl2; clear hl2
  go_enter Tryd.func33, Tryd.ntmps33
  go_wp2_with fail
  go_loopw [5] (fun i wr => ∃ k : Nat, k ≤ n1 ∧ i = .int .i64 k ∧ ∃ n, wr = w.drewN n) (fun i _ => n1 - (intOf i).toNat)
  case atStart => exact ⟨0, by omega, rfl, 0, rfl⟩
  case round =>
    obtain ⟨k, hk, rfl, nd, rfl⟩ := hrel
    by_cases hlt : k < n1
    · obtain ⟨b1, o1, rfl, cx⟩ := hx.cell (by omega)
      obtain ⟨b2, o2, rfl, cy⟩ := hy.cell (by omega)
      have hcx := cx k hlt
      have hcy := cy k hlt
      generalize xs.getD k 0 = z at hcx hcy
      have hq : (z != z) = false := by simp
      have i1 : (0 : Int) ≤ (k : Int) := by omega
      have i2 : (k : Int) < (n1 : Int) := by omega
      clear cx cy
      go_wp2_with fail
      go_quiet (fail)
      go_wp2_with fail
      go_roundw
      case rel => exact ⟨k + 1, by omega, by go_num, _, rfl⟩
      case measure => simp [intOf]; omega
    · obtain rfl : k = n1 := by omega
      go_wp2
      go_ret
      exact ⟨rfl, _, rfl⟩

theorem CopyInts_calls {w : World} {a : Option Addr} {n c : Nat} {xs : List Int} (hx : Ints w .i64 a n c xs) (hn : n ≤ 1000) : Calls Tryd.prog 26 #[.slice a n c] w fun e w' => ∃ v, e = .returned v ∧ Own w' w.heap.size 3 .i64 v xs ∧ Below w.heap.size w w' := by
  have b0 : Below w.heap.size w (w.alloc (.cells #[] 3)) := (Below.refl _ _).alloc (Nat.le_refl _) _
  have own0 : Own (w.alloc (.cells #[] 3)) w.heap.size 3 .i64 (.slice (some ⟨w.heap.size, 0, none⟩) 0 0) [] := ⟨World.ownsRow_made w #[] 0 (Nat.le_refl _) (by unfold maxLen; omega) rfl, fun z hz => by cases hz⟩
  have hx0 := hx.keep b0
  have hl := hx.len
  have Hx0 := Lib.hid hx0; clear hx0 hx
  have Hb0 := Lib.hid b0; clear b0
  have Hl := Lib.hid hl; clear hl
  go_enter Tryd.func26, Tryd.ntmps26
  go_wp2_with (with_reducible refine stop_builtin .append ?_)
  refine unpark ?_
  refine wpList_append_ints _ rfl _ _ 30 rfl .i64 w.heap.size 3 (.int .i64 0) 8 Tryd.underlying30 Tryd.infoInt rfl _ [] rfl own0 a n c xs rfl Hx0.out (by simp; omega) (by decide) Hb0.out.size ?_
  intro v' w' own' g' _
  rw [List.nil_append] at own'
  have hf := Hb0.out.grown g' Hb0.out.size (fun k hk => (own0.block k hk).1)
  have Ho := Lib.hid own'; clear own'
  have Hf := Lib.hid hf; clear hf g' own0
  go_wp2
  go_ret
  exact ⟨v', rfl, Ho.out, Hf.out⟩

/-- A row of two numbers that a law lays. -/
theorem ints_pair (w : World) (k : IntKind) (E : TypeId) (x y : Int) (h1 : (Lit.int k x).wf = true) (h2 : (Lit.int k y).wf = true) : Ints (w.alloc (.cells #[.int k x, .int k y] E)) k (some ⟨w.heap.size, 0, none⟩) 2 2 [x, y] := by
  have hc := heap_alloc_new w (.cells #[.int k x, .int k y] E)
  refine Ints.of rfl (Nat.le_refl _) (by decide) (fun z hz => ?_) fun j hj => ?_
  · simp at hz
    rcases hz with rfl | rfl
    · exact h1
    · exact h2
  · have := cells_at hc j
    rw [Nat.zero_add, this]
    match j, hj with
    | 0, _ => rfl
    | 1, _ => rfl
set_option maxHeartbeats 4000000 in
theorem alive_calls {w : World} (hT : TabOk w) : Calls Tryd.prog 11 #[] w fun e w' => e = .returned (.bool true) ∧ Below w.heap.size w w' := by
  have HT := Lib.hid hT; clear hT
  go_enter Tryd.func11, Tryd.ntmps11
  go_wp2_with fail
  have i1 := ints_pair w .i64 3 3 5 rfl rfl
  have b1 : Below w.heap.size w (w.alloc (.cells #[.int .i64 3, .int .i64 5] 3)) := (Below.refl _ _).alloc (Nat.le_refl _) _
  have s1 : (w.alloc (.cells #[.int .i64 3, .int .i64 5] 3)).heap.size = w.heap.size + 1 := by simp
  generalize w.alloc (.cells #[.int .i64 3, .int .i64 5] 3) = w1 at i1 b1 s1 ⊢
  have i2 := ints_pair w1 .i64 3 5 2 rfl rfl
  have b2 : Below w1.heap.size w1 (w1.alloc (.cells #[.int .i64 5, .int .i64 2] 3)) := (Below.refl _ _).alloc (Nat.le_refl _) _
  rw [s1] at i2
  generalize w1.alloc (.cells #[.int .i64 5, .int .i64 2] 3) = w2 at i2 b2 ⊢
  have hc := Pack_calls (i1.keep b2) i2 (by decide) (by decide)
  have hp : packS [3, 5] [5, 2] = (21, true) := by decide
  rw [hp] at hc
  have Hb := Lib.hid (b1.trans (b2.mono b1.size)); clear b1 b2 i1 i2 s1 hp
  have Hc := Lib.hid hc; clear hc
  refine Hc.out.mono ?_
  rintro e w3 ⟨rfl, b3⟩
  have hb := Hb.out.trans (b3.mono Hb.out.size)
  clear Hb Hc b3
  have Hb := Lib.hid hb; clear hb
  go_wp2_with fail
  have i1 := ints_pair w3 .i64 3 3 5 rfl rfl
  have b1 : Below w3.heap.size w3 (w3.alloc (.cells #[.int .i64 3, .int .i64 5] 3)) := (Below.refl _ _).alloc (Nat.le_refl _) _
  generalize w3.alloc (.cells #[.int .i64 3, .int .i64 5] 3) = w4 at i1 b1 ⊢
  have hc := Unpack_calls i1 (by decide) (u := 21) (by decide) (by decide)
  have hp : restU [3, 5] 21 = 0 := by decide
  have ho : outZ [3, 5] 21 = [5, 2] := by decide
  rw [hp, if_pos rfl, decide_eq_true rfl, ho] at hc
  have Hb2 := Lib.hid (Hb.out.trans (b1.mono Hb.out.size)); clear Hb i1 b1 hp ho
  have Hc := Lib.hid hc; clear hc
  refine Hc.out.mono ?_
  rintro e w5 ⟨v, rfl, ov, b5⟩
  obtain ⟨va, vc, rfl, iv, -⟩ := ov.ints
  have hb := Hb2.out.trans (b5.mono Hb2.out.size)
  clear Hb2 Hc b5 ov
  have Hb := Lib.hid hb; clear hb
  have Hiv := Lib.hid iv; clear iv
  simp only [List.length_cons, List.length_nil, Nat.zero_add, Nat.reduceAdd] at Hiv ⊢
  go_wp2_with fail
  have i1 := ints_pair w5 .u8 5 1 2 rfl rfl
  have b1 : Below w5.heap.size w5 (w5.alloc (.cells #[.int .u8 1, .int .u8 2] 5)) := (Below.refl _ _).alloc (Nat.le_refl _) _
  generalize w5.alloc (.cells #[.int .u8 1, .int .u8 2] 5) = w6 at i1 b1 ⊢
  have hc := From_calls i1 (by decide)
  have hp : fromZ [1, 2] = 513 := by decide
  rw [hp] at hc
  have Hc := Lib.hid hc; clear hc
  refine Hc.out.mono ?_
  rintro e w7 ⟨rfl, b7⟩
  have hb := Hb.out.trans ((b1.trans (b7.mono b1.size)).mono Hb.out.size)
  have hiv := (Hiv.out.keep b1).keep b7
  clear Hb Hc b7 b1 i1 Hiv hp
  have Hb := Lib.hid hb; clear hb
  have Hiv := Lib.hid hiv; clear hiv
  go_wp2_with fail
  have i1 := ints_pair w7 .i64 3 5 2 rfl rfl
  have b1 : Below w7.heap.size w7 (w7.alloc (.cells #[.int .i64 5, .int .i64 2] 3)) := (Below.refl _ _).alloc (Nat.le_refl _) _
  generalize w7.alloc (.cells #[.int .i64 5, .int .i64 2] 3) = w8 at i1 b1 ⊢
  have hc := SameInts_calls (Hiv.out.keep b1) i1 rfl
  have Hb2 := Lib.hid (Hb.out.trans (b1.mono Hb.out.size)); clear Hb b1 i1 Hiv
  have Hc := Lib.hid hc; clear hc
  refine Hc.out.mono ?_
  rintro e w9 ⟨rfl, nd, hw9⟩
  have hb := Hb2.out.trans ((below_drawn w8 nd).mono Hb2.out.size)
  rw [← hw9] at hb
  clear hw9 Hc Hb2
  have Hb := Lib.hid hb; clear hb
  have e1 : cutS 200 8 = -56 := by decide
  have e2 : fitsS (-128) 8 = true := by decide
  have e3 : fitsS 128 8 = false := by decide
  have e4 : turnS 1 (-1) = 9223372036854775808 := by decide +kernel
  have e5 : zigS (-2) = 3 := by decide
  have e6 : zagS ((4 : Nat) : Int) = 2 := by decide
  have e7 : pop 7 = 3 := by decide +kernel
  have e8 : lowS 8 = 3 := by decide +kernel
  have c1 := fun w : World => Cut_calls (w := w) 200 8
  rw [e1] at c1
  have c2 := fun w : World => Fits_calls (w := w) (-128) 8
  rw [e2] at c2
  have c3 := fun w : World => Fits_calls (w := w) 128 8
  rw [e3] at c3
  have c4 := fun w : World => Turn_calls (w := w) (u := 1) (by decide) (-1)
  rw [e4] at c4
  have c5 := fun w : World => Zig_calls (w := w) (n := -2) (by decide) (by decide)
  rw [e5] at c5
  have c6 := fun w : World => Zag_calls (w := w) (u := 4) (by decide)
  rw [e6] at c6
  have c7 := fun w : World => Count_calls (w := w) (u := 7) (by decide)
  rw [e7] at c7
  have c8 := fun w' (hb : Below w.heap.size w w') => Low_calls (HT.out.below hb) (u := 8) (by decide)
  rw [e8] at c8
  have C1 := Lib.hid c1; clear c1 e1
  have C2 := Lib.hid c2; clear c2 e2
  have C3 := Lib.hid c3; clear c3 e3
  have C4 := Lib.hid c4; clear c4 e4
  have C5 := Lib.hid c5; clear c5 e5
  have C6 := Lib.hid c6; clear c6 e6
  have C7 := Lib.hid c7; clear c7 e7
  have C8 := Lib.hid c8; clear c8 e8
  go_wp2_with fail
  refine (C1.out _).mono ?_
  rintro e wx ⟨rfl, hwx⟩
  obtain rfl := hwx.symm
  go_wp2_with fail
  refine (C2.out _).mono ?_
  rintro e wx ⟨rfl, hwx⟩
  obtain rfl := hwx.symm
  go_wp2_with fail
  refine (C3.out _).mono ?_
  rintro e wx ⟨rfl, hwx⟩
  obtain rfl := hwx.symm
  go_wp2_with fail
  refine (C4.out _).mono ?_
  rintro e wx ⟨rfl, hwx⟩
  obtain rfl := hwx.symm
  go_wp2_with fail
  refine (C5.out _).mono ?_
  rintro e wx ⟨rfl, hwx⟩
  obtain rfl := hwx.symm
  go_wp2_with fail
  refine (C6.out _).mono ?_
  rintro e wx ⟨rfl, hwx⟩
  obtain rfl := hwx.symm
  go_wp2_with fail
  refine (C7.out _).mono ?_
  rintro e wx ⟨rfl, hwx⟩
  obtain rfl := hwx.symm
  go_wp2_with fail
  refine (C8.out _ Hb.out).mono ?_
  rintro e wx ⟨rfl, hwx⟩
  obtain rfl := hwx.symm
  go_wp2_with fail
  refine (Bytes_calls (u := 513) (n := 2) (by decide) (by decide) (by decide)).mono ?_
  rintro e wA ⟨v, rfl, ov, bA⟩
  have hz : bytesZ 2 513 = [1, 2] := by decide
  rw [hz] at ov
  obtain ⟨va, vc, rfl, iv, -⟩ := ov.ints
  have hb := Hb.out.trans (bA.mono Hb.out.size)
  clear Hb bA ov hz
  have Hb := Lib.hid hb; clear hb
  have Hiv := Lib.hid iv; clear iv
  simp only [List.length_cons, List.length_nil, Nat.zero_add, Nat.reduceAdd] at Hiv ⊢
  go_wp2_with fail
  have i1 := ints_pair wA .u8 5 1 2 rfl rfl
  have b1 : Below wA.heap.size wA (wA.alloc (.cells #[.int .u8 1, .int .u8 2] 5)) := (Below.refl _ _).alloc (Nat.le_refl _) _
  generalize wA.alloc (.cells #[.int .u8 1, .int .u8 2] 5) = wB at i1 b1 ⊢
  have hc := SameBytes_yes (Hiv.out.keep b1) i1 rfl
  have Hb2 := Lib.hid (Hb.out.trans (b1.mono Hb.out.size)); clear Hb b1 i1 Hiv
  have Hc := Lib.hid hc; clear hc
  refine Hc.out.mono ?_
  rintro e wC ⟨rfl, nd, hw9⟩
  have hb := Hb2.out.trans ((below_drawn wB nd).mono Hb2.out.size)
  rw [← hw9] at hb
  clear hw9 Hc Hb2
  have Hb := Lib.hid hb; clear hb
  go_wp2
  go_ret
  exact ⟨rfl, Hb.out⟩
end Go.Proofs.YtjbpoegpmbnglaaDoor
