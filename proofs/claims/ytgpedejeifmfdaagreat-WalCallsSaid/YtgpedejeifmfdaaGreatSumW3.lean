/- Fits, Clone, Seal and Open. -/
import Derived.Test.YtgpedejeifmfdaaGreatSumW2
namespace Go.Proofs.YtgpedejeifmfdaaGreat
open Go.RowKit Go.Sort

set_option maxHeartbeats 400000 in
theorem Equal_calls {a1 a2 : Option Addr} {n1 n2 c1 c2 : Nat} {xs ys : List Int} {w : World} (hx : Ints w .u8 a1 n1 c1 xs) (hy : Ints w .u8 a2 n2 c2 ys) :
    Calls Tryz.prog 68 #[.slice a1 n1 c1, .slice a2 n2 c2] w fun e w' => e = .returned (.bool (decide (xs = ys))) ∧ w = w' := by
  have h1 := hx.string (P := Tryz.prog) 39 5 9 Tryz.underlying39 Tryz.underlying5 Tryz.underlying9
  have h2 := hy.string (P := Tryz.prog) 39 5 9 Tryz.underlying39 Tryz.underlying5 Tryz.underlying9
  have hb := strOfNums_beq hx.fit hy.fit
  generalize strOfNums xs = s1 at *
  generalize strOfNums ys = s2 at *
  obtain ⟨B, hB⟩ : ∃ B, B = decide (xs = ys) := ⟨_, rfl⟩
  rw [← hB] at hb ⊢
  clear hB
  have Hb := Lib.hid hb; clear hb
  go_enter Tryz.func68, Tryz.ntmps68
  go_wp2
  go_ret
  exact ⟨by rw [← Hb.out]; rfl, rfl⟩

theorem Equal_calls' {a1 a2 : Option Addr} {n1 n2 c1 c2 : Nat} {xs ys : List Int} {w : World} {r : Bool} (hx : Ints w .u8 a1 n1 c1 xs) (hy : Ints w .u8 a2 n2 c2 ys) (hr : decide (xs = ys) = r) :
    Calls Tryz.prog 68 #[.slice a1 n1 c1, .slice a2 n2 c2] w fun e w' => e = .returned (.bool r) ∧ w = w' :=
  (Equal_calls hx hy).mono fun e w' ⟨h, h'⟩ => ⟨by rw [h, hr], h'⟩

theorem crc_wf (xs : List Int) (h : ∀ z ∈ xs, (Lit.int .u8 z).wf = true) : (Lit.int .i64 ((crc 11994318 xs : Nat) : Int)).wf = true := by
  have := crc_lt (s := 11994318) (by decide) fun z hz => (wf_u8 (h z hz)).2
  exact WalkArith.wf_i64 (by omega)

/- Fits. -/
set_option maxHeartbeats 400000 in
theorem Fits_calls {a1 a2 : Option Addr} {n1 n2 c1 c2 : Nat} {xs ys : List Int} {w : World} {r : Bool} (hx : Ints w .u8 a1 n1 c1 xs) (hy : Ints w .u8 a2 n2 c2 ys)
    (hr : decide (three (crc 11994318 xs) = ys) = r) :
    Calls Tryz.prog 107 #[.slice a1 n1 c1, .slice a2 n2 c2] w fun e w' => e = .returned (.bool r) ∧ Below w.heap.size w w' := by
  have hwf := crc_wf xs hx.fit
  go_enter Tryz.func107, Tryz.ntmps107
  go_wp2_with fail
  refine (Sum_calls hx).mono ?_
  rintro e w' ⟨rfl, rfl⟩
  go_wp2_with fail
  refine (Three_calls hwf).mono ?_
  rintro e w1 ⟨v, rfl, hv, hb⟩
  obtain ⟨a, c, rfl, hi, _⟩ := hv.ints
  go_wp2_with fail
  refine (Equal_calls' hi (hy.keep hb) hr).mono ?_
  rintro e w2 ⟨rfl, rfl⟩
  go_wp2
  go_ret
  exact ⟨rfl, hb⟩

/- bytes.Clone of what is not nil. -/
set_option maxHeartbeats 400000 in
theorem Clone_calls {a : Addr} {n c : Nat} {xs : List Int} {w : World} (hx : Ints w .u8 (some a) n c xs) (hn : n ≤ 140737488355328) :
    Calls Tryz.prog 108 #[.slice (some a) n c] w fun e w' => ∃ v, e = .returned v ∧ Own w' w.heap.size 5 .u8 v xs ∧ v ≠ .slice none 0 0 ∧ Below w.heap.size w w' := by
  have h0 : Own (w.alloc (.cells #[] 5)) w.heap.size 5 .u8 (.slice (some ⟨w.heap.size, 0, none⟩) 0 0) [] :=
    ⟨World.ownsRow_made w #[] 0 (Nat.le_refl _) (by unfold maxLen; omega) rfl, fun _ h => by cases h⟩
  have hb0 : Below w.heap.size w (w.alloc (.cells #[] 5)) := (Below.refl _ _).alloc (Nat.le_refl _) _
  have hx0 := hx.alloc (.cells #[] 5)
  have Hb0 := Lib.hid hb0; clear hb0
  have hnil := @Lib.run_eql_slice_nil Tryz.prog
  go_enter Tryz.func108, Tryz.ntmps108
  go_wp2_with (at_builtin; refine wpList_append_ints _ rfl _ _ 39 rfl .u8 w.heap.size 5 (.int .u8 0) 1 Tryz.underlying39 Tryz.infoU8 rfl _ [] rfl h0 (some a) n c xs rfl hx0 (by simp; omega) (by decide) (by simp) ?_; intro v w' hown hg hne)
  go_wp2
  go_ret
  refine ⟨v, rfl, by simpa using hown, fun h => ?_, Hb0.out.grown hg (by simp) (fun k hk => ?_)⟩
  · cases hne h
  · exact (h0.block k hk).1

theorem SameBytes_to {a1 a2 : Option Addr} {n1 n2 c1 c2 : Nat} {xs ys : List Int} {w : World} {r : Bool} (hx : Ints w .u8 a1 n1 c1 xs) (hy : Ints w .u8 a2 n2 c2 ys) (he : decide (xs = ys) = r) :
    Calls Tryz.prog 25 #[.slice a1 n1 c1, .slice a2 n2 c2] w fun e w' => e = .returned (.bool r) ∧ ∃ n, w' = w.drewN n :=
  (SameBytes_calls hx hy).mono fun e w' ⟨h, h'⟩ => ⟨by rw [h, he], h'⟩

def sealed (xs : List Int) : List Int := xs ++ three (crc 11994318 xs)

theorem sealed_len (xs : List Int) : (sealed xs).length = xs.length + 3 := by simp [sealed, three]
/- Seal. -/
set_option maxHeartbeats 400000 in
theorem Seal_calls {a : Option Addr} {n c : Nat} {xs : List Int} {w : World} (hx : Ints w .u8 a n c xs) (hn : n ≤ 140737488355320) :
    Calls Tryz.prog 75 #[.slice a n c] w fun e w' => ∃ v, e = .returned v ∧ Own w' w.heap.size 5 .u8 v (sealed xs) ∧ Below w.heap.size w w' := by
  have hwf := crc_wf xs hx.fit
  have hlen := hx.len
  go_enter Tryz.func75, Tryz.ntmps75
  go_wp2_with fail
  refine (Sum_calls hx).mono ?_
  rintro e w' ⟨rfl, rfl⟩
  go_wp2_with fail
  refine (Three_calls hwf).mono ?_
  rintro e w1 ⟨v, rfl, hv, hb⟩
  obtain ⟨a', c', rfl, hi, _⟩ := hv.ints
  have hsz := hb.size
  have hL : Lists (w1.alloc (.cells #[.slice a n c, .slice a' (three (crc 11994318 xs)).length c'] 39)) .u8 w1.heap.size 2 [xs, three (crc 11994318 xs)] := by
    refine ⟨rfl, fun j hj => ?_⟩
    match j, hj with
    | 0, _ =>
      refine ⟨a, c, ?_, ?_⟩
      · rw [cell_of_row _ w1.heap.size 0 #[.slice a n c, .slice a' (three (crc 11994318 xs)).length c'] 39 (0, 0) (heap_alloc_new w1 _)]; simp [hlen]
      · simpa [hlen] using (hx.keep hb).alloc _
    | 1, _ =>
      refine ⟨a', c', ?_, ?_⟩
      · rw [cell_of_row _ w1.heap.size 1 #[.slice a n c, .slice a' (three (crc 11994318 xs)).length c'] 39 (0, 0) (heap_alloc_new w1 _)]; simp
      · simpa using hi.alloc _
  have hb2 : Below w.heap.size w (w1.alloc (.cells #[.slice a n c, .slice a' (three (crc 11994318 xs)).length c'] 39)) := hb.alloc hsz _
  have ht : total [xs, three (crc 11994318 xs)] ≤ 140737488355328 := by simp [total, three]; omega
  have HL := Lib.hid hL; clear hL
  have Hb2 := Lib.hid hb2; clear hb2 hi hv
  go_wp2_with fail
  refine (Concat_calls HL.out (by omega) ht).mono ?_
  rintro e w2 ⟨v, rfl, hv, hb3⟩
  go_wp2
  go_ret
  refine ⟨v, rfl, ?_, Hb2.out.trans (hb3.mono (by simp; omega))⟩
  have := hv.mono (B' := w.heap.size) (by simp; omega)
  simpa [sealed] using this

/- Seal of the reference. -/
set_option maxHeartbeats 400000 in
theorem SealRef_calls {a : Option Addr} {n c : Nat} {xs : List Int} {w : World} (hx : Ints w .u8 a n c xs) (hn : n ≤ 140737488355320) :
    Calls Tryz.prog 63 #[.slice a n c] w fun e w' => ∃ v, e = .returned v ∧ Own w' w.heap.size 5 .u8 v (sealed xs) ∧ Below w.heap.size w w' := by
  have hwf := crc_wf xs hx.fit
  have hlen := hx.len
  go_enter Tryz.func63, Tryz.ntmps63
  go_wp2_with fail
  refine (CopyBytes_calls hx (by omega)).mono ?_
  rintro e w1 ⟨v, rfl, hv, hne, hb⟩
  go_wp2_with fail
  refine (SumRef_calls (hx.keep hb)).mono ?_
  rintro e w1' ⟨rfl, rfl⟩
  go_wp2_with fail
  refine (ThreeRef_calls hwf).mono ?_
  rintro e w2 ⟨v2, rfl, hv2, hb2⟩
  obtain ⟨a', c', rfl, hi, _⟩ := hv2.ints
  have hsz := hb.size
  have hsz2 := hb2.size
  have hown := hv.below hb2
  have hb12 : Below w.heap.size w w2 := hb.trans (hb2.mono hsz)
  have hbase : w.heap.size ≤ w2.heap.size := by omega
  have hbnd : (xs.length + (three (crc 11994318 xs)).length) * 1 ≤ 140737488355328 := by simp [three]; omega
  clear hv hv2
  go_wp2_with (at_builtin; refine wpList_append_ints _ rfl _ _ 39 rfl .u8 w.heap.size 5 (.int .u8 0) 1 Tryz.underlying39 Tryz.infoU8 rfl v _ rfl hown a' _ c' _ rfl hi hbnd (by decide) hbase ?_; intro v' w' hown' hg hne')
  go_ret
  exact ⟨v', rfl, hown', hb12.grown hg hbase (fun k hk => (hown.block k hk).1)⟩

/-- What Open answers: the value is nil where it is not opened. -/
def opened (xs : List Int) : Bool := decide (3 ≤ xs.length) && decide (three (crc 11994318 (xs.take (xs.length - 3))) = xs.drop (xs.length - 3))

def Opens (w : World) (xs : List Int) (e : Ending) (w' : World) : Prop :=
  Below w.heap.size w w' ∧ ((opened xs = false ∧ e = .returned (.tuple #[.slice none 0 0, .bool false])) ∨
    (opened xs = true ∧ ∃ v, e = .returned (.tuple #[v, .bool true]) ∧ Own w' w.heap.size 5 .u8 v (xs.take (xs.length - 3))))

theorem opened_yes {xs : List Int} {n : Nat} (hl : xs.length = n) (h3 : 3 ≤ n) {r : Bool} (h : opened xs = r) :
    decide (three (crc 11994318 (xs.take (n - 3))) = xs.drop (n - 3)) = r := by
  unfold opened at h; rw [hl, decide_eq_true h3, Bool.true_and] at h; exact h

/- Open. -/
set_option maxHeartbeats 800000 in
theorem Open_calls {a : Option Addr} {n c : Nat} {xs : List Int} {w : World} (hx : Ints w .u8 a n c xs) (hn : n ≤ 140737488355328) :
    Calls Tryz.prog 86 #[.slice a n c] w (Opens w xs) := by
  have hl := hx.len
  have hm := hx.max
  have hle := hx.le
  by_cases h3 : 3 ≤ n
  · have hd : decide ((n : Int) - 3 < 0) = false := by simp; omega
    obtain ⟨b, o, rfl, _⟩ := hx.cell (by omega)
    have ht := hx.take (n - 3) (by omega)
    have hr := hx.dropAt (n - 3) (by omega)
    have hne : ¬ (c = n - 3) := by omega
    have e1 : ((n : Int) - 3).toNat = n - 3 := by omega
    cases hop : opened xs with
    | true =>
      have Hop' := Lib.hid (opened_yes hl h3 hop)
      have Hop := Lib.hid hop; clear hop
      have Hl := Lib.hid hl; clear hl
      go_enter Tryz.func86, Tryz.ntmps86
      go_wp2
      refine wp_region_quiet_below (by kernel_rfl) (by kernel_rfl) ?_
      repeat (any_goals (first | go_big_quiet_step ((go_at_call 107; exact Calls.regrown_of (Fits_calls (ht.keep (below_regrown _ _ _)) (hr.keep (below_regrown _ _ _)) Hop'.out))) | quiet_step ((go_at_call 107; exact Calls.regrown_of (Fits_calls (ht.keep (below_regrown _ _ _)) (hr.keep (below_regrown _ _ _)) Hop'.out)))))
      refine wpQuiet_nil ?_
      intro w1 hw1
      have hb1 : Below w.heap.size w w1 := by obtain ⟨p, rfl⟩ := hw1; exact below_regrown _ _ _
      clear hw1
      have hsz := hb1.size
      have ht1 := ht.keep hb1
      go_wp2_with (go_at_call 108; refine (Clone_calls ht1 (by omega)).mono ?_; rintro e w2 ⟨v, rfl, hv, hvn, hb2⟩)
      go_ret2
      refine ⟨hb1.trans (hb2.mono hsz), .inr ⟨Hop.out, v, rfl, ?_⟩⟩
      rw [Hl.out]
      exact hv.mono hsz
    | false =>
      have Hop' := Lib.hid (opened_yes hl h3 hop)
      have Hop := Lib.hid hop; clear hop
      have Hl := Lib.hid hl; clear hl
      go_enter Tryz.func86, Tryz.ntmps86
      go_wp2
      refine wp_region_quiet_below (by kernel_rfl) (by kernel_rfl) ?_
      repeat (any_goals (first | go_big_quiet_step ((go_at_call 107; exact Calls.regrown_of (Fits_calls (ht.keep (below_regrown _ _ _)) (hr.keep (below_regrown _ _ _)) Hop'.out))) | quiet_step ((go_at_call 107; exact Calls.regrown_of (Fits_calls (ht.keep (below_regrown _ _ _)) (hr.keep (below_regrown _ _ _)) Hop'.out)))))
      refine wpQuiet_nil ?_
      intro w1 hw1
      have hb1 : Below w.heap.size w w1 := by obtain ⟨p, rfl⟩ := hw1; exact below_regrown _ _ _
      clear hw1
      go_wp2
      go_ret2
      exact ⟨hb1, .inl ⟨Hop.out, rfl⟩⟩
  · have hd : decide ((n : Int) - 3 < 0) = true := by simp; omega
    have hop : opened xs = false := by unfold opened; rw [decide_eq_false (by omega)]; rfl
    have Hop := Lib.hid hop; clear hop
    go_enter Tryz.func86, Tryz.ntmps86
    go_wp2
    refine wp_region_quiet_below (by kernel_rfl) (by kernel_rfl) ?_
    repeat (any_goals (first | go_big_quiet_step (fail) | quiet_step (fail)))
    refine wpQuiet_nil ?_
    intro w1 hw1
    have hb1 : Below w.heap.size w w1 := by obtain ⟨p, rfl⟩ := hw1; exact below_regrown _ _ _
    clear hw1
    go_wp2
    go_ret2
    exact ⟨hb1, .inl ⟨Hop.out, rfl⟩⟩

theorem opened_sealed {xs : List Int} {n : Nat} (hl : xs.length = n) (h3 : 3 ≤ n) {r : Bool} (h : opened xs = r) :
    decide (sealed (xs.take (n - 3)) = xs) = r := by
  rw [← opened_yes hl h3 h]
  apply Bool.eq_iff_iff.2
  rw [decide_eq_true_iff, decide_eq_true_iff]
  unfold sealed
  have e : xs = xs.take (n - 3) ++ xs.drop (n - 3) := (List.take_append_drop _ _).symm
  constructor
  · intro h
    have h' : xs.take (n - 3) ++ three (crc 11994318 (xs.take (n - 3))) = xs.take (n - 3) ++ xs.drop (n - 3) := by rw [h]; exact e
    exact List.append_cancel_left h'
  · intro h
    rw [h]; exact e.symm

/- Open of the reference. -/
set_option maxHeartbeats 800000 in
theorem OpenRef_calls {a : Option Addr} {n c : Nat} {xs : List Int} {w : World} (hx : Ints w .u8 a n c xs) (hn : n ≤ 140737488355320) :
    Calls Tryz.prog 57 #[.slice a n c] w (Opens w xs) := by
  have hl := hx.len
  have hm := hx.max
  have hle := hx.le
  by_cases h3 : 3 ≤ n
  · have hd : decide ((n : Int) - 3 < 0) = false := by simp; omega
    obtain ⟨b, o, rfl, _⟩ := hx.cell (by omega)
    have ht := hx.take (n - 3) (by omega)
    have e1 : ((n : Int) - 3).toNat = n - 3 := by omega
    cases hop : opened xs with
    | true =>
      have hos := opened_sealed hl h3 hop
      have Hos := Lib.hid hos; clear hos
      have Hop := Lib.hid hop; clear hop
      have Hl := Lib.hid hl; clear hl
      go_enter Tryz.func57, Tryz.ntmps57
      go_wp2_with fail
      refine (SealRef_calls ht (by omega)).mono ?_
      rintro e w1 ⟨v, rfl, hv, hb1⟩
      obtain ⟨a', c', rfl, hi, _⟩ := hv.ints
      go_wp2_with fail
      refine (SameBytes_to hi (hx.keep hb1) Hos.out).mono ?_
      rintro e w1' ⟨rfl, nd, rfl⟩
      have hsz := hb1.size
      have ht1 := (ht.keep hb1).drewN nd
      have hb1' : Below w.heap.size w (w1.drewN nd) := below_drewN hb1 nd
      have Hb1 := Lib.hid hb1'; clear hb1' hi hv
      go_wp2_with (go_at_call 49; refine (CopyBytes_calls ht1 (by omega)).mono ?_; rintro e w2 ⟨v, rfl, hv, hvn, hb2⟩)
      go_ret2
      refine ⟨Hb1.out.trans (hb2.mono hsz), .inr ⟨Hop.out, v, rfl, ?_⟩⟩
      rw [Hl.out]
      exact hv.mono hsz
    | false =>
      have hos := opened_sealed hl h3 hop
      have Hos := Lib.hid hos; clear hos
      have Hop := Lib.hid hop; clear hop
      have Hl := Lib.hid hl; clear hl
      go_enter Tryz.func57, Tryz.ntmps57
      go_wp2_with fail
      refine (SealRef_calls ht (by omega)).mono ?_
      rintro e w1 ⟨v, rfl, hv, hb1⟩
      obtain ⟨a', c', rfl, hi, _⟩ := hv.ints
      go_wp2_with fail
      refine (SameBytes_to hi (hx.keep hb1) Hos.out).mono ?_
      rintro e w1' ⟨rfl, nd, rfl⟩
      have hb1' : Below w.heap.size w (w1.drewN nd) := below_drewN hb1 nd
      have Hb1 := Lib.hid hb1'; clear hb1' hi hv
      go_wp2
      go_ret2
      exact ⟨Hb1.out, .inl ⟨Hop.out, rfl⟩⟩
  · have hd : decide ((n : Int) - 3 < 0) = true := by simp; omega
    have hop : opened xs = false := by unfold opened; rw [decide_eq_false (by omega)]; rfl
    have Hop := Lib.hid hop; clear hop
    go_enter Tryz.func57, Tryz.ntmps57
    go_wp2
    go_ret2
    exact ⟨Below.refl _ _, .inl ⟨Hop.out, rfl⟩⟩
end Go.Proofs.YtgpedejeifmfdaaGreat
