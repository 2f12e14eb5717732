/- Fits, Clone, Seal and Open. -/
import Derived.Test.YtgpedejeifmfdaaSumW2
namespace Go.Proofs.Ytgpedejeifmfdaa
open Go.RowKit Go.Sort

set_option maxHeartbeats 400000 in
theorem Equal_calls {a1 a2 : Option Addr} {n1 n2 c1 c2 : Nat} {xs ys : List Int} {w : World} (hx : Ints w .u8 a1 n1 c1 xs) (hy : Ints w .u8 a2 n2 c2 ys) :
    Calls Try.prog 46 #[.slice a1 n1 c1, .slice a2 n2 c2] w fun e w' => e = .returned (.bool (decide (xs = ys))) ∧ w = w' := by
  have h1 := hx.string (P := Try.prog) 52 5 9 Try.underlying52 Try.underlying5 Try.underlying9
  have h2 := hy.string (P := Try.prog) 52 5 9 Try.underlying52 Try.underlying5 Try.underlying9
  have hb := strOfNums_beq hx.fit hy.fit
  generalize strOfNums xs = s1 at *
  generalize strOfNums ys = s2 at *
  obtain ⟨B, hB⟩ : ∃ B, B = decide (xs = ys) := ⟨_, rfl⟩
  rw [← hB] at hb ⊢
  clear hB
  have Hb := Lib.hid hb; clear hb
  go_enter Try.func46, Try.ntmps46
  go_wp2
  go_ret
  exact ⟨by rw [← Hb.out]; rfl, rfl⟩

theorem Equal_calls' {a1 a2 : Option Addr} {n1 n2 c1 c2 : Nat} {xs ys : List Int} {w : World} {r : Bool} (hx : Ints w .u8 a1 n1 c1 xs) (hy : Ints w .u8 a2 n2 c2 ys) (hr : decide (xs = ys) = r) :
    Calls Try.prog 46 #[.slice a1 n1 c1, .slice a2 n2 c2] w fun e w' => e = .returned (.bool r) ∧ w = w' :=
  (Equal_calls hx hy).mono fun e w' ⟨h, h'⟩ => ⟨by rw [h, hr], h'⟩

theorem crc_wf (xs : List Int) (h : ∀ z ∈ xs, (Lit.int .u8 z).wf = true) : (Lit.int .i64 ((crc 11994318 xs : Nat) : Int)).wf = true := by
  have := crc_lt (s := 11994318) (by decide) fun z hz => (wf_u8 (h z hz)).2
  exact WalkArith.wf_i64 (by omega)

/- Fits. -/
set_option maxHeartbeats 400000 in
theorem Fits_calls {a1 a2 : Option Addr} {n1 n2 c1 c2 : Nat} {xs ys : List Int} {w : World} {r : Bool} (hx : Ints w .u8 a1 n1 c1 xs) (hy : Ints w .u8 a2 n2 c2 ys)
    (hr : decide (three (crc 11994318 xs) = ys) = r) :
    Calls Try.prog 75 #[.slice a1 n1 c1, .slice a2 n2 c2] w fun e w' => e = .returned (.bool r) ∧ Below w.heap.size w w' := by
  have hwf := crc_wf xs hx.fit
  go_enter Try.func75, Try.ntmps75
  go_wp2_with fail
  refine (Sum_calls hx).mono ?_
  rintro e w' ⟨rfl, rfl⟩
  go_wp2_with fail
  refine (Three_calls hwf).mono ?_
  rintro e w1 ⟨v, rfl, hv, hb⟩
  obtain ⟨a, c, rfl, hi, _⟩ := hv.ints
  go_wp2_with fail
  refine (Equal_calls' hi (hy.keep hb) hr).mono ?_
  rintro e w2 ⟨rfl, rfl⟩
  go_wp2
  go_ret
  exact ⟨rfl, hb⟩

/- bytes.Clone of what is not nil. -/
set_option maxHeartbeats 400000 in
theorem Clone_calls {a : Addr} {n c : Nat} {xs : List Int} {w : World} (hx : Ints w .u8 (some a) n c xs) (hn : n ≤ 140737488355328) :
    Calls Try.prog 76 #[.slice (some a) n c] w fun e w' => ∃ v, e = .returned v ∧ Own w' w.heap.size 5 .u8 v xs ∧ v ≠ .slice none 0 0 ∧ Below w.heap.size w w' := by
  have h0 : Own (w.alloc (.cells #[] 5)) w.heap.size 5 .u8 (.slice (some ⟨w.heap.size, 0, none⟩) 0 0) [] :=
    ⟨World.ownsRow_made w #[] 0 (Nat.le_refl _) (by unfold maxLen; omega) rfl, fun _ h => by cases h⟩
  have hb0 : Below w.heap.size w (w.alloc (.cells #[] 5)) := (Below.refl _ _).alloc (Nat.le_refl _) _
  have hx0 := hx.alloc (.cells #[] 5)
  have Hb0 := Lib.hid hb0; clear hb0
  have hnil := @Lib.run_eql_slice_nil Try.prog
  go_enter Try.func76, Try.ntmps76
  go_wp2_with (at_builtin; refine wpList_append_ints _ rfl _ _ 52 rfl .u8 w.heap.size 5 (.int .u8 0) 1 Try.underlying52 Try.infoU8 rfl _ [] rfl h0 (some a) n c xs rfl hx0 (by simp; omega) (by decide) (by simp) ?_; intro v w' hown hg hne)
  go_wp2
  go_ret
  refine ⟨v, rfl, by simpa using hown, fun h => ?_, Hb0.out.grown hg (by simp) (fun k hk => ?_)⟩
  · cases hne h
  · exact (h0.block k hk).1


def sealed (xs : List Int) : List Int := xs ++ three (crc 11994318 xs)

theorem sealed_len (xs : List Int) : (sealed xs).length = xs.length + 3 := by simp [sealed, three]
theorem sealed_fit {xs : List Int} (h : ∀ z ∈ xs, (Lit.int .u8 z).wf = true) : ∀ z ∈ sealed xs, (Lit.int .u8 z).wf = true := by
  intro z hz
  rcases List.mem_append.1 hz with hz | hz
  · exact h z hz
  · have := three_fit _ z hz; exact WalkArith.wf_u8 (by omega)

/- Seal. -/
set_option maxHeartbeats 400000 in
theorem Seal_calls {a : Option Addr} {n c : Nat} {xs : List Int} {w : World} (hx : Ints w .u8 a n c xs) (hn : n ≤ 140737488355320) :
    Calls Try.prog 50 #[.slice a n c] w fun e w' => ∃ v, e = .returned v ∧ Own w' w.heap.size 5 .u8 v (sealed xs) ∧ Below w.heap.size w w' := by
  have hwf := crc_wf xs hx.fit
  have hlen := hx.len
  go_enter Try.func50, Try.ntmps50
  go_wp2_with fail
  refine (Sum_calls hx).mono ?_
  rintro e w' ⟨rfl, rfl⟩
  go_wp2_with fail
  refine (Three_calls hwf).mono ?_
  rintro e w1 ⟨v, rfl, hv, hb⟩
  obtain ⟨a', c', rfl, hi, _⟩ := hv.ints
  have hsz := hb.size
  have hL : Lists (w1.alloc (.cells #[.slice a n c, .slice a' (three (crc 11994318 xs)).length c'] 52)) .u8 w1.heap.size 2 [xs, three (crc 11994318 xs)] := by
    refine ⟨rfl, fun j hj => ?_⟩
    match j, hj with
    | 0, _ =>
      refine ⟨a, c, ?_, ?_⟩
      · rw [cell_of_row _ w1.heap.size 0 #[.slice a n c, .slice a' (three (crc 11994318 xs)).length c'] 52 (0, 0) (heap_alloc_new w1 _)]; simp [hlen]
      · simpa [hlen] using (hx.keep hb).alloc _
    | 1, _ =>
      refine ⟨a', c', ?_, ?_⟩
      · rw [cell_of_row _ w1.heap.size 1 #[.slice a n c, .slice a' (three (crc 11994318 xs)).length c'] 52 (0, 0) (heap_alloc_new w1 _)]; simp
      · simpa using hi.alloc _
  have hb2 : Below w.heap.size w (w1.alloc (.cells #[.slice a n c, .slice a' (three (crc 11994318 xs)).length c'] 52)) := hb.alloc hsz _
  have ht : total [xs, three (crc 11994318 xs)] ≤ 140737488355328 := by simp [total, three]; omega
  have HL := Lib.hid hL; clear hL
  have Hb2 := Lib.hid hb2; clear hb2 hi hv
  go_wp2_with fail
  refine (Concat_calls HL.out (by omega) ht).mono ?_
  rintro e w2 ⟨v, rfl, hv, hb3⟩
  go_wp2
  go_ret
  refine ⟨v, rfl, ?_, Hb2.out.trans (hb3.mono (by simp; omega))⟩
  have := hv.mono (B' := w.heap.size) (by simp; omega)
  simpa [sealed] using this

/- Seal of the reference. -/

/-- What Open answers: the value is nil where it is not opened. -/
def opened (xs : List Int) : Bool := decide (3 ≤ xs.length) && decide (three (crc 11994318 (xs.take (xs.length - 3))) = xs.drop (xs.length - 3))

def Opens (w : World) (xs : List Int) (e : Ending) (w' : World) : Prop :=
  Below w.heap.size w w' ∧ ((opened xs = false ∧ e = .returned (.tuple #[.slice none 0 0, .bool false])) ∨
    (opened xs = true ∧ ∃ v, e = .returned (.tuple #[v, .bool true]) ∧ Own w' w.heap.size 5 .u8 v (xs.take (xs.length - 3))))

theorem opened_yes {xs : List Int} {n : Nat} (hl : xs.length = n) (h3 : 3 ≤ n) {r : Bool} (h : opened xs = r) :
    decide (three (crc 11994318 (xs.take (n - 3))) = xs.drop (n - 3)) = r := by
  unfold opened at h; rw [hl, decide_eq_true h3, Bool.true_and] at h; exact h

/- Open. -/
set_option maxHeartbeats 800000 in
theorem Open_calls {a : Option Addr} {n c : Nat} {xs : List Int} {w : World} (hx : Ints w .u8 a n c xs) (hn : n ≤ 140737488355328) :
    Calls Try.prog 59 #[.slice a n c] w (Opens w xs) := by
  have hl := hx.len
  have hm := hx.max
  have hle := hx.le
  by_cases h3 : 3 ≤ n
  · have hd : decide ((n : Int) - 3 < 0) = false := by simp; omega
    obtain ⟨b, o, rfl, _⟩ := hx.cell (by omega)
    have ht := hx.take (n - 3) (by omega)
    have hr := hx.dropAt (n - 3) (by omega)
    have hne : ¬ (c = n - 3) := by omega
    have e1 : ((n : Int) - 3).toNat = n - 3 := by omega
    cases hop : opened xs with
    | true =>
      have Hop' := Lib.hid (opened_yes hl h3 hop)
      have Hop := Lib.hid hop; clear hop
      have Hl := Lib.hid hl; clear hl
      go_enter Try.func59, Try.ntmps59
      go_wp2
      refine wp_region_quiet_below (by kernel_rfl) (by kernel_rfl) ?_
      repeat (any_goals (first | go_big_quiet_step ((go_at_call 75; exact Calls.regrown_of (Fits_calls (ht.keep (below_regrown _ _ _)) (hr.keep (below_regrown _ _ _)) Hop'.out))) | quiet_step ((go_at_call 75; exact Calls.regrown_of (Fits_calls (ht.keep (below_regrown _ _ _)) (hr.keep (below_regrown _ _ _)) Hop'.out)))))
      refine wpQuiet_nil ?_
      intro w1 hw1
      have hb1 : Below w.heap.size w w1 := by obtain ⟨p, rfl⟩ := hw1; exact below_regrown _ _ _
      clear hw1
      have hsz := hb1.size
      have ht1 := ht.keep hb1
      go_wp2_with (go_at_call 76; refine (Clone_calls ht1 (by omega)).mono ?_; rintro e w2 ⟨v, rfl, hv, hvn, hb2⟩)
      go_ret2
      refine ⟨hb1.trans (hb2.mono hsz), .inr ⟨Hop.out, v, rfl, ?_⟩⟩
      rw [Hl.out]
      exact hv.mono hsz
    | false =>
      have Hop' := Lib.hid (opened_yes hl h3 hop)
      have Hop := Lib.hid hop; clear hop
      have Hl := Lib.hid hl; clear hl
      go_enter Try.func59, Try.ntmps59
      go_wp2
      refine wp_region_quiet_below (by kernel_rfl) (by kernel_rfl) ?_
      repeat (any_goals (first | go_big_quiet_step ((go_at_call 75; exact Calls.regrown_of (Fits_calls (ht.keep (below_regrown _ _ _)) (hr.keep (below_regrown _ _ _)) Hop'.out))) | quiet_step ((go_at_call 75; exact Calls.regrown_of (Fits_calls (ht.keep (below_regrown _ _ _)) (hr.keep (below_regrown _ _ _)) Hop'.out)))))
      refine wpQuiet_nil ?_
      intro w1 hw1
      have hb1 : Below w.heap.size w w1 := by obtain ⟨p, rfl⟩ := hw1; exact below_regrown _ _ _
      clear hw1
      go_wp2
      go_ret2
      exact ⟨hb1, .inl ⟨Hop.out, rfl⟩⟩
  · have hd : decide ((n : Int) - 3 < 0) = true := by simp; omega
    have hop : opened xs = false := by unfold opened; rw [decide_eq_false (by omega)]; rfl
    have Hop := Lib.hid hop; clear hop
    go_enter Try.func59, Try.ntmps59
    go_wp2
    refine wp_region_quiet_below (by kernel_rfl) (by kernel_rfl) ?_
    repeat (any_goals (first | go_big_quiet_step (fail) | quiet_step (fail)))
    refine wpQuiet_nil ?_
    intro w1 hw1
    have hb1 : Below w.heap.size w w1 := by obtain ⟨p, rfl⟩ := hw1; exact below_regrown _ _ _
    clear hw1
    go_wp2
    go_ret2
    exact ⟨hb1, .inl ⟨Hop.out, rfl⟩⟩

theorem opened_sealed {xs : List Int} {n : Nat} (hl : xs.length = n) (h3 : 3 ≤ n) {r : Bool} (h : opened xs = r) :
    decide (sealed (xs.take (n - 3)) = xs) = r := by
  rw [← opened_yes hl h3 h]
  apply Bool.eq_iff_iff.2
  rw [decide_eq_true_iff, decide_eq_true_iff]
  unfold sealed
  have e : xs = xs.take (n - 3) ++ xs.drop (n - 3) := (List.take_append_drop _ _).symm
  constructor
  · intro h
    have h' : xs.take (n - 3) ++ three (crc 11994318 (xs.take (n - 3))) = xs.take (n - 3) ++ xs.drop (n - 3) := by rw [h]; exact e
    exact List.append_cancel_left h'
  · intro h
    rw [h]; exact e.symm

/- Open of the reference. -/
end Go.Proofs.Ytgpedejeifmfdaa
