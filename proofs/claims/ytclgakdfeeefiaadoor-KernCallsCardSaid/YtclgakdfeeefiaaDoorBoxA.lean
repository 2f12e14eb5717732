/- The document's With is the box's. -/
import Derived.Test.YtclgakdfeeefiaaDoorBox9
import Derived.Test.YtclgakdfeeefiaaDoorHas
namespace Go.Proofs.YtclgakdfeeefiaaDoor
open Go.RowKit

def bars (a b : Label) (o : Int) (c : Nat) : Bool := !has o c && ((has a.1 c && !has b.1 c) || (has b.2 c && !has a.2 c))
theorem withOf_iff {a b : Label} {o : Int} (ha : a.ok) (hb : b.ok) (ho : (Lit.int .u64 o).wf = true) : withOf a b o = true ↔ ∀ c, c < 64 → bars a b o c = false := by
  have hn : needOf' a b = (((bv a.1 &&& ~~~ bv b.1) ||| (bv b.2 &&& ~~~ bv a.2)).toNat : Int) := by
    unfold needOf' minusOf
    rw [bits_or_u64, bits_andNot_u64, bits_andNot_u64, bv_nat, bv_nat]
  have hw : withOf a b o = decide ((((bv a.1 &&& ~~~ bv b.1) ||| (bv b.2 &&& ~~~ bv a.2)) &&& ~~~ bv o) = 0#64) := by
    unfold withOf minusOf
    rw [bits_andNot_u64, hn, bv_nat]
    generalize (((bv a.1 &&& ~~~ bv b.1) ||| (bv b.2 &&& ~~~ bv a.2)) &&& ~~~ bv o) = X
    by_cases h : X = 0#64
    · rw [h]; rfl
    · have h2 : X.toNat ≠ 0 := fun e => h (by apply BitVec.eq_of_toNat_eq; rw [e]; rfl)
      rw [decide_eq_false h, beq_eq_false_iff_ne]
      omega
  rw [hw, decide_eq_true_iff]
  have hbit : ∀ c, c < 64 → (((((bv a.1 &&& ~~~ bv b.1) ||| (bv b.2 &&& ~~~ bv a.2)) &&& ~~~ bv o)).getLsbD c = bars a b o c) := fun c hc => by
    unfold bars
    rw [has_bv ha.1, has_bv ha.2, has_bv hb.1, has_bv hb.2, has_bv ho]
    simp only [BitVec.getLsbD_and, BitVec.getLsbD_or, BitVec.getLsbD_not, hc, decide_true, Bool.true_and]
    rw [Bool.and_comm]
  constructor
  · intro h c hc
    rw [← hbit c hc, h]
    simp
  · intro h
    apply BitVec.eq_of_getLsbD_eq
    intro c hc
    rw [hbit c hc, h c hc]
    simp

set_option maxHeartbeats 1000000 in
theorem RWith_calls {w : World} {a b : Label} {o : Int} (ha : a.ok) (hb : b.ok) (ho : (Lit.int .u64 o).wf = true) :
    Calls Tryd.prog 60 #[.agg a.cells.toArray, .agg b.cells.toArray, .int .u64 o] w fun e w' => e = .returned (.bool (withOf a b o)) ∧ Below w.heap.size w w' := by
  have hwi := withOf_iff ha hb ho
  have hh1 := fun (w : World) (c : Nat) (hc : c < 64) => Has_calls (w := w) ha.1 hc
  have hh2 := fun (w : World) (c : Nat) (hc : c < 64) => Has_calls (w := w) ha.2 hc
  have hh3 := fun (w : World) (c : Nat) (hc : c < 64) => Has_calls (w := w) hb.1 hc
  have hh4 := fun (w : World) (c : Nat) (hc : c < 64) => Has_calls (w := w) hb.2 hc
  have hh5 := fun (w : World) (c : Nat) (hc : c < 64) => Has_calls (w := w) ho hc
  have hbar : ∀ c, bars a b o c = (!has o c && ((has a.1 c && !has b.1 c) || (has b.2 c && !has a.2 c))) := fun _ => rfl
  generalize withOf a b o = X at hwi ⊢
  generalize hB : bars a b o = B at hwi hbar
  clear hB
  obtain ⟨a1, a2⟩ := a
  obtain ⟨b1, b2⟩ := b
  simp only [Label.cells] at *
  generalize has a1 = A1 at *
  generalize has a2 = A2 at *
  generalize has b1 = B1 at *
  generalize has b2 = B2 at *
  generalize has o = O at *
  clear ha hb ho
  have Hwi := Lib.hid hwi; clear hwi
  have Hbar := Lib.hid hbar; clear hbar
  have H1 := Lib.hid hh1; clear hh1
  have H2 := Lib.hid hh2; clear hh2
  have H3 := Lib.hid hh3; clear hh3
  have H4 := Lib.hid hh4; clear hh4
  have H5 := Lib.hid hh5; clear hh5
  go_enter Tryd.func60, Tryd.ntmps60
  go_wp2_with fail
  have b0 : Below w.heap.size w ((w.alloc (.cells #[.int .u64 a1, .int .u64 a2] 32)).alloc (.cells #[.int .u64 b1, .int .u64 b2] 32)) := ((Below.refl _ _).alloc (Nat.le_refl _) _).alloc (by simp) _
  have hxa : ((w.alloc (.cells #[.int .u64 a1, .int .u64 a2] 32)).alloc (.cells #[.int .u64 b1, .int .u64 b2] 32)).heap[w.heap.size]? = some (.cells #[.int .u64 a1, .int .u64 a2] 32 (0, 0)) := by
    rw [heap_alloc_old _ _ (by simp)]; exact heap_alloc_new w _
  have hxb : ((w.alloc (.cells #[.int .u64 a1, .int .u64 a2] 32)).alloc (.cells #[.int .u64 b1, .int .u64 b2] 32)).heap[w.heap.size + 1]? = some (.cells #[.int .u64 b1, .int .u64 b2] 32 (0, 0)) := by
    have := heap_alloc_new (w.alloc (.cells #[.int .u64 a1, .int .u64 a2] 32)) (.cells #[.int .u64 b1, .int .u64 b2] 32)
    simpa using this
  generalize (w.alloc (.cells #[.int .u64 a1, .int .u64 a2] 32)).alloc (.cells #[.int .u64 b1, .int .u64 b2] 32) = w0 at b0 hxa hxb ⊢
  have c0 : w0.cell? ⟨w.heap.size, 0, none⟩ = some (.int .u64 a1) := cells_at hxa 0
  have c1 : w0.cell? ⟨w.heap.size, 1, none⟩ = some (.int .u64 a2) := cells_at hxa 1
  have d0 : w0.cell? ⟨w.heap.size + 1, 0, none⟩ = some (.int .u64 b1) := cells_at hxb 0
  have d1 : w0.cell? ⟨w.heap.size + 1, 1, none⟩ = some (.int .u64 b2) := cells_at hxb 1
  clear hxa hxb
  have Hb := Lib.hid b0; clear b0
  have hneg : ∀ j, j < 64 → B j = true → X = false := fun j hj hB => by
    cases X with
    | false => rfl
    | true => rw [Hwi.out.1 rfl j hj] at hB; cases hB
  have hext : ∀ j, (∀ c, c < j → B c = false) → B j = false → ∀ c, c < j + 1 → B c = false := fun j h1 h2 c hc => by
    rcases Nat.lt_or_eq_of_le (Nat.le_of_lt_succ hc) with h | rfl
    · exact h1 c h
    · exact h2
  go_loopw [7] (fun i wr => ∃ j : Nat, j ≤ 64 ∧ i = .int .i64 j ∧ (∀ c, c < j → B c = false) ∧ wr = w0) (fun i _ => 64 - (intOf i).toNat)
  case atStart => exact ⟨0, by omega, rfl, fun c hc => by omega, rfl⟩
  case round =>
    obtain ⟨j, hj, rfl, hbf, rfl⟩ := hrel
    have Hbf := Lib.hid hbf; clear hbf
    by_cases hlt : j < 64
    · have i2 : (j : Int) < 64 := by omega
      go_wp2_with fail
      refine (H5.out _ j hlt).mono ?_
      rintro e w1 ⟨rfl, rfl⟩
      cases hO : O j with
      | true =>
        go_wp2_with fail
        go_roundw
        case rel => exact ⟨j + 1, by omega, by go_num, hext j Hbf.out (by rw [Hbar.out]; simp [*]), by first | trivial | rfl⟩
        case measure => simp [intOf]; omega
      | false =>
        go_wp2_with fail
        refine (H1.out _ j hlt).mono ?_
        rintro e w1 ⟨rfl, rfl⟩
        cases hA1 : A1 j with
        | true =>
          go_wp2_with fail
          refine (H3.out _ j hlt).mono ?_
          rintro e w1 ⟨rfl, rfl⟩
          cases hB1 : B1 j with
          | true =>
            go_wp2_with fail
            refine (H4.out _ j hlt).mono ?_
            rintro e w1 ⟨rfl, rfl⟩
            cases hB2 : B2 j with
            | true =>
              go_wp2_with fail
              refine (H2.out _ j hlt).mono ?_
              rintro e w1 ⟨rfl, rfl⟩
              cases hA2 : A2 j with
              | true =>
                go_wp2_with fail
                go_roundw
                case rel => exact ⟨j + 1, by omega, by go_num, hext j Hbf.out (by rw [Hbar.out]; simp [*]), by first | trivial | rfl⟩
                case measure => simp [intOf]; omega
              | false =>
                go_wp2_with fail
                go_ret
                exact ⟨(hneg j hlt (by rw [Hbar.out]; simp [*])).symm ▸ rfl, Hb.out⟩
            | false =>
              go_wp2_with fail
              go_roundw
              case rel => exact ⟨j + 1, by omega, by go_num, hext j Hbf.out (by rw [Hbar.out]; simp [*]), by first | trivial | rfl⟩
              case measure => simp [intOf]; omega
          | false =>
            go_wp2_with fail
            go_ret
            exact ⟨(hneg j hlt (by rw [Hbar.out]; simp [*])).symm ▸ rfl, Hb.out⟩
        | false =>
          go_wp2_with fail
          refine (H4.out _ j hlt).mono ?_
          rintro e w1 ⟨rfl, rfl⟩
          cases hB2 : B2 j with
          | true =>
            go_wp2_with fail
            refine (H2.out _ j hlt).mono ?_
            rintro e w1 ⟨rfl, rfl⟩
            cases hA2 : A2 j with
            | true =>
              go_wp2_with fail
              go_roundw
              case rel => exact ⟨j + 1, by omega, by go_num, hext j Hbf.out (by rw [Hbar.out]; simp [*]), by first | trivial | rfl⟩
              case measure => simp [intOf]; omega
            | false =>
              go_wp2_with fail
              go_ret
              exact ⟨(hneg j hlt (by rw [Hbar.out]; simp [*])).symm ▸ rfl, Hb.out⟩
          | false =>
            go_wp2_with fail
            go_roundw
            case rel => exact ⟨j + 1, by omega, by go_num, hext j Hbf.out (by rw [Hbar.out]; simp [*]), by first | trivial | rfl⟩
            case measure => simp [intOf]; omega
    · obtain rfl : j = 64 := by omega
      go_wp2_with fail
      go_ret
      exact ⟨by rw [Hwi.out.2 Hbf.out]; rfl, Hb.out⟩
end Go.Proofs.YtclgakdfeeefiaaDoor
