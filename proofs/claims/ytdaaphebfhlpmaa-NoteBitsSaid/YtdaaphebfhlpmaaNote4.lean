/- note's Decode. -/
import Derived.Test.YtdaaphebfhlpmaaNote2
namespace Go.Proofs.Ytdaaphebfhlpmaa
open Go.RowKit

theorem fromZ_lt4 {w : World} {a : Option Addr} {n c : Nat} {zs : List Int} (hx : Ints w .u8 a n c zs) (h4 : zs.length = 4) : fromZ zs < 18446744073709551616 := by
  have := fromZ_lt zs fun b hb => by
    obtain ⟨t, ht, rfl⟩ := List.mem_iff_getElem.1 hb
    have := hx.u8 t
    rw [List.getD_eq_getElem?_getD, List.getElem?_eq_getElem ht, Option.getD_some] at this
    exact this
  rw [h4] at this
  exact Nat.lt_trans this (by decide)
/-- What Decode answers. -/
def noteD (xs : List Int) : Msg × Bool := if opened xs = true ∧ xs.length = 7 then (noteO (fromZ (xs.take 4)), noteB (fromZ (xs.take 4))) else (noMsg, false)
theorem opened_len {xs : List Int} (h : opened xs = true) : 3 ≤ xs.length := by
  unfold opened at h
  rw [Bool.and_eq_true] at h
  exact of_decide_eq_true h.1
set_option maxHeartbeats 2000000 in
theorem Decode_calls {w : World} {a : Option Addr} {n c : Nat} {xs : List Int} (hx : Ints w .u8 a n c xs) (hn : n ≤ 1000) : Calls Try.prog 16 #[.slice a n c] w fun e w' => e = .returned (.tuple #[.agg (noteD xs).1.cells.toArray, .bool (noteD xs).2]) ∧ Below w.heap.size w w' := by
  obtain ⟨w1, hw1⟩ : ∃ w1, w1 = w.alloc (.cells #[.int .i64 0, .int .i64 0, .int .i64 0, .int .i64 0] 23) := ⟨_, rfl⟩
  have hr : w1.heap[w.heap.size]? = some (.cells #[.int .i64 0, .int .i64 0, .int .i64 0, .int .i64 0] 23 (0, 0)) := by rw [hw1]; exact heap_alloc_new w _
  have hb : Below w.heap.size w w1 := by rw [hw1]; exact (Below.refl _ _).alloc (Nat.le_refl _) _
  have hop := Open_calls (hx.keep hb) (by omega)
  have hl := hx.len
  have hsz := hb.size
  have hlt := (Array.getElem?_eq_some_iff.1 hr).1
  unfold Opens at hop
  clear hx
  have Hop := Lib.hid hop; clear hop
  have Hr := Lib.hid hr; clear hr
  have Hb := Lib.hid hb; clear hb
  by_cases hd : opened xs = true ∧ n = 7
  · obtain ⟨h1, rfl⟩ := hd
    have hD : noteD xs = (noteO (fromZ (xs.take 4)), noteB (fromZ (xs.take 4))) := if_pos ⟨h1, hl⟩
    rw [hD]
    have H1 := Lib.hid h1; clear h1
    have Hl := Lib.hid hl; clear hl
    clear hD
    obtain ⟨U, hU⟩ : ∃ U, U = fromZ (xs.take 4) := ⟨_, rfl⟩
    rw [← hU]
    have HU := Lib.hid hU; clear hU
    have hof := fun (w : World) (hu : U < 18446744073709551616) => Of_calls (w := w) hu
    generalize noteB U = R at *
    generalize noteO U = mm at *
    obtain ⟨k, p, t, x⟩ := mm
    simp only [Msg.cells, Msg.kind, Msg.part, Msg.tx, Msg.what] at hof ⊢
    have Hof := Lib.hid hof; clear hof
    go_enter Try.func16, Try.ntmps16
    go_wp2_with fail
    rw [← hw1]
    clear hw1
    refine Hop.out.mono ?_
    rintro e w2 ⟨b2, ⟨h0, rfl⟩ | ⟨-, v, rfl, ov⟩⟩
    · exact absurd (h0.symm.trans H1.out) (by decide)
    obtain ⟨va, vc, rfl, iv, -⟩ := ov.ints
    have e4 : (xs.take (xs.length - 3)).length = 4 := by rw [List.length_take, Hl.out]; rfl
    have e5 : xs.take (xs.length - 3) = xs.take 4 := by rw [Hl.out]
    rw [e4] at iv ⊢
    rw [e5] at iv
    have hu := fromZ_lt4 iv iv.len
    have hfr := From_calls iv (by decide)
    rw [← HU.out] at hu hfr
    have hof := fun w => Hof.out w hu
    clear hu e4 e5 ov iv Hop Hof
    have hb := Hb.out.trans (b2.mono Hb.out.size)
    have hr := (b2.block _ (Array.getElem?_eq_some_iff.1 Hr.out).1).trans Hr.out
    clear Hb Hr b2
    have Hb := Lib.hid hb; clear hb
    have Hr := Lib.hid hr; clear hr
    have Hfr := Lib.hid hfr; clear hfr
    have Hof := Lib.hid hof; clear hof
    go_wp2_with fail
    refine Hfr.out.mono ?_
    rintro e w3 ⟨rfl, b3⟩
    have hb := Hb.out.trans (b3.mono Hb.out.size)
    have hr := (b3.block _ (Array.getElem?_eq_some_iff.1 Hr.out).1).trans Hr.out
    clear Hb Hr b3 Hfr
    have Hb := Lib.hid hb; clear hb
    have Hr := Lib.hid hr; clear hr
    go_wp2_with fail
    refine (Hof.out _).mono ?_
    rintro e w4 ⟨rfl, b4⟩
    have hb := Hb.out.trans (b4.mono Hb.out.size)
    have hr := (b4.block _ (Array.getElem?_eq_some_iff.1 Hr.out).1).trans Hr.out
    clear Hb Hr b4 Hof
    have Hb := Lib.hid hb; clear hb
    have Hr := Lib.hid hr; clear hr
    go_wp2_with (with_reducible refine stop_store 23 ?_)
    refine unpark ?_
    refine wpList_store_at rfl 23 _ _ rfl w.heap.size 0 rfl (.agg #[.int .i64 k, .int .i64 p, .int .i64 t, .int .i64 x]) rfl (msgF.cells (k, p, t, x)) rfl 23 _ Hr.out 4 rfl (by decide) (msgF.one _) (by kernel_rfl) ?_
    intro w7 h7 g7 s7
    have z7 : w7.heap[w.heap.size]? = some (.cells #[.int .i64 k, .int .i64 p, .int .i64 t, .int .i64 x] 23 (0, 0)) := h7
    have b7 := Hb.out.grown g7 Hb.out.size (fun k hk => by have := Option.some.inj hk; omega)
    have r7 := cells_at z7 0
    have r8 := cells_at z7 1
    have r9 := cells_at z7 2
    have ra := cells_at z7 3
    clear h7 z7 g7 Hb Hr
    have Hb := Lib.hid b7; clear b7
    go_wp2
    refine bodyPost_ret (v := .tuple #[.agg #[.int .i64 k, .int .i64 p, .int .i64 t, .int .i64 x], .bool R]) (by simp [results, Try.results16, go_sem, r7, r8, r9, ra]) rfl ?_
    exact ⟨rfl, Hb.out⟩
  · have hD : noteD xs = (noMsg, false) := if_neg fun h => hd ⟨h.1, by omega⟩
    rw [hD]
    have Hd := Lib.hid hd; clear hd
    clear hD
    cases hop : opened xs with
    | false =>
      go_enter Try.func16, Try.ntmps16
      go_wp2_with fail
      rw [← hw1]
      clear hw1
      refine Hop.out.mono ?_
      rintro e w2 ⟨b2, ⟨-, rfl⟩ | ⟨h0, -⟩⟩
      case inr => exact absurd (h0.symm.trans hop) (by decide)
      have hb := Hb.out.trans (b2.mono Hb.out.size)
      have hr := (b2.block _ (Array.getElem?_eq_some_iff.1 Hr.out).1).trans Hr.out
      clear Hb Hr b2 Hop hop
      have Hb := Lib.hid hb; clear hb
      have Hr := Lib.hid hr; clear hr
      go_wp2_with (with_reducible refine stop_store 23 ?_)
      refine unpark ?_
      refine wpList_store_at rfl 23 _ _ rfl w.heap.size 0 rfl (.agg #[.int .i64 0, .int .i64 0, .int .i64 0, .int .i64 0]) rfl (msgF.cells (0, 0, 0, 0)) rfl 23 _ Hr.out 4 rfl (by decide) (msgF.one _) (by kernel_rfl) ?_
      intro w7 h7 g7 s7
      have z7 : w7.heap[w.heap.size]? = some (.cells #[.int .i64 0, .int .i64 0, .int .i64 0, .int .i64 0] 23 (0, 0)) := h7
      have b7 := Hb.out.grown g7 Hb.out.size (fun k hk => by have := Option.some.inj hk; omega)
      have r7 := cells_at z7 0
      have r8 := cells_at z7 1
      have r9 := cells_at z7 2
      have ra := cells_at z7 3
      clear h7 z7 g7 Hb Hr
      have Hb := Lib.hid b7; clear b7
      go_wp2
      refine bodyPost_ret (v := .tuple #[.agg #[.int .i64 0, .int .i64 0, .int .i64 0, .int .i64 0], .bool false]) (by simp [results, Try.results16, go_sem, r7, r8, r9, ra]) rfl ?_
      exact ⟨rfl, Hb.out⟩
    | true =>
      have h3 := opened_len hop
      have hne : n ≠ 7 := fun h => Hd.out ⟨hop, h⟩
      obtain ⟨N, hN⟩ : ∃ N : Nat, N = n - 3 := ⟨_, rfl⟩
      have hN4 : ((N : Int) != 4) = true := bne_iff_ne.2 (by omega)
      have hlN : (xs.take (xs.length - 3)).length = N := by rw [List.length_take, hN]; omega
      clear hN hne h3
      go_enter Try.func16, Try.ntmps16
      go_wp2_with fail
      rw [← hw1]
      clear hw1
      refine Hop.out.mono ?_
      rintro e w2 ⟨b2, ⟨h0, -⟩ | ⟨-, v, rfl, ov⟩⟩
      case inl => exact absurd (h0.symm.trans hop) (by decide)
      obtain ⟨va, vc, rfl, iv, -⟩ := ov.ints
      rw [hlN]
      have hb := Hb.out.trans (b2.mono Hb.out.size)
      have hr := (b2.block _ (Array.getElem?_eq_some_iff.1 Hr.out).1).trans Hr.out
      clear Hb Hr b2 Hop hop iv ov hlN
      have Hb := Lib.hid hb; clear hb
      have Hr := Lib.hid hr; clear hr
      go_wp2_with (with_reducible refine stop_store 23 ?_)
      refine unpark ?_
      refine wpList_store_at rfl 23 _ _ rfl w.heap.size 0 rfl (.agg #[.int .i64 0, .int .i64 0, .int .i64 0, .int .i64 0]) rfl (msgF.cells (0, 0, 0, 0)) rfl 23 _ Hr.out 4 rfl (by decide) (msgF.one _) (by kernel_rfl) ?_
      intro w7 h7 g7 s7
      have z7 : w7.heap[w.heap.size]? = some (.cells #[.int .i64 0, .int .i64 0, .int .i64 0, .int .i64 0] 23 (0, 0)) := h7
      have b7 := Hb.out.grown g7 Hb.out.size (fun k hk => by have := Option.some.inj hk; omega)
      have r7 := cells_at z7 0
      have r8 := cells_at z7 1
      have r9 := cells_at z7 2
      have ra := cells_at z7 3
      clear h7 z7 g7 Hb Hr
      have Hb := Lib.hid b7; clear b7
      go_wp2
      refine bodyPost_ret (v := .tuple #[.agg #[.int .i64 0, .int .i64 0, .int .i64 0, .int .i64 0], .bool false]) (by simp [results, Try.results16, go_sem, r7, r8, r9, ra]) rfl ?_
      exact ⟨rfl, Hb.out⟩
end Go.Proofs.Ytdaaphebfhlpmaa
