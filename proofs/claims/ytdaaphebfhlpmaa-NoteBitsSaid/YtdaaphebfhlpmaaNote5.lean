/- The document's Word, Up, Of, Encode, Decode, Order. -/
import Derived.Test.YtdaaphebfhlpmaaNote4
import Derived.Test.YtdaaphebfhlpmaaPkR
namespace Go.Proofs.Ytdaaphebfhlpmaa
open Go.RowKit

set_option maxHeartbeats 1000000 in
theorem RUp_calls {w : World} (m : Msg) : Calls Try.prog 22 #[.agg m.cells.toArray] w fun e w' => e = .returned (.bool (upOf m)) ∧ Below w.heap.size w w' := by
  obtain ⟨k, p, t, x⟩ := m
  obtain ⟨R, hR⟩ : ∃ R, R = upOf (k, p, t, x) := ⟨_, rfl⟩
  rw [← hR]
  have hd : ((k == 1) = true ∧ R = true) ∨ ((k == 1) = false ∧ (k == 2) = true ∧ R = true) ∨ ((k == 1) = false ∧ (k == 2) = false ∧ (k == 3) = R) := by
    rw [hR]
    unfold upOf
    simp only [Msg.kind]
    by_cases h1 : k = 1
    · exact .inl ⟨by simpa using h1, decide_eq_true (by omega)⟩
    · by_cases h2 : k = 2
      · exact .inr (.inl ⟨by simpa using h1, by simpa using h2, decide_eq_true (by omega)⟩)
      · refine .inr (.inr ⟨by simpa using h1, by simpa using h2, ?_⟩)
        rw [Bool.eq_iff_iff, beq_iff_eq, decide_eq_true_iff]
        omega
  clear hR
  simp only [Msg.cells, Msg.kind, Msg.part, Msg.tx, Msg.what]
  have b1 := (Below.refl w.heap.size w).alloc (Nat.le_refl _) (.cells #[.int .i64 k, .int .i64 p, .int .i64 t, .int .i64 x] 23)
  have Hb1 := Lib.hid b1; clear b1
  rcases hd with ⟨d1, rfl⟩ | ⟨d1, d2, rfl⟩ | ⟨d1, d2, d3⟩
  all_goals
    go_enter Try.func22, Try.ntmps22
    go_wp2
    go_ret
    exact ⟨rfl, Hb1.out⟩
set_option maxHeartbeats 1000000 in
theorem RWord_calls {w : World} (m : Msg) : Calls Try.prog 10 #[.agg m.cells.toArray] w fun e w' => e = .returned (.tuple #[.int .u64 (noteW m : Nat), .bool (rightOf m)]) ∧ Below w.heap.size w w' := by
  have hri := fun w : World => RRight_calls (w := w) m
  obtain ⟨U, hU⟩ : ∃ U, U = noteW m := ⟨_, rfl⟩
  rw [← hU]
  obtain ⟨w1, hw1⟩ : ∃ w1, w1 = w.alloc (.cells m.cells.toArray 23) := ⟨_, rfl⟩
  have hx : w1.heap[w.heap.size]? = some (.cells m.cells.toArray 23) := by rw [hw1]; exact heap_alloc_new w _
  have hb : Below w.heap.size w w1 := by rw [hw1]; exact (Below.refl _ _).alloc (Nat.le_refl _) _
  unfold noteW at hU
  cases hr : rightOf m with
  | false =>
    rw [hr] at hri hU
    rw [if_neg (by decide)] at hU
    subst hU
    obtain ⟨k, p, t, x⟩ := m
    simp only [Msg.cells, Msg.kind, Msg.part, Msg.tx, Msg.what] at hri hx hw1 ⊢
    have Hri := Lib.hid hri; clear hri hr
    have Hb := Lib.hid hb; clear hb hx
    go_enter Try.func10, Try.ntmps10
    go_wp2_with fail
    rw [← hw1]
    refine (Hri.out w1).mono ?_
    rintro e w2 ⟨rfl, b2⟩
    have hb := Hb.out.trans (b2.mono Hb.out.size)
    clear Hb b2
    have Hb := Lib.hid hb; clear hb
    go_wp2
    go_ret2
    exact ⟨rfl, Hb.out⟩
  | true =>
    have hbd := right_bounds hr
    have hwz := (wordZ_nat hr).1
    rw [hr] at hri hU
    rw [if_pos rfl] at hU
    rw [← hU] at hwz
    clear hU
    unfold wordZ at hwz
    obtain ⟨k, p, t, x⟩ := m
    simp only [Msg.cells, Msg.kind, Msg.part, Msg.tx, Msg.what] at hri hx hw1 hbd hwz ⊢
    obtain ⟨k1, k2, p1, p2, t1, t2, x1, x2⟩ := hbd
    have e1 : wrap64 (8 * p) = 8 * p := by unfold wrap64; omega
    have e2 : wrap64 (k + 8 * p) = k + 8 * p := by unfold wrap64; omega
    have e3 : wrap64 (64 * x) = 64 * x := by unfold wrap64; omega
    have e4 : wrap64 (k + 8 * p + 64 * x) = k + 8 * p + 64 * x := by unfold wrap64; omega
    have e5 : wrap64 (256 * t) = 256 * t := by unfold wrap64; omega
    have e6 : wrap64 (k + 8 * p + 64 * x + 256 * t) = (U : Int) := by unfold wrap64; omega
    have hU64 : U < 18446744073709551616 := by omega
    clear k1 k2 p1 p2 t1 t2 x1 x2
    have Hwz := Lib.hid hwz; clear hwz
    have Hri := Lib.hid hri; clear hri hr
    have Hb := Lib.hid hb; clear hb
    have Hx := Lib.hid hx; clear hx
    go_enter Try.func10, Try.ntmps10
    go_wp2_with fail
    rw [← hw1]
    refine (Hri.out w1).mono ?_
    rintro e w2 ⟨rfl, b2⟩
    have hb := Hb.out.trans (b2.mono Hb.out.size)
    have hx2 := (b2.block _ (Array.getElem?_eq_some_iff.1 Hx.out).1).trans Hx.out
    clear Hb b2 Hx hw1
    have y0 := cells_at hx2 0
    have y1 := cells_at hx2 1
    have y2 := cells_at hx2 2
    have y3 := cells_at hx2 3
    clear hx2
    have Hb := Lib.hid hb; clear hb
    go_wp2
    go_ret2
    exact ⟨rfl, Hb.out⟩
theorem of_facts {u : Nat} (h : u < 536870912) : ∃ (k p t x : Int) (q8 q64 : Nat), ofN u = (k, p, t, x) ∧ (u : Int).tmod 8 = k ∧ (u : Int).tdiv 8 = (q8 : Int) ∧ (q8 : Int).tmod 8 = p ∧ (u : Int).tdiv 64 = (q64 : Int) ∧ (q64 : Int).tmod 4 = x ∧ (u : Int).tdiv 256 = t ∧
    decide (536870912 ≤ u) = false ∧ decide ((536870912 : Int) ≤ (u : Int)) = false ∧ wrap64 (u : Int) = (u : Int) ∧ wrap64 (q8 : Int) = (q8 : Int) ∧ wrap64 (q64 : Int) = (q64 : Int) ∧ wrap64 t = t ∧ wrap64 k = k ∧ wrap64 p = p ∧ wrap64 x = x := by
  have hd : ∀ d, u / d < 9223372036854775808 := fun d => Nat.lt_of_le_of_lt (Nat.div_le_self _ _) (Nat.lt_of_lt_of_le h (by decide))
  have hu : u < 9223372036854775808 := Nat.lt_of_lt_of_le h (by decide)
  refine ⟨((u % 8 : Nat) : Int), ((u / 8 % 8 : Nat) : Int), ((u / 256 : Nat) : Int), ((u / 64 % 4 : Nat) : Int), u / 8, u / 64, rfl, (Int.ofNat_tmod u 8).symm, (Int.ofNat_tdiv u 8).symm, (Int.ofNat_tmod (u / 8) 8).symm, (Int.ofNat_tdiv u 64).symm, (Int.ofNat_tmod (u / 64) 4).symm, (Int.ofNat_tdiv u 256).symm,
    decide_eq_false (Nat.not_le.2 h), decide_eq_false (by omega), wrap_small hu, wrap_small (hd 8), wrap_small (hd 64), wrap_small (hd 256), wrap_small (Nat.lt_of_lt_of_le (Nat.mod_lt _ (by decide)) (by decide)), wrap_small (Nat.lt_of_lt_of_le (Nat.mod_lt _ (by decide)) (by decide)), wrap_small (Nat.lt_of_lt_of_le (Nat.mod_lt _ (by decide)) (by decide))⟩
theorem of_no {u : Nat} (h : ¬ u < 536870912) : decide (536870912 ≤ u) = true ∧ decide ((536870912 : Int) ≤ (u : Int)) = true := ⟨decide_eq_true (Nat.le_of_not_lt h), decide_eq_true (by omega)⟩
set_option maxHeartbeats 2000000 in
theorem ROf_calls {w : World} {u : Nat} (_hu : u < 18446744073709551616) : Calls Try.prog 12 #[.int .u64 u] w fun e w' => e = .returned (.tuple #[.agg (noteO u).cells.toArray, .bool (noteB u)]) ∧ Below w.heap.size w w' := by
  obtain ⟨w1, hw1⟩ : ∃ w1, w1 = w.alloc (.cells #[.int .i64 0, .int .i64 0, .int .i64 0, .int .i64 0] 23) := ⟨_, rfl⟩
  have hx : w1.heap[w.heap.size]? = some (.cells #[.int .i64 0, .int .i64 0, .int .i64 0, .int .i64 0] 23 (0, 0)) := by rw [hw1]; exact heap_alloc_new w _
  have hb : Below w.heap.size w w1 := by rw [hw1]; exact (Below.refl _ _).alloc (Nat.le_refl _) _
  have hsw : w1.heap.size = w.heap.size + 1 := by rw [hw1]; simp
  have Hx := Lib.hid hx; clear hx
  have Hb := Lib.hid hb; clear hb
  by_cases h29 : u < 536870912
  · obtain ⟨q1, q2, q3, q4⟩ := noteB_yes h29
    rw [q1, q2]
    clear q1 q2 q3 q4
    obtain ⟨k, p, t, x, q8, q64, hof, f1, f2, f3, f4, f5, f6, g1, g1', g2, g3, g4, g5, g6, g7, g8⟩ := of_facts h29
    rw [hof]
    clear hof h29 _hu
    have hri := fun w : World => RRight_calls (w := w) (k, p, t, x)
    generalize rightOf (k, p, t, x) = R at *
    simp only [Msg.cells, Msg.kind, Msg.part, Msg.tx, Msg.what] at hri
    have Hri := Lib.hid hri; clear hri
    go_enter Try.func12, Try.ntmps12
    go_wp2_with (with_reducible refine stop_store 23 ?_)
    refine unpark ?_
    rw [← hw1, ← hsw]
    clear hw1 hsw
    obtain ⟨wa, hwa⟩ : ∃ wa, wa = w1.alloc (.cells #[.int .i64 0, .int .i64 0, .int .i64 0, .int .i64 0] 23) := ⟨_, rfl⟩
    rw [← hwa]
    have hz : wa.heap[w1.heap.size]? = some (.cells #[.int .i64 0, .int .i64 0, .int .i64 0, .int .i64 0] 23 (0, 0)) := by rw [hwa]; exact heap_alloc_new w1 _
    have bA : Below w1.heap.size w1 wa := by rw [hwa]; exact (Below.refl _ _).alloc (Nat.le_refl _) _
    have hx := (bA.block _ (Array.getElem?_eq_some_iff.1 Hx.out).1).trans Hx.out
    have hlt := (Array.getElem?_eq_some_iff.1 Hx.out).1
    have hb := Hb.out.trans (bA.mono Hb.out.size)
    have hsz := Hb.out.size
    clear hwa bA Hx Hb
    have Hb := Lib.hid hb; clear hb
    have Hx := Lib.hid hx; clear hx
    refine wpList_store_at rfl 23 _ _ rfl w1.heap.size 0 rfl (.agg #[.int .i64 k, .int .i64 p, .int .i64 t, .int .i64 x]) rfl (msgF.cells (k, p, t, x)) rfl 23 _ hz 4 rfl (by decide) (msgF.one _) (by kernel_rfl) ?_
    intro w5 h5 g5 s5
    have z5 : w5.heap[w1.heap.size]? = some (.cells #[.int .i64 k, .int .i64 p, .int .i64 t, .int .i64 x] 23 (0, 0)) := h5
    have b5 := Hb.out.grown g5 Hb.out.size (fun k hk => by have := Option.some.inj hk; omega)
    have hx := (g5.block w.heap.size (by have := (Array.getElem?_eq_some_iff.1 Hx.out).1; omega) fun e => by have := Option.some.inj e; omega).trans Hx.out
    have y0 := cells_at z5 0
    have y1 := cells_at z5 1
    have y2 := cells_at z5 2
    have y3 := cells_at z5 3
    clear h5 g5 Hb Hx hz s5
    have Hb := Lib.hid b5; clear b5
    have Hx := Lib.hid hx; clear hx
    have Hz := Lib.hid z5; clear z5
    go_wp2_with fail
    refine (Hri.out _).mono ?_
    rintro e w6 ⟨rfl, b6⟩
    have hb := Hb.out.trans (b6.mono Hb.out.size)
    have hx := (b6.block _ (Array.getElem?_eq_some_iff.1 Hx.out).1).trans Hx.out
    have hz := (b6.block _ (Array.getElem?_eq_some_iff.1 Hz.out).1).trans Hz.out
    clear Hb Hx Hz b6 Hri y0 y1 y2 y3
    have Hb := Lib.hid hb; clear hb
    have Hx := Lib.hid hx; clear hx
    have y0 := cells_at hz 0
    have y1 := cells_at hz 1
    have y2 := cells_at hz 2
    have y3 := cells_at hz 3
    clear hz
    cases R with
    | true =>
      go_wp2_with (with_reducible refine stop_store 23 ?_)
      refine unpark ?_
      refine wpList_store_at rfl 23 _ _ rfl w.heap.size 0 rfl (.agg #[.int .i64 k, .int .i64 p, .int .i64 t, .int .i64 x]) rfl (msgF.cells (k, p, t, x)) rfl 23 _ Hx.out 4 rfl (by decide) (msgF.one _) (by kernel_rfl) ?_
      intro w7 h7 g7 s7
      have z7 : w7.heap[w.heap.size]? = some (.cells #[.int .i64 k, .int .i64 p, .int .i64 t, .int .i64 x] 23 (0, 0)) := h7
      have b7 := Hb.out.grown g7 Hb.out.size (fun k hk => by have := Option.some.inj hk; omega)
      have r7 := cells_at z7 0
      have r8 := cells_at z7 1
      have r9 := cells_at z7 2
      have ra := cells_at z7 3
      clear h7 z7 g7 Hb Hx y0 y1 y2 y3
      have Hb := Lib.hid b7; clear b7
      go_wp2
      refine bodyPost_ret (v := .tuple #[.agg #[.int .i64 k, .int .i64 p, .int .i64 t, .int .i64 x], .bool true]) (by simp [results, Try.results12, go_sem, r7, r8, r9, ra]) rfl ?_
      exact ⟨rfl, Hb.out⟩
    | false =>
      go_wp2_with (with_reducible refine stop_store 23 ?_)
      refine unpark ?_
      refine wpList_store_at rfl 23 _ _ rfl w.heap.size 0 rfl (.agg #[.int .i64 0, .int .i64 0, .int .i64 0, .int .i64 0]) rfl (msgF.cells (0, 0, 0, 0)) rfl 23 _ Hx.out 4 rfl (by decide) (msgF.one _) (by kernel_rfl) ?_
      intro w7 h7 g7 s7
      have z7 : w7.heap[w.heap.size]? = some (.cells #[.int .i64 0, .int .i64 0, .int .i64 0, .int .i64 0] 23 (0, 0)) := h7
      have b7 := Hb.out.grown g7 Hb.out.size (fun k hk => by have := Option.some.inj hk; omega)
      have r7 := cells_at z7 0
      have r8 := cells_at z7 1
      have r9 := cells_at z7 2
      have ra := cells_at z7 3
      clear h7 z7 g7 Hb Hx y0 y1 y2 y3
      have Hb := Lib.hid b7; clear b7
      go_wp2
      refine bodyPost_ret (v := .tuple #[.agg #[.int .i64 0, .int .i64 0, .int .i64 0, .int .i64 0], .bool false]) (by simp [results, Try.results12, go_sem, r7, r8, r9, ra]) rfl ?_
      exact ⟨rfl, Hb.out⟩
  · obtain ⟨q1, q2, -, -⟩ := noteB_no h29
    rw [q1, q2]
    obtain ⟨g1, g1'⟩ := of_no h29
    clear q1 q2 h29 _hu
    go_enter Try.func12, Try.ntmps12
    go_wp2_with (with_reducible refine stop_store 23 ?_)
    refine unpark ?_
    rw [← hw1]
    clear hw1
    refine wpList_store_at rfl 23 _ _ rfl w.heap.size 0 rfl (.agg #[.int .i64 0, .int .i64 0, .int .i64 0, .int .i64 0]) rfl (msgF.cells (0, 0, 0, 0)) rfl 23 _ Hx.out 4 rfl (by decide) (msgF.one _) (by kernel_rfl) ?_
    intro w7 h7 g7 s7
    have z7 : w7.heap[w.heap.size]? = some (.cells #[.int .i64 0, .int .i64 0, .int .i64 0, .int .i64 0] 23 (0, 0)) := h7
    have b7 := Hb.out.grown g7 Hb.out.size (fun k hk => by have := Option.some.inj hk; omega)
    have r7 := cells_at z7 0
    have r8 := cells_at z7 1
    have r9 := cells_at z7 2
    have ra := cells_at z7 3
    clear h7 z7 g7 Hb Hx
    have Hb := Lib.hid b7; clear b7
    go_wp2
    refine bodyPost_ret (v := .tuple #[.agg #[.int .i64 0, .int .i64 0, .int .i64 0, .int .i64 0], .bool false]) (by simp [results, Try.results12, go_sem, r7, r8, r9, ra]) rfl ?_
    exact ⟨rfl, Hb.out⟩
set_option maxHeartbeats 1000000 in
theorem REncode_calls {w : World} (m : Msg) : Calls Try.prog 14 #[.agg m.cells.toArray] w fun e w' => ∃ v, e = .returned (.tuple #[v, .bool (rightOf m)]) ∧ Own w' w.heap.size 5 .u8 v (noteE m) ∧ Below w.heap.size w w' := by
  have hwd := fun w : World => RWord_calls (w := w) m
  have h0 := noteW_div m
  have h1 := noteW_lt m
  unfold noteE
  generalize noteW m = u at hwd h0 h1 ⊢
  have hby := fun w : World => RBytes_calls (w := w) (n := 4) h1 (by decide)
  rw [if_pos (show u / 256 ^ 4 = 0 from h0)] at hby
  clear h0 h1
  obtain ⟨k, p, t, x⟩ := m
  have b1 := (Below.refl w.heap.size w).alloc (Nat.le_refl _) (.cells (Msg.cells (k, p, t, x)).toArray 23)
  have hx := heap_alloc_new w (.cells (Msg.cells (k, p, t, x)).toArray 23)
  generalize rightOf (k, p, t, x) = R at *
  simp only [Msg.cells, Msg.kind, Msg.part, Msg.tx, Msg.what] at hwd b1 hx ⊢
  have Hwd := Lib.hid hwd; clear hwd
  have Hby := Lib.hid hby; clear hby
  have Hb := Lib.hid b1; clear b1
  obtain ⟨L, hL⟩ : ∃ L, L = bytesZ 4 u := ⟨_, rfl⟩
  have hL4 : L.length = 4 := by rw [hL]; exact bytes_len 4 u
  rw [← hL]
  have HL := Lib.hid hL; clear hL
  have HL4 := Lib.hid hL4; clear hL4
  cases R with
  | false =>
    go_enter Try.func14, Try.ntmps14
    go_wp2_with fail
    refine (Hwd.out _).mono ?_
    rintro e w2 ⟨rfl, b2⟩
    have hb := Hb.out.trans (b2.mono Hb.out.size)
    clear Hb b2
    have Hb := Lib.hid hb; clear hb
    go_wp2
    go_ret2
    exact ⟨_, rfl, own_nil _ _ _ _, Hb.out⟩
  | true =>
    go_enter Try.func14, Try.ntmps14
    go_wp2_with fail
    refine (Hwd.out _).mono ?_
    rintro e w2 ⟨rfl, b2⟩
    have hb := Hb.out.trans (b2.mono Hb.out.size)
    clear Hb b2 hx
    have Hb := Lib.hid hb; clear hb
    go_wp2_with fail
    refine (Hby.out _).mono ?_
    rintro e w3 ⟨v, rfl, ov, b3⟩
    obtain ⟨va, vc, rfl, iv, -⟩ := ov.ints
    rw [bytes_len, ← HL.out] at iv
    rw [bytes_len]
    have hb := Hb.out.trans (b3.mono Hb.out.size)
    have hsl := SealRef_calls iv (by decide)
    clear Hb b3 ov iv Hby Hwd
    have Hb := Lib.hid hb; clear hb
    have Hsl := Lib.hid hsl; clear hsl
    go_wp2_with fail
    refine Hsl.out.mono ?_
    rintro e w4 ⟨v, rfl, ov, b4⟩
    have hb := Hb.out.trans (b4.mono Hb.out.size)
    have own := ov.mono Hb.out.size
    clear Hb b4 ov Hsl
    have Hb := Lib.hid hb; clear hb
    have Ho := Lib.hid own; clear own
    go_wp2
    go_ret2
    exact ⟨_, rfl, Ho.out, Hb.out⟩
set_option maxHeartbeats 2000000 in
theorem RDecode_calls {w : World} {a : Option Addr} {n c : Nat} {xs : List Int} (hx : Ints w .u8 a n c xs) (hn : n ≤ 1000) : Calls Try.prog 17 #[.slice a n c] w fun e w' => e = .returned (.tuple #[.agg (noteD xs).1.cells.toArray, .bool (noteD xs).2]) ∧ Below w.heap.size w w' := by
  obtain ⟨w1, hw1⟩ : ∃ w1, w1 = w.alloc (.cells #[.int .i64 0, .int .i64 0, .int .i64 0, .int .i64 0] 23) := ⟨_, rfl⟩
  have hr : w1.heap[w.heap.size]? = some (.cells #[.int .i64 0, .int .i64 0, .int .i64 0, .int .i64 0] 23 (0, 0)) := by rw [hw1]; exact heap_alloc_new w _
  have hb : Below w.heap.size w w1 := by rw [hw1]; exact (Below.refl _ _).alloc (Nat.le_refl _) _
  have hop := OpenRef_calls (hx.keep hb) (by omega)
  have hl := hx.len
  have hsz := hb.size
  have hlt := (Array.getElem?_eq_some_iff.1 hr).1
  unfold Opens at hop
  clear hx
  have Hop := Lib.hid hop; clear hop
  have Hr := Lib.hid hr; clear hr
  have Hb := Lib.hid hb; clear hb
  by_cases hd : opened xs = true ∧ n = 7
  · obtain ⟨h1, rfl⟩ := hd
    have hD : noteD xs = (noteO (fromZ (xs.take 4)), noteB (fromZ (xs.take 4))) := if_pos ⟨h1, hl⟩
    rw [hD]
    have H1 := Lib.hid h1; clear h1
    have Hl := Lib.hid hl; clear hl
    clear hD
    obtain ⟨U, hU⟩ : ∃ U, U = fromZ (xs.take 4) := ⟨_, rfl⟩
    rw [← hU]
    have HU := Lib.hid hU; clear hU
    have hof := fun (w : World) (hu : U < 18446744073709551616) => ROf_calls (w := w) hu
    generalize noteB U = R at *
    generalize noteO U = mm at *
    obtain ⟨k, p, t, x⟩ := mm
    simp only [Msg.cells, Msg.kind, Msg.part, Msg.tx, Msg.what] at hof ⊢
    have Hof := Lib.hid hof; clear hof
    go_enter Try.func17, Try.ntmps17
    go_wp2_with fail
    rw [← hw1]
    clear hw1
    refine Hop.out.mono ?_
    rintro e w2 ⟨b2, ⟨h0, rfl⟩ | ⟨-, v, rfl, ov⟩⟩
    · exact absurd (h0.symm.trans H1.out) (by decide)
    obtain ⟨va, vc, rfl, iv, -⟩ := ov.ints
    have e4 : (xs.take (xs.length - 3)).length = 4 := by rw [List.length_take, Hl.out]; rfl
    have e5 : xs.take (xs.length - 3) = xs.take 4 := by rw [Hl.out]
    rw [e4] at iv ⊢
    rw [e5] at iv
    have hu := fromZ_lt4 iv iv.len
    have hfr := RFrom_calls iv (by decide)
    rw [← HU.out] at hu hfr
    have hof := fun w => Hof.out w hu
    clear hu e4 e5 ov iv Hop Hof
    have hb := Hb.out.trans (b2.mono Hb.out.size)
    have hr := (b2.block _ (Array.getElem?_eq_some_iff.1 Hr.out).1).trans Hr.out
    clear Hb Hr b2
    have Hb := Lib.hid hb; clear hb
    have Hr := Lib.hid hr; clear hr
    have Hfr := Lib.hid hfr; clear hfr
    have Hof := Lib.hid hof; clear hof
    go_wp2_with fail
    refine Hfr.out.mono ?_
    rintro e w3 ⟨rfl, hw3⟩
    have b3 : Below w2.heap.size w2 w3 := by rw [hw3]; exact Below.refl _ _
    clear hw3
    have hb := Hb.out.trans (b3.mono Hb.out.size)
    have hr := (b3.block _ (Array.getElem?_eq_some_iff.1 Hr.out).1).trans Hr.out
    clear Hb Hr b3 Hfr
    have Hb := Lib.hid hb; clear hb
    have Hr := Lib.hid hr; clear hr
    go_wp2_with fail
    refine (Hof.out _).mono ?_
    rintro e w4 ⟨rfl, b4⟩
    have hb := Hb.out.trans (b4.mono Hb.out.size)
    have hr := (b4.block _ (Array.getElem?_eq_some_iff.1 Hr.out).1).trans Hr.out
    clear Hb Hr b4 Hof
    have Hb := Lib.hid hb; clear hb
    have Hr := Lib.hid hr; clear hr
    go_wp2_with (with_reducible refine stop_store 23 ?_)
    refine unpark ?_
    refine wpList_store_at rfl 23 _ _ rfl w.heap.size 0 rfl (.agg #[.int .i64 k, .int .i64 p, .int .i64 t, .int .i64 x]) rfl (msgF.cells (k, p, t, x)) rfl 23 _ Hr.out 4 rfl (by decide) (msgF.one _) (by kernel_rfl) ?_
    intro w7 h7 g7 s7
    have z7 : w7.heap[w.heap.size]? = some (.cells #[.int .i64 k, .int .i64 p, .int .i64 t, .int .i64 x] 23 (0, 0)) := h7
    have b7 := Hb.out.grown g7 Hb.out.size (fun k hk => by have := Option.some.inj hk; omega)
    have r7 := cells_at z7 0
    have r8 := cells_at z7 1
    have r9 := cells_at z7 2
    have ra := cells_at z7 3
    clear h7 z7 g7 Hb Hr
    have Hb := Lib.hid b7; clear b7
    go_wp2
    refine bodyPost_ret (v := .tuple #[.agg #[.int .i64 k, .int .i64 p, .int .i64 t, .int .i64 x], .bool R]) (by simp [results, Try.results17, go_sem, r7, r8, r9, ra]) rfl ?_
    exact ⟨rfl, Hb.out⟩
  · have hD : noteD xs = (noMsg, false) := if_neg fun h => hd ⟨h.1, by omega⟩
    rw [hD]
    have Hd := Lib.hid hd; clear hd
    clear hD
    cases hop : opened xs with
    | false =>
      go_enter Try.func17, Try.ntmps17
      go_wp2_with fail
      rw [← hw1]
      clear hw1
      refine Hop.out.mono ?_
      rintro e w2 ⟨b2, ⟨-, rfl⟩ | ⟨h0, -⟩⟩
      case inr => exact absurd (h0.symm.trans hop) (by decide)
      have hb := Hb.out.trans (b2.mono Hb.out.size)
      have hr := (b2.block _ (Array.getElem?_eq_some_iff.1 Hr.out).1).trans Hr.out
      clear Hb Hr b2 Hop hop
      have Hb := Lib.hid hb; clear hb
      have Hr := Lib.hid hr; clear hr
      go_wp2_with (with_reducible refine stop_store 23 ?_)
      refine unpark ?_
      refine wpList_store_at rfl 23 _ _ rfl w.heap.size 0 rfl (.agg #[.int .i64 0, .int .i64 0, .int .i64 0, .int .i64 0]) rfl (msgF.cells (0, 0, 0, 0)) rfl 23 _ Hr.out 4 rfl (by decide) (msgF.one _) (by kernel_rfl) ?_
      intro w7 h7 g7 s7
      have z7 : w7.heap[w.heap.size]? = some (.cells #[.int .i64 0, .int .i64 0, .int .i64 0, .int .i64 0] 23 (0, 0)) := h7
      have b7 := Hb.out.grown g7 Hb.out.size (fun k hk => by have := Option.some.inj hk; omega)
      have r7 := cells_at z7 0
      have r8 := cells_at z7 1
      have r9 := cells_at z7 2
      have ra := cells_at z7 3
      clear h7 z7 g7 Hb Hr
      have Hb := Lib.hid b7; clear b7
      go_wp2
      refine bodyPost_ret (v := .tuple #[.agg #[.int .i64 0, .int .i64 0, .int .i64 0, .int .i64 0], .bool false]) (by simp [results, Try.results17, go_sem, r7, r8, r9, ra]) rfl ?_
      exact ⟨rfl, Hb.out⟩
    | true =>
      have h3 := opened_len hop
      have hne : n ≠ 7 := fun h => Hd.out ⟨hop, h⟩
      obtain ⟨N, hN⟩ : ∃ N : Nat, N = n - 3 := ⟨_, rfl⟩
      have hN4 : ((N : Int) != 4) = true := bne_iff_ne.2 (by omega)
      have hlN : (xs.take (xs.length - 3)).length = N := by rw [List.length_take, hN]; omega
      clear hN hne h3
      go_enter Try.func17, Try.ntmps17
      go_wp2_with fail
      rw [← hw1]
      clear hw1
      refine Hop.out.mono ?_
      rintro e w2 ⟨b2, ⟨h0, -⟩ | ⟨-, v, rfl, ov⟩⟩
      case inl => exact absurd (h0.symm.trans hop) (by decide)
      obtain ⟨va, vc, rfl, iv, -⟩ := ov.ints
      rw [hlN]
      have hb := Hb.out.trans (b2.mono Hb.out.size)
      have hr := (b2.block _ (Array.getElem?_eq_some_iff.1 Hr.out).1).trans Hr.out
      clear Hb Hr b2 Hop hop iv ov hlN
      have Hb := Lib.hid hb; clear hb
      have Hr := Lib.hid hr; clear hr
      go_wp2_with (with_reducible refine stop_store 23 ?_)
      refine unpark ?_
      refine wpList_store_at rfl 23 _ _ rfl w.heap.size 0 rfl (.agg #[.int .i64 0, .int .i64 0, .int .i64 0, .int .i64 0]) rfl (msgF.cells (0, 0, 0, 0)) rfl 23 _ Hr.out 4 rfl (by decide) (msgF.one _) (by kernel_rfl) ?_
      intro w7 h7 g7 s7
      have z7 : w7.heap[w.heap.size]? = some (.cells #[.int .i64 0, .int .i64 0, .int .i64 0, .int .i64 0] 23 (0, 0)) := h7
      have b7 := Hb.out.grown g7 Hb.out.size (fun k hk => by have := Option.some.inj hk; omega)
      have r7 := cells_at z7 0
      have r8 := cells_at z7 1
      have r9 := cells_at z7 2
      have ra := cells_at z7 3
      clear h7 z7 g7 Hb Hr
      have Hb := Lib.hid b7; clear b7
      go_wp2
      refine bodyPost_ret (v := .tuple #[.agg #[.int .i64 0, .int .i64 0, .int .i64 0, .int .i64 0], .bool false]) (by simp [results, Try.results17, go_sem, r7, r8, r9, ra]) rfl ?_
      exact ⟨rfl, Hb.out⟩
theorem cmp_ways (a b : Nat) : (((a : Int) == (b : Int)) = true ∧ cmpN a b = 0) ∨ (((a : Int) == (b : Int)) = false ∧ decide ((a : Int) < (b : Int)) = true ∧ cmpN a b = -1) ∨ (((a : Int) == (b : Int)) = false ∧ decide ((a : Int) < (b : Int)) = false ∧ cmpN a b = 1) := by
  unfold cmpN
  by_cases h1 : a < b
  · rw [if_pos h1]; exact .inr (.inl ⟨by simp; omega, decide_eq_true (by omega), rfl⟩)
  · rw [if_neg h1]
    by_cases h2 : b < a
    · rw [if_pos h2]; exact .inr (.inr ⟨by simp; omega, decide_eq_false (by omega), rfl⟩)
    · rw [if_neg h2]; exact .inl ⟨by simp; omega, rfl⟩
set_option maxHeartbeats 1000000 in
theorem ROrder_calls {w : World} (a b : Msg) : Calls Try.prog 24 #[.agg a.cells.toArray, .agg b.cells.toArray] w fun e w' => e = .returned (.int .i64 (noteC a b)) ∧ Below w.heap.size w w' := by
  have h1 := fun w : World => RWord_calls (w := w) a
  have h2 := fun w : World => RWord_calls (w := w) b
  have hc : noteC a b = if rightOf a = true ∧ rightOf b = true then cmpN (noteW a) (noteW b) else 0 := by
    unfold noteC cmpN noteW
    by_cases h : rightOf a = true ∧ rightOf b = true
    · rw [if_pos h, if_pos h, if_pos h.1, if_pos h.2]
    · rw [if_neg h, if_neg h]
  rw [hc]
  clear hc
  generalize noteW a = U1 at *
  generalize noteW b = U2 at *
  generalize rightOf a = R1 at *
  generalize rightOf b = R2 at *
  obtain ⟨w1, hw1⟩ : ∃ w1, w1 = (w.alloc (.cells a.cells.toArray 23)).alloc (.cells b.cells.toArray 23) := ⟨_, rfl⟩
  have b1 : Below w.heap.size w w1 := by rw [hw1]; exact ((Below.refl _ w).alloc (Nat.le_refl _) _).alloc (by simp) _
  have hy : w1.heap[w.heap.size + 1]? = some (.cells b.cells.toArray 23 (0, 0)) := by
    rw [hw1]
    have := heap_alloc_new (w.alloc (.cells a.cells.toArray 23)) (.cells b.cells.toArray 23)
    rwa [World.size_alloc] at this
  obtain ⟨k, p, t, x⟩ := a
  obtain ⟨k', p', t', x'⟩ := b
  simp only [Msg.cells, Msg.kind, Msg.part, Msg.tx, Msg.what] at h1 h2 hw1 hy ⊢
  have Hb := Lib.hid b1; clear b1
  have H1 := Lib.hid h1; clear h1
  have H2 := Lib.hid h2; clear h2
  have Hy := Lib.hid hy; clear hy
  cases R1
  · cases R2
    all_goals
      go_enter Try.func24, Try.ntmps24
      go_wp2_with fail
      rw [← hw1]
      refine (H1.out _).mono ?_
      rintro e w2 ⟨rfl, b2⟩
      have hb := Hb.out.trans (b2.mono Hb.out.size)
      have hy := (b2.block _ (Array.getElem?_eq_some_iff.1 Hy.out).1).trans Hy.out
      clear Hb b2 Hy hw1
      have Hb := Lib.hid hb; clear hb
      have y0 := cells_at hy 0
      have y1 := cells_at hy 1
      have y2 := cells_at hy 2
      have y3 := cells_at hy 3
      clear hy
      go_wp2_with fail
      refine (H2.out _).mono ?_
      rintro e w3 ⟨rfl, b3⟩
      have hb := Hb.out.trans (b3.mono Hb.out.size)
      clear Hb b3 y0 y1 y2 y3
      have Hb := Lib.hid hb; clear hb
      go_wp2
      go_ret
      exact ⟨rfl, Hb.out⟩
  · cases R2
    · go_enter Try.func24, Try.ntmps24
      go_wp2_with fail
      rw [← hw1]
      refine (H1.out _).mono ?_
      rintro e w2 ⟨rfl, b2⟩
      have hb := Hb.out.trans (b2.mono Hb.out.size)
      have hy := (b2.block _ (Array.getElem?_eq_some_iff.1 Hy.out).1).trans Hy.out
      clear Hb b2 Hy hw1
      have Hb := Lib.hid hb; clear hb
      have y0 := cells_at hy 0
      have y1 := cells_at hy 1
      have y2 := cells_at hy 2
      have y3 := cells_at hy 3
      clear hy
      go_wp2_with fail
      refine (H2.out _).mono ?_
      rintro e w3 ⟨rfl, b3⟩
      have hb := Hb.out.trans (b3.mono Hb.out.size)
      clear Hb b3 y0 y1 y2 y3
      have Hb := Lib.hid hb; clear hb
      go_wp2
      go_ret
      exact ⟨rfl, Hb.out⟩
    · obtain ⟨A, hA⟩ : ∃ A : Int, A = (U1 : Int) := ⟨_, rfl⟩
      obtain ⟨B, hB⟩ : ∃ B : Int, B = (U2 : Int) := ⟨_, rfl⟩
      have hd := cmp_ways U1 U2
      have h1 := H1.out
      have h2 := H2.out
      obtain ⟨R, hR⟩ : ∃ R, R = cmpN U1 U2 := ⟨_, rfl⟩
      rw [← hR] at hd ⊢
      clear H1 H2 hR
      simp only [← hA, ← hB] at h1 h2 hd
      clear hA hB
      have H1 := Lib.hid h1; clear h1
      have H2 := Lib.hid h2; clear h2
      rcases hd with ⟨d0, rfl⟩ | ⟨d0, d1, rfl⟩ | ⟨d0, d1, rfl⟩
      all_goals
        go_enter Try.func24, Try.ntmps24
        go_wp2_with fail
        rw [← hw1]
        refine (H1.out _).mono ?_
        rintro e w2 ⟨rfl, b2⟩
        have hb := Hb.out.trans (b2.mono Hb.out.size)
        have hy := (b2.block _ (Array.getElem?_eq_some_iff.1 Hy.out).1).trans Hy.out
        clear Hb b2 Hy hw1
        have Hb := Lib.hid hb; clear hb
        have y0 := cells_at hy 0
        have y1 := cells_at hy 1
        have y2 := cells_at hy 2
        have y3 := cells_at hy 3
        clear hy
        go_wp2_with fail
        refine (H2.out _).mono ?_
        rintro e w3 ⟨rfl, b3⟩
        have hb := Hb.out.trans (b3.mono Hb.out.size)
        clear Hb b3 y0 y1 y2 y3
        have Hb := Lib.hid hb; clear hb
        go_wp2
        go_ret
        exact ⟨rfl, Hb.out⟩
end Go.Proofs.Ytdaaphebfhlpmaa
