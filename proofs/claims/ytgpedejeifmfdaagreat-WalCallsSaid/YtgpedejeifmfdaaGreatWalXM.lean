/- Merged by merge.py out of: WalX1, WalX2, WalX3, WalX4, WalX5, WalX6. -/
import Derived.Test.YtgpedejeifmfdaaGreatWalMA
import Derived.Test.YtgpedejeifmfdaaGreatWalMZ
import Derived.Test.YtgpedejeifmfdaaGreatDkR
import Derived.Test.YtgpedejeifmfdaaGreatRecDM
import Derived.Lib.MinMax
/- The document's log: numbers, the sector of bytes. -/
namespace Go.Proofs.YtgpedejeifmfdaaGreat
open Go.RowKit Go.Sort

theorem results_tmp4 {fn : Func} {t u v x : Tmp} (h : fn.results = #[.tmp t, .tmp u, .tmp v, .tmp x]) (tmps : Array Value) (P : Program) (w : World) :
    (results fn tmps).run P w = .ok (.tuple #[tmps.getD t undef, tmps.getD u undef, tmps.getD v undef, tmps.getD x undef]) w := by
  simp [results, h]
theorem own4 (w : World) (x y z u : Int) (hx : 0 ≤ x ∧ x ≤ 255) (hy : 0 ≤ y ∧ y ≤ 255) (hz : 0 ≤ z ∧ z ≤ 255) (hu : 0 ≤ u ∧ u ≤ 255) :
    Own (w.alloc (.cells #[.int .u8 x, .int .u8 y, .int .u8 z, .int .u8 u] 5)) w.heap.size 5 .u8 (.slice (some ⟨w.heap.size, 0, none⟩) 4 4) [x, y, z, u] := by
  refine ⟨World.ownsRow_lit w #[.int .u8 x, .int .u8 y, .int .u8 z, .int .u8 u] 4 (Nat.le_refl _) (by unfold maxLen; omega) rfl, ?_⟩
  intro q hq
  simp only [List.mem_cons, List.not_mem_nil, or_false] at hq
  rcases hq with rfl | rfl | rfl | rfl
  · exact WalkArith.wf_u8 (by omega)
  · exact WalkArith.wf_u8 (by omega)
  · exact WalkArith.wf_u8 (by omega)
  · exact WalkArith.wf_u8 (by omega)
theorem bytes4 (N : Nat) : bytesZ 4 N = [(N : Int) % 256, (N : Int) / 256 % 256, (N : Int) / 65536 % 256, (N : Int) / 16777216 % 256] := by
  simp only [bytesZ, dig8, List.map_cons, List.map_nil, List.cons.injEq, and_true]
  refine ⟨?_, ?_, ?_, ?_⟩ <;> omega
theorem list4 {b : List Int} (h : b.length = 4) : ∃ z0 z1 z2 z3, b = [z0, z1, z2, z3] := by
  match b, h with
  | [z0, z1, z2, z3], _ => exact ⟨z0, z1, z2, z3, rfl⟩
theorem from4i {z0 z1 z2 z3 : Int} (h0 : 0 ≤ z0 ∧ z0 ≤ 255) (h1 : 0 ≤ z1 ∧ z1 ≤ 255) (h2 : 0 ≤ z2 ∧ z2 ≤ 255) (h3 : 0 ≤ z3 ∧ z3 ≤ 255) : ((fromZ [z0, z1, z2, z3] : Nat) : Int) = z0 + 256 * z1 + 65536 * z2 + 16777216 * z3 := by
  simp only [fromZ]; omega
set_option maxHeartbeats 400000 in
theorem Rfour_calls {w : World} {N : Nat} (hn : N ≤ 4294967296) :
    Calls Tryz.prog 62 #[.int .i64 (N : Nat)] w fun e w' => ∃ v, e = .returned v ∧ Own w' w.heap.size 5 .u8 v (bytesZ 4 N) ∧ Below w.heap.size w w' := by
  have ho := own4 w ((N : Int) % 256) ((N : Int) / 256 % 256) ((N : Int) / 65536 % 256) ((N : Int) / 16777216 % 256) (by omega) (by omega) (by omega) (by omega)
  rw [← bytes4] at ho
  have Ho := Lib.hid ho; clear ho
  go_enter Tryz.func62, Tryz.ntmps62
  go_wp2
  go_ret
  exact ⟨_, rfl, Ho.out, (Below.refl _ _).alloc (Nat.le_refl _) _⟩
set_option maxHeartbeats 800000 in
theorem Lnumber_calls {w : World} {a : Option Addr} {c : Nat} {zs : List Int} (hx : Ints w .u8 a 4 c zs) :
    Calls Tryz.prog 56 #[.slice a 4 c] w fun e w' => e = .returned (.int .i64 (fromZ zs : Nat)) ∧ Below w.heap.size w w' := by
  have hfit : ∀ z ∈ zs, 0 ≤ z ∧ z ≤ 255 := fun z hz => wf_u8 (hx.fit z hz)
  obtain ⟨z0, z1, z2, z3, rfl⟩ := list4 hx.len
  have hz0 := hfit z0 (by simp)
  have hz1 := hfit z1 (by simp)
  have hz2 := hfit z2 (by simp)
  have hz3 := hfit z3 (by simp)
  obtain ⟨gb, go_, rfl, hcx⟩ := hx.cell (by omega)
  have x0 := hcx 0 (by omega)
  have x1 := hcx 1 (by omega)
  have x2 := hcx 2 (by omega)
  have x3 := hcx 3 (by omega)
  simp only [List.getD_cons_zero, List.getD_cons_succ, Nat.add_zero] at x0 x1 x2 x3
  rw [from4i hz0 hz1 hz2 hz3]
  have s1 : IntKind.i64.wrap (256 * z1) = 256 * z1 := IntWalk.i64_in _ (by omega)
  have s2 : IntKind.i64.wrap (65536 * z2) = 65536 * z2 := IntWalk.i64_in _ (by omega)
  have s3 : IntKind.i64.wrap (16777216 * z3) = 16777216 * z3 := IntWalk.i64_in _ (by omega)
  have s4 : IntKind.i64.wrap (z0 + 256 * z1) = z0 + 256 * z1 := IntWalk.i64_in _ (by omega)
  have s5 : IntKind.i64.wrap (z0 + 256 * z1 + 65536 * z2) = z0 + 256 * z1 + 65536 * z2 := IntWalk.i64_in _ (by omega)
  have s6 : IntKind.i64.wrap (z0 + 256 * z1 + 65536 * z2 + 16777216 * z3) = z0 + 256 * z1 + 65536 * z2 + 16777216 * z3 := IntWalk.i64_in _ (by omega)
  clear hcx hfit
  go_enter Tryz.func56, Tryz.ntmps56
  go_wp2_with fail
  go_quiet (fail)
  go_wp2
  go_ret
  exact ⟨rfl, below_drawn _ _⟩
/-- What the document's read answers. -/
def RdPost (w : World) (S : Sc) (e : Ending) (w' : World) : Prop := ∃ a c, e = .returned (.tuple #[.int .i64 (S.num : Nat), .int .i64 (S.first : Nat), .slice a S.data.length c, .bool S.beg]) ∧ Ints w' .u8 a S.data.length c S.data ∧ (∀ x o, a = some ⟨x, o, none⟩ → w.heap.size ≤ x) ∧ Below w.heap.size w w'
theorem RdPost.none {w w' : World} (h : Below w.heap.size w w') : RdPost w noSc (.returned (.tuple #[.int .i64 0, .int .i64 0, .slice none 0 0, .bool false])) w' := ⟨Option.none, 0, rfl, Ints.nil0 _ _, (fun _ _ e => by cases e), h⟩
set_option maxHeartbeats 4000000 in
set_option maxRecDepth 100000 in
theorem Rread_differ {w : World} {a : Option Addr} {c : Nat} {b : List Int} (hx : Ints w .u8 a 32 c b) (h2 : fromZ (b.take 4) ≠ fromZ (b.drop 28)) :
    Calls Tryz.prog 36 #[.slice a 32 c] w (RdPost w noSc) := by
  have hl := hx.len
  have hle := hx.le
  have hmx := hx.max
  obtain ⟨N1, hN1⟩ : ∃ N, N = fromZ (b.take 4) := ⟨_, rfl⟩
  obtain ⟨N2, hN2⟩ : ∃ N, N = fromZ (b.drop 28) := ⟨_, rfl⟩
  rw [← hN1, ← hN2] at h2
  have HN1 := Lib.hid hN1; clear hN1
  have HN2 := Lib.hid hN2; clear hN2
  obtain ⟨g, o, rfl, -⟩ := hx.cell (by omega)
  have hn1 : ∀ d os, Calls Tryz.prog 56 #[.slice (some ⟨g, o, none⟩) 4 c] (grow (redrawn w d) os) fun e w' => e = .returned (.int .i64 (N1 : Nat)) ∧ Below (grow (redrawn w d) os).heap.size (grow (redrawn w d) os) w' := fun d os => by
    have := Lnumber_calls ((hx.take 4 (by omega)).keep (below_regrown w d os))
    rwa [← HN1.out] at this
  have hn2 : ∀ d os, Calls Tryz.prog 56 #[.slice (some ⟨g, o + 28, none⟩) 4 (c - 28)] (grow (redrawn w d) os) fun e w' => e = .returned (.int .i64 (N2 : Nat)) ∧ Below (grow (redrawn w d) os).heap.size (grow (redrawn w d) os) w' := fun d os => by
    have := Lnumber_calls ((hx.dropAt 28 (by omega)).keep (below_regrown w d os))
    rwa [← HN2.out] at this
  have Hn1 := Lib.hid hn1; clear hn1
  have Hn2 := Lib.hid hn2; clear hn2
  have hne : ¬ (c = 28) := by omega
  have hd : ((N1 : Int) != (N2 : Int)) = true := by simp; omega
  have hd' : (N1 != N2) = true := by simp; omega
  clear h2
  go_enter Tryz.func36, Tryz.ntmps36
  go_wp2_with fail
  refine wp_region_quiet_below (by kernel_rfl) (by kernel_rfl) ?_
  repeat (any_goals (first | go_big_quiet_step ((first | (go_at_call 56; with_reducible exact Calls.regrown_of (Hn1.out _ _)) | (go_at_call 56; exact Calls.regrown_of (Hn2.out _ _)))) | quiet_step ((first | (go_at_call 56; with_reducible exact Calls.regrown_of (Hn1.out _ _)) | (go_at_call 56; exact Calls.regrown_of (Hn2.out _ _))))))
  refine wpQuiet_nil ?_
  intro w1 hw1
  have hb1 : Below w.heap.size w w1 := by obtain ⟨q, rfl⟩ := hw1; exact below_regrown _ _ _
  clear hw1 Hn1 Hn2
  have Hb1 := Lib.hid hb1; clear hb1
  go_wp2
  try simp only [Exit.inBlock, Exit.then]
  refine bodyPost_ret (results_tmp4 rfl _ _ _) rfl ?_
  exact RdPost.none Hb1.out
set_option maxHeartbeats 4000000 in
set_option maxRecDepth 100000 in
theorem Rread_shut {w : World} {a : Option Addr} {c : Nat} {b : List Int} (hx : Ints w .u8 a 32 c b) (h1 : opened (b.take 28) = false) (h2 : fromZ (b.take 4) = fromZ (b.drop 28)) :
    Calls Tryz.prog 36 #[.slice a 32 c] w (RdPost w noSc) := by
  have hl := hx.len
  have hle := hx.le
  have hmx := hx.max
  obtain ⟨N1, hN1⟩ : ∃ N, N = fromZ (b.take 4) := ⟨_, rfl⟩
  obtain ⟨N2, hN2⟩ : ∃ N, N = fromZ (b.drop 28) := ⟨_, rfl⟩
  rw [← hN1, ← hN2] at h2
  have HN1 := Lib.hid hN1; clear hN1
  have HN2 := Lib.hid hN2; clear hN2
  obtain ⟨g, o, rfl, -⟩ := hx.cell (by omega)
  have hn1 : ∀ d os, Calls Tryz.prog 56 #[.slice (some ⟨g, o, none⟩) 4 c] (grow (redrawn w d) os) fun e w' => e = .returned (.int .i64 (N1 : Nat)) ∧ Below (grow (redrawn w d) os).heap.size (grow (redrawn w d) os) w' := fun d os => by
    have := Lnumber_calls ((hx.take 4 (by omega)).keep (below_regrown w d os))
    rwa [← HN1.out] at this
  have hn2 : ∀ d os, Calls Tryz.prog 56 #[.slice (some ⟨g, o + 28, none⟩) 4 (c - 28)] (grow (redrawn w d) os) fun e w' => e = .returned (.int .i64 (N2 : Nat)) ∧ Below (grow (redrawn w d) os).heap.size (grow (redrawn w d) os) w' := fun d os => by
    have := Lnumber_calls ((hx.dropAt 28 (by omega)).keep (below_regrown w d os))
    rwa [← HN2.out] at this
  have Hn1 := Lib.hid hn1; clear hn1
  have Hn2 := Lib.hid hn2; clear hn2
  have hne : ¬ (c = 28) := by omega
  have hd : ((N1 : Int) != (N2 : Int)) = false := by simp; omega
  have hd' : (N1 != N2) = false := by simp; omega
  have ht := hx.take 28 (by omega)
  have H1 := Lib.hid h1; clear h1
  go_enter Tryz.func36, Tryz.ntmps36
  go_wp2_with fail
  refine wp_region_quiet_below (by kernel_rfl) (by kernel_rfl) ?_
  repeat (any_goals (first | go_big_quiet_step ((first | (go_at_call 56; with_reducible exact Calls.regrown_of (Hn1.out _ _)) | (go_at_call 56; exact Calls.regrown_of (Hn2.out _ _)))) | quiet_step ((first | (go_at_call 56; with_reducible exact Calls.regrown_of (Hn1.out _ _)) | (go_at_call 56; exact Calls.regrown_of (Hn2.out _ _))))))
  refine wpQuiet_nil ?_
  intro w1 hw1
  have hb1 : Below w.heap.size w w1 := by obtain ⟨q, rfl⟩ := hw1; exact below_regrown _ _ _
  clear hw1 Hn1 Hn2
  have hop := OpenRef_calls (ht.keep hb1) (by omega)
  have Hop := Lib.hid hop; clear hop
  have Ht := Lib.hid ht; clear ht
  have Hb1 := Lib.hid hb1; clear hb1
  have Hx := Lib.hid hx; clear hx
  clear hd hd' h2
  go_wp2_with fail
  refine Hop.out.mono ?_
  rintro e w2 ⟨hb2, ⟨-, rfl⟩ | ⟨h, -⟩⟩
  case inr => rw [H1.out] at h; cases h
  have hb := Hb1.out.trans (hb2.mono Hb1.out.size)
  have Hb := Lib.hid hb; clear hb hb2
  go_wp2
  try simp only [Exit.inBlock, Exit.then]
  refine bodyPost_ret (results_tmp4 rfl _ _ _) rfl ?_
  exact RdPost.none Hb.out
set_option maxHeartbeats 4000000 in
set_option maxRecDepth 100000 in
theorem Rread_long {w : World} {a : Option Addr} {c : Nat} {b : List Int} (hx : Ints w .u8 a 32 c b) (h1 : opened (b.take 28) = true) (h2 : fromZ (b.take 4) = fromZ (b.drop 28)) (h3 : 16 < fillOf b) :
    Calls Tryz.prog 36 #[.slice a 32 c] w (RdPost w noSc) := by
  have hl := hx.len
  have hle := hx.le
  have hmx := hx.max
  obtain ⟨N1, hN1⟩ : ∃ N, N = fromZ (b.take 4) := ⟨_, rfl⟩
  obtain ⟨N2, hN2⟩ : ∃ N, N = fromZ (b.drop 28) := ⟨_, rfl⟩
  rw [← hN1, ← hN2] at h2
  have HN1 := Lib.hid hN1; clear hN1
  have HN2 := Lib.hid hN2; clear hN2
  obtain ⟨g, o, rfl, -⟩ := hx.cell (by omega)
  have hn1 : ∀ d os, Calls Tryz.prog 56 #[.slice (some ⟨g, o, none⟩) 4 c] (grow (redrawn w d) os) fun e w' => e = .returned (.int .i64 (N1 : Nat)) ∧ Below (grow (redrawn w d) os).heap.size (grow (redrawn w d) os) w' := fun d os => by
    have := Lnumber_calls ((hx.take 4 (by omega)).keep (below_regrown w d os))
    rwa [← HN1.out] at this
  have hn2 : ∀ d os, Calls Tryz.prog 56 #[.slice (some ⟨g, o + 28, none⟩) 4 (c - 28)] (grow (redrawn w d) os) fun e w' => e = .returned (.int .i64 (N2 : Nat)) ∧ Below (grow (redrawn w d) os).heap.size (grow (redrawn w d) os) w' := fun d os => by
    have := Lnumber_calls ((hx.dropAt 28 (by omega)).keep (below_regrown w d os))
    rwa [← HN2.out] at this
  have Hn1 := Lib.hid hn1; clear hn1
  have Hn2 := Lib.hid hn2; clear hn2
  have hne : ¬ (c = 28) := by omega
  have hd : ((N1 : Int) != (N2 : Int)) = false := by simp; omega
  have hd' : (N1 != N2) = false := by simp; omega
  have ht := hx.take 28 (by omega)
  have H1 := Lib.hid h1; clear h1
  have e25 : (b.take 28).take ((b.take 28).length - 3) = b.take 25 := by rw [List.length_take, hl, List.take_take]; rfl
  have E25 := Lib.hid e25; clear e25
  obtain ⟨X8, hX8⟩ : ∃ X, X = b.getD 8 0 := ⟨_, rfl⟩
  obtain ⟨F, hF⟩ : ∃ F, F = fillOf b := ⟨_, rfl⟩
  have h8 : 0 ≤ X8 ∧ X8 ≤ 255 := by
    have := wf_u8 (hx.fit (b.getD 8 0) (by rw [List.getD_eq_getElem?_getD, List.getElem?_eq_getElem (by omega)]; simp))
    rwa [← hX8] at this
  have hm8 : X8 % 128 = (F : Int) := by rw [hF]; unfold fillOf; rw [← hX8]; omega
  have hm8' : X8.tmod 128 = (F : Int) := by rw [← hm8]; exact Int.tmod_eq_emod_of_nonneg h8.1
  rw [← hF] at h3
  have HX8 := Lib.hid hX8; clear hX8
  have HF := Lib.hid hF; clear hF
  go_enter Tryz.func36, Tryz.ntmps36
  go_wp2_with fail
  refine wp_region_quiet_below (by kernel_rfl) (by kernel_rfl) ?_
  repeat (any_goals (first | go_big_quiet_step ((first | (go_at_call 56; with_reducible exact Calls.regrown_of (Hn1.out _ _)) | (go_at_call 56; exact Calls.regrown_of (Hn2.out _ _)))) | quiet_step ((first | (go_at_call 56; with_reducible exact Calls.regrown_of (Hn1.out _ _)) | (go_at_call 56; exact Calls.regrown_of (Hn2.out _ _))))))
  refine wpQuiet_nil ?_
  intro w1 hw1
  have hb1 : Below w.heap.size w w1 := by obtain ⟨q, rfl⟩ := hw1; exact below_regrown _ _ _
  clear hw1 Hn1 Hn2
  have hop := OpenRef_calls (ht.keep hb1) (by omega)
  have Hop := Lib.hid hop; clear hop
  have Ht := Lib.hid ht; clear ht
  have Hb1 := Lib.hid hb1; clear hb1
  have Hx := Lib.hid hx; clear hx
  clear hd hd' h2
  go_wp2_with fail
  refine Hop.out.mono ?_
  rintro e w2 ⟨hb2, ⟨h, -⟩ | ⟨-, v, rfl, hv⟩⟩
  case inl => rw [H1.out] at h; cases h
  have hb := Hb1.out.trans (hb2.mono Hb1.out.size)
  have Hb := Lib.hid hb; clear hb
  rw [E25.out] at hv
  obtain ⟨a', c', rfl, hi, hv0⟩ := own_len hv (n := 25) (by rw [List.length_take, hl]; rfl)
  obtain ⟨g', o', rfl, hcell⟩ := hi.cell (by omega)
  have hgg := hv0 g' o' rfl
  have hic := hi.le
  have him := hi.max
  have x8 := hcell 8 (by omega)
  rw [show (b.take 25).getD 8 0 = X8 by rw [HX8.out]; simp [List.getD_eq_getElem?_getD]] at x8
  clear hv0 hv Hop hb2
  have d1 : decide ((F : Int) > 16) = true := decide_eq_true (by omega)
  have d2 : decide (16 < F) = true := decide_eq_true h3
  have Hcell := Lib.hid hcell; clear hcell
  go_wp2
  try simp only [Exit.inBlock, Exit.then]
  refine bodyPost_ret (results_tmp4 rfl _ _ _) rfl ?_
  exact RdPost.none Hb.out
set_option maxHeartbeats 4000000 in
set_option maxRecDepth 100000 in
theorem Rread_good {w : World} {a : Option Addr} {c : Nat} {b : List Int} (hx : Ints w .u8 a 32 c b) (h1 : opened (b.take 28) = true) (h2 : fromZ (b.take 4) = fromZ (b.drop 28)) (h3 : fillOf b ≤ 16) :
    Calls Tryz.prog 36 #[.slice a 32 c] w (RdPost w (parseZ b).1) := by
  have hl := hx.len
  have hle := hx.le
  have hmx := hx.max
  obtain ⟨N1, hN1⟩ : ∃ N, N = fromZ (b.take 4) := ⟨_, rfl⟩
  obtain ⟨N2, hN2⟩ : ∃ N, N = fromZ (b.drop 28) := ⟨_, rfl⟩
  rw [← hN1, ← hN2] at h2
  have HN1 := Lib.hid hN1; clear hN1
  have HN2 := Lib.hid hN2; clear hN2
  obtain ⟨g, o, rfl, -⟩ := hx.cell (by omega)
  have hn1 : ∀ d os, Calls Tryz.prog 56 #[.slice (some ⟨g, o, none⟩) 4 c] (grow (redrawn w d) os) fun e w' => e = .returned (.int .i64 (N1 : Nat)) ∧ Below (grow (redrawn w d) os).heap.size (grow (redrawn w d) os) w' := fun d os => by
    have := Lnumber_calls ((hx.take 4 (by omega)).keep (below_regrown w d os))
    rwa [← HN1.out] at this
  have hn2 : ∀ d os, Calls Tryz.prog 56 #[.slice (some ⟨g, o + 28, none⟩) 4 (c - 28)] (grow (redrawn w d) os) fun e w' => e = .returned (.int .i64 (N2 : Nat)) ∧ Below (grow (redrawn w d) os).heap.size (grow (redrawn w d) os) w' := fun d os => by
    have := Lnumber_calls ((hx.dropAt 28 (by omega)).keep (below_regrown w d os))
    rwa [← HN2.out] at this
  have Hn1 := Lib.hid hn1; clear hn1
  have Hn2 := Lib.hid hn2; clear hn2
  have hne : ¬ (c = 28) := by omega
  have hd : ((N1 : Int) != (N2 : Int)) = false := by simp; omega
  have hd' : (N1 != N2) = false := by simp; omega
  have ht := hx.take 28 (by omega)
  have H1 := Lib.hid h1; clear h1
  have e25 : (b.take 28).take ((b.take 28).length - 3) = b.take 25 := by rw [List.length_take, hl, List.take_take]; rfl
  have E25 := Lib.hid e25; clear e25
  obtain ⟨X8, hX8⟩ : ∃ X, X = b.getD 8 0 := ⟨_, rfl⟩
  obtain ⟨F, hF⟩ : ∃ F, F = fillOf b := ⟨_, rfl⟩
  have h8 : 0 ≤ X8 ∧ X8 ≤ 255 := by
    have := wf_u8 (hx.fit (b.getD 8 0) (by rw [List.getD_eq_getElem?_getD, List.getElem?_eq_getElem (by omega)]; simp))
    rwa [← hX8] at this
  have hm8 : X8 % 128 = (F : Int) := by rw [hF]; unfold fillOf; rw [← hX8]; omega
  have hm8' : X8.tmod 128 = (F : Int) := by rw [← hm8]; exact Int.tmod_eq_emod_of_nonneg h8.1
  rw [← hF] at h3
  have HX8 := Lib.hid hX8; clear hX8
  have HF := Lib.hid hF; clear hF
  have htail : tailOk b = true := by unfold tailOk; rw [H1.out, decide_eq_true (by rw [← HN1.out, ← HN2.out]; exact h2)]; rfl
  obtain ⟨N3, hN3⟩ : ∃ N, N = fromZ ((b.drop 4).take 4) := ⟨_, rfl⟩
  have hyes : (∀ j, 9 + F ≤ j → j < 25 → (b.take 25).getD j 0 = 0) → (parseZ b).1 = ⟨N1, N3, decide (128 ≤ X8), (b.drop 9).take F⟩ := fun h => by
    have hb : bodyOk b = true := by
      unfold bodyOk
      rw [← HF.out, decide_eq_true h3, Bool.true_and, List.all_eq_true]
      intro z hz
      obtain ⟨i, hi, rfl⟩ := List.mem_iff_getElem.1 hz
      rw [List.length_drop, List.length_take] at hi
      have := h (9 + F + i) (by omega) (by omega)
      rw [List.getElem_drop]
      rw [List.getD_eq_getElem?_getD, List.getElem?_eq_getElem (by rw [List.length_take]; omega)] at this
      simpa using this
    unfold parseZ begOf
    rw [if_pos htail, if_pos hb, ← HN1.out, ← hN3, ← HF.out, ← HX8.out]
  have hno : ∀ k, 9 + F ≤ k → k < 25 → (b.take 25).getD k 0 ≠ 0 → (parseZ b).1 = noSc := fun k k1 k2 k3 => by
    have hb : bodyOk b = false := by
      unfold bodyOk
      rw [← HF.out, decide_eq_true h3, Bool.true_and, List.all_eq_false]
      refine ⟨(b.take 25).getD k 0, ?_, by simpa using k3⟩
      rw [List.getD_eq_getElem?_getD, List.getElem?_eq_getElem (by rw [List.length_take]; omega)]
      refine List.mem_iff_getElem.2 ⟨k - (9 + F), by rw [List.length_drop, List.length_take]; omega, ?_⟩
      rw [List.getElem_drop]
      simp only [Option.getD_some]
      congr 1; omega
    unfold parseZ
    rw [if_pos htail, if_neg (by rw [hb]; decide)]
  have HN3 := Lib.hid hN3; clear hN3
  have Hyes := Lib.hid hyes; clear hyes
  have Hno := Lib.hid hno; clear hno htail
  go_enter Tryz.func36, Tryz.ntmps36
  go_wp2_with fail
  refine wp_region_quiet_below (by kernel_rfl) (by kernel_rfl) ?_
  repeat (any_goals (first | go_big_quiet_step ((first | (go_at_call 56; with_reducible exact Calls.regrown_of (Hn1.out _ _)) | (go_at_call 56; exact Calls.regrown_of (Hn2.out _ _)))) | quiet_step ((first | (go_at_call 56; with_reducible exact Calls.regrown_of (Hn1.out _ _)) | (go_at_call 56; exact Calls.regrown_of (Hn2.out _ _))))))
  refine wpQuiet_nil ?_
  intro w1 hw1
  have hb1 : Below w.heap.size w w1 := by obtain ⟨q, rfl⟩ := hw1; exact below_regrown _ _ _
  clear hw1 Hn1 Hn2
  have hop := OpenRef_calls (ht.keep hb1) (by omega)
  have Hop := Lib.hid hop; clear hop
  have Ht := Lib.hid ht; clear ht
  have Hb1 := Lib.hid hb1; clear hb1
  have Hx := Lib.hid hx; clear hx
  clear hd hd' h2
  go_wp2_with fail
  refine Hop.out.mono ?_
  rintro e w2 ⟨hb2, ⟨h, -⟩ | ⟨-, v, rfl, hv⟩⟩
  case inl => rw [H1.out] at h; cases h
  have hb := Hb1.out.trans (hb2.mono Hb1.out.size)
  have Hb := Lib.hid hb; clear hb
  rw [E25.out] at hv
  obtain ⟨a', c', rfl, hi, hv0⟩ := own_len hv (n := 25) (by rw [List.length_take, hl]; rfl)
  obtain ⟨g', o', rfl, hcell⟩ := hi.cell (by omega)
  have hgg := hv0 g' o' rfl
  have hic := hi.le
  have him := hi.max
  have x8 := hcell 8 (by omega)
  rw [show (b.take 25).getD 8 0 = X8 by rw [HX8.out]; simp [List.getD_eq_getElem?_getD]] at x8
  clear hv0 hv Hop hb2
  have d1 : decide ((F : Int) > 16) = false := decide_eq_false (by omega)
  have d2 : decide (16 < F) = false := decide_eq_false (by omega)
  have Hi := Lib.hid hi; clear hi
  have Hcell := Lib.hid hcell; clear hcell
  go_wp2_with fail
  clear d1 d2
  go_loopw [9] (fun i wr => ∃ k : Nat, 9 + F ≤ k ∧ k ≤ 25 ∧ i = .int .i64 k ∧ (∀ j, 9 + F ≤ j → j < k → (b.take 25).getD j 0 = 0) ∧ w2 = wr) (fun i _ => 25 - (intOf i).toNat)
  case atStart => exact ⟨9 + F, Nat.le_refl _, by omega, by simp, fun j h1 h2 => by omega, rfl⟩
  case round =>
    obtain ⟨k, k1, k2, rfl, k3, rfl⟩ := hrel
    have K3 := Lib.hid k3; clear k3
    by_cases hlt : k < 25
    · have i0 : decide ((k : Int) < 25) = true := decide_eq_true (by omega)
      have i0' : decide (k < 25) = true := decide_eq_true hlt
      have i1 : (0 : Int) ≤ (k : Int) := by omega
      have i2 : (k : Int) < 25 := by omega
      have cx := Hcell.out k hlt
      obtain ⟨X, hX⟩ : ∃ X, X = (b.take 25).getD k 0 := ⟨_, rfl⟩
      rw [← hX] at cx
      have HX := Lib.hid hX; clear hX
      by_cases hz : X = 0
      · have hb : (X != 0) = false := by simp [hz]
        have Hz := Lib.hid hz; clear hz
        go_wp2
        go_roundw
        case rel => exact ⟨k + 1, by omega, by omega, by go_num, fun j j1 j2 => by
          by_cases e : j = k
          · rw [e, ← HX.out]; exact Hz.out
          · exact K3.out j j1 (by omega), by first | rfl | trivial⟩
        case measure => simp [intOf]; omega
      · have hb : (X != 0) = true := by simp [hz]
        have Hz := Lib.hid hz; clear hz
        go_wp2
        try simp only [Exit.inBlock, Exit.then]
        refine bodyPost_ret (results_tmp4 rfl _ _ _) rfl ?_
        rw [Hno.out k k1 hlt (by rw [← HX.out]; exact Hz.out)]
        exact RdPost.none Hb.out
    · obtain rfl : k = 25 := by omega
      have i0 : decide (((25 : Nat) : Int) < 25) = false := rfl
      have hy := Hyes.out (fun j j1 j2 => K3.out j j1 j2)
      have Hy := Lib.hid hy; clear hy Hyes Hno
      have hdat := (Hi.out.dropAt 9 (by omega)).take F (by omega)
      rw [List.drop_take, List.take_take, show min F (25 - 9) = F by omega] at hdat
      have hdl := hdat.len
      have Hdl := Lib.hid hdl; clear hdl
      have Hdat := Lib.hid hdat; clear hdat
      have hn1 : ∀ d os, Calls Tryz.prog 56 #[.slice (some ⟨g', o', none⟩) 4 c'] (grow (redrawn w2 d) os) fun e w' => e = .returned (.int .i64 (N1 : Nat)) ∧ Below (grow (redrawn w2 d) os).heap.size (grow (redrawn w2 d) os) w' := fun d os => by
        have := Lnumber_calls ((Hi.out.take 4 (by omega)).keep (below_regrown w2 d os))
        rwa [List.take_take, show min 4 25 = 4 from rfl, ← HN1.out] at this
      have hn3 : ∀ d os, Calls Tryz.prog 56 #[.slice (some ⟨g', o' + 4, none⟩) 4 (c' - 4)] (grow (redrawn w2 d) os) fun e w' => e = .returned (.int .i64 (N3 : Nat)) ∧ Below (grow (redrawn w2 d) os).heap.size (grow (redrawn w2 d) os) w' := fun d os => by
        have := Lnumber_calls (((Hi.out.dropAt 4 (by omega)).take 4 (by omega)).keep (below_regrown w2 d os))
        rwa [List.drop_take, List.take_take, show min 4 (25 - 4) = 4 from rfl, ← HN3.out] at this
      have Hn1 := Lib.hid hn1; clear hn1
      have Hn3 := Lib.hid hn3; clear hn3
      have hne9 : ¬ c' = 9 := by omega
      have hne4 : ¬ c' = 4 := by omega
      have j1 : (9 : Int) + (F : Int) ≤ (c' : Int) := by omega
      have j2 : (9 : Int) ≤ 9 + (F : Int) := by omega
      have e8 : decide (X8 ≥ 128) = decide (128 ≤ X8) := rfl
      have z8 := cell_regrown x8
      go_wp2_with fail
      refine wp_region_quiet_below (by kernel_rfl) (by kernel_rfl) ?_
      repeat (any_goals (first | go_big_quiet_step ((first | (go_at_call 56; with_reducible exact Calls.regrown_of (Hn1.out _ _)) | (go_at_call 56; exact Calls.regrown_of (Hn3.out _ _)))) | quiet_step ((first | (go_at_call 56; with_reducible exact Calls.regrown_of (Hn1.out _ _)) | (go_at_call 56; exact Calls.regrown_of (Hn3.out _ _))))))
      refine wpQuiet_nil ?_
      intro w3 hw3
      have hb3 : Below w2.heap.size w2 w3 := by obtain ⟨q, rfl⟩ := hw3; exact below_regrown _ _ _
      clear hw3 Hn1 Hn3 z8
      have hb := Hb.out.trans (hb3.mono Hb.out.size)
      have hdat := Hdat.out.keep hb3
      have Hdat := Lib.hid hdat; clear hdat
      have HB := Lib.hid hb; clear hb hb3
      go_wp2
      try simp only [Exit.inBlock, Exit.then]
      refine bodyPost_ret (results_tmp4 rfl _ _ _) rfl ?_
      rw [Hy.out]
      refine ⟨some ⟨g', o' + 9, none⟩, c' - 9, ?_, ?_, (fun x o e => by cases e; exact Nat.le_trans Hb1.out.size hgg), HB.out⟩
      · show Ending.returned (.tuple #[.int .i64 (N1 : Nat), .int .i64 (N3 : Nat), .slice (some ⟨g', o' + 9, none⟩) (9 + F - 9) (c' - 9), .bool (decide (128 ≤ X8))]) = _
        simp only [Hdl.out, show 9 + F - 9 = F by omega]
      · simp only [Hdl.out]; exact Hdat.out
/-- The document's read. -/
theorem Rread_calls {w : World} {a : Option Addr} {c : Nat} {b : List Int} (hx : Ints w .u8 a 32 c b) :
    Calls Tryz.prog 36 #[.slice a 32 c] w (RdPost w (parseZ b).1) := by
  by_cases h2 : fromZ (b.take 4) = fromZ (b.drop 28)
  · cases h1 : opened (b.take 28) with
    | true =>
      by_cases h3 : fillOf b ≤ 16
      · exact Rread_good hx h1 h2 h3
      · have hb : bodyOk b = false := by unfold bodyOk; rw [decide_eq_false h3, Bool.false_and]
        have he : (parseZ b).1 = noSc := by
          unfold parseZ
          split
          · rw [if_neg (by rw [hb]; decide)]
          · rfl
        rw [he]
        exact Rread_long hx h1 h2 (by omega)
    | false =>
      have ht : tailOk b = false := by unfold tailOk; rw [h1, Bool.false_and]
      have he : (parseZ b).1 = noSc := by unfold parseZ; rw [if_neg (by rw [ht]; decide)]
      rw [he]
      exact Rread_shut hx h1 h2
  · have ht : tailOk b = false := by unfold tailOk; rw [decide_eq_false h2, Bool.and_false]
    have he : (parseZ b).1 = noSc := by unfold parseZ; rw [if_neg (by rw [ht]; decide)]
    rw [he]
    exact Rread_differ hx h2
end Go.Proofs.YtgpedejeifmfdaaGreat
/- The document's log: Sector. -/
namespace Go.Proofs.YtgpedejeifmfdaaGreat
open Go.RowKit Go.Sort

theorem preZ_eq {num first : Nat} {bg : Bool} {data : List Int} : ((bytesZ 4 num ++ bytesZ 4 first) ++ [(fillZ ⟨num, first, bg, data⟩ : Int)] ++ data) ++ List.replicate (16 - data.length) 0 = preZ ⟨num, first, bg, data⟩ := by
  simp [preZ]
theorem own_slice {w : World} {B n : Nat} {E : TypeId} {v : Value} {zs : List Int} (h : Own w B E .u8 v zs) (hn : zs.length = n) : ∃ a c, v = .slice a n c := by
  obtain ⟨a, c, h1, -⟩ := own_len h hn
  exact ⟨a, c, h1⟩
set_option maxHeartbeats 8000000 in
set_option maxRecDepth 100000 in
theorem RSector_true {w : World} {num first : Nat} (h1 : num ≤ 4294967295) (h2 : first ≤ 4294967295) {a : Option Addr} {L c : Nat} {data : List Int} (hx : Ints w .u8 a L c data) (hL : L ≤ 16) :
    Calls Tryz.prog 47 #[.int .i64 (num : Nat), .int .i64 (first : Nat), .slice a L c, .bool true] w fun e w' => ∃ v, e = .returned v ∧ Own w' w.heap.size 5 .u8 v (secZ ⟨num, first, true, data⟩) ∧ Below w.heap.size w w' := by
  have hl := hx.len
  have hZ := preZ_eq (num := num) (first := first) (bg := true) (data := data)
  have hok : preZ ⟨num, first, true, data⟩ = preZ ⟨num, first, true, data⟩ ∧ (preZ ⟨num, first, true, data⟩).length = 25 := ⟨rfl, by
    rw [← hZ]; simp [bytes_len]; omega⟩
  obtain ⟨FZ, hFZ⟩ : ∃ F : Int, F = (fillZ ⟨num, first, true, data⟩ : Nat) := ⟨_, rfl⟩
  have hFZ' : FZ = 128 + (L : Int) := by rw [hFZ]; unfold fillZ; simp [hl]
  rw [← hFZ] at hZ
  clear hFZ
  obtain ⟨Z, hZd⟩ : ∃ Z, Z = preZ ⟨num, first, true, data⟩ := ⟨_, rfl⟩
  have hsec : secZ ⟨num, first, true, data⟩ = sealed Z ++ bytesZ 4 num := by rw [hZd]; rfl
  rw [← hZd] at hZ hok
  rw [hsec]
  have hZl := hok.2
  clear hok hZd hsec
  have HZ := Lib.hid hZ; clear hZ
  have HZl := Lib.hid hZl; clear hZl
  have hf1 := fun w : World => Rfour_calls (w := w) (N := num) (by omega)
  have hf2 := fun w : World => Rfour_calls (w := w) (N := first) (by omega)
  have Hf1 := Lib.hid hf1; clear hf1
  have Hf2 := Lib.hid hf2; clear hf2
  have HX := Lib.hid hx; clear hx
  have Hl := Lib.hid hl; clear hl
  have hl1 := bytes_len 4 num
  have hl2 := bytes_len 4 first
  have Hl1 := Lib.hid hl1; clear hl1
  have Hl2 := Lib.hid hl2; clear hl2
  have u1 : IntKind.u8.wrap (128 + (L : Int)) = 128 + (L : Int) := by rw [IntKind.wrap_u8]; omega
  have u2 : (128 + (L : Int)) % 256 = 128 + (L : Int) := by omega
  have u3 : IntKind.u8.wrap (L : Int) = (L : Int) := by rw [IntKind.wrap_u8]; omega
  have u4 : (L : Int) % 256 = (L : Int) := by omega
  go_enter Tryz.func47, Tryz.ntmps47
  go_wp2_with fail
  refine (Hf1.out _).mono ?_
  rintro e w1 ⟨v1, rfl, o1, b1⟩
  have O1 := Lib.hid o1; clear o1
  have HB := Lib.hid b1; clear b1
  go_wp2_with fail
  refine (Hf2.out _).mono ?_
  rintro e w2 ⟨v2, rfl, o2, b2⟩
  have o1 := O1.out.below b2
  clear O1
  have O1 := Lib.hid o1; clear o1
  have hb := HB.out.trans (b2.mono HB.out.size)
  clear HB b2
  have HB := Lib.hid hb; clear hb
  obtain ⟨a2, c2, rfl, i2, -⟩ := own_len o2 Hl2.out
  have I2 := Lib.hid i2; clear i2 o2
  go_wp2_with (with_reducible refine stop_builtin .append ?_)
  refine unpark ?_
  refine wpList_append_ints _ rfl _ _ 39 rfl .u8 w.heap.size 5 (.int .u8 0) 1 Tryz.underlying39 Tryz.infoU8 rfl _ _ rfl O1.out _ 4 _ _ rfl I2.out (by rw [Hl1.out]; omega) (by decide) HB.out.size ?_
  intro v3 w3 o5 g5 _
  have hb := HB.out.grown g5 HB.out.size (fun k hk => (O1.out.block k hk).1)
  clear HB O1 I2 g5
  have HB := Lib.hid hb; clear hb
  have O3 := Lib.hid o5; clear o5
  go_wp2_with (with_reducible refine stop_builtin .append ?_)
  refine unpark ?_
  have i4 := ints_alloc (w := w3) (n := 1) (k := .u8) (E := 5) (C := #[.int .u8 (128 + (L : Int))]) [128 + (L : Int)] rfl rfl (by omega) (by
    intro z hz
    obtain rfl : z = 128 + (L : Int) := by simpa using hz
    exact wf_u8' (by omega))
  have b4 := (Below.refl w3.heap.size w3).alloc (Nat.le_refl _) (.cells #[.int .u8 (128 + (L : Int))] 5)
  generalize w3.alloc (.cells #[.int .u8 (128 + (L : Int))] 5) = w4 at i4 b4 ⊢
  have o4 := O3.out.below b4
  have hb := HB.out.trans (b4.mono HB.out.size)
  clear HB O3 b4
  have HB := Lib.hid hb; clear hb
  have O4 := Lib.hid o4; clear o4
  have I4 := Lib.hid i4; clear i4
  refine wpList_append_ints _ rfl _ _ 39 rfl .u8 w.heap.size 5 (.int .u8 0) 1 Tryz.underlying39 Tryz.infoU8 rfl _ _ rfl O4.out _ 1 _ _ rfl I4.out (by rw [List.length_append, Hl1.out, Hl2.out]; simp) (by decide) HB.out.size ?_
  intro v5 w5 o5 g5 _
  have hb := HB.out.grown g5 HB.out.size (fun k hk => (O4.out.block k hk).1)
  clear HB O4 I4 g5
  have HB := Lib.hid hb; clear hb
  have O5 := Lib.hid o5; clear o5
  go_wp2_with (with_reducible refine stop_builtin .append ?_)
  refine unpark ?_
  have i6 := HX.out.keep HB.out
  have I6 := Lib.hid i6; clear i6
  refine wpList_append_ints _ rfl _ _ 39 rfl .u8 w.heap.size 5 (.int .u8 0) 1 Tryz.underlying39 Tryz.infoU8 rfl _ _ rfl O5.out _ _ _ _ rfl I6.out (by simp only [List.length_append, Hl1.out, Hl2.out, List.length_singleton]; omega) (by decide) HB.out.size ?_
  intro v7 w7 o5 g5 _
  have hb := HB.out.grown g5 HB.out.size (fun k hk => (O5.out.block k hk).1)
  clear HB O5 I6 g5
  have HB := Lib.hid hb; clear hb
  have O7 := Lib.hid o5; clear o5
  have hlen7 : ((bytesZ 4 num ++ bytesZ 4 first) ++ [128 + (L : Int)] ++ data).length = 9 + L := by simp only [List.length_append, Hl1.out, Hl2.out, Hl.out, List.length_singleton]
  obtain ⟨a7, c7, rfl⟩ := own_slice O7.out hlen7
  rw [← hFZ'] at O7 hlen7
  obtain ⟨P, hP⟩ : ∃ P, P = (bytesZ 4 num ++ bytesZ 4 first) ++ [FZ] ++ data := ⟨_, rfl⟩
  have hZ := HZ.out
  rw [← hP] at O7 hlen7 hZ
  rw [Hl.out] at hZ
  clear HZ hP
  have HZ := Lib.hid hZ; clear hZ
  have HlP := Lib.hid hlen7; clear hlen7 hFZ' u1 u2 u3 u4
  go_wp2_with fail
  go_loopw [9] (fun i wr => ∃ (k K : Nat) (a9 : Option Addr) (c9 : Nat), k ≤ 16 - L ∧ K = 9 + L + k ∧ i = .slice a9 K c9 ∧ Own wr w.heap.size 5 .u8 (.slice a9 K c9) (P ++ List.replicate k 0) ∧ Below w.heap.size w wr) (fun i _ => match i with | .slice _ n _ => 25 - n | _ => 0)
  case atStart => exact ⟨0, 9 + L, a7, c7, by omega, rfl, rfl, by simpa using O7.out, HB.out⟩
  case round =>
    obtain ⟨k, K, a9, c9, hk, hK, rfl, o9, b9⟩ := hrel
    have hK1 : K ≤ 25 := by omega
    have HK := Lib.hid hK
    clear HB O7
    have HB := Lib.hid b9; clear b9
    have O9 := Lib.hid o9; clear o9
    by_cases hlt : K < 25
    · have i0 : decide ((K : Int) < 25) = true := decide_eq_true (by omega)
      have i2 : decide (K < 25) = true := decide_eq_true hlt
      clear hK
      go_wp2_with (with_reducible refine stop_builtin .append ?_)
      refine unpark ?_
      have iz := ints_alloc (w := wr) (n := 1) (k := .u8) (E := 5) (C := #[.int .u8 0]) [0] rfl rfl (by omega) (by
        intro z hz
        obtain rfl : z = 0 := by simpa using hz
        exact wf_u8' (by omega))
      have bz := (Below.refl wr.heap.size wr).alloc (Nat.le_refl _) (.cells #[.int .u8 0] 5)
      generalize wr.alloc (.cells #[.int .u8 0] 5) = wz at iz bz ⊢
      have oz := O9.out.below bz
      have hb := HB.out.trans (bz.mono HB.out.size)
      clear HB O9 bz
      have HB := Lib.hid hb; clear hb
      have OZ := Lib.hid oz; clear oz
      have IZ := Lib.hid iz; clear iz
      refine wpList_append_ints _ rfl _ _ 39 rfl .u8 w.heap.size 5 (.int .u8 0) 1 Tryz.underlying39 Tryz.infoU8 rfl _ _ rfl OZ.out _ 1 _ _ rfl IZ.out (by rw [List.length_append, List.length_replicate, HlP.out]; simp; omega) (by decide) HB.out.size ?_
      intro va wa o5 g5 _
      have hb := HB.out.grown g5 HB.out.size (fun k hk => (OZ.out.block k hk).1)
      clear HB OZ IZ g5
      have HB := Lib.hid hb; clear hb
      have OA := Lib.hid o5; clear o5
      have hrep : P ++ List.replicate k 0 ++ [0] = P ++ List.replicate (k + 1) 0 := by rw [List.append_assoc, List.replicate_succ']
      rw [hrep] at OA
      obtain ⟨aa, ca, rfl⟩ := own_slice OA.out (n := K + 1) (by rw [List.length_append, List.length_replicate, HlP.out]; have := HK.out; omega)
      go_wp2
      go_roundw
      case rel => exact ⟨k + 1, K + 1, aa, ca, by have := HK.out; omega, by have := HK.out; omega, rfl, OA.out, HB.out⟩
      case measure => show 25 - (K + 1) < 25 - K; omega
    · obtain rfl : K = 25 := by omega
      have hk2 : k = 16 - L := by omega
      subst hk2
      clear hK HK hlt hK1 hk
      have i0 : decide (((25 : Nat) : Int) < 25) = false := rfl
      rw [HZ.out] at O9
      obtain ⟨az, cz, e, iz, -⟩ := own_len O9.out HZl.out
      injection e with e1 e2 e3
      subst e1 e3
      have hse := SealRef_calls iz (by omega)
      rw [← e2] at hse
      have Hse := Lib.hid hse; clear hse iz O9
      go_wp2_with fail
      refine Hse.out.mono ?_
      rintro e w10 ⟨v10, rfl, o10, b10⟩
      have hb := HB.out.trans (b10.mono HB.out.size)
      have o10 := o10.mono HB.out.size
      clear HB Hse
      have O10 := Lib.hid o10; clear o10
      have HB := Lib.hid hb; clear hb b10
      go_wp2_with fail
      refine (Hf1.out _).mono ?_
      rintro e w11 ⟨v11, rfl, o11, b11⟩
      have o10 := O10.out.below b11
      clear O10
      have O10 := Lib.hid o10; clear o10
      have hb := HB.out.trans (b11.mono HB.out.size)
      clear HB b11
      have HB := Lib.hid hb; clear hb
      obtain ⟨a11, c11, rfl, i11, -⟩ := own_len o11 Hl1.out
      have I11 := Lib.hid i11; clear i11 o11
      go_wp2_with (with_reducible refine stop_builtin .append ?_)
      refine unpark ?_
      refine wpList_append_ints _ rfl _ _ 39 rfl .u8 w.heap.size 5 (.int .u8 0) 1 Tryz.underlying39 Tryz.infoU8 rfl _ _ rfl O10.out _ 4 _ _ rfl I11.out (by rw [sealed_len, HZl.out]; omega) (by decide) HB.out.size ?_
      intro v12 w12 o5 g5 _
      have hb := HB.out.grown g5 HB.out.size (fun k hk => (O10.out.block k hk).1)
      clear HB O10 I11 g5
      have HB := Lib.hid hb; clear hb
      have O12 := Lib.hid o5; clear o5
      go_wp2
      go_ret
      exact ⟨_, rfl, O12.out, HB.out⟩
set_option maxHeartbeats 8000000 in
set_option maxRecDepth 100000 in
theorem RSector_false {w : World} {num first : Nat} (h1 : num ≤ 4294967295) (h2 : first ≤ 4294967295) {a : Option Addr} {L c : Nat} {data : List Int} (hx : Ints w .u8 a L c data) (hL : L ≤ 16) :
    Calls Tryz.prog 47 #[.int .i64 (num : Nat), .int .i64 (first : Nat), .slice a L c, .bool false] w fun e w' => ∃ v, e = .returned v ∧ Own w' w.heap.size 5 .u8 v (secZ ⟨num, first, false, data⟩) ∧ Below w.heap.size w w' := by
  have hl := hx.len
  have hZ := preZ_eq (num := num) (first := first) (bg := false) (data := data)
  have hok : preZ ⟨num, first, false, data⟩ = preZ ⟨num, first, false, data⟩ ∧ (preZ ⟨num, first, false, data⟩).length = 25 := ⟨rfl, by
    rw [← hZ]; simp [bytes_len]; omega⟩
  obtain ⟨FZ, hFZ⟩ : ∃ F : Int, F = (fillZ ⟨num, first, false, data⟩ : Nat) := ⟨_, rfl⟩
  have hFZ' : FZ = (L : Int) := by rw [hFZ]; unfold fillZ; simp [hl]
  rw [← hFZ] at hZ
  clear hFZ
  obtain ⟨Z, hZd⟩ : ∃ Z, Z = preZ ⟨num, first, false, data⟩ := ⟨_, rfl⟩
  have hsec : secZ ⟨num, first, false, data⟩ = sealed Z ++ bytesZ 4 num := by rw [hZd]; rfl
  rw [← hZd] at hZ hok
  rw [hsec]
  have hZl := hok.2
  clear hok hZd hsec
  have HZ := Lib.hid hZ; clear hZ
  have HZl := Lib.hid hZl; clear hZl
  have hf1 := fun w : World => Rfour_calls (w := w) (N := num) (by omega)
  have hf2 := fun w : World => Rfour_calls (w := w) (N := first) (by omega)
  have Hf1 := Lib.hid hf1; clear hf1
  have Hf2 := Lib.hid hf2; clear hf2
  have HX := Lib.hid hx; clear hx
  have Hl := Lib.hid hl; clear hl
  have hl1 := bytes_len 4 num
  have hl2 := bytes_len 4 first
  have Hl1 := Lib.hid hl1; clear hl1
  have Hl2 := Lib.hid hl2; clear hl2
  have u1 : IntKind.u8.wrap (128 + (L : Int)) = 128 + (L : Int) := by rw [IntKind.wrap_u8]; omega
  have u2 : (128 + (L : Int)) % 256 = 128 + (L : Int) := by omega
  have u3 : IntKind.u8.wrap (L : Int) = (L : Int) := by rw [IntKind.wrap_u8]; omega
  have u4 : (L : Int) % 256 = (L : Int) := by omega
  go_enter Tryz.func47, Tryz.ntmps47
  go_wp2_with fail
  refine (Hf1.out _).mono ?_
  rintro e w1 ⟨v1, rfl, o1, b1⟩
  have O1 := Lib.hid o1; clear o1
  have HB := Lib.hid b1; clear b1
  go_wp2_with fail
  refine (Hf2.out _).mono ?_
  rintro e w2 ⟨v2, rfl, o2, b2⟩
  have o1 := O1.out.below b2
  clear O1
  have O1 := Lib.hid o1; clear o1
  have hb := HB.out.trans (b2.mono HB.out.size)
  clear HB b2
  have HB := Lib.hid hb; clear hb
  obtain ⟨a2, c2, rfl, i2, -⟩ := own_len o2 Hl2.out
  have I2 := Lib.hid i2; clear i2 o2
  go_wp2_with (with_reducible refine stop_builtin .append ?_)
  refine unpark ?_
  refine wpList_append_ints _ rfl _ _ 39 rfl .u8 w.heap.size 5 (.int .u8 0) 1 Tryz.underlying39 Tryz.infoU8 rfl _ _ rfl O1.out _ 4 _ _ rfl I2.out (by rw [Hl1.out]; omega) (by decide) HB.out.size ?_
  intro v3 w3 o5 g5 _
  have hb := HB.out.grown g5 HB.out.size (fun k hk => (O1.out.block k hk).1)
  clear HB O1 I2 g5
  have HB := Lib.hid hb; clear hb
  have O3 := Lib.hid o5; clear o5
  go_wp2_with (with_reducible refine stop_builtin .append ?_)
  refine unpark ?_
  have i4 := ints_alloc (w := w3) (n := 1) (k := .u8) (E := 5) (C := #[.int .u8 ((L : Int))]) [(L : Int)] rfl rfl (by omega) (by
    intro z hz
    obtain rfl : z = (L : Int) := by simpa using hz
    exact wf_u8' (by omega))
  have b4 := (Below.refl w3.heap.size w3).alloc (Nat.le_refl _) (.cells #[.int .u8 ((L : Int))] 5)
  generalize w3.alloc (.cells #[.int .u8 ((L : Int))] 5) = w4 at i4 b4 ⊢
  have o4 := O3.out.below b4
  have hb := HB.out.trans (b4.mono HB.out.size)
  clear HB O3 b4
  have HB := Lib.hid hb; clear hb
  have O4 := Lib.hid o4; clear o4
  have I4 := Lib.hid i4; clear i4
  refine wpList_append_ints _ rfl _ _ 39 rfl .u8 w.heap.size 5 (.int .u8 0) 1 Tryz.underlying39 Tryz.infoU8 rfl _ _ rfl O4.out _ 1 _ _ rfl I4.out (by rw [List.length_append, Hl1.out, Hl2.out]; simp) (by decide) HB.out.size ?_
  intro v5 w5 o5 g5 _
  have hb := HB.out.grown g5 HB.out.size (fun k hk => (O4.out.block k hk).1)
  clear HB O4 I4 g5
  have HB := Lib.hid hb; clear hb
  have O5 := Lib.hid o5; clear o5
  go_wp2_with (with_reducible refine stop_builtin .append ?_)
  refine unpark ?_
  have i6 := HX.out.keep HB.out
  have I6 := Lib.hid i6; clear i6
  refine wpList_append_ints _ rfl _ _ 39 rfl .u8 w.heap.size 5 (.int .u8 0) 1 Tryz.underlying39 Tryz.infoU8 rfl _ _ rfl O5.out _ _ _ _ rfl I6.out (by simp only [List.length_append, Hl1.out, Hl2.out, List.length_singleton]; omega) (by decide) HB.out.size ?_
  intro v7 w7 o5 g5 _
  have hb := HB.out.grown g5 HB.out.size (fun k hk => (O5.out.block k hk).1)
  clear HB O5 I6 g5
  have HB := Lib.hid hb; clear hb
  have O7 := Lib.hid o5; clear o5
  have hlen7 : ((bytesZ 4 num ++ bytesZ 4 first) ++ [(L : Int)] ++ data).length = 9 + L := by simp only [List.length_append, Hl1.out, Hl2.out, Hl.out, List.length_singleton]
  obtain ⟨a7, c7, rfl⟩ := own_slice O7.out hlen7
  rw [← hFZ'] at O7 hlen7
  obtain ⟨P, hP⟩ : ∃ P, P = (bytesZ 4 num ++ bytesZ 4 first) ++ [FZ] ++ data := ⟨_, rfl⟩
  have hZ := HZ.out
  rw [← hP] at O7 hlen7 hZ
  rw [Hl.out] at hZ
  clear HZ hP
  have HZ := Lib.hid hZ; clear hZ
  have HlP := Lib.hid hlen7; clear hlen7 hFZ' u1 u2 u3 u4
  go_wp2_with fail
  go_loopw [9] (fun i wr => ∃ (k K : Nat) (a9 : Option Addr) (c9 : Nat), k ≤ 16 - L ∧ K = 9 + L + k ∧ i = .slice a9 K c9 ∧ Own wr w.heap.size 5 .u8 (.slice a9 K c9) (P ++ List.replicate k 0) ∧ Below w.heap.size w wr) (fun i _ => match i with | .slice _ n _ => 25 - n | _ => 0)
  case atStart => exact ⟨0, 9 + L, a7, c7, by omega, rfl, rfl, by simpa using O7.out, HB.out⟩
  case round =>
    obtain ⟨k, K, a9, c9, hk, hK, rfl, o9, b9⟩ := hrel
    have hK1 : K ≤ 25 := by omega
    have HK := Lib.hid hK
    clear HB O7
    have HB := Lib.hid b9; clear b9
    have O9 := Lib.hid o9; clear o9
    by_cases hlt : K < 25
    · have i0 : decide ((K : Int) < 25) = true := decide_eq_true (by omega)
      have i2 : decide (K < 25) = true := decide_eq_true hlt
      clear hK
      go_wp2_with (with_reducible refine stop_builtin .append ?_)
      refine unpark ?_
      have iz := ints_alloc (w := wr) (n := 1) (k := .u8) (E := 5) (C := #[.int .u8 0]) [0] rfl rfl (by omega) (by
        intro z hz
        obtain rfl : z = 0 := by simpa using hz
        exact wf_u8' (by omega))
      have bz := (Below.refl wr.heap.size wr).alloc (Nat.le_refl _) (.cells #[.int .u8 0] 5)
      generalize wr.alloc (.cells #[.int .u8 0] 5) = wz at iz bz ⊢
      have oz := O9.out.below bz
      have hb := HB.out.trans (bz.mono HB.out.size)
      clear HB O9 bz
      have HB := Lib.hid hb; clear hb
      have OZ := Lib.hid oz; clear oz
      have IZ := Lib.hid iz; clear iz
      refine wpList_append_ints _ rfl _ _ 39 rfl .u8 w.heap.size 5 (.int .u8 0) 1 Tryz.underlying39 Tryz.infoU8 rfl _ _ rfl OZ.out _ 1 _ _ rfl IZ.out (by rw [List.length_append, List.length_replicate, HlP.out]; simp; omega) (by decide) HB.out.size ?_
      intro va wa o5 g5 _
      have hb := HB.out.grown g5 HB.out.size (fun k hk => (OZ.out.block k hk).1)
      clear HB OZ IZ g5
      have HB := Lib.hid hb; clear hb
      have OA := Lib.hid o5; clear o5
      have hrep : P ++ List.replicate k 0 ++ [0] = P ++ List.replicate (k + 1) 0 := by rw [List.append_assoc, List.replicate_succ']
      rw [hrep] at OA
      obtain ⟨aa, ca, rfl⟩ := own_slice OA.out (n := K + 1) (by rw [List.length_append, List.length_replicate, HlP.out]; have := HK.out; omega)
      go_wp2
      go_roundw
      case rel => exact ⟨k + 1, K + 1, aa, ca, by have := HK.out; omega, by have := HK.out; omega, rfl, OA.out, HB.out⟩
      case measure => show 25 - (K + 1) < 25 - K; omega
    · obtain rfl : K = 25 := by omega
      have hk2 : k = 16 - L := by omega
      subst hk2
      clear hK HK hlt hK1 hk
      have i0 : decide (((25 : Nat) : Int) < 25) = false := rfl
      rw [HZ.out] at O9
      obtain ⟨az, cz, e, iz, -⟩ := own_len O9.out HZl.out
      injection e with e1 e2 e3
      subst e1 e3
      have hse := SealRef_calls iz (by omega)
      rw [← e2] at hse
      have Hse := Lib.hid hse; clear hse iz O9
      go_wp2_with fail
      refine Hse.out.mono ?_
      rintro e w10 ⟨v10, rfl, o10, b10⟩
      have hb := HB.out.trans (b10.mono HB.out.size)
      have o10 := o10.mono HB.out.size
      clear HB Hse
      have O10 := Lib.hid o10; clear o10
      have HB := Lib.hid hb; clear hb b10
      go_wp2_with fail
      refine (Hf1.out _).mono ?_
      rintro e w11 ⟨v11, rfl, o11, b11⟩
      have o10 := O10.out.below b11
      clear O10
      have O10 := Lib.hid o10; clear o10
      have hb := HB.out.trans (b11.mono HB.out.size)
      clear HB b11
      have HB := Lib.hid hb; clear hb
      obtain ⟨a11, c11, rfl, i11, -⟩ := own_len o11 Hl1.out
      have I11 := Lib.hid i11; clear i11 o11
      go_wp2_with (with_reducible refine stop_builtin .append ?_)
      refine unpark ?_
      refine wpList_append_ints _ rfl _ _ 39 rfl .u8 w.heap.size 5 (.int .u8 0) 1 Tryz.underlying39 Tryz.infoU8 rfl _ _ rfl O10.out _ 4 _ _ rfl I11.out (by rw [sealed_len, HZl.out]; omega) (by decide) HB.out.size ?_
      intro v12 w12 o5 g5 _
      have hb := HB.out.grown g5 HB.out.size (fun k hk => (O10.out.block k hk).1)
      clear HB O10 I11 g5
      have HB := Lib.hid hb; clear hb
      have O12 := Lib.hid o5; clear o5
      go_wp2
      go_ret
      exact ⟨_, rfl, O12.out, HB.out⟩
theorem RSector_calls {w : World} {S : Sc} (h1 : S.num ≤ 4294967295) (h2 : S.first ≤ 4294967295) {a : Option Addr} {L c : Nat} (hx : Ints w .u8 a L c S.data) (hL : L ≤ 16) :
    Calls Tryz.prog 47 #[.int .i64 (S.num : Nat), .int .i64 (S.first : Nat), .slice a L c, .bool S.beg] w fun e w' => ∃ v, e = .returned v ∧ Own w' w.heap.size 5 .u8 v (secZ S) ∧ Below w.heap.size w w' := by
  obtain ⟨n, f, b, d⟩ := S
  cases b
  · exact RSector_false h1 h2 hx hL
  · exact RSector_true h1 h2 hx hL
end Go.Proofs.YtgpedejeifmfdaaGreat
/- The document's log in memory: at, Sectors, Free. -/
namespace Go.Proofs.YtgpedejeifmfdaaGreat
open Go.RowKit Go.Sort

/-- The sector at a place. -/
abbrev pS (s : State) (k : Nat) : Sc := (parseZ (readOf s.1 s.2 (k : Int))).1
def RLogAt (w : World) (lb db : Nat) (l : Lg) : Prop := w.heap[lb]? = some (.cells (l.cells db) 48 (0, 0))
theorem RLogAt.keep {w w' : World} {lb db : Nat} {l : Lg} (h : RLogAt w lb db l) (hk : w'.heap[lb]? = w.heap[lb]?) : RLogAt w' lb db l := by
  unfold RLogAt at h ⊢
  rw [hk]; exact h
theorem RLogAt.step {w w' : World} {lb db : Nat} {l : Lg} (h : RLogAt w lb db l) (hb : Below w.heap.size w w') : RLogAt w' lb db l :=
  h.keep (hb.block lb (Array.getElem?_eq_some_iff.1 h).1)
theorem Ref.root {w0 w : World} {b : Nat} {G : Nat → Prop} {s : State} (h : Ref w0 w b G s) : ∃ sa sc cv, w.heap[b]? = some (.cells #[.slice sa s.1.length sc, cv] 54 (0, 0)) := by
  obtain ⟨sv, cv, R, hd, hf⟩ := h.ref
  obtain ⟨a, c, rfl⟩ := hd.shape_s
  exact ⟨a, c, cv, hd.root⟩
/-- All that is read is a sector. -/
structure Sects (s : State) : Prop where
  pos : 1 ≤ s.1.length
  le : s.1.length ≤ 512
  sec : ∀ k : Int, 0 ≤ k ∧ k < s.1.length → Sector (readOf s.1 s.2 k)
def AtPost (w : World) (S : Sc) (n : Nat) (e : Ending) (w' : World) : Prop := ∃ a c, e = .returned (.tuple #[.int .i64 (S.first : Nat), .slice a S.data.length c, .bool S.beg, .bool (decide (S.num = n))]) ∧ Ints w' .u8 a S.data.length c S.data ∧ (∀ x o, a = some ⟨x, o, none⟩ → w.heap.size ≤ x) ∧ Below w.heap.size w w'
section
variable {w0 w w' : World} {lb b : Nat} {G : Nat → Prop} {s : State} {l : Lg}
theorem tmod_place {N n : Nat} (h1 : 1 ≤ n) : ((n : Int) - 1).tmod (N : Int) = (((n - 1) % N : Nat) : Int) := by
  rw [Int.tmod_eq_emod_of_nonneg (by omega), show (n : Int) - 1 = ((n - 1 : Nat) : Int) by omega]
  rfl
set_option maxHeartbeats 4000000 in
set_option maxRecDepth 100000 in
theorem RAt_calls (h : Ref w0 w b G s) (hl : RLogAt w lb b l) (hS : Sects s) (hC : s.2.length ≤ 1000000) {n : Nat} (h1 : 1 ≤ n) (h2 : n ≤ 4294967296) :
    Calls Tryz.prog 37 #[.pointer (some ⟨lb, 0, none⟩), .int .i64 (n : Nat)] w (AtPost w (pS s (placeOf s n)) n) := by
  obtain ⟨hp1, hp2, hsec⟩ := hS
  have hplt : placeOf s n < s.1.length := Nat.mod_lt _ (by omega)
  have hm := tmod_place (N := s.1.length) h1
  have hne0 : ¬ s.1.length = 0 := by omega
  obtain ⟨sa, sc, cv, hr⟩ := h.root
  have hm2 : ((n : Int) - 1).tmod (s.1.length : Int) = ((placeOf s n : Nat) : Int) := hm
  clear hm
  obtain ⟨P, hP⟩ : ∃ P, P = placeOf s n := ⟨_, rfl⟩
  rw [← hP] at hplt hm2 ⊢
  clear hP
  obtain ⟨N, hN⟩ : ∃ N, N = s.1.length := ⟨_, rfl⟩
  rw [← hN] at hr hm2 hne0 hp1 hp2 hplt
  have hse := hsec (P : Int) ⟨by omega, by omega⟩
  have hpb := parse_bound (b := readOf s.1 s.2 (P : Int)) fun z hz => wf_u8 (hse.2 z hz)
  have hre : readErr s (P : Int) = 0 := by unfold readErr; rw [if_pos ⟨by omega, by omega⟩]
  unfold pS
  have hrd := fun w1 (hb : Below w.heap.size w w1) => RRead_ref (h.step hb) hC (P : Int)
  rw [hre] at hrd
  obtain ⟨Z, hZ⟩ : ∃ Z, Z = readOf s.1 s.2 (P : Int) := ⟨_, rfl⟩
  rw [← hZ] at hse hpb hrd ⊢
  have hpa := fun (w : World) (a : Option Addr) (c : Nat) (h : Ints w .u8 a 32 c Z) => Rread_calls h
  obtain ⟨PZ, hPZ⟩ : ∃ PZ, PZ = (parseZ Z).1 := ⟨_, rfl⟩
  rw [← hPZ] at hpa hpb ⊢
  obtain ⟨num, first, beg, data⟩ := PZ
  unfold RdPost at hpa
  simp only at hpa hpb ⊢
  clear hPZ hZ hN
  have Hpa := Lib.hid hpa; clear hpa
  have Hrd := Lib.hid hrd; clear hrd
  have Hse := Lib.hid hse; clear hse
  have Hpb := Lib.hid hpb; clear hpb
  unfold RLogAt Lg.cells at hl
  have sd := below_drew w
  have x0 := (sd.block _ (Array.getElem?_eq_some_iff.1 hl).1).trans hl
  have x1 := (sd.block _ (Array.getElem?_eq_some_iff.1 hr).1).trans hr
  clear hl hr h hsec hre hC hp1 hp2
  have SD := Lib.hid sd; clear sd
  have X0 := Lib.hid x0; clear x0
  have X1 := Lib.hid x1; clear x1
  have hs1 : IntKind.i64.wrap ((n : Int) - 1) = (n : Int) - 1 := IntWalk.i64_in _ (by omega)
  go_enter Tryz.func37, Tryz.ntmps37
  go_wp2_with fail
  refine wp_region_plan (fun w' => w'.heap[lb]? = some (.cells #[.pointer (some ⟨b, 0, none⟩), .int .i64 l.next, .int .i64 l.first, .int .i64 l.sure] 48 (0, 0)) ∧ w'.heap[b]? = some (.cells #[.slice sa N sc, cv] 54 (0, 0))) (.pre [0, 1, 2, 3, 4] (.yld 5 (.pre [6, 7, 8, 9, 10, 11, 12, 13] (.yld 14 (.segs [[15], [16, 17, 18, 19, 20]]))))) (by kernel_rfl) (by kernel_rfl) rfl (by kernel_rfl) (fun _ _ _ h => by obtain ⟨_, _, _, h, _⟩ := h; cases h) (fun _ _ h => by obtain ⟨_, _, h, _⟩ := h; cases h) ⟨X0.out, X1.out⟩ ?_
  generalize w.drew = wd at SD X0 X1 ⊢
  refine plan_pre (by kernel_rfl) ?_
  apply Exists.intro
  apply And.intro
  · intro w' s
    have z0 := cells_at s.1 0
    have y0 := cells_at s.2 0
    clear s
    simp only [List.map_cons, List.map_nil, List.getD_cons_zero, List.getD_cons_succ]
    go_wp2_with fail
    exact pre_end
  refine yld_at (.int .i64 ((n : Int) - 1)) rfl (fun w2 _ => (congrArg (fun z => Result.ok (Next.value (.int .i64 z)) w2) hs1)) ?_
  refine plan_pre (by kernel_rfl) ?_
  apply Exists.intro
  apply And.intro
  · intro w' s
    have z0 := cells_at s.1 0
    have y0 := cells_at s.2 0
    clear s
    simp only [List.map_cons, List.map_nil, List.getD_cons_zero, List.getD_cons_succ]
    go_wp2_with fail
    exact pre_end
  refine yld_at (.int .i64 (P : Int)) rfl (fun w2 _ => (by
    rw [← hm2]
    exact (show _ = _ from by simp [execOp, hne0, go_sem, hm2]))) ?_
  refine plan_segs (segs_more ?_)
  simp only [List.map_cons, List.map_nil, List.getD_cons_zero, List.getD_cons_succ]
  go_wp2_with fail
  refine (Hrd.out _ SD.out).mono ?_
  rintro e w2 ⟨v, rfl, hv, hb2, -⟩
  obtain ⟨a2, c2, rfl, hi, -⟩ := own_len hv Hse.out.1
  have s2 := (hb2.block _ (Array.getElem?_eq_some_iff.1 X0.out).1).trans X0.out
  have t2 := (hb2.block _ (Array.getElem?_eq_some_iff.1 X1.out).1).trans X1.out
  have bb := SD.out.trans (hb2.mono SD.out.size)
  have hpa := Hpa.out _ _ _ hi
  clear Hrd SD X0 X1 hv hb2 hi Hpa
  have Hpa := Lib.hid hpa; clear hpa
  have BB := Lib.hid bb; clear bb
  have S2 := Lib.hid s2; clear s2
  have T2 := Lib.hid t2; clear t2
  go_wp2_with fail
  refine seg_end ⟨S2.out, T2.out⟩ (segs_last ?_)
  clear S2 T2
  go_wp2_with fail
  refine Hpa.out.mono ?_
  rintro e w3 ⟨a3, c3, rfl, hd3, hn3, hb3⟩
  have hb := BB.out.trans (hb3.mono BB.out.size)
  have hsz := BB.out.size
  have HB := Lib.hid hb; clear hb hb3
  have Hd3 := Lib.hid hd3; clear hd3
  have Hn3 := Lib.hid hn3; clear hn3
  clear Hpa BB
  have hq : ((num : Int) == (n : Int)) = decide (num = n) := by
    rw [Bool.eq_iff_iff, beq_iff_eq, decide_eq_true_eq]; omega
  go_wp2
  try simp only [Exit.inBlock, Exit.then]
  refine bodyPost_ret (results_tmp4 rfl _ _ _) rfl ?_
  refine ⟨a3, c3, ?_, Hd3.out, fun x o e => Nat.le_trans hsz (Hn3.out x o e), HB.out⟩
  first | rfl | (rw [← hq]; rfl)
end
end Go.Proofs.YtgpedejeifmfdaaGreat
/- The document's log within a law: Sectors, Free, fits. -/
namespace Go.Proofs.YtgpedejeifmfdaaGreat
open Go.RowKit Go.Sort

/-- The document's log on its device. -/
structure Rl (w0 w : World) (lb b : Nat) (G : Nat → Prop) (s : State) (l : Lg) : Prop where
  ref : Ref w0 w b G s
  log : RLogAt w lb b l
  off : ¬ G lb
  lo : w0.heap.size ≤ lb
  pos : 1 ≤ s.1.length
  n1 : 1 ≤ l.next
  nb : l.next ≤ 4294967296
  fn : l.first ≤ l.next
  sn : l.sure ≤ l.next
  fb : l.first < 4294967296
section
variable {w0 w w' : World} {lb b : Nat} {G : Nat → Prop} {s : State} {l : Lg}
theorem Rl.step (h : Rl w0 w lb b G s l) (hb : Below w.heap.size w w') : Rl w0 w' lb b G s l := ⟨h.ref.step hb, h.log.step hb, h.off, h.lo, h.pos, h.n1, h.nb, h.fn, h.sn, h.fb⟩
theorem Rl.lt (h : Rl w0 w lb b G s l) : lb < w.heap.size := (Array.getElem?_eq_some_iff.1 h.log).1
theorem Rl.aside {F : Nat → Prop} (h : Rl w0 w lb b G s l) (hm : Mod F w w') (ha : ∀ k, G k ∨ k = lb → ¬ F k) (hF : ∀ k, F k → w0.heap.size ≤ k) : Rl w0 w' lb b G s l :=
  ⟨h.ref.aside hm (fun k hk => ha k (.inl hk)) hF, h.log.keep (hm.block lb h.lt (ha lb (.inr rfl))), h.off, h.lo, h.pos, h.n1, h.nb, h.fn, h.sn, h.fb⟩
theorem Rl.le (h : Rl w0 w lb b G s l) : s.1.length ≤ 512 := by
  obtain ⟨sv, cv, R, hd, -⟩ := h.ref.ref
  exact hd.len
set_option maxHeartbeats 2000000 in
theorem RSectors_log {a : Option Addr} {L c : Nat} {list : List Rc} (hx : Recs rcF w a L c list) (hok : ∀ r ∈ list, r.ok) (hL : L ≤ 1000) :
    Calls Tryz.prog 30 #[.slice a L c] w fun e w' => e = .returned (.int .i64 (sectorsS list)) ∧ Below w.heap.size w w' := by
  have hlen := hx.len
  have henl := encs_len list
  rw [hlen] at henl
  have hjo := RJoin_calls hx hok (by omega)
  obtain ⟨E, hE⟩ : ∃ E, E = sectorsS list := ⟨_, rfl⟩
  rw [← hE]
  unfold sectorsS at hE
  generalize hR : rightAll list = R at *
  cases R with
  | false =>
    rw [if_neg (by decide)] at hjo hE
    subst hE
    clear hx hok hR hlen henl
    have Hjo := Lib.hid hjo; clear hjo
    go_enter Tryz.func30, Tryz.ntmps30
    go_wp2_with fail
    refine Hjo.out.mono ?_
    rintro e w2 ⟨v2, rfl, -, b2⟩
    have B2 := Lib.hid b2; clear b2
    go_wp2
    go_ret
    exact ⟨rfl, B2.out⟩
  | true =>
    rw [if_pos rfl] at hjo hE
    obtain ⟨ZL, hZL⟩ : ∃ n, n = (encs list).length := ⟨_, rfl⟩
    have hne : ((needZ (encs list) : Nat) : Int) = ((ZL : Int) + 15) / 16 := by rw [hZL]; unfold needZ; omega
    rw [hne] at hE
    have hZb : ZL ≤ 10000000 := by omega
    have s1 : IntKind.i64.wrap ((ZL : Int) + 15) = (ZL : Int) + 15 := IntWalk.i64_in _ (by omega)
    have s2 : ((ZL : Int) + 15).tdiv 16 = ((ZL : Int) + 15) / 16 := Int.tdiv_eq_ediv_of_nonneg (by omega)
    clear hne hx hok hR hlen henl
    have Hjo := Lib.hid hjo; clear hjo
    have HZL := Lib.hid hZL.symm; clear hZL
    have HE := Lib.hid hE; clear hE
    go_enter Tryz.func30, Tryz.ntmps30
    go_wp2_with fail
    refine Hjo.out.mono ?_
    rintro e w2 ⟨v2, rfl, o2, b2⟩
    obtain ⟨a2, c2, rfl, i2, -⟩ := own_len o2 HZL.out
    have B2 := Lib.hid b2; clear b2 o2 i2
    go_wp2
    go_ret
    rw [HE.out]
    exact ⟨rfl, B2.out⟩
set_option maxHeartbeats 2000000 in
theorem RFree_calls (h : Rl w0 w lb b G s l) :
    Calls Tryz.prog 22 #[.pointer (some ⟨lb, 0, none⟩)] w fun e w' => e = .returned (.int .i64 ((s.1.length : Int) - (l.next : Int) + (l.sure : Int))) ∧ Below w.heap.size w w' := by
  obtain ⟨sa, sc, cv, hr⟩ := h.ref.root
  have hle := h.le
  have hnb := h.nb
  have hsn := h.sn
  have hl := h.log
  unfold RLogAt Lg.cells at hl
  have c0 := cell_regrown (cells_at hl 0)
  have c1 := cell_regrown (cells_at hl 1)
  have c3 := cell_regrown (cells_at hl 3)
  have r0 := cell_regrown (cells_at hr 0)
  generalize s.1.length = N at *
  have s1 : IntKind.i64.wrap ((N : Int) - (l.next : Int)) = (N : Int) - (l.next : Int) := IntWalk.i64_in _ (by omega)
  have s2 : IntKind.i64.wrap ((N : Int) - (l.next : Int) + (l.sure : Int)) = (N : Int) - (l.next : Int) + (l.sure : Int) := IntWalk.i64_in _ (by omega)
  clear h hl hr
  go_enter Tryz.func22, Tryz.ntmps22
  go_wp2_with fail
  refine wp_region_quiet_below (by kernel_rfl) (by kernel_rfl) ?_
  repeat (any_goals (first | go_big_quiet_step (fail) | quiet_step (fail)))
  refine wpQuiet_nil ?_
  intro w1 hw1
  have hb1 : Below w.heap.size w w1 := by obtain ⟨q, rfl⟩ := hw1; exact below_regrown _ _ _
  clear hw1 c0 c1 c3 r0
  have Hb1 := Lib.hid hb1; clear hb1
  go_wp2
  go_ret
  exact ⟨rfl, Hb1.out⟩
set_option maxHeartbeats 4000000 in
set_option maxRecDepth 100000 in
theorem Rfits_calls (h : Rl w0 w lb b G s l) {a : Option Addr} {L c : Nat} {list : List Rc} (hx : Recs rcF w a L c list) (hok : ∀ r ∈ list, r.ok) (hL : L ≤ 1000) {more : Nat} (hm : more ≤ 1) {spare : Int} (hsp : -9223372036854775808 ≤ spare ∧ spare ≤ 9223372036854775807) :
    Calls Tryz.prog 41 #[.pointer (some ⟨lb, 0, none⟩), .slice a L c, .int .i64 (more : Nat), .int .i64 spare] w fun e w' => e = .returned (.int .i64 (fitE s.1.length l list more spare)) ∧ Below w.heap.size w w' := by
  have hlen := hx.len
  have henl := encs_len list
  rw [hlen] at henl
  have hse := RSectors_log hx hok hL
  have hle := h.le
  have hnb := h.nb
  have hsn := h.sn
  have hn1 := h.n1
  obtain ⟨hs1, hs2⟩ := hsp
  obtain ⟨FR, hFR⟩ : ∃ F : Int, F = (s.1.length : Int) - (l.next : Int) + (l.sure : Int) := ⟨_, rfl⟩
  obtain ⟨E, hE⟩ : ∃ E, E = fitE s.1.length l list more spare := ⟨_, rfl⟩
  rw [← hE]
  unfold fitE at hE
  rw [← hFR] at hE
  unfold sectorsS at hse
  obtain ⟨KZ, hKZ⟩ : ∃ K, K = needZ (encs list) := ⟨_, rfl⟩
  have hKb : KZ ≤ 2000 := by rw [hKZ]; unfold needZ; omega
  rw [← hKZ] at hE hse
  have hF1 : FR ≤ 512 := by omega
  have hF2 : -4294967296 ≤ FR := by omega
  have s1 : IntKind.i64.wrap (FR - (KZ : Int)) = FR - (KZ : Int) := IntWalk.i64_in _ (by omega)
  have s2 : IntKind.i64.wrap (FR - (KZ : Int) - (more : Int)) = FR - (KZ : Int) - (more : Int) := IntWalk.i64_in _ (by omega)
  have s3 : IntKind.i64.wrap ((l.next : Int) + (KZ : Int)) = (l.next : Int) + (KZ : Int) := IntWalk.i64_in _ (by omega)
  have s4 : IntKind.i64.wrap ((l.next : Int) + (KZ : Int) + (more : Int)) = (l.next : Int) + (KZ : Int) + (more : Int) := IntWalk.i64_in _ (by omega)
  have HW := Lib.hid h; clear h
  have HFR := Lib.hid hFR; clear hFR
  clear hx hok hlen henl hKZ hsn
  generalize rightAll list = R at hE hse
  cases R with
  | false =>
    rw [if_neg (by decide)] at hE hse
    have HE := Lib.hid hE; clear hE
    have Hse := Lib.hid hse; clear hse
    clear s1 s2 s3 s4
    go_enter Tryz.func41, Tryz.ntmps41
    go_wp2_with fail
    refine Hse.out.mono ?_
    rintro e w2 ⟨rfl, b2⟩
    have B2 := Lib.hid b2; clear b2 Hse
    go_wp2
    go_ret
    exact ⟨by rw [HE.out]; rfl, B2.out⟩
  | true =>
    rw [if_pos rfl] at hE hse
    have Hse := Lib.hid hse; clear hse
    by_cases h1 : spare < 0
    · have hE' : E = 11 := by rw [hE, if_pos h1]
      have HE := Lib.hid hE'; clear hE hE'
      have d1 : decide (spare < 0) = true := decide_eq_true h1
      have e1 : decide ((KZ : Int) < 0) = false := decide_eq_false (by omega)
      clear s1 s2 s3 s4
      go_enter Tryz.func41, Tryz.ntmps41
      go_wp2_with fail
      refine Hse.out.mono ?_
      rintro e w2 ⟨rfl, b2⟩
      have B2 := Lib.hid b2; clear b2 Hse
      go_wp2
      go_ret
      exact ⟨by rw [HE.out]; rfl, B2.out⟩
    rw [if_neg h1] at hE
    have d1 : decide (spare < 0) = false := decide_eq_false h1
    have e1 : decide ((KZ : Int) < 0) = false := decide_eq_false (by omega)
    by_cases h2 : 1000 < spare
    · have hE' : E = 15 := by rw [hE, if_pos (.inl (by omega))]
      have HE := Lib.hid hE'; clear hE hE'
      have d2 : decide (spare > 1000) = true := decide_eq_true h2
      have d2' : decide (1000 < spare) = true := decide_eq_true h2
      clear s1 s2 s3 s4
      go_enter Tryz.func41, Tryz.ntmps41
      go_wp2_with fail
      refine Hse.out.mono ?_
      rintro e w2 ⟨rfl, b2⟩
      have B2 := Lib.hid b2; clear b2 Hse
      go_wp2
      go_ret
      exact ⟨by rw [HE.out]; rfl, B2.out⟩
    have d2 : decide (spare > 1000) = false := decide_eq_false h2
    have d2' : decide (1000 < spare) = false := decide_eq_false h2
    by_cases h3 : FR - (KZ : Int) - (more : Int) < spare
    · have hE' : E = 15 := by rw [hE, if_pos (.inl (by omega))]
      have HE := Lib.hid hE'; clear hE hE'
      have d3 : decide (FR - (KZ : Int) - (more : Int) < spare) = true := decide_eq_true h3
      go_enter Tryz.func41, Tryz.ntmps41
      go_wp2_with fail
      refine Hse.out.mono ?_
      rintro e w2 ⟨rfl, b2⟩
      have B2 := Lib.hid b2; clear b2 Hse
      have hfr := RFree_calls (HW.out.step B2.out)
      rw [← HFR.out] at hfr
      have Hfr := Lib.hid hfr; clear hfr
      have lg := (HW.out.log.step B2.out)
      go_wp2_with fail
      refine Hfr.out.mono ?_
      rintro e w3 ⟨rfl, b3⟩
      have lg3 := lg.step b3
      unfold RLogAt Lg.cells at lg3
      have c1 := cells_at lg3 1
      have b3' := B2.out.trans (b3.mono B2.out.size)
      have B3 := Lib.hid b3'; clear b3' b3 B2 Hfr lg lg3 HW
      go_wp2
      go_ret
      exact ⟨by rw [HE.out]; rfl, B3.out⟩
    have d3 : decide (FR - (KZ : Int) - (more : Int) < spare) = false := decide_eq_false h3
    by_cases h4 : 4294967296 < (l.next : Int) + (KZ : Int) + (more : Int)
    · have hE' : E = 15 := by rw [hE, if_pos (.inr (by omega))]
      have HE := Lib.hid hE'; clear hE hE'
      have d4 : decide ((l.next : Int) + (KZ : Int) + (more : Int) > 4294967296) = true := decide_eq_true h4
      have d4' : decide (4294967296 < (l.next : Int) + (KZ : Int) + (more : Int)) = true := decide_eq_true h4
      go_enter Tryz.func41, Tryz.ntmps41
      go_wp2_with fail
      refine Hse.out.mono ?_
      rintro e w2 ⟨rfl, b2⟩
      have B2 := Lib.hid b2; clear b2 Hse
      have hfr := RFree_calls (HW.out.step B2.out)
      rw [← HFR.out] at hfr
      have Hfr := Lib.hid hfr; clear hfr
      have lg := (HW.out.log.step B2.out)
      go_wp2_with fail
      refine Hfr.out.mono ?_
      rintro e w3 ⟨rfl, b3⟩
      have lg3 := lg.step b3
      unfold RLogAt Lg.cells at lg3
      have c1 := cells_at lg3 1
      have b3' := B2.out.trans (b3.mono B2.out.size)
      have B3 := Lib.hid b3'; clear b3' b3 B2 Hfr lg lg3 HW
      go_wp2
      go_ret
      exact ⟨by rw [HE.out]; rfl, B3.out⟩
    have d4 : decide ((l.next : Int) + (KZ : Int) + (more : Int) > 4294967296) = false := decide_eq_false h4
    have d4' : decide (4294967296 < (l.next : Int) + (KZ : Int) + (more : Int)) = false := decide_eq_false h4
    have hE' : E = 0 := by rw [hE, if_neg (by omega)]
    have HE := Lib.hid hE'; clear hE hE'
    go_enter Tryz.func41, Tryz.ntmps41
    go_wp2_with fail
    refine Hse.out.mono ?_
    rintro e w2 ⟨rfl, b2⟩
    have B2 := Lib.hid b2; clear b2 Hse
    have hfr := RFree_calls (HW.out.step B2.out)
    rw [← HFR.out] at hfr
    have Hfr := Lib.hid hfr; clear hfr
    have lg := (HW.out.log.step B2.out)
    go_wp2_with fail
    refine Hfr.out.mono ?_
    rintro e w3 ⟨rfl, b3⟩
    have lg3 := lg.step b3
    unfold RLogAt Lg.cells at lg3
    have c1 := cells_at lg3 1
    have b3' := B2.out.trans (b3.mono B2.out.size)
    have B3 := Lib.hid b3'; clear b3' b3 B2 Hfr lg lg3 HW
    go_wp2
    go_ret
    exact ⟨by rw [HE.out]; rfl, B3.out⟩
end
end Go.Proofs.YtgpedejeifmfdaaGreat
/- The document's log within a law: lay. -/
namespace Go.Proofs.YtgpedejeifmfdaaGreat
open Go.RowKit Go.Sort

section
variable {w0 w w' : World} {lb b : Nat} {G : Nat → Prop} {s : State} {l : Lg}
theorem Ref.wide (h : Ref w0 w b G s) {H : Nat → Prop} (hG : ∀ k, G k → H k) (hl : ∀ k, H k → w0.heap.size ≤ k ∧ k < w.heap.size) : Ref w0 w b H s where
  ref := by
    obtain ⟨sv, cv, R, hd, hf⟩ := h.ref
    exact ⟨sv, cv, R, hd, fun k hk => hG k (hf k hk)⟩
  low := hl
  bel := h.bel
theorem layC_le (S : List (List Int)) : ∀ (X : List Sc) (C : List (Int × List Int)), (layC S C X).length ≤ C.length + X.length
  | [], C => Nat.le_refl _
  | T :: X, C => by
    have h1 := layC_le S X (written S C (((T.num - 1) % S.length : Nat) : Int) (secZ T))
    have h2 := written_len S C (((T.num - 1) % S.length : Nat) : Int) (secZ T)
    show (layC S (written S C (((T.num - 1) % S.length : Nat) : Int) (secZ T)) X).length ≤ _
    rw [List.length_cons]; omega
theorem take_min {l : List Int} {R m : Nat} (hl : l.length = R) (hm : m = min R 16) : l.take m = l.take 16 := by
  rcases Nat.le_total R 16 with h | h
  · rw [hm, Nat.min_eq_left h, ← hl, List.take_length, List.take_of_length_le (by omega)]
  · rw [hm, Nat.min_eq_right h]
theorem drop_next {bs : List Int} {n k R m : Nat} (hl : bs.length = n) (hR : R = n - 16 * k) (hm : m = min R 16) : (bs.drop (16 * k)).drop m = bs.drop (16 * (k + 1)) := by
  rw [List.drop_drop]
  rcases Nat.le_total R 16 with h | h
  · rw [Nat.min_eq_left h] at hm
    rw [List.drop_eq_nil_of_le (by omega), List.drop_eq_nil_of_le (by omega)]
  · rw [Nat.min_eq_right h] at hm
    congr 1
    omega
theorem lay_next {s : State} {n f k : Nat} {bs : List Int} (hk : k < needZ bs) : (s.1, written (layS s ((chunks n f bs).take k)).1 (layS s ((chunks n f bs).take k)).2 (((n + k - 1) % s.1.length : Nat) : Int) (secZ (chunkAt n f bs k))) = layS s ((chunks n f bs).take (k + 1)) := by
  have hlt : k < (chunks n f bs).length := by rw [chunks_len]; exact hk
  unfold layS
  rw [List.take_succ_eq_append_getElem hlt, layC_snoc, chunks_get hlt]
  rfl
/-- What the rounds of lay keep. -/
structure LI (w0 w : World) (lb b : Nat) (G : Nat → Prop) (s : State) (l : Lg) (bs : List Int) (n k : Nat) (ak : Option Addr) (ck : Nat) (a : Option Addr) (W : World) : Prop where
  rl : Rl w0 W lb b (grownF G w W) (layS s ((chunks l.next l.first bs).take k)) ⟨l.next + k, l.first, l.sure⟩
  mod : Mod (fun x => G x ∨ x = lb) w W
  ints : Ints W .u8 ak (n - 16 * k) ck (bs.drop (16 * k))
  at_ : ∀ x o, ak = some ⟨x, o, none⟩ → ∃ o', a = some ⟨x, o', none⟩
  le : k ≤ needZ bs
theorem sizeIntR : (Tryz.prog.info? 3).map (·.size) = some 1 := by kernel_rfl
set_option maxHeartbeats 8000000 in
set_option maxRecDepth 100000 in
theorem Rlay_rl (h : Rl w0 w lb b G s l) {a : Option Addr} {n c : Nat} {bs : List Int} (hi : Ints w .u8 a n c bs) (hn : n ≤ 900000) (hC : s.2.length + needZ bs ≤ 1000000) (hda : ∀ x o, a = some ⟨x, o, none⟩ → ¬ G x ∧ x ≠ lb) (h2 : l.next + needZ bs ≤ 4294967296) :
    Calls Tryz.prog 43 #[.pointer (some ⟨lb, 0, none⟩), .slice a n c] w fun e w' => e = .returned (.tuple #[]) ∧ Rl w0 w' lb b (grownF G w w') (layS s (chunks l.next l.first bs)) ⟨l.next + needZ bs, l.first, l.sure⟩ ∧ Mod (fun k => G k ∨ k = lb) w w' := by
  have hbl := hi.len
  have hlo := h.ref.low
  have hww := h.ref.bel.size
  have hlt := h.lt
  have hoff := h.off
  have hpos := h.pos
  have hle := h.le
  have hpos0 := h.pos
  have hn1 := h.n1
  have hfb := h.fb
  have hll := h.lo
  have hfn := h.fn
  have hsn := h.sn
  obtain ⟨NB, hNB⟩ : ∃ N, N = needZ bs := ⟨_, rfl⟩
  have hNB2 : NB = (n + 15) / 16 := by rw [hNB]; unfold needZ; rw [hbl]
  have hst : LI w0 w lb b G s l bs n 0 a c a w := by
    refine ⟨?_, Mod.of_below (Below.refl _ _), by simpa using hi, fun x o e => ⟨o, e⟩, Nat.zero_le _⟩
    refine ⟨h.ref.wide (fun k hk => .inl hk) fun k hk => hk.elim (hlo k) (fun hk => by omega), h.log, fun hk => hk.elim hoff (fun hk => by omega), h.lo, h.pos, h.n1, h.nb, h.fn, h.sn, h.fb⟩
  have hin : ∀ x o, a = some ⟨x, o, none⟩ → 0 < n → x < w.heap.size := fun x o e hp => by
    obtain ⟨g, o', e', hc⟩ := hi.cell hp
    rw [e] at e'
    cases e'
    exact World.block_lt_of_cell? w _ (hc 0 hp)
  rw [← hNB] at hC h2 ⊢
  have HNB := Lib.hid hNB; clear hNB
  have HST := Lib.hid hst; clear hst
  have HLO := Lib.hid hlo; clear hlo
  have HOFF := Lib.hid hoff; clear hoff
  have HDA := Lib.hid hda; clear hda
  have HIN := Lib.hid hin; clear hin
  clear hi h
  go_enter Tryz.func43, Tryz.ntmps43
  go_wp2_with fail
  go_loopw [1, 4] (fun x1 x4 wr => ∃ (k R : Nat) (ak : Option Addr) (ck : Nat), R = n - 16 * k ∧ x1 = .slice ak R ck ∧ x4 = .bool (decide (k = 0)) ∧ LI w0 w lb b G s l bs n k ak ck a wr) (fun x1 _ _ => match x1 with | .slice _ n _ => n | _ => 0)
  case atStart => exact ⟨0, n, a, c, by omega, rfl, rfl, HST.out⟩
  case round =>
    obtain ⟨k, R, ak, ck, hR, rfl, rfl, hL⟩ := hrel
    have hkn := hL.le
    rw [← HNB.out] at hkn
    have hik := hL.ints
    rw [← hR] at hik
    have hRc := hik.le
    have hRm := hik.max
    obtain ⟨BG, hBG⟩ : ∃ B, B = decide (k = 0) := ⟨_, rfl⟩
    rw [← hBG]
    have HBG := Lib.hid hBG; clear hBG
    by_cases hp : 0 < R
    · have d0 : decide ((R : Int) > 0) = true := decide_eq_true (by omega)
      have d0' : decide (0 < R) = true := decide_eq_true hp
      obtain ⟨m, hm⟩ : ∃ m, m = min R 16 := ⟨_, rfl⟩
      have hmi : min (R : Int) 16 = (m : Int) := by omega
      have hkl : k < NB := by omega
      obtain ⟨gx, ox, rfl, -⟩ := hik.cell hp
      obtain ⟨oa, hao⟩ := hL.at_ gx ox rfl
      obtain ⟨nG, nlb⟩ := HDA.out gx oa hao
      have hgx := HIN.out gx oa hao (by omega)
      -- the sector
      have hdl : (bs.drop (16 * k)).length = R := hik.len
      have hch : chunkAt l.next l.first bs k = ⟨l.next + k, l.first, BG, (bs.drop (16 * k)).take m⟩ := by
        unfold chunkAt
        rw [HBG.out, take_min hdl hm]
      have hnx := lay_next (s := s) (n := l.next) (f := l.first) (bs := bs) (k := k) (by rw [← HNB.out]; exact hkl)
      rw [hch] at hnx
      have hitk := hik.take m (by omega)
      have hok : (⟨l.next + k, l.first, BG, (bs.drop (16 * k)).take m⟩ : Sc).ok := ⟨by simp only; omega, hfb, by simp only [List.length_take]; omega, fun z hz => wf_u8 (hitk.fit z hz)⟩
      have hsl := secZ_len hok
      have hse := fun (W : World) (hb : Ints W .u8 (some ⟨gx, ox, none⟩) m ck ((bs.drop (16 * k)).take m)) => RSector_calls (S := ⟨l.next + k, l.first, BG, (bs.drop (16 * k)).take m⟩) (by simp only; omega) (by simp only; omega) hb (by omega)
      simp only at hse
      obtain ⟨P, hP⟩ : ∃ P, P = (l.next + k - 1) % s.1.length := ⟨_, rfl⟩
      have hPN : P < s.1.length := by rw [hP]; exact Nat.mod_lt _ (by omega)
      have hm2 := tmod_place (N := s.1.length) (n := l.next + k) (by omega)
      rw [← hP] at hm2 hnx
      obtain ⟨SK, hSK⟩ : ∃ S, S = layS s ((chunks l.next l.first bs).take k) := ⟨_, rfl⟩
      have hSK1 : SK.1 = s.1 := by rw [hSK]; rfl
      have hSK2 : SK.2.length ≤ 1000000 := by
        have := layC_le s.1 ((chunks l.next l.first bs).take k) s.2
        rw [hSK]
        show (layC s.1 s.2 _).length ≤ _
        rw [List.length_take, chunks_len] at this
        omega
      have hrl := hL.rl
      rw [← hSK] at hrl hnx
      obtain ⟨Z, hZ⟩ : ∃ Z, Z = secZ ⟨l.next + k, l.first, BG, (bs.drop (16 * k)).take m⟩ := ⟨_, rfl⟩
      rw [← hZ] at hnx hsl hse
      obtain ⟨sv, cv, RR, hd, hf⟩ := hrl.ref.ref
      obtain ⟨sa, sc, rfl⟩ := hd.shape_s
      have hr := hd.root
      obtain ⟨N, hN⟩ : ∃ N, N = s.1.length := ⟨_, rfl⟩
      have hSKN : SK.1.length = N := by rw [hSK1, hN]
      rw [hSKN] at hr
      rw [← hN] at hPN hm2 hpos hle
      have hwe : writeErr SK.1 (P : Int) 32 = 0 := by unfold writeErr; rw [hSKN, if_pos ⟨by omega, by omega⟩, if_pos rfl]
      have hwr := fun (W : World) (hb : Below wr.heap.size wr W) {a : Option Addr} {c : Nat} (hx : Ints W .u8 a 32 c Z) => RWrite_calls (hd.below hb) (P : Int) hx hSK2
      rw [hwe] at hwr
      have hlg := hrl.log
      unfold RLogAt Lg.cells at hlg
      have hs1 : IntKind.i64.wrap (((l.next + k : Nat) : Int) - 1) = ((l.next + k : Nat) : Int) - 1 := IntWalk.i64_in _ (by omega)
      have hs2 : IntKind.i64.wrap (((l.next + k : Nat) : Int) + 1) = ((l.next + k : Nat) : Int) + 1 := IntWalk.i64_in _ (by omega)
      have hN0 : ¬ N = 0 := by omega
      obtain ⟨NX, hNX⟩ : ∃ x, x = l.next + k := ⟨_, rfl⟩
      rw [← hNX] at hm2 hlg hs1 hs2 hse
      have hmod := hL.mod
      have sd := below_drew wr
      have x0 := (sd.block _ (Array.getElem?_eq_some_iff.1 hlg).1).trans hlg
      have x1 := (sd.block _ (Array.getElem?_eq_some_iff.1 hr).1).trans hr
      obtain ⟨Q, hQ⟩ : ∃ Q : World → Prop, Q = fun w' => w'.heap[lb]? = some (.cells #[.pointer (some ⟨b, 0, none⟩), .int .i64 (NX : Nat), .int .i64 l.first, .int .i64 l.sure] 48 (0, 0)) ∧ ∃ cv, w'.heap[b]? = some (.cells #[.slice sa N sc, cv] 54 (0, 0)) := ⟨_, rfl⟩
      have q3 : Q wr.drew := by rw [hQ]; exact ⟨x0, _, x1⟩
      have Hnx := Lib.hid hnx; clear hnx
      have Hse := Lib.hid hse; clear hse
      have Hwr := Lib.hid hwr; clear hwr
      have HRL := Lib.hid hrl; clear hrl
      have HD := Lib.hid hd; clear hd
      have HF := Lib.hid hf; clear hf
      have HMOD := Lib.hid hmod; clear hmod
      have HQ := Lib.hid hQ; clear hQ
      have HNX := Lib.hid hNX; clear hNX
      have HSK := Lib.hid hSK; clear hSK
      have HSK1 := Lib.hid hSK1; clear hSK1
      have HIK := Lib.hid hik; clear hik
      have HITK := Lib.hid hitk; clear hitk
      have HR := Lib.hid hR; clear hR
      have SD := Lib.hid sd; clear sd
      have Hsl := Lib.hid hsl; clear hsl
      clear hL hdl hch hok hwe hr hlg x0 x1 hZ hP hN hSK2
      have hmn : min R 16 = m := hm.symm
      have HM := Lib.hid hm; clear hm
      have HSKN := Lib.hid hSKN; clear hSKN
      have j1 : (0 : Int) ≤ (m : Int) := by omega
      have j2 : (m : Int) ≤ (ck : Int) := by omega
      have j3 : (m : Int) ≤ (R : Int) := by omega
      go_wp2_with fail
      refine wp_region_plan Q (.pre [0, 1, 2, 3, 4, 5, 6, 7] (.yld 8 (.pre [9, 10, 11, 12, 13, 14, 15, 16] (.yld 17 (.pre [18, 19, 20, 21, 22, 23, 24, 25, 26, 27, 28, 29] (.segs [[30], [31], []])))))) (by kernel_rfl) (by kernel_rfl) rfl (by kernel_rfl) (fun _ _ _ h => by obtain ⟨_, h, _⟩ := h; cases h) (fun _ _ h => by obtain ⟨h, _⟩ := h; cases h) q3 ?_
      generalize wr.drew = wd at SD q3 ⊢
      refine plan_pre (by kernel_rfl) ?_
      apply Exists.intro
      apply And.intro
      · intro w' s
        rw [HQ.out] at s
        obtain ⟨s1, cv1, s2⟩ := s
        have z0 := cells_at s1 0
        have z1 := cells_at s1 1
        have z2 := cells_at s1 2
        have y0 := cells_at s2 0
        clear s1 s2
        simp only [List.map_cons, List.map_nil, List.getD_cons_zero, List.getD_cons_succ]
        go_wp2_with fail
        exact pre_end
      refine yld_at (.int .i64 ((NX : Int) - 1)) rfl (fun w2 _ => (congrArg (fun z => Result.ok (Next.value (.int .i64 z)) w2) hs1)) ?_
      refine plan_pre (by kernel_rfl) ?_
      apply Exists.intro
      apply And.intro
      · intro w' s
        rw [HQ.out] at s
        obtain ⟨s1, cv1, s2⟩ := s
        have z0 := cells_at s1 0
        have z1 := cells_at s1 1
        have z2 := cells_at s1 2
        have y0 := cells_at s2 0
        clear s1 s2
        simp only [List.map_cons, List.map_nil, List.getD_cons_zero, List.getD_cons_succ]
        go_wp2_with fail
        exact pre_end
      refine yld_at (.int .i64 (P : Int)) rfl (fun w2 _ => (by
        rw [← hm2]
        exact (show _ = _ from by simp [execOp, hN0, go_sem, hm2]))) ?_
      refine plan_pre (by kernel_rfl) ?_
      apply Exists.intro
      apply And.intro
      · intro w' s
        rw [HQ.out] at s
        obtain ⟨s1, cv1, s2⟩ := s
        have z0 := cells_at s1 0
        have z1 := cells_at s1 1
        have z2 := cells_at s1 2
        have y0 := cells_at s2 0
        clear s1 s2
        simp only [List.map_cons, List.map_nil, List.getD_cons_zero, List.getD_cons_succ]
        go_wp2_with fail
        exact pre_end
      refine plan_segs (segs_more ?_)
      simp only [List.map_cons, List.map_nil, List.getD_cons_zero, List.getD_cons_succ]
      have hse := Hse.out _ (HITK.out.keep SD.out)
      have Hse2 := Lib.hid hse; clear hse Hse
      go_wp2_with fail
      refine Hse2.out.mono ?_
      rintro e w5 ⟨v5, rfl, o5, k5⟩
      have b5 := SD.out.trans (k5.mono SD.out.size)
      obtain ⟨a5, c5, rfl, i5, -⟩ := own_len o5 Hsl.out
      have hwr := Hwr.out w5 b5 i5
      have q5 : Q w5 := by
        have h := q3
        rw [HQ.out] at h ⊢
        obtain ⟨h1, cv1, h2⟩ := h
        exact ⟨(k5.block _ (Array.getElem?_eq_some_iff.1 h1).1).trans h1, cv1, (k5.block _ (Array.getElem?_eq_some_iff.1 h2).1).trans h2⟩
      have Hwr2 := Lib.hid hwr; clear hwr Hwr
      have B5 := Lib.hid b5; clear b5
      clear q3 SD k5 o5 i5 Hse2
      go_wp2_with fail
      refine seg_end q5 (segs_more ?_)
      clear q5
      go_wp2_with fail
      refine Hwr2.out.mono ?_
      rintro e w6 ⟨rfl, cv6, R6, d6, f6, m6⟩
      have hrf := (HRL.out.ref.step B5.out).after (s' := (SK.1, written SK.1 SK.2 (P : Int) Z)) HF.out d6 f6 m6
      obtain ⟨r6, m6'⟩ := hrf
      have hofk : ¬ grownF G w wr lb := HRL.out.off
      have l6 : w6.heap[lb]? = some (.cells #[.pointer (some ⟨b, 0, none⟩), .int .i64 (NX : Nat), .int .i64 l.first, .int .i64 l.sure] 48 (0, 0)) := by
        have h1 := HRL.out.log
        have h2 := B5.out.block lb HRL.out.lt
        have h3 := m6'.block lb (Nat.lt_of_lt_of_le HRL.out.lt B5.out.size) hofk
        rw [h3, h2, HNX.out]
        exact h1
      have q6 : Q w6 := by
        rw [HQ.out]
        refine ⟨l6, cv6, ?_⟩
        have h1 := d6.root
        rw [show SK.1.length = N from HSKN.out] at h1
        exact h1
      have M6 := Lib.hid m6'; clear m6'
      have R6' := Lib.hid r6; clear r6
      have L6 := Lib.hid l6; clear l6
      clear d6 f6 m6 Hwr2
      go_wp2_with fail
      refine seg_end q6 (segs_last ?_)
      clear q6 HQ
      have z1 := cells_at L6.out 1
      go_wp2_with (with_reducible refine stop_store 3 ?_)
      refine unpark ?_
      refine wpList_store_at rfl _ _ _ rfl lb 1 rfl (.int .i64 ((NX : Int) + 1)) rfl [.int .i64 ((NX : Int) + 1)] rfl _ _ L6.out 1 rfl (by simp) (by simp [Value.oneCell']) sizeIntR ?_
      intro w7 l7 g7 s7
      simp only [splice] at l7
      have L7 := Lib.hid l7; clear l7
      have G7 := Lib.hid g7; clear g7
      clear z1 s7
      have hm27 : Mod (fun x => grownF G w wr x ∨ x = lb) wr w7 := ((Mod.of_below (F := fun x => grownF G w wr x ∨ x = lb) B5.out).trans M6.out (fun x h => h) (fun x _ h => .inl h)).trans (Mod.of_grown (F := fun k => k = lb) G7.out (fun k hk => by cases hk; rfl)) (fun x h => h) (fun x _ h => .inr h)
      have hnG : ∀ x, x < w.heap.size → (grownF G w wr x ∨ x = lb) → G x ∨ x = lb := fun x hx h => h.imp (fun h => h.elim id fun h => by omega) id
      have hmw : Mod (fun x => G x ∨ x = lb) w w7 := HMOD.out.trans hm27 (fun x h => h) (fun x hx h => hnG x hx h)
      have hik7 : Ints w7 .u8 (some ⟨gx, ox, none⟩) R ck (bs.drop (16 * k)) := HIK.out.keepOn (w' := w7) fun x o e hlt => by
        cases e
        exact hm27.block gx hlt fun h => (hnG gx hgx h).elim nG nlb
      have hrf7 : Ref w0 w7 b (grownF G w w7) (layS s ((chunks l.next l.first bs).take (k + 1))) := by
        rw [← Hnx.out, ← HSK1.out]
        have h1 := R6'.out.aside (F := fun k => k = lb) (Mod.of_grown (F := fun k => k = lb) G7.out (fun k hk => by cases hk; rfl)) (fun k hk e => by
          subst e
          rcases hk with hk | hk
          · exact HRL.out.off hk
          · have := HRL.out.lt; have := B5.out.size; omega) (fun k e => by rw [e]; exact hll)
        refine h1.wide (fun k hk => ?_) fun k hk => ?_
        · rcases hk with (hk | hk) | hk
          · exact .inl hk
          · exact .inr ⟨hk.1, Nat.lt_of_lt_of_le hk.2 hm27.size⟩
          · have h2 := HMOD.out.size
            have h3 := B5.out.size
            have h4 := G7.out.size
            exact .inr ⟨by omega, by omega⟩
        · rcases hk with hk | hk
          · exact ⟨(HLO.out k hk).1, Nat.lt_of_lt_of_le (HLO.out k hk).2 hmw.size⟩
          · exact ⟨by omega, hk.2⟩
      have hlog7 : RLogAt w7 lb b ⟨l.next + (k + 1), l.first, l.sure⟩ := by
        have h1 := L7.out
        unfold RLogAt
        rw [h1, HNX.out]
        simp [Lg.cells]
        omega
      have hrl7 : Rl w0 w7 lb b (grownF G w w7) (layS s ((chunks l.next l.first bs).take (k + 1))) ⟨l.next + (k + 1), l.first, l.sure⟩ :=
        ⟨hrf7, hlog7, fun hk => hk.elim HOFF.out (fun hk => by omega), hll, by show 1 ≤ s.1.length; exact hpos0, by simp only; omega, by simp only; omega, by simp only; omega, by simp only; omega, hfb⟩
      have Hrl7 := Lib.hid hrl7; clear hrl7 hrf7 hlog7
      have Hmw := Lib.hid hmw; clear hmw hm27
      have Hik7 := Lib.hid hik7; clear hik7
      clear L6 M6 R6' L7 G7
      have d4 : decide (k + 1 = 0) = false := decide_eq_false (by omega)
      have hdn := drop_next (bs := bs) hbl HR.out HM.out
      have e1 : R - m = n - 16 * (k + 1) := by have := HR.out; have := HM.out; omega
      have Hdn := Lib.hid hdn; clear hdn
      have E1 := Lib.hid e1; clear e1
      have D4 := Lib.hid d4; clear d4
      by_cases hcm : ck = m
      · have hdr := Hik7.out.drop m (by omega)
        rw [if_pos hcm, Hdn.out] at hdr
        have Hdr := Lib.hid hdr; clear hdr
        subst hcm
        go_wp2
        go_roundw
        case rel => exact ⟨k + 1, 0, some ⟨gx, ox, none⟩, 0, by have := E1.out; omega, rfl, by rw [D4.out], Hrl7.out, Hmw.out, by rw [← E1.out]; have h1 := Hdr.out; rwa [Nat.sub_self] at h1, fun x o e => by cases e; exact ⟨oa, hao⟩, by rw [← HNB.out]; omega⟩
        case measure => show 0 < R; exact hp
      · have hdr := Hik7.out.dropAt m (by omega)
        rw [Hdn.out] at hdr
        have Hdr := Lib.hid hdr; clear hdr
        go_wp2
        go_roundw
        case rel => exact ⟨k + 1, R - m, some ⟨gx, ox + m, none⟩, ck - m, E1.out, rfl, by rw [D4.out], Hrl7.out, Hmw.out, by rw [← E1.out]; exact Hdr.out, fun x o e => by cases e; exact ⟨oa, hao⟩, by rw [← HNB.out]; omega⟩
        case measure => show R - m < R; omega
    · have d0 : decide ((R : Int) > 0) = false := decide_eq_false (by omega)
      have d0' : decide (0 < R) = false := decide_eq_false hp
      have hk : k = NB := by omega
      have hLr := hL.rl
      have hLm := hL.mod
      rw [List.take_of_length_le (by rw [chunks_len, ← HNB.out]; omega), hk] at hLr
      have HLr := Lib.hid hLr; clear hLr
      have HLm := Lib.hid hLm; clear hLm
      clear hL hik
      go_wp2
      go_end0
      exact ⟨rfl, HLr.out, HLm.out⟩
end
end Go.Proofs.YtgpedejeifmfdaaGreat
/- The document's log within a law: Append, Force. -/
namespace Go.Proofs.YtgpedejeifmfdaaGreat
open Go.RowKit Go.Sort

section
variable {w0 w w' : World} {lb b : Nat} {G : Nat → Prop} {s : State} {l : Lg}
theorem Rl.regrow {H : Nat → Prop} (h : Rl w0 w' lb b H s l) (hH : ∀ k, H k → grownF G w w' k) (hoff : ¬ G lb) (hlt : lb < w.heap.size) (hlow : ∀ k, G k → w0.heap.size ≤ k ∧ k < w.heap.size) (hww : w0.heap.size ≤ w.heap.size) (hsz : w.heap.size ≤ w'.heap.size) : Rl w0 w' lb b (grownF G w w') s l :=
  ⟨h.ref.wide hH (by
    rintro k (hk | hk)
    · exact ⟨(hlow k hk).1, Nat.lt_of_lt_of_le (hlow k hk).2 hsz⟩
    · exact ⟨Nat.le_trans hww hk.1, hk.2⟩), h.log, by
    rintro (hk | hk)
    · exact hoff hk
    · omega, h.lo, h.pos, h.n1, h.nb, h.fn, h.sn, h.fb⟩
set_option maxHeartbeats 4000000 in
set_option maxRecDepth 100000 in
theorem RAppend_rl (h : Rl w0 w lb b G s l) {a : Option Addr} {L c : Nat} {list : List Rc} (hx : Recs rcF w a L c list) (hok : ∀ r ∈ list, r.ok) (hL : L ≤ 1000) (hC : s.2.length ≤ 990000) {spare : Int} (hsp : -9223372036854775808 ≤ spare ∧ spare ≤ 9223372036854775807) :
    Calls Tryz.prog 11 #[.pointer (some ⟨lb, 0, none⟩), .slice a L c, .int .i64 spare] w fun e w' => e = .returned (.int .i64 (fitE s.1.length l list 0 spare)) ∧ Rl w0 w' lb b (grownF G w w') (appS s l list spare).1 (appS s l list spare).2 ∧ Mod (fun k => G k ∨ k = lb) w w' := by
  have hfc := Rfits_calls h hx hok hL (more := 0) (by omega) hsp
  have hz := fit_zero (l := l) (N := s.1.length) (list := list) (more := 0) (spare := spare)
  have hel := encs_len list
  rw [hx.len] at hel
  unfold appS
  generalize fitE s.1.length l list 0 spare = E at *
  have hlt := h.lt
  have hoff := h.off
  have hlow := h.ref.low
  have hww := h.ref.bel.size
  by_cases hE : E = 0
  · subst hE
    rw [if_pos rfl]
    obtain ⟨hz1, -, -, hz4⟩ := hz rfl
    have hjo := fun (w2 : World) (hb : Below w.heap.size w w2) => RJoin_calls (hx.keep hb) hok (by omega)
    rw [hz1, if_pos rfl] at hjo
    obtain ⟨SS, hSS⟩ : ∃ S, S = layS s (chunks l.next l.first (encs list)) := ⟨_, rfl⟩
    obtain ⟨LL, hLL⟩ : ∃ L : Lg, L = ⟨l.next + needZ (encs list), l.first, l.sure⟩ := ⟨_, rfl⟩
    simp only
    rw [← hSS, ← hLL]
    have hwr := fun (w2 : World) (h2 : Rl w0 w2 lb b G s l) (a : Option Addr) (n c : Nat) (hi : Ints w2 .u8 a n c (encs list)) (hd : ∀ x o, a = some ⟨x, o, none⟩ → ¬ G x ∧ x ≠ lb) => Rlay_rl h2 hi (by have := hi.len; omega) (by unfold needZ; omega) hd (by omega)
    rw [← hSS, ← hLL] at hwr
    clear hSS hLL hz hx hok hel hz1 hz4
    have Hwr := Lib.hid hwr; clear hwr
    have Hjo := Lib.hid hjo; clear hjo
    have HW := Lib.hid h; clear h
    have Hfc := Lib.hid hfc; clear hfc
    have Hoff := Lib.hid hoff; clear hoff
    have Hlow := Lib.hid hlow; clear hlow
    go_enter Tryz.func11, Tryz.ntmps11
    go_wp2_with fail
    refine Hfc.out.mono ?_
    rintro e w1 ⟨rfl, hb1⟩
    have hjo := Hjo.out w1 hb1
    have Hj := Lib.hid hjo; clear hjo Hjo
    have HB1 := Lib.hid hb1; clear hb1 Hfc
    go_wp2_with fail
    refine Hj.out.mono ?_
    rintro e w2 ⟨v, rfl, ho, hb2⟩
    have hb := HB1.out.trans (hb2.mono HB1.out.size)
    have ho := ho.mono HB1.out.size
    obtain ⟨va, vn, vc, rfl, hi, hbl⟩ := ho.read
    have hd : ∀ x o, va = some ⟨x, o, none⟩ → ¬ G x ∧ x ≠ lb := fun x o e => ⟨fun hf => by have := (Hlow.out x hf).2; have := (hbl x o e).1; omega, by have := (hbl x o e).1; omega⟩
    have hwr := Hwr.out w2 (HW.out.step hb) va vn vc hi hd
    have hsz := hb.size
    have HB := Lib.hid hb; clear hb
    have Hw2 := Lib.hid hwr; clear hwr ho hi hbl hd Hj Hwr HW HB1 hb2
    go_wp2_with fail
    refine Hw2.out.mono ?_
    rintro e w3 ⟨rfl, h3, m3⟩
    have hg : Rl w0 w3 lb b (grownF G w w3) SS LL := h3.regrow (fun k hk => hk.imp id fun h => ⟨by omega, h.2⟩) Hoff.out hlt Hlow.out hww (Nat.le_trans hsz m3.size)
    have hm : Mod (fun k => G k ∨ k = lb) w w3 := (Mod.of_below (F := fun k => G k ∨ k = lb) HB.out).trans m3 (fun x h => h) (fun x _ h => h)
    clear h3 m3 Hw2 HB
    have HG := Lib.hid hg; clear hg
    have HM := Lib.hid hm; clear hm
    go_wp2
    go_ret
    exact ⟨rfl, HG.out, HM.out⟩
  · rw [if_neg hE]
    simp only
    clear hz hel hx hok
    have hd0 : (E == 0) = false := by simpa using hE
    have HW := Lib.hid h; clear h
    have Hfc := Lib.hid hfc; clear hfc
    have Hoff := Lib.hid hoff; clear hoff
    have Hlow := Lib.hid hlow; clear hlow
    go_enter Tryz.func11, Tryz.ntmps11
    go_wp2_with fail
    refine Hfc.out.mono ?_
    rintro e w2 ⟨rfl, hb⟩
    have hg : Rl w0 w2 lb b (grownF G w w2) s l := (HW.out.step hb).regrow (fun k hk => .inl hk) Hoff.out hlt Hlow.out hww hb.size
    have hm : Mod (fun k => G k ∨ k = lb) w w2 := Mod.of_below hb
    clear hb Hfc HW
    have HG := Lib.hid hg; clear hg
    have HM := Lib.hid hm; clear hm
    go_wp2
    go_ret
    exact ⟨rfl, HG.out, HM.out⟩
theorem Rl.put {l' : Lg} (h : Rl w0 w lb b G s l) (hg : w.grownBy w' (some lb)) (hl : RLogAt w' lb b l') (h1 : 1 ≤ l'.next) (h2 : l'.next ≤ 4294967296) (h3 : l'.first ≤ l'.next) (h4 : l'.sure ≤ l'.next) (h5 : l'.first < 4294967296) : Rl w0 w' lb b G s l' ∧ Mod (fun k => G k ∨ k = lb) w w' := by
  have hm : Mod (fun k => k = lb) w w' := Mod.of_grown hg fun k e => by injection e with e; exact e.symm
  exact ⟨⟨h.ref.aside hm (fun k hk e => h.off (by rw [← e]; exact hk)) (fun k e => by rw [e]; exact h.lo), hl, h.off, h.lo, h.pos, h1, h2, h3, h4, h5⟩, hm.mono fun x hx => .inr hx⟩
theorem grown_off {w w' : World} {G : Nat → Prop} {lb : Nat} (h : ¬ G lb) (hlt : lb < w.heap.size) : ¬ grownF G w w' lb := by
  rintro (hk | hk)
  · exact h hk
  · omega
set_option maxHeartbeats 4000000 in
theorem RForce_rl (h : Rl w0 w lb b G s l) (hC : s.2.length ≤ 1000000) :
    Calls Tryz.prog 13 #[.pointer (some ⟨lb, 0, none⟩)] w fun e w' => e = .returned (.tuple #[]) ∧ Rl w0 w' lb b (grownF G w w') (settled s.1 s.2, []) ⟨l.next, l.first, l.first⟩ ∧ Mod (fun k => G k ∨ k = lb) w w' := by
  have hfl := RFlush_ref h.ref hC
  have hl := h.log
  unfold RLogAt Lg.cells at hl
  have c0 := cells_at hl 0
  have hlt := h.lt
  have hlow := h.ref.low
  have hww := h.ref.bel.size
  have hof := h.off
  have HW := Lib.hid h; clear h
  have Hfl := Lib.hid hfl; clear hfl
  have Hlow := Lib.hid hlow; clear hlow
  have Hoff := Lib.hid hof; clear hof
  clear hl
  go_enter Tryz.func13, Tryz.ntmps13
  go_wp2_with fail
  refine Hfl.out.mono ?_
  rintro e w2 ⟨rfl, d2, m2⟩
  have l2 : RLogAt w2 lb b l := HW.out.log.keep (m2.block lb hlt HW.out.off)
  have h2 : Rl w0 w2 lb b (grownF G w w2) (settled s.1 s.2, []) l := ⟨d2, l2, grown_off Hoff.out hlt, HW.out.lo, by simp only [settled_len]; exact HW.out.pos, HW.out.n1, HW.out.nb, HW.out.fn, HW.out.sn, HW.out.fb⟩
  have hfb := HW.out.fb
  have hfn := HW.out.fn
  clear d2 Hfl HW c0
  unfold RLogAt Lg.cells at l2
  have c2 := cells_at l2 2
  have H2 := Lib.hid h2; clear h2
  have M2 := Lib.hid m2; clear m2
  have L2 := Lib.hid l2; clear l2
  go_wp2_with (with_reducible refine stop_store 3 ?_)
  refine unpark ?_
  refine wpList_store_at rfl _ _ _ rfl lb 3 rfl (.int .i64 (l.first : Nat)) rfl [.int .i64 (l.first : Nat)] rfl _ _ L2.out 1 rfl (by simp) (by simp [Value.oneCell']) sizeIntR ?_
  intro w3 l3 g3 s3
  simp only [splice] at l3
  have hl3 : RLogAt w3 lb b ⟨l.next, l.first, l.first⟩ := by
    unfold RLogAt
    rw [l3]
    simp [Lg.cells]
  obtain ⟨h3, m3⟩ := H2.out.put g3 hl3 H2.out.n1 H2.out.nb hfn hfn hfb
  have hsz := M2.out.size
  have hm : Mod (fun k => G k ∨ k = lb) w w3 := M2.out.trans m3 (fun x h => .inl h) (fun x hx h => h.imp (fun h => h.elim id fun h => by omega) id)
  have hg : Rl w0 w3 lb b (grownF G w w3) (settled s.1 s.2, []) ⟨l.next, l.first, l.first⟩ := h3.regrow (fun k hk => hk.imp id fun h => ⟨h.1, Nat.lt_of_lt_of_le h.2 m3.size⟩) Hoff.out hlt Hlow.out hww (Nat.le_trans hsz m3.size)
  clear l3 g3 s3 hl3 m3 h3 H2 M2 L2 c2
  have H3 := Lib.hid hg; clear hg
  have HM := Lib.hid hm; clear hm
  go_wp2
  go_end0
  exact ⟨rfl, H3.out, HM.out⟩
end
end Go.Proofs.YtgpedejeifmfdaaGreat
