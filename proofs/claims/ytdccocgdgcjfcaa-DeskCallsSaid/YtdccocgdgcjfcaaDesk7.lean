/- The laws' 'alive'. -/
import Derived.Test.YtdccocgdgcjfcaaDesk6
namespace Go.Proofs.Ytdccocgdgcjfcaa
open Go.RowKit

set_option maxHeartbeats 8000000 in
set_option maxRecDepth 100000 in
theorem alive_calls {w : World} : Calls Try.prog 7 #[] w fun e w' => e = .returned (.bool true) ∧ Below w.heap.size w w' := by
  have e1 : beginOf (2, 1, 2) [] 0 1 4 = (1, 0, [(0, 4, 1)]) := by decide
  have e2 : ofOf (2, 1, 2) [(0, 4, 1)] 0 9 = 1 := by decide
  have e3 : ofOf (2, 1, 2) [(0, 4, 1)] 0 10 = 0 := by decide
  have e4 : mayOf (2, 1, 2) [(0, 4, 1)] 0 0 6 = (1, 0) := by decide
  have e5 : mayOf (2, 1, 2) [(0, 4, 1)] 0 1 6 = (0, 14) := by decide
  have e6 : mayOf (2, 1, 2) [(0, 4, 1)] 0 0 7 = (0, 19) := by decide
  have e7 : beginOf (2, 1, 2) [(0, 4, 1)] 0 1 9 = (0, 13, [(0, 4, 1)]) := by decide
  have e8 : entAt [(0, 4, 1)] 1 = (0, 4, 1) := by decide
  have e9 : inOf [(0, 4, 1)] 0 = [1] := by decide
  have e10 : overOf (2, 1, 2) [(0, 4, 1)] 10 = [1] := by decide
  have E1 := Lib.hid e1; clear e1
  have E2 := Lib.hid e2; clear e2
  have E3 := Lib.hid e3; clear e3
  have E4 := Lib.hid e4; clear e4
  have E5 := Lib.hid e5; clear e5
  have E6 := Lib.hid e6; clear e6
  have E7 := Lib.hid e7; clear e7
  have E8 := Lib.hid e8; clear e8
  have E9 := Lib.hid e9; clear e9
  have E10 := Lib.hid e10; clear e10
  have en := fun w => New_dk (w0 := w) (p := (2, 1, 2)) (Below.refl w.heap.size w) (by decide)
  simp only [Pl.cells, Pl.parts, Pl.window, Pl.delay] at en
  have EN := Lib.hid en; clear en
  go_enter Try.func7, Try.ntmps7
  go_wp2_with fail
  refine (EN.out w).mono ?_
  rintro e w1 ⟨b, F, rfl, d1, -, -⟩
  clear EN
  have Hd1 := Lib.hid d1; clear d1
  go_wp2_with fail
  refine (Begin_dk Hd1.out 0 1 4 (by decide) (by decide)).mono ?_
  rintro e w2 ⟨rfl, d2, -⟩
  rw [E1.out] at d2 ⊢
  clear Hd1 E1
  generalize grownF F w1 w2 = F2 at d2
  have Hd2 := Lib.hid d2; clear d2
  go_wp2_with fail
  refine (Of_dk Hd2.out 0 9 (by decide)).mono ?_
  rintro e w3 ⟨rfl, b3, -⟩
  rw [E2.out]
  have d3 := Hd2.out.step b3
  clear Hd2 E2 b3
  have Hd3 := Lib.hid d3; clear d3
  go_wp2_with fail
  refine (Of_dk Hd3.out 0 10 (by decide)).mono ?_
  rintro e w4 ⟨rfl, b4, -⟩
  rw [E3.out]
  have d4 := Hd3.out.step b4
  clear Hd3 E3 b4
  have Hd4 := Lib.hid d4; clear d4
  go_wp2_with fail
  refine (May_dk Hd4.out 0 0 6 (by decide)).mono ?_
  rintro e w5 ⟨rfl, b5, -⟩
  rw [E4.out]
  have d5 := Hd4.out.step b5
  clear Hd4 E4 b5
  have Hd5 := Lib.hid d5; clear d5
  go_wp2_with fail
  refine (May_dk Hd5.out 0 1 6 (by decide)).mono ?_
  rintro e w6 ⟨rfl, b6, -⟩
  rw [E5.out]
  have d6 := Hd5.out.step b6
  clear Hd5 E5 b6
  have Hd6 := Lib.hid d6; clear d6
  go_wp2_with fail
  refine (May_dk Hd6.out 0 0 7 (by decide)).mono ?_
  rintro e w7 ⟨rfl, b7, -⟩
  rw [E6.out]
  have d7 := Hd6.out.step b7
  clear Hd6 E6 b7
  have Hd7 := Lib.hid d7; clear d7
  go_wp2_with fail
  refine (Begin_dk Hd7.out 0 1 9 (by decide) (by decide)).mono ?_
  rintro e w8 ⟨rfl, d8, -⟩
  rw [E7.out] at d8 ⊢
  clear Hd7 E7
  generalize grownF F2 w7 w8 = F8 at d8
  have Hd8 := Lib.hid d8; clear d8
  go_wp2_with fail
  refine (Entry_dk Hd8.out 1 (by decide)).mono ?_
  rintro e w9 ⟨rfl, b9, -⟩
  rw [E8.out]
  have d9 := Hd8.out.step b9
  clear Hd8 E8 b9
  have Hd9 := Lib.hid d9; clear d9
  simp only [Ent.cells, Ent.client, Ent.begin, Ent.mask]
  go_wp2_with fail
  have da := Hd9.out.step ((Below.refl _ _).alloc (Nat.le_refl _) (.cells #[.int .i64 0, .int .i64 4, .int .u16 1] 50))
  generalize w9.alloc (.cells #[.int .i64 0, .int .i64 4, .int .u16 1] 50) = wa at da ⊢
  clear Hd9
  have Hda := Lib.hid da; clear da
  refine (Count_dk Hda.out).mono ?_
  rintro e wb ⟨rfl, rfl⟩
  simp only [List.length_cons, List.length_nil]
  go_wp2_with fail
  refine (In_dk Hda.out 0).mono ?_
  rintro e wb ⟨v, rfl, own, bb, -⟩
  rw [E9.out] at own
  have db := Hda.out.step bb
  clear Hda E9 bb
  obtain ⟨va, vc, rfl, hi, -⟩ := own.ints
  clear own
  have Hdb := Lib.hid db; clear db
  have Hi := Lib.hid hi; clear hi
  go_wp2_with fail
  have hx := heap_alloc_new wb (.cells #[.int .i64 1] 3)
  have bc : Below wb.heap.size wb (wb.alloc (.cells #[.int .i64 1] 3)) := (Below.refl _ _).alloc (Nat.le_refl _) _
  generalize wb.alloc (.cells #[.int .i64 1] 3) = wc at hx bc ⊢
  have hi2 : Ints wc .i64 (some ⟨wb.heap.size, 0, none⟩) 1 1 [1] := Ints.of rfl (Nat.le_refl _) (by decide) (fun z hz => by rw [List.mem_singleton] at hz; rw [hz]; rfl) (fun k hk => by
    obtain rfl : k = 0 := by omega
    exact cells_at hx 0)
  have hi1 := Hi.out.keep bc
  have dc := Hdb.out.step bc
  clear Hi Hdb hx bc
  have Hi1 := Lib.hid hi1; clear hi1
  have Hi2 := Lib.hid hi2; clear hi2
  have Hdc := Lib.hid dc; clear dc
  refine (SameInts_calls Hi1.out Hi2.out rfl).mono ?_
  rintro e wd ⟨rfl, n, rfl⟩
  have dd := Hdc.out.drawn n
  clear Hdc Hi1 Hi2
  generalize wc.drewN n = wd at dd ⊢
  have Hdd := Lib.hid dd; clear dd
  go_wp2_with fail
  refine (Over_dk Hdd.out 10).mono ?_
  rintro e we ⟨v, rfl, own, be, -⟩
  rw [E10.out] at own
  have de := Hdd.out.step be
  clear Hdd E10 be
  obtain ⟨va, vc, rfl, hi, -⟩ := own.ints
  clear own
  have Hde := Lib.hid de; clear de
  have Hi := Lib.hid hi; clear hi
  go_wp2_with fail
  have hx := heap_alloc_new we (.cells #[.int .i64 1] 3)
  have bc : Below we.heap.size we (we.alloc (.cells #[.int .i64 1] 3)) := (Below.refl _ _).alloc (Nat.le_refl _) _
  generalize we.alloc (.cells #[.int .i64 1] 3) = wf at hx bc ⊢
  have hi2 : Ints wf .i64 (some ⟨we.heap.size, 0, none⟩) 1 1 [1] := Ints.of rfl (Nat.le_refl _) (by decide) (fun z hz => by rw [List.mem_singleton] at hz; rw [hz]; rfl) (fun k hk => by
    obtain rfl : k = 0 := by omega
    exact cells_at hx 0)
  have hi1 := Hi.out.keep bc
  have df := Hde.out.step bc
  clear Hi Hde hx bc
  have Hi1 := Lib.hid hi1; clear hi1
  have Hi2 := Lib.hid hi2; clear hi2
  have Hdf := Lib.hid df; clear df
  refine (SameInts_calls Hi1.out Hi2.out rfl).mono ?_
  rintro e wg ⟨rfl, n, rfl⟩
  have bel := (Hdf.out.drawn n).bel
  clear Hdf Hi1 Hi2
  have Hbel := Lib.hid bel; clear bel
  go_wp2
  go_ret
  exact ⟨rfl, Hbel.out⟩
end Go.Proofs.Ytdccocgdgcjfcaa
