/- The law WordNumbers. -/
import Derived.Test.YtjbpoegpmbnglaaDoorWordR3
namespace Go.Proofs.YtjbpoegpmbnglaaDoor
open Go.RowKit

set_option maxHeartbeats 4000000 in
theorem lawWordNumbers {w : World} {n k a r : Int} (hT : TabOk w) (h1 : (Lit.int .i64 n).wf = true) (_h2 : (Lit.int .i64 k).wf = true) (h3 : (Lit.int .u64 a).wf = true) (_h4 : (Lit.int .i64 r).wf = true) :
    Calls Tryd.prog 3 #[.int .i64 n, .int .i64 k, .int .u64 a, .int .i64 r] w fun e w' => e = .returned (.bool true) ∧ Below w.heap.size w w' := by
  clear _h2 _h4
  have ha := alive_calls hT
  obtain ⟨u, rfl, hu⟩ := u64_nat h3
  have hn := wf_i64 h1
  clear h1 h3
  have hu2 : u < 2 ^ 64 := hu
  have c1 := fun w : World => Fits_calls (w := w) n k
  have c2 := fun w : World => RFits_calls (w := w) (k := k) hn.1 hn.2
  have c3 := fun w : World => Cut_calls (w := w) n k
  have c4 := fun w : World => RCut_calls (w := w) (k := k) hn.1 hn.2
  have c5 := fun w : World => Zig_calls (w := w) hn.1 hn.2
  have c6 := fun w : World => RZig_calls (w := w) hn.1 hn.2
  have c7 := fun w : World => Zag_calls (w := w) hu
  have c8 := fun w : World => RZag_calls (w := w) hu
  have c9 := fun w : World => Turn_calls (w := w) hu2 r
  have c10 := fun w : World => RTurn_calls (w := w) hu2 r
  have c11 := fun w : World => Count_calls (w := w) hu2
  have c12 := fun w : World => RCount_calls (w := w) hu
  have c13 := fun w' (hb : Below w.heap.size w w') => Low_calls (hT.below hb) hu
  have c14 := fun w : World => RLow_calls (w := w) hu
  clear hu hu2 hn
  generalize fitsS n k = E1 at c1 c2
  generalize cutS n k = E2 at c3 c4
  generalize zigS n = E3 at c5 c6
  generalize zagS u = E4 at c7 c8
  generalize turnS u r = E5 at c9 c10
  generalize pop u = E6 at c11 c12
  generalize lowS u = E7 at c13 c14
  have d1 : (E1 == E1) = true := by simp
  have d2 : (E2 == E2) = true := by simp
  have d3 : (E3 == E3) = true := by simp
  have d4 : (E4 == E4) = true := by simp
  have d5 : ((E5 : Int) == (E5 : Int)) = true := by simp
  have d6 : ((E6 : Int) == (E6 : Int)) = true := by simp
  have d7 : ((E7 : Int) == (E7 : Int)) = true := by simp
  have hA := Lib.hid ha; clear ha hT
  have C1 := Lib.hid c1; clear c1
  have C2 := Lib.hid c2; clear c2
  have C3 := Lib.hid c3; clear c3
  have C4 := Lib.hid c4; clear c4
  have C5 := Lib.hid c5; clear c5
  have C6 := Lib.hid c6; clear c6
  have C7 := Lib.hid c7; clear c7
  have C8 := Lib.hid c8; clear c8
  have C9 := Lib.hid c9; clear c9
  have C10 := Lib.hid c10; clear c10
  have C11 := Lib.hid c11; clear c11
  have C12 := Lib.hid c12; clear c12
  have C13 := Lib.hid c13; clear c13
  have C14 := Lib.hid c14; clear c14
  go_enter Tryd.func3, Tryd.ntmps3
  go_wp2_with fail
  refine hA.out.mono ?_
  rintro e w1 ⟨rfl, b1⟩
  have hB := Lib.hid b1; clear b1
  go_wp2_with fail
  refine (C1.out _ ).mono ?_
  rintro e w2 ⟨rfl, rfl⟩
  go_wp2_with fail
  refine (C2.out _ ).mono ?_
  rintro e w2 ⟨rfl, rfl⟩
  go_wp2_with fail
  refine (C3.out _ ).mono ?_
  rintro e w2 ⟨rfl, rfl⟩
  go_wp2_with fail
  refine (C4.out _ ).mono ?_
  rintro e w2 ⟨rfl, rfl⟩
  go_wp2_with fail
  refine (C5.out _ ).mono ?_
  rintro e w2 ⟨rfl, rfl⟩
  go_wp2_with fail
  refine (C6.out _ ).mono ?_
  rintro e w2 ⟨rfl, rfl⟩
  go_wp2_with fail
  refine (C7.out _ ).mono ?_
  rintro e w2 ⟨rfl, rfl⟩
  go_wp2_with fail
  refine (C8.out _ ).mono ?_
  rintro e w2 ⟨rfl, rfl⟩
  go_wp2_with fail
  refine (C9.out _ ).mono ?_
  rintro e w2 ⟨rfl, rfl⟩
  go_wp2_with fail
  refine (C10.out _ ).mono ?_
  rintro e w2 ⟨rfl, rfl⟩
  go_wp2_with fail
  refine (C11.out _ ).mono ?_
  rintro e w2 ⟨rfl, rfl⟩
  go_wp2_with fail
  refine (C12.out _ ).mono ?_
  rintro e w2 ⟨rfl, rfl⟩
  go_wp2_with fail
  refine (C13.out _ hB.out).mono ?_
  rintro e w2 ⟨rfl, rfl⟩
  go_wp2_with fail
  refine (C14.out _ ).mono ?_
  rintro e w2 ⟨rfl, rfl⟩
  go_wp2
  go_ret
  exact ⟨rfl, hB.out⟩
end Go.Proofs.YtjbpoegpmbnglaaDoor
