/- The laws' helper alive. -/
import Derived.Test.YtpcekoimalafkaaDiskA
import Derived.Test.YtpcekoimalafkaaZeros
namespace Go.Proofs.Ytpcekoimalafkaa
open Go.RowKit

def rep (c : Int) : List Int := List.replicate 32 c
def sA : State := (fresh 3, [(0, rep 1)])
def sB : State := (fresh 3, [(0, rep 1), (2, rep 2)])
def sC : State := (fresh 3, [(0, rep 1), (2, rep 2), (1, rep 3)])
def torn3 : List Int := [2, 2, 2] ++ List.replicate 29 0
def sD : State := ([rep 1, rep 0, torn3], [])

set_option maxHeartbeats 4000000 in
theorem alive_calls {w : World} : Calls Try.prog 9 #[] w fun e w' => e = .returned (.bool true) ∧ Below w.heap.size w w' := by
  go_enter Try.func9, Try.ntmps9
  go_wp2_with fail
  refine (New_dev (w0 := w) (n := 3) (Below.refl _ _) (by decide) (by decide)).mono ?_
  rintro e w1 ⟨b, F1, rfl, d1, _, _⟩
  go_wp2_with fail
  refine (full_calls (c := 1) (by decide)).mono ?_
  rintro e w2 ⟨v1, rfl, o1, b2⟩
  have d2 := d1.step b2
  obtain ⟨g1, c1, rfl, i1⟩ := o1.ofInts (n := 32) rfl (by decide)
  clear o1 b2 d1
  go_wp2_with fail
  refine (Write_dev d2 0 i1 (by simp)).mono ?_
  rintro e w3 ⟨rfl, d3, _⟩
  rw [show writeErr (fresh 3, ([] : List (Int × List Int))).1 0 32 = 0 by decide]
  replace d3 : Dev w w3 b _ sA := d3
  clear d2 i1
  go_wp2_with fail
  refine (full_calls (c := 2) (by decide)).mono ?_
  rintro e w4 ⟨v1, rfl, o1, b2⟩
  have d4 := d3.step b2
  obtain ⟨g2, c2, rfl, i1⟩ := o1.ofInts (n := 32) rfl (by decide)
  clear o1 b2 d3
  go_wp2_with fail
  refine (Write_dev d4 2 i1 (by decide)).mono ?_
  rintro e w5 ⟨rfl, d5, _⟩
  rw [show writeErr sA.1 2 32 = 0 by decide]
  replace d5 : Dev w w5 b _ sB := d5
  clear d4 i1
  go_wp2_with fail
  refine (full_calls (c := 3) (by decide)).mono ?_
  rintro e w6 ⟨v1, rfl, o1, b2⟩
  have d6 := d5.step b2
  obtain ⟨g3, c3, rfl, i1⟩ := o1.ofInts (n := 32) rfl (by decide)
  clear o1 b2 d5
  go_wp2_with fail
  refine (Write_dev d6 1 i1 (by decide)).mono ?_
  rintro e w7 ⟨rfl, d7, _⟩
  rw [show writeErr sB.1 1 32 = 0 by decide]
  replace d7 : Dev w w7 b _ sC := d7
  clear d6 i1
  go_wp2_with fail
  refine (Loose_dev d7).mono ?_
  rintro e _ ⟨rfl, rfl⟩
  rw [show ((sC.2.length : Nat) : Int) = 3 by decide]
  go_wp2_with fail
  refine (Crash_dev d7 1 3).mono ?_
  rintro e w8 ⟨rfl, d8, _⟩
  rw [show (crashed sC.1 sC.2 1 3, ([] : List (Int × List Int))) = sD by decide] at d8
  clear d7
  go_wp2_with fail
  refine (Read_dev d8 0).mono ?_
  rintro e w9 ⟨x, rfl, ox, bx, d9⟩
  rw [show readErr sD 0 = 0 by decide]
  replace ox : Own w9 w8.heap.size 5 .u8 x (rep 1) := ox
  obtain ⟨gx, cx, rfl, ix⟩ := ox.ofInts (n := 32) rfl (by decide)
  clear ox bx d8
  go_wp2_with fail
  refine (Read_dev d9 2).mono ?_
  rintro e wa ⟨y, rfl, oy, bw, da⟩
  rw [show readErr sD 2 = 0 by decide]
  replace oy : Own wa w9.heap.size 5 .u8 y torn3 := oy
  obtain ⟨gy, cy, rfl, iy⟩ := oy.ofInts (n := 32) rfl (by decide)
  replace ix := ix.keep bw
  clear oy bw d9
  go_wp2_with fail
  refine (Read_dev da 1).mono ?_
  rintro e wb ⟨z, rfl, oz, bz, db⟩
  rw [show readErr sD 1 = 0 by decide]
  replace oz : Own wb wa.heap.size 5 .u8 z (rep 0) := oz
  obtain ⟨gz, cz, rfl, iz⟩ := oz.ofInts (n := 32) rfl (by decide)
  replace ix := ix.keep bz
  replace iy := iy.keep bz
  clear oz bz da
  go_wp2_with fail
  refine (Read_dev db 3).mono ?_
  rintro e wc ⟨z', rfl, oz, bz, dc⟩
  rw [show readErr sD 3 = 11 by decide]
  replace ix := ix.keep bz
  replace iy := iy.keep bz
  replace iz := iz.keep bz
  clear oz bz db
  go_wp2_with fail
  refine (Loose_dev dc).mono ?_
  rintro e _ ⟨rfl, rfl⟩
  rw [show ((sD.2.length : Nat) : Int) = 0 by decide]
  go_wp2_with fail
  refine (Sectors_dev dc).mono ?_
  rintro e _ ⟨rfl, rfl⟩
  rw [show ((sD.1.length : Nat) : Int) = 3 by decide]
  go_wp2_with fail
  refine (full_calls (c := 1) (by decide)).mono ?_
  rintro e wd ⟨v1, rfl, o1, b2⟩
  obtain ⟨g4, c4, rfl, i1⟩ := o1.ofInts (n := 32) rfl (by decide)
  replace ix := ix.keep b2
  replace iy := iy.keep b2
  replace iz := iz.keep b2
  have dd := dc.step b2
  clear dc b2 o1
  go_wp2_with fail
  refine (SameBytes_yes ix i1 rfl).mono ?_
  rintro e we ⟨rfl, n1, rfl⟩
  replace iy := iy.drewN n1
  replace iz := iz.drewN n1
  replace dd := dd.step (w' := wd.drewN n1) ⟨rfl, rfl, rfl, Nat.le_refl _, fun _ _ => rfl⟩
  clear ix i1
  generalize wd.drewN n1 = we at *
  go_wp2_with (with_reducible refine stop_builtin .append ?_)
  obtain ⟨i0, hi, hz0, hz1, hz2⟩ := Try.infoU8'
  have i3 : Ints (we.alloc (.cells #[.int .u8 2, .int .u8 2, .int .u8 2] 5)) .u8 (some ⟨we.heap.size, 0, none⟩) 3 3 [2, 2, 2] := by
    refine Ints.of rfl (by decide) (by decide) (by decide) fun j hj => ?_
    rw [Nat.zero_add, cells_at (heap_alloc_new we _) j]
    match j, hj with
    | 0, _ => rfl
    | 1, _ => rfl
    | 2, _ => rfl
  have ba : Below we.heap.size we (we.alloc (.cells #[.int .u8 2, .int .u8 2, .int .u8 2] 5)) := (Below.refl _ _).alloc (Nat.le_refl _) _
  replace iy := iy.keep ba
  replace iz := iz.keep ba
  replace dd := dd.step ba
  generalize we.alloc (.cells #[.int .u8 2, .int .u8 2, .int .u8 2] 5) = wf at *
  refine unpark ?_
  refine wpList_append_zeros rfl _ _ 32 5 3 29 rfl rfl i0 Try.underlying32 Try.underlying3 hi hz0 hz1 hz2 _ 0 3 3 [2, 2, 2] rfl i3 (by decide) (by decide) (by decide) ?_
  intro v wg og bg
  replace iy := iy.keep bg
  replace iz := iz.keep bg
  replace dd := dd.step bg
  obtain ⟨g5, c5, rfl, i5⟩ := og.ofInts (n := 32) rfl (by decide)
  clear og bg i3 ba hi hz0 hz1 hz2
  go_wp2_with fail
  refine (SameBytes_yes iy i5 rfl).mono ?_
  rintro e wh ⟨rfl, n2, rfl⟩
  replace iz := iz.drewN n2
  replace dd := dd.step (w' := wg.drewN n2) ⟨rfl, rfl, rfl, Nat.le_refl _, fun _ _ => rfl⟩
  clear iy i5
  generalize wg.drewN n2 = wh at *
  go_wp2_with fail
  refine (full_calls (c := 0) (by decide)).mono ?_
  rintro e wi ⟨v1, rfl, o1, b2⟩
  obtain ⟨g6, c6, rfl, i6⟩ := o1.ofInts (n := 32) rfl (by decide)
  replace iz := iz.keep b2
  replace dd := dd.step b2
  clear b2 o1
  go_wp2_with fail
  refine (SameBytes_yes iz i6 rfl).mono ?_
  rintro e wj ⟨rfl, n3, rfl⟩
  replace dd := dd.step (w' := wi.drewN n3) ⟨rfl, rfl, rfl, Nat.le_refl _, fun _ _ => rfl⟩
  clear iz i6
  generalize wi.drewN n3 = wj at *
  go_wp2_with fail
  refine (Image_dev dd).mono ?_
  rintro e wk ⟨v, rfl, ov, bv, dk⟩
  replace ov : Own wk wj.heap.size 5 .u8 v (rep 1 ++ rep 0 ++ torn3) := ov
  obtain ⟨g7, c7, rfl, i7⟩ := ov.ofInts (n := 96) rfl (by decide)
  have Hb := Lib.hid dk.bel
  clear ov bv i7 dd dk
  go_wp2
  go_ret
  exact ⟨rfl, Hb.out⟩
end Go.Proofs.Ytpcekoimalafkaa
