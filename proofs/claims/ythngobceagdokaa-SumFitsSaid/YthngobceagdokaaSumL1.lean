/- The walks of the laws SumParts, SumSeals and SumFits. -/
import Derived.Test.YthngobceagdokaaSumA
import Derived.Test.YthngobceagdokaaChain
namespace Go.Proofs.Ythngobceagdokaa
open Go.RowKit Go.Sort

theorem sealed_drop {xs : List Int} {n : Nat} (h : xs.length = n) : (sealed xs).drop n = three (crc 11994318 xs) := by
  unfold sealed; rw [← h]; exact List.drop_left
theorem sealed_take {xs : List Int} {n : Nat} (h : xs.length = n) : (sealed xs).take n = xs := by
  unfold sealed; rw [← h]; exact List.take_left

set_option maxHeartbeats 1600000 in
theorem lawSumFits {a0 a1 : Option Addr} {n0 c0 n1 c1 : Nat} {xs ys : List Int} {w : World} (hx : Ints w .u8 a0 n0 c0 xs) (hy : Ints w .u8 a1 n1 c1 ys) :
    Calls Try.prog 7 #[.slice a0 n0 c0, .slice a1 n1 c1] w fun e w' => e = .returned (.bool true) ∧ Below w.heap.size w w' := by
  have hlx := hx.len
  have hmx := hx.max
  have hpx := hx.le
  have hmy := hy.max
  have hpy := hy.le
  go_enter Try.func7, Try.ntmps7
  go_wp2_with fail
  refine alive_calls.mono ?_
  rintro e w1 ⟨rfl, hb1⟩
  by_cases hg : n0 ≤ 1000 ∧ n1 ≤ 100
  · obtain ⟨hg1, hg2⟩ := hg
    have hx1 := hx.keep hb1
    go_wp2_with fail
    refine (Seal_calls hx1 (by omega)).mono ?_
    rintro e w2 ⟨v, rfl, hv, hb2⟩
    have hb2' : Below w.heap.size w w2 := hb1.trans (hb2.mono hb1.size)
    have hx2 := hx.keep hb2'
    have hy2 := hy.keep hb2'
    obtain ⟨a2, c2, rfl, hi, _⟩ := hv.ints
    have hl2 : (sealed xs).length = n0 + 3 := by rw [sealed_len, hlx]
    rw [hl2] at hi ⊢
    have hle2 := hi.le
    have hmx2 := hi.max
    obtain ⟨b2, o2, rfl, _⟩ := hi.cell (by omega)
    have ht := hi.dropAt n0 (by omega)
    rw [sealed_drop hlx, show n0 + 3 - n0 = 3 by omega] at ht
    have hne : ¬ (c2 = n0) := by omega
    have hwf := crc_wf xs hx.fit
    obtain ⟨B, hB⟩ : ∃ B, decide (three (crc 11994318 xs) = ys) = B := ⟨_, rfl⟩
    have hB' : decide (ys = three (crc 11994318 xs)) = B := by rw [← hB]; exact decide_eq_decide.2 eq_comm
    have hT : decide (three (crc 11994318 xs) = three (crc 11994318 xs)) = true := decide_eq_true rfl
    have cF1 : ∀ W, Below w2.heap.size w2 W → Calls Try.prog 19 #[.slice a0 n0 c0, .slice a1 n1 c1] W fun e W' => e = .returned (.bool B) ∧ Below w2.heap.size w2 W' :=
      fun W hW => (Fits_calls (hx2.keep hW) (hy2.keep hW) hB).mono fun e W' ⟨h, hb⟩ => ⟨h, hW.trans (hb.mono hW.size)⟩
    have cF2 : ∀ W, Below w2.heap.size w2 W → Calls Try.prog 19 #[.slice a0 n0 c0, .slice (some ⟨b2, o2 + n0, none⟩) 3 (c2 - n0)] W fun e W' => e = .returned (.bool true) ∧ Below w2.heap.size w2 W' :=
      fun W hW => (Fits_calls (hx2.keep hW) (ht.keep hW) hT).mono fun e W' ⟨h, hb⟩ => ⟨h, hW.trans (hb.mono hW.size)⟩
    have cS1 : ∀ W, Below w2.heap.size w2 W → Calls Try.prog 16 #[.slice a1 n1 c1, .slice (some ⟨b2, o2 + n0, none⟩) 3 (c2 - n0)] W fun e W' => e = .returned (.bool B) ∧ Below w2.heap.size w2 W' :=
      fun W hW => (below_of_drawn (SameBytes_to (hy2.keep hW) (ht.keep hW) hB')).mono fun e W' ⟨h, hb⟩ => ⟨h, hW.trans (hb.mono hW.size)⟩
    have cS2 : ∀ W a c, Below w2.heap.size w2 W → Ints W .u8 a 3 c (three (crc 11994318 xs)) → Calls Try.prog 16 #[.slice a 3 c, .slice (some ⟨b2, o2 + n0, none⟩) 3 (c2 - n0)] W fun e W' => e = .returned (.bool true) ∧ Below w2.heap.size w2 W' :=
      fun W a c hW hi => (below_of_drawn (SameBytes_to hi (ht.keep hW) hT)).mono fun e W' ⟨h, hb⟩ => ⟨h, hW.trans (hb.mono hW.size)⟩
    have cU : ∀ W, Below w2.heap.size w2 W → Calls Try.prog 12 #[.slice a0 n0 c0] W fun e W' => e = .returned (.int .i64 ((crc 11994318 xs : Nat) : Int)) ∧ Below w2.heap.size w2 W' :=
      fun W hW => (Sum_calls (hx2.keep hW)).mono fun e W' ⟨h, hb⟩ => ⟨h, hb ▸ hW⟩
    have cT : ∀ W, Below w2.heap.size w2 W → Calls Try.prog 17 #[.int .i64 ((crc 11994318 xs : Nat) : Int)] W fun e W' => ∃ a c, e = .returned (.slice a 3 c) ∧ Ints W' .u8 a 3 c (three (crc 11994318 xs)) ∧ Below w2.heap.size w2 W' :=
      fun W hW => (Three_calls hwf).mono fun e W' ⟨v, h, hv, hb⟩ => by
        obtain ⟨a, c, rfl, hi, _⟩ := hv.ints
        exact ⟨a, c, h, hi, hW.trans (hb.mono hW.size)⟩
    have CF1 := Lib.hid cF1; clear cF1
    have CF2 := Lib.hid cF2; clear cF2
    have CS1 := Lib.hid cS1; clear cS1
    have CS2 := Lib.hid cS2; clear cS2
    have CU := Lib.hid cU; clear cU
    have CT := Lib.hid cT; clear cT
    clear hB hB' hT hwf hv hi hlx hl2 hx1 hb1 hb2 hx2 hy2 ht
    have hb0 : Below w2.heap.size w2 w2.drew := (Below.refl _ _).drew
    have e3 : ((n0 : Int) + 3 - (n0 : Int)).toNat = 3 := by omega
    go_wp2_with fail
    refine wp_region_chain [0, 1, 2, 3, 4, 5, 6, 7, 8, 10, 11, 12, 13, 14, 9, 15, 16, 17, 18, 19, 22, 23, 24, 25, 20, 21, 26, 27, 28] (by kernel_rfl) (by kernel_rfl) rfl (by kernel_rfl) (fun _ _ _ h => nomatch h.2.1) (fun _ _ h => nomatch h.1) ?_
    simp only [List.map_cons, List.map_nil, List.getD_cons_zero, List.getD_cons_succ]
    go_wp2_with fail
    refine (CF2.out _ hb0).mono ?_
    rintro e w3 ⟨rfl, hb3⟩
    go_wp2_with fail
    refine (CF1.out _ hb3).mono ?_
    rintro e w4 ⟨rfl, hb4⟩
    go_wp2_with fail
    refine (CS1.out _ hb4).mono ?_
    rintro e w5 ⟨rfl, hb5⟩
    go_wp2_with fail
    refine (CU.out _ hb5).mono ?_
    rintro e w6 ⟨rfl, hb6⟩
    go_wp2_with fail
    refine (CT.out _ hb6).mono ?_
    rintro e w7 ⟨a3, c3, rfl, hi3, hb7⟩
    go_wp2_with fail
    refine (CS2.out _ _ _ hb7 hi3).mono ?_
    rintro e w8 ⟨rfl, hb8⟩
    go_wp2
    go_ret
    exact ⟨rfl, hb2'.trans (Below.mono hb8 hb2'.size)⟩
  · have hg' : 1000 < n0 ∨ 100 < n1 := by omega
    rcases hg' with hg' | hg'
    all_goals
      go_wp2
      all_goals go_ret
      all_goals exact ⟨rfl, hb1⟩
end Go.Proofs.Ythngobceagdokaa
