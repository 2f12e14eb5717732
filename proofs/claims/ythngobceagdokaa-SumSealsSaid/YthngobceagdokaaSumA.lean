/- The sums that the document fixes: alive returns true. -/
import Derived.Test.YthngobceagdokaaSumW3
import Derived.Lib.SlBytesConst
namespace Go.Proofs.Ythngobceagdokaa
open Go.RowKit Go.Sort

theorem ints_lit {k : IntKind} (w : World) (E : TypeId) (fz : Nat × Nat) (C : Array Value) (zs : List Int) (n : Nat) (hC : C = (zs.map (Value.int k)).toArray)
    (hn : zs.length = n) (hm : n ≤ 9223372036854775807) (hf : ∀ z ∈ zs, (Lit.int k z).wf = true) :
    Ints (w.alloc (.cells C E fz)) k (some ⟨w.heap.size, 0, none⟩) n n zs := by
  subst hC
  refine Ints.of hn (Nat.le_refl _) hm hf fun j hj => ?_
  rw [Nat.zero_add, cell_of_row _ w.heap.size j _ E fz (heap_alloc_new w _)]
  simp [List.getD_eq_getElem?_getD, List.getElem?_eq_getElem (show j < zs.length by omega)]

theorem Sum_lit {a : Option Addr} {n c : Nat} {xs : List Int} {w : World} {r : Int} (hx : Ints w .u8 a n c xs) (hr : ((crc 11994318 xs : Nat) : Int) = r) :
    Calls Try.prog 12 #[.slice a n c] w fun e w' => e = .returned (.int .i64 r) ∧ w = w' :=
  (Sum_calls hx).mono fun e w' ⟨h, h'⟩ => ⟨by rw [h, hr], h'⟩
theorem More_lit {s : Int} {a : Option Addr} {n c : Nat} {xs : List Int} {w : World} {r : Int} (hs : (Lit.int .i64 s).wf = true) (hx : Ints w .u8 a n c xs) (hr : ((crc (s % 16777216).toNat xs : Nat) : Int) = r) :
    Calls Try.prog 14 #[.int .i64 s, .slice a n c] w fun e w' => e = .returned (.int .i64 r) ∧ w = w' :=
  (More_calls hs hx).mono fun e w' ⟨h, h'⟩ => ⟨by rw [h, hr], h'⟩

theorem ints_of_row {w : World} {k : IntKind} {x : Addr} {len cap : Nat} {zs : List Int} (hl : len ≤ cap) (hm : cap ≤ maxLen) (hz : zs.length = cap)
    (hc : ∀ i, i < zs.length → w.cell? (x.add i) = some (.int k (zs.getD i 0))) (hw : ∀ n ∈ zs, (Lit.int k n).wf = true) : Ints w k (some x) len cap (zs.take len) := by
  refine ⟨by rw [List.length_take]; omega, hl, by unfold maxLen at hm; omega, fun z h => hw z (List.mem_of_mem_take h), fun hp => ?_⟩
  obtain ⟨b, o, spot⟩ := x
  have h0 := hc 0 (by omega)
  have hs : spot = none := by simpa [Addr.add] using World.cell?_spot h0
  subst hs
  refine ⟨b, o, rfl, fun j hj => ?_⟩
  have hadd : (⟨b, o, none⟩ : Addr).add j = ⟨b, o + j, none⟩ := by unfold Addr.add; split <;> simp_all
  rw [← hadd, hc j (by omega), List.getD_eq_getElem?_getD, List.getD_eq_getElem?_getD, List.getElem?_take, if_pos hj]

theorem below_of_same {P : Program} {f : FuncId} {args : Array Value} {w : World} {r : Ending} (h : Calls P f args w fun e w' => e = r ∧ w = w') :
    Calls P f args w fun e w' => e = r ∧ Below w.heap.size w w' := h.mono fun _ _ ⟨h, h'⟩ => ⟨h, h' ▸ Below.refl _ _⟩
theorem below_of_drawn {P : Program} {f : FuncId} {args : Array Value} {w : World} {r : Ending} (h : Calls P f args w fun e w' => e = r ∧ ∃ n, w' = w.drewN n) :
    Calls P f args w fun e w' => e = r ∧ Below w.heap.size w w' := h.mono fun _ _ ⟨h, n, h'⟩ => ⟨h, h' ▸ below_drewN (Below.refl _ _) n⟩

set_option maxRecDepth 10000 in
theorem c0 : ((crc 11994318 [] : Nat) : Int) = 11994318 := by decide +kernel
set_option maxRecDepth 10000 in
theorem c9 : ((crc 11994318 [49, 50, 51, 52, 53, 54, 55, 56, 57] : Nat) : Int) = 2215682 := by decide +kernel
theorem c4 : ∃ r : Int, ((crc 11994318 [49, 50, 51, 52] : Nat) : Int) = r ∧ (Lit.int .i64 r).wf = true ∧ ((crc (r % 16777216).toNat [53, 54, 55, 56, 57] : Nat) : Int) = 2215682 :=
  ⟨((crc 11994318 [49, 50, 51, 52] : Nat) : Int), rfl, by decide +kernel, by decide +kernel⟩
theorem cfit : decide (three (crc 11994318 [49, 50, 51, 52, 53, 54, 55, 56, 57]) = [33, 207, 2]) = true := by decide +kernel
theorem cthree : decide (three 66051 = [1, 2, 3]) = true := by decide +kernel
theorem cab : opened (sealed [97, 98]) = true := by decide +kernel
theorem cab2 : (sealed [97, 98]).take ((sealed [97, 98]).length - 3) = [97, 98] := by decide +kernel
theorem cab3 : ((strOfNums [97, 98]).toList == [97, 98]) = true := by decide +kernel

set_option maxHeartbeats 1600000 in
theorem alive_calls {w : World} :
    Calls Try.prog 8 #[] w fun e w' => e = .returned (.bool true) ∧ Below w.heap.size w w' := by
  have kc := fun (w : World) (C : Array Value) (n c : Nat) => Lib.run_convert_bytes_const (P := Try.prog) w 22 5 C n c Try.underlying22 Try.underlying5
  obtain ⟨r4, hr4, hr4w, hr45⟩ := c4
  have Hr4 := Lib.hid hr4; clear hr4
  have Hr45 := Lib.hid hr45; clear hr45
  go_enter Try.func8, Try.ntmps8
  go_wp2_with fail
  refine (Seal_calls (ints_lit w 5 (2, 3) _ [97, 98] 2 rfl rfl (by omega) (by decide)) (by omega)).mono ?_
  rintro e w1 ⟨v, rfl, hv, hb1⟩
  have hb1' : Below w.heap.size w w1 := ((Below.refl _ _).alloc (Nat.le_refl _) _).trans (hb1.mono (by simp))
  clear hb1
  obtain ⟨a1, k1, rfl, hi1, _⟩ := hv.ints
  clear hv
  go_wp2_with fail
  refine (Open_calls hi1 (by rw [sealed_len]; simp)).mono ?_
  rintro e w2 ⟨hb2, hopen⟩
  have hb2' : Below w.heap.size w w2 := hb1'.trans (hb2.mono hb1'.size)
  have hres : ∃ v, e = .returned (.tuple #[v, .bool true]) ∧ Own w2 w1.heap.size 5 .u8 v [97, 98] := by
    rcases hopen with ⟨h, _⟩ | ⟨_, v, h1, h2⟩
    · rw [cab] at h; cases h
    · exact ⟨v, h1, by rw [cab2] at h2; exact h2⟩
  clear hopen hb2 hb1' hi1
  obtain ⟨v, rfl, hv⟩ := hres
  obtain ⟨a2, k2, rfl, hi2, _⟩ := hv.ints
  replace hi2 : Ints w2 .u8 a2 2 k2 [97, 98] := hi2
  clear hv
  have hsz2 := hb2'.size
  go_wp2_with fail
  refine (Sum_lit (Ints.nil0 _ _) c0).mono ?_
  rintro e w3 ⟨rfl, rfl⟩
  go_wp2_with fail
  refine (Sum_lit (ints_lit w2 5 (9, 10) _ [49, 50, 51, 52, 53, 54, 55, 56, 57] 9 rfl rfl (by omega) (by decide)) c9).mono ?_
  rintro e w3 ⟨rfl, rfl⟩
  have hst := (hi2.alloc (.cells #[.int .u8 49, .int .u8 50, .int .u8 51, .int .u8 52, .int .u8 53, .int .u8 54, .int .u8 55, .int .u8 56, .int .u8 57] 5 (9, 10))).string (P := Try.prog) 22 5 9 Try.underlying22 Try.underlying5 Try.underlying9
  have hst2 := cab3
  generalize strOfNums [97, 98] = S at hst hst2
  have hb3 : Below w.heap.size w (w2.alloc (.cells #[.int .u8 49, .int .u8 50, .int .u8 51, .int .u8 52, .int .u8 53, .int .u8 54, .int .u8 55, .int .u8 56, .int .u8 57] 5 (9, 10))) := hb2'.alloc hsz2 _
  go_wp2_with fail
  refine (Three_calls (s := 66051) (by decide)).mono ?_
  rintro e w4 ⟨v, rfl, hv, hb4⟩
  have hb4' : Below w.heap.size w w4 := hb3.trans (hb4.mono hb3.size)
  clear hb3 hb4 hst hst2 hb2' hi2
  obtain ⟨a4, k4, rfl, hi4, _⟩ := hv.ints
  clear hv
  have hsz4 := hb4'.size
  go_wp2_with fail
  refine (below_of_drawn (SameBytes_to (hi4.alloc _) (ints_lit w4 5 (0, 0) _ [1, 2, 3] 3 rfl rfl (by omega) (by decide)) cthree)).mono ?_
  rintro e w5 ⟨rfl, hb5⟩
  have hb5' : Below w.heap.size w w5 := (hb4'.alloc hsz4 _).trans (hb5.mono (by simp; omega))
  clear hb4' hi4 hb5
  have hsz5 := hb5'.size
  go_wp2_with fail
  refine (below_of_same (Sum_lit (ints_lit w5 5 (4, 5) _ [49, 50, 51, 52] 4 rfl rfl (by omega) (by decide)) Hr4.out)).mono ?_
  rintro e w6 ⟨rfl, hb6⟩
  have hb6' : Below w.heap.size w w6 := (hb5'.alloc hsz5 _).trans (hb6.mono (by simp; omega))
  clear hb5' hb6
  have hsz6 := hb6'.size
  go_wp2_with fail
  refine (below_of_same (More_lit hr4w (ints_lit w6 5 (5, 6) _ [53, 54, 55, 56, 57] 5 rfl rfl (by omega) (by decide)) Hr45.out)).mono ?_
  rintro e w7 ⟨rfl, hb7⟩
  have hb7' : Below w.heap.size w w7 := (hb6'.alloc hsz6 _).trans (hb7.mono (by simp; omega))
  clear hb6' hb7
  have hsz7 := hb7'.size
  have hx8 : Ints ((w7.alloc (.cells #[.int .u8 49, .int .u8 50, .int .u8 51, .int .u8 52, .int .u8 53, .int .u8 54, .int .u8 55, .int .u8 56, .int .u8 57] 5 (9, 10))).alloc (.cells #[.int .u8 33, .int .u8 207, .int .u8 2] 5)) .u8 (some ⟨w7.heap.size, 0, none⟩) 9 9 [49, 50, 51, 52, 53, 54, 55, 56, 57] :=
    (ints_lit w7 5 (9, 10) _ [49, 50, 51, 52, 53, 54, 55, 56, 57] 9 rfl rfl (by omega) (by decide)).alloc _
  have hy8 : Ints ((w7.alloc (.cells #[.int .u8 49, .int .u8 50, .int .u8 51, .int .u8 52, .int .u8 53, .int .u8 54, .int .u8 55, .int .u8 56, .int .u8 57] 5 (9, 10))).alloc (.cells #[.int .u8 33, .int .u8 207, .int .u8 2] 5)) .u8 (some ⟨w7.heap.size + 1, 0, none⟩) 3 3 [33, 207, 2] := by
    have h := ints_lit (w7.alloc (.cells #[.int .u8 49, .int .u8 50, .int .u8 51, .int .u8 52, .int .u8 53, .int .u8 54, .int .u8 55, .int .u8 56, .int .u8 57] 5 (9, 10))) 5 (0, 0) #[.int .u8 33, .int .u8 207, .int .u8 2] [33, 207, 2] 3 rfl rfl (by omega) (by decide)
    rwa [show (w7.alloc (.cells #[.int .u8 49, .int .u8 50, .int .u8 51, .int .u8 52, .int .u8 53, .int .u8 54, .int .u8 55, .int .u8 56, .int .u8 57] 5 (9, 10))).heap.size = w7.heap.size + 1 by simp] at h
  have hb8 : Below w.heap.size w ((w7.alloc (.cells #[.int .u8 49, .int .u8 50, .int .u8 51, .int .u8 52, .int .u8 53, .int .u8 54, .int .u8 55, .int .u8 56, .int .u8 57] 5 (9, 10))).alloc (.cells #[.int .u8 33, .int .u8 207, .int .u8 2] 5)) :=
    (hb7'.alloc hsz7 _).alloc (by simp; omega) _
  go_wp2_with fail
  refine (Fits_calls hx8 hy8 cfit).mono ?_
  rintro e w8 ⟨rfl, hb9⟩
  go_wp2
  go_ret
  exact ⟨rfl, hb8.trans (hb9.mono (by simp; omega))⟩
end Go.Proofs.Ythngobceagdokaa
