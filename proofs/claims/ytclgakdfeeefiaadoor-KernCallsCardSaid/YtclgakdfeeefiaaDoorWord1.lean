/- The word's small functions: within, Cut, Fits, Zig, Zag, Turn, Count, Low. -/
import Derived.Laws.Bits64b
import Derived.Test.YtclgakdfeeefiaaDoorWorlds
import Derived.Test.YtclgakdfeeefiaaDoorBase
import Derived.Test.YtclgakdfeeefiaaDoorChecked
import Derived.Test.YtclgakdfeeefiaaDoorWordB
namespace Go.Proofs.YtclgakdfeeefiaaDoor
open Go.RowKit


theorem fits_eq (n k : Int) : fitsS n k = (decide (1 ≤ k ∧ k ≤ 64) && decide (cutS n k = n)) := by
  unfold fitsS cutS
  by_cases h : 1 ≤ k ∧ k ≤ 64
  · rw [if_pos h, decide_eq_true h, Bool.true_and]
    congr 1
    exact propext ⟨fun h => h.2.2, fun h2 => ⟨h.1, h.2, h2⟩⟩
  · rw [decide_eq_false h, Bool.false_and]
    exact decide_eq_false fun h2 => h ⟨h2.1, h2.2.1⟩
theorem wrap_small {X : Nat} (h : X < 9223372036854775808) : wrap64 (X : Int) = (X : Int) := by unfold wrap64; omega
theorem add_div_wrap {X m : Nat} {q : Nat} (h : X ≤ m) (hm : m + m < 18446744073709551616) : IntKind.u64.wrap ((X : Int) + (X : Int) / (q : Int)) = ((X + X / q : Nat) : Int) ∧ X + X / q ≤ m + m := by
  have h1 : X / q ≤ X := Nat.div_le_self _ _
  have h2 : (X : Int) / (q : Int) = ((X / q : Nat) : Int) := by push_cast; rfl
  rw [h2, IntKind.wrap_u64]
  generalize X / q = Y at *
  omega
set_option maxHeartbeats 1000000 in
theorem Ones_calls {w : World} {u : Nat} (h : u < 2 ^ 64) : Calls Tryd.prog 75 #[.int .u64 u] w fun e w' => e = .returned (.int .i64 (pop u)) ∧ w' = w := by
  have hp := (ones_pop u h).1
  rw [← hp]
  simp only [onesOf]
  have l1 : (u / 2) &&& 6148914691236517205 ≤ 6148914691236517205 := Nat.and_le_right
  have l2 : u &&& 6148914691236517205 ≤ 6148914691236517205 := Nat.and_le_right
  have e1 : bits .and .u64 ((u : Int) / 2) 6148914691236517205 = (((u / 2) &&& 6148914691236517205 : Nat) : Int) := bits_and_u64_nat (u / 2) 6148914691236517205 (by omega) (by decide)
  have e2 : bits .and .u64 (u : Int) 6148914691236517205 = ((u &&& 6148914691236517205 : Nat) : Int) := bits_and_u64_nat u 6148914691236517205 (by omega) (by decide)
  generalize (u / 2) &&& 6148914691236517205 = A1 at *
  generalize u &&& 6148914691236517205 = A2 at *
  have e3 : IntKind.u64.wrap ((A1 : Int) + (A2 : Int)) = ((A1 + A2 : Nat) : Int) := by rw [IntKind.wrap_u64]; omega
  obtain ⟨X1, hX1⟩ : ∃ X1, X1 = A1 + A2 := ⟨_, rfl⟩
  rw [← hX1] at e3 ⊢
  have l3 : (X1 / 4) &&& 3689348814741910323 ≤ 3689348814741910323 := Nat.and_le_right
  have l4 : X1 &&& 3689348814741910323 ≤ 3689348814741910323 := Nat.and_le_right
  have e4 : bits .and .u64 ((X1 : Int) / 4) 3689348814741910323 = (((X1 / 4) &&& 3689348814741910323 : Nat) : Int) := bits_and_u64_nat (X1 / 4) 3689348814741910323 (by omega) (by decide)
  have e5 : bits .and .u64 (X1 : Int) 3689348814741910323 = ((X1 &&& 3689348814741910323 : Nat) : Int) := bits_and_u64_nat X1 3689348814741910323 (by omega) (by decide)
  generalize (X1 / 4) &&& 3689348814741910323 = A3 at *
  generalize X1 &&& 3689348814741910323 = A4 at *
  have e6 : IntKind.u64.wrap ((A3 : Int) + (A4 : Int)) = ((A3 + A4 : Nat) : Int) := by rw [IntKind.wrap_u64]; omega
  obtain ⟨X2, hX2⟩ : ∃ X2, X2 = A3 + A4 := ⟨_, rfl⟩
  rw [← hX2] at e6 ⊢
  have e7 : IntKind.u64.wrap ((X2 : Int) / 16 + (X2 : Int)) = ((X2 / 16 + X2 : Nat) : Int) := by rw [IntKind.wrap_u64]; omega
  have l5 : (X2 / 16 + X2) &&& 1085102592571150095 ≤ 1085102592571150095 := Nat.and_le_right
  have e8 : bits .and .u64 ((X2 / 16 + X2 : Nat) : Int) 1085102592571150095 = (((X2 / 16 + X2) &&& 1085102592571150095 : Nat) : Int) := bits_and_u64_nat (X2 / 16 + X2) 1085102592571150095 (by omega) (by decide)
  generalize (X2 / 16 + X2) &&& 1085102592571150095 = X3 at *
  generalize X2 / 16 + X2 = Y2 at *
  obtain ⟨e9, b4⟩ := add_div_wrap (q := 256) l5 (by decide)
  rw [show ((256 : Nat) : Int) = 256 from rfl] at e9
  generalize X3 + X3 / 256 = X4 at *
  obtain ⟨e10, b5⟩ := add_div_wrap (q := 65536) b4 (by decide)
  rw [show ((65536 : Nat) : Int) = 65536 from rfl] at e10
  generalize X4 + X4 / 65536 = X5 at *
  obtain ⟨e11, b6⟩ := add_div_wrap (q := 4294967296) b5 (by decide)
  rw [show ((4294967296 : Nat) : Int) = 4294967296 from rfl] at e11
  generalize X5 + X5 / 4294967296 = X6 at *
  have b7 : X6 < 9223372036854775808 := Nat.lt_of_le_of_lt b6 (by decide)
  have e12 : wrap64 (X6 : Int) = (X6 : Int) := wrap_small b7
  have e13 : bits .and .i64 (X6 : Int) 127 = ((X6 &&& 127 : Nat) : Int) := bits_and_i64_nat X6 127 b7 (by decide)
  have He := Lib.hid (And.intro e1 (And.intro e2 (And.intro e3 (And.intro e4 (And.intro e5 (And.intro e6 (And.intro e7 (And.intro e8 (And.intro e9 (And.intro e10 (And.intro e11 (And.intro e12 e13))))))))))))
  clear e1 e2 e3 e4 e5 e6 e7 e8 e9 e10 e11 e12 e13 hX1 hX2 l1 l2 l3 l4 l5 b4 b5 b6 b7 hp h
  go_enter Tryd.func75, Tryd.ntmps75
  go_wp2
  go_ret
  obtain ⟨e1, e2, e3, e4, e5, e6, e7, e8, e9, e10, e11, e12, e13⟩ := He.out
  refine ⟨?_, rfl⟩
  show Ending.returned (.int .i64 _) = _
  rw [e1, e2, e3, e4, e5, e6, e7, e8, e9, e10, e11, e12, e13]
/-- The library's table, as its initialiser lays it. -/
def TabOk (w : World) : Prop := ∀ j, j < 64 → w.cell? ⟨0, j, none⟩ = some (.int .u8 ((Lib.deBruijn64tab.getD j 0 : Nat) : Int))
theorem TabOk.below {w w' : World} (h : TabOk w) (hb : Below w.heap.size w w') : TabOk w' := fun j hj => by
  have := h j hj
  rw [← this]
  unfold World.cell?
  rw [hb.block 0 (World.block_lt_of_cell? _ _ this)]
theorem tz_key (x a : Nat) (hx : x < 18446744073709551616) (hx0 : x ≠ 0) (hlow : x &&& (18446744073709551616 - x) = a) :
    IntKind.u64.wrap (bits BinOp.and IntKind.u64 (x : Int) (IntKind.u64.wrap (-(x : Int))) * 285870213051353865) / 288230376151711744 = ((a * 285870213051353865 % 18446744073709551616 / 288230376151711744 : Nat) : Int) := by
  have e1 : IntKind.u64.wrap (-(x : Int)) = ((18446744073709551616 - x : Nat) : Int) := by rw [IntKind.wrap_u64]; omega
  rw [e1, bits_and_u64_nat x _ hx (by omega), hlow, IntKind.wrap_u64]
  omega
theorem tz_core {w : World} {u k idx : Nat} (hu0 : ((u : Int) == 0) = false) (key : IntKind.u64.wrap (bits BinOp.and IntKind.u64 (u : Int) (IntKind.u64.wrap (-(u : Int))) * 285870213051353865) / 288230376151711744 = (idx : Int))
    (hi : idx < 64) (hk : k < 64) (hcell : w.cell? ⟨0, idx, none⟩ = some (.int .u8 (k : Int))) : Calls Tryd.prog 76 #[.int .u64 u] w fun e w' => e = .returned (.int .i64 k) ∧ w' = w := by
  go_enter Tryd.func76, Tryd.ntmps76
  go_wp2_with (simp only [key])
  go_ret
  exact ⟨rfl, rfl⟩
theorem Tz_calls {w : World} (hT : TabOk w) {u : Nat} (h : u < 18446744073709551616) : Calls Tryd.prog 76 #[.int .u64 u] w fun e w' => e = .returned (.int .i64 (lowS u)) ∧ w' = w := by
  unfold lowS
  by_cases h0 : u = 0
  · subst h0
    clear hT h
    rw [ctz_zero]
    go_enter Tryd.func76, Tryd.ntmps76
    go_wp2
    go_ret
    exact ⟨rfl, rfl⟩
  · obtain ⟨hlow, hk⟩ := Lib.lowest_bit 64 u h0 h
    obtain ⟨hi, htab⟩ := Lib.deBruijn64_at _ hk
    have hcell := hT _ hi
    rw [htab] at hcell
    exact tz_core (by simp; omega) (tz_key u _ h h0 hlow) hi hk hcell
theorem Low_calls {w : World} (hT : TabOk w) {u : Nat} (h : u < 18446744073709551616) : Calls Tryd.prog 62 #[.int .u64 u] w fun e w' => e = .returned (.int .i64 (lowS u)) ∧ w' = w := by
  have hr := Tz_calls hT h
  have Hr := Lib.hid hr; clear hr h hT
  go_enter Tryd.func62, Tryd.ntmps62
  go_wp2_with fail
  refine Hr.out.mono ?_
  rintro e w1 ⟨rfl, rfl⟩
  go_wp2
  go_ret
  exact ⟨rfl, rfl⟩
end Go.Proofs.YtclgakdfeeefiaaDoor
