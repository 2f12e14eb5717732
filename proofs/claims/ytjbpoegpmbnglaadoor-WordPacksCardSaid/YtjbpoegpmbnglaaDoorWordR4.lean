/- The document's rows of widths: Right, shift, Bytes, From. -/
import Derived.Test.YtjbpoegpmbnglaaDoorWordR1
import Derived.Test.YtjbpoegpmbnglaaDoorWord5
import Derived.Test.YtjbpoegpmbnglaaDoorWord4
import Derived.Test.YtjbpoegpmbnglaaDoorWord2
namespace Go.Proofs.YtjbpoegpmbnglaaDoor
open Go.RowKit

theorem sumW_take_le {ws : List Int} (h : okW ws) (j : Nat) : sumW (ws.take j) ≤ sumW ws := by
  have hsp : sumW ws = sumW (ws.take j) + sumW (ws.drop j) := by rw [← sumW_append, List.take_append_drop]
  have hd := sumW_bound (ws := ws.drop j) fun y hy => h y (List.mem_of_mem_drop hy)
  omega
set_option maxHeartbeats 1000000 in
theorem RRight_calls {w : World} {a : Option Addr} {n c : Nat} {ws : List Int} (hx : Ints w .i64 a n c ws) (hn : n ≤ 1000) : Calls Tryd.prog 45 #[.slice a n c] w fun e w' => e = .returned (.bool (rightS ws)) ∧ w' = w := by
  have hl := hx.len
  have hle := hx.le
  obtain ⟨B, hB⟩ : ∃ B, B = rightS ws := ⟨_, rfl⟩
  rw [← hB]
  have HB := Lib.hid hB; clear hB
  have Hx := Lib.hid hx; clear hx
  have Hl := Lib.hid hl; clear hl
  go_enter Tryd.func45, Tryd.ntmps45
  go_wp2_with fail
  go_loopw [3, 4] (fun s i wr => ∃ j : Nat, j ≤ n ∧ i = .int .i64 (j : Int) ∧ s = .int .i64 (sumW (ws.take j)) ∧ okW (ws.take j) ∧ wr = w) (fun _ i _ => n - (intOf i).toNat)
  case atStart => exact ⟨0, by omega, rfl, rfl, fun x hx => by simp at hx, rfl⟩
  case round =>
    obtain ⟨j, hj, rfl, rfl, hok, rfl⟩ := hrel
    have hb := sumW_bound hok
    rw [List.length_take] at hb
    have hb1 := hb.1
    have hb2 : sumW (ws.take j) ≤ 63000 := by omega
    clear hb
    by_cases hlt : j < n
    · obtain ⟨b1, o1, rfl, cx⟩ := Hx.out.cell (by omega)
      have cx' := cx j hlt
      have hjl : j < ws.length := by rw [Hl.out]; exact hlt
      rw [List.getD_eq_getElem?_getD, List.getElem?_eq_getElem hjl, Option.getD_some] at cx'
      have hs := sumW_take_succ hjl
      have ho := okW_take_succ hjl hok
      have hmem : ws[j] ∈ ws := List.getElem_mem hjl
      have hle2 := fun h : okW ws => sumW_take_le h j
      obtain ⟨x, hxx⟩ : ∃ x, x = ws[j] := ⟨_, rfl⟩
      rw [← hxx] at cx' hs ho hmem
      clear hxx cx
      have i1 : (0 : Int) ≤ (j : Int) := by omega
      have i2 : (j : Int) < (n : Int) := by omega
      generalize sumW (ws.take j) = S at *
      have Hs := Lib.hid hs; clear hs
      have Ho := Lib.hid ho; clear ho
      have Hmem := Lib.hid hmem; clear hmem hok
      by_cases hok1 : 1 ≤ x ∧ x ≤ 63 ∧ S ≤ 64
      · obtain ⟨q1, q2, q3⟩ := hok1
        have d1 : decide (x < 1) = false := decide_eq_false (by omega)
        have d2 : decide (63 < x) = false := decide_eq_false (by omega)
        have d3 : decide (64 < S) = false := decide_eq_false (by omega)
        have Hle2 := Lib.hid hle2; clear hle2
        go_wp2_with fail
        go_roundw
        case rel => exact ⟨j + 1, by omega, by go_num, by rw [Hs.out], Ho.out ⟨q1, q2⟩, trivial⟩
        case measure => simp [intOf]; omega
      · have hBf : B = false := by
          rw [HB.out]
          refine decide_eq_false fun h => hok1 ⟨(h.1 x Hmem.out).1, (h.1 x Hmem.out).2, ?_⟩
          have := hle2 h.1
          omega
        have hd : (x < 1) ∨ (¬ x < 1 ∧ 63 < x) ∨ (¬ x < 1 ∧ ¬ 63 < x ∧ 64 < S) := by omega
        clear hok1 hle2
        rcases hd with h1 | ⟨h1, h2⟩ | ⟨h1, h2, h3⟩
        · have d1 : decide (x < 1) = true := decide_eq_true h1
          clear h1
          go_wp2
          go_ret
          exact ⟨by rw [hBf]; rfl, rfl⟩
        · have d1 : decide (x < 1) = false := decide_eq_false h1
          have d2 : decide (63 < x) = true := decide_eq_true h2
          clear h1 h2
          go_wp2
          go_ret
          exact ⟨by rw [hBf]; rfl, rfl⟩
        · have d1 : decide (x < 1) = false := decide_eq_false h1
          have d2 : decide (63 < x) = false := decide_eq_false h2
          have d3 : decide (64 < S) = true := decide_eq_true h3
          clear h1 h2 h3
          go_wp2
          go_ret
          exact ⟨by rw [hBf]; rfl, rfl⟩
    · obtain rfl : j = n := by omega
      have ht : ws.take j = ws := List.take_of_length_le (by rw [Hl.out]; exact Nat.le_refl _)
      rw [ht] at hok hb1 hb2 ⊢
      have hBf : B = decide (sumW ws ≤ 64) := by
        rw [HB.out]
        unfold rightS
        congr 1
        exact propext ⟨fun h => h.2, fun h => ⟨hok, h⟩⟩
      clear ht hok
      generalize sumW ws = S at *
      go_wp2
      go_ret
      exact ⟨by rw [hBf]; rfl, rfl⟩
set_option maxHeartbeats 1000000 in
theorem shift_calls {w : World} {v : Int} {K : Nat} (h : K ≤ 10000) : Calls Tryd.prog 46 #[.int .i64 v, .int .i64 (K : Int)] w fun e w' => e = .returned (.int .u64 (IntKind.u64.wrap (v * 2 ^ K))) ∧ w' = w := by
  go_enter Tryd.func46, Tryd.ntmps46
  go_wp2_with fail
  go_loopw [5, 6] (fun x i wr => ∃ j : Nat, j ≤ K ∧ i = .int .i64 (j : Int) ∧ x = .int .u64 (IntKind.u64.wrap (v * 2 ^ j)) ∧ wr = w) (fun _ i _ => K - (intOf i).toNat)
  case atStart => exact ⟨0, by omega, rfl, by simp, rfl⟩
  case round =>
    obtain ⟨j, hj, rfl, rfl, rfl⟩ := hrel
    by_cases hlt : j < K
    · have hs : IntKind.u64.wrap (v * 2 ^ (j + 1)) = IntKind.u64.wrap (IntKind.u64.wrap (v * 2 ^ j) * 2) := by
        rw [Int.pow_succ, ← Int.mul_assoc]
        generalize v * 2 ^ j = X
        simp only [IntKind.wrap_u64]
        omega
      generalize IntKind.u64.wrap (v * 2 ^ j) = X at *
      have Hs := Lib.hid hs; clear hs
      go_wp2_with fail
      go_roundw
      case rel => exact ⟨j + 1, by omega, by go_num, by rw [Hs.out], trivial⟩
      case measure => simp [intOf]; omega
    · obtain rfl : j = K := by omega
      go_wp2
      go_ret
      exact ⟨rfl, rfl⟩
theorem from_step {U : Nat} {b : Int} (hU : U < 72057594037927936) (h0 : 0 ≤ b) (h1 : b ≤ 255) : IntKind.u64.wrap (IntKind.u64.wrap ((U : Int) * 256) + b) = ((b.toNat + 256 * U : Nat) : Int) := by
  simp only [IntKind.wrap_u64]
  omega
set_option maxHeartbeats 1000000 in
theorem RFrom_calls {w : World} {a : Option Addr} {len cap : Nat} {zs : List Int} (hx : Ints w .u8 a len cap zs) (h8 : len ≤ 8) :
    Calls Tryd.prog 32 #[.slice a len cap] w fun e W' => e = .returned (.tuple #[.int .u64 (fromZ zs : Nat), .bool true]) ∧ W' = w := by
  have hl := hx.len
  have hle := hx.le
  have d1 : decide (8 < (len : Int)) = false := decide_eq_false (by omega)
  have hu8 := hx.u8
  obtain ⟨R, hR⟩ : ∃ R, R = fromZ zs := ⟨_, rfl⟩
  rw [← hR]
  have HR := Lib.hid hR; clear hR
  have Hx := Lib.hid hx; clear hx
  have Hl := Lib.hid hl; clear hl
  have Hu8 := Lib.hid hu8; clear hu8
  go_enter Tryd.func32, Tryd.ntmps32
  go_wp2_with fail
  go_loopw [4, 5] (fun u i wr => ∃ j : Nat, j ≤ len ∧ i = .int .i64 ((j : Int) - 1) ∧ u = .int .u64 (fromZ (zs.drop j) : Nat) ∧ wr = w) (fun _ i _ => (intOf i + 1).toNat)
  case atStart => exact ⟨len, by omega, rfl, by rw [List.drop_of_length_le (by rw [Hl.out]; exact Nat.le_refl _)]; rfl, rfl⟩
  case round =>
    obtain ⟨j, hj, rfl, rfl, rfl⟩ := hrel
    by_cases hlt : 0 < j
    · obtain ⟨J, rfl⟩ : ∃ J, j = J + 1 := ⟨j - 1, by omega⟩
      obtain ⟨b1, o1, rfl, cx⟩ := Hx.out.cell (by omega)
      have cx' := cx J (by omega)
      have hjl : J < zs.length := by rw [Hl.out]; omega
      rw [List.getD_eq_getElem?_getD, List.getElem?_eq_getElem hjl, Option.getD_some] at cx'
      have hz : ∀ b ∈ zs, 0 ≤ b ∧ b ≤ 255 := fun b hb => by
        obtain ⟨t, ht, rfl⟩ := List.mem_iff_getElem.1 hb
        have := Hu8.out t
        rw [List.getD_eq_getElem?_getD, List.getElem?_eq_getElem ht, Option.getD_some] at this
        exact this
      have hU := fromZ_lt (zs.drop (J + 1)) fun b hb => hz b (List.mem_of_mem_drop hb)
      rw [List.length_drop, Hl.out] at hU
      have hU : fromZ (zs.drop (J + 1)) < 256 ^ 7 := Nat.lt_of_lt_of_le hU (Nat.pow_le_pow_right (by decide) (by omega))
      have hs : fromZ (zs.drop J) = (zs[J]).toNat + 256 * fromZ (zs.drop (J + 1)) := by rw [List.drop_eq_getElem_cons hjl]; rfl
      have hb := hz _ (List.getElem_mem hjl)
      have hst := from_step (U := fromZ (zs.drop (J + 1))) (b := zs[J]) hU hb.1 hb.2
      rw [← hs] at hst
      generalize fromZ (zs.drop (J + 1)) = U at *
      have Hst := Lib.hid hst; clear hst hs
      have hj1 : (((J + 1 : Nat) : Int) - 1) = (J : Int) := by omega
      rw [hj1]
      have i1 : (0 : Int) ≤ (J : Int) := by omega
      have i2 : (J : Int) < (len : Int) := by omega
      clear cx hz hU hj1
      go_wp2_with fail
      go_roundw
      case rel => exact ⟨J, by omega, by go_num, by rw [Hst.out], trivial⟩
      case measure => simp [intOf]
    · obtain rfl : j = 0 := by omega
      rw [List.drop_zero, ← HR.out]
      go_wp2
      go_ret2
      exact ⟨rfl, rfl⟩
theorem RFrom_bad {w : World} {a : Option Addr} {len cap : Nat} (h8 : 8 < len) (hm : len ≤ 9223372036854775807) :
    Calls Tryd.prog 32 #[.slice a len cap] w fun e W' => e = .returned (.tuple #[.int .u64 0, .bool false]) ∧ W' = w := by
  have d1 : decide (8 < (len : Int)) = true := decide_eq_true (by omega)
  go_enter Tryd.func32, Tryd.ntmps32
  go_wp2
  go_ret2
  exact ⟨rfl, rfl⟩
end Go.Proofs.YtjbpoegpmbnglaaDoor
