/- The other functions of package sum and of its reference. -/
import Derived.Test.YtgpedejeifmfdaaGreatSumW
import Derived.Test.YtgpedejeifmfdaaGreatConcat
namespace Go.Proofs.YtgpedejeifmfdaaGreat
open Go.RowKit

def xr (x y k : Nat) : Nat := (x ^^^ y) % 2 ^ k
theorem xr_lt (x y k : Nat) (h : k ≤ 25) : xr x y k < 33554432 := by
  unfold xr
  exact Nat.lt_of_lt_of_le (Nat.mod_lt _ (Nat.pow_pos (by decide))) (Nat.pow_le_pow_right (by decide) h)
theorem xr_succ (x y k : Nat) : xr x y (k + 1) = xr x y k + if x / 2 ^ k % 2 = y / 2 ^ k % 2 then 0 else 2 ^ k := by
  unfold xr
  rw [Nat.mod_pow_succ]
  congr 1
  have e : (x ^^^ y) / 2 ^ k % 2 = if x / 2 ^ k % 2 = y / 2 ^ k % 2 then 0 else 1 := by
    have h1 : (x ^^^ y).testBit k = (x.testBit k ^^ y.testBit k) := Nat.testBit_xor ..
    simp only [Nat.testBit_eq_decide_div_mod_eq] at h1
    rcases Nat.mod_two_eq_zero_or_one (x / 2^k) with h | h <;> rcases Nat.mod_two_eq_zero_or_one (y / 2^k) with h' | h' <;> rw [h, h'] at h1 ⊢ <;> simp at h1 ⊢ <;> omega
  rw [e]; split <;> simp

set_option maxHeartbeats 400000 in
theorem xorRef_calls {x y : Nat} {w : World} (hx : x < 33554432) (hy : y < 33554432) :
    Calls Tryz.prog 113 #[.int .i64 x, .int .i64 y] w fun e w' => e = .returned (.int .i64 ((x ^^^ y : Nat) : Int)) ∧ w = w' := by
  go_enter Tryz.func113, Tryz.ntmps113
  go_wp2
  go_loop [0, 1, 5, 6, 7] (fun a b o p i => ∃ k : Nat, k ≤ 25 ∧ i = .int .i64 k ∧ a = .int .i64 ((x / 2 ^ k : Nat) : Int) ∧ b = .int .i64 ((y / 2 ^ k : Nat) : Int) ∧ o = .int .i64 ((xr x y k : Nat) : Int) ∧ p = .int .i64 ((2 ^ k : Nat) : Int)) (fun _ _ _ _ i => 25 - (intOf i).toNat)
  case atStart => exact ⟨0, by omega, rfl, by simp, by simp, by simp [xr, Nat.mod_one], rfl⟩
  case round =>
    obtain ⟨k, hk, rfl, rfl, rfl, rfl, rfl⟩ := hrel
    by_cases hlt : k < 25
    · have h1 : x / 2 ^ k < 33554432 := Nat.lt_of_le_of_lt (Nat.div_le_self _ _) hx
      have h2 : y / 2 ^ k < 33554432 := Nat.lt_of_le_of_lt (Nat.div_le_self _ _) hy
      have h3 : 2 ^ k ≤ 16777216 := Nat.pow_le_pow_right (n := 2) (by decide) (show k ≤ 24 by omega)
      have h4 := xr_lt x y k hk
      have s1 : x / 2 ^ (k + 1) = x / 2 ^ k / 2 := by rw [Nat.pow_succ, Nat.div_div_eq_div_mul]
      have s2 : y / 2 ^ (k + 1) = y / 2 ^ k / 2 := by rw [Nat.pow_succ, Nat.div_div_eq_div_mul]
      have s3 := xr_succ x y k
      have s4 : 2 ^ (k + 1) = 2 ^ k * 2 := Nat.pow_succ ..
      obtain ⟨A, hA⟩ : ∃ A, A = x / 2 ^ k := ⟨_, rfl⟩
      obtain ⟨B, hB⟩ : ∃ A, A = y / 2 ^ k := ⟨_, rfl⟩
      obtain ⟨C, hC⟩ : ∃ A, A = xr x y k := ⟨_, rfl⟩
      obtain ⟨D, hD⟩ : ∃ A, A = 2 ^ k := ⟨_, rfl⟩
      rw [← hA] at h1 s1 s3 ⊢
      rw [← hB] at h2 s2 s3 ⊢
      rw [← hC] at h4 s3 ⊢
      rw [← hD] at h3 s3 s4 ⊢
      clear hA hB hC hD
      have S1 := Lib.hid s1; clear s1
      have S2 := Lib.hid s2; clear s2
      have S3 := Lib.hid s3; clear s3
      have S4 := Lib.hid s4; clear s4
      by_cases hAB : A % 2 = B % 2
      · have hb : (((A : Int) % 2) != ((B : Int) % 2)) = false := by rw [bne_eq_false_iff_eq]; omega
        have HAB := Lib.hid hAB; clear hAB
        go_wp2
        go_round
        case rel => exact ⟨k + 1, by omega, by go_num, by rw [S1.out]; go_num, by rw [S2.out]; go_num, by rw [S3.out, if_pos HAB.out]; go_num, by rw [S4.out]; go_num⟩
        case measure => simp [intOf]; omega
      · have hb : (((A : Int) % 2) != ((B : Int) % 2)) = true := by rw [bne_iff_ne]; omega
        have HAB := Lib.hid hAB; clear hAB
        go_wp2
        go_round
        case rel => exact ⟨k + 1, by omega, by go_num, by rw [S1.out]; go_num, by rw [S2.out]; go_num, by rw [S3.out, if_neg HAB.out]; go_num, by rw [S4.out]; go_num⟩
        case measure => simp [intOf]; omega
    · obtain rfl : k = 25 := by omega
      have e : xr x y 25 = x ^^^ y := Nat.mod_eq_of_lt (Nat.xor_lt_two_pow (n := 25) hx hy)
      have E := Lib.hid e; clear e
      go_wp2
      go_ret
      exact ⟨by rw [← E.out]; rfl, rfl⟩

theorem xorRef_int {x y : Int} {w : World} (hx : 0 ≤ x ∧ x < 33554432) (hy : 0 ≤ y ∧ y < 33554432) :
    Calls Tryz.prog 113 #[.int .i64 x, .int .i64 y] w fun e w' => e = .returned (.int .i64 ((x.toNat ^^^ y.toNat : Nat) : Int)) ∧ w = w' := by
  obtain ⟨X, rfl⟩ := Int.eq_ofNat_of_zero_le hx.1
  obtain ⟨Y, rfl⟩ := Int.eq_ofNat_of_zero_le hy.1
  exact xorRef_calls (x := X) (y := Y) (by omega) (by omega)

set_option maxRecDepth 100000 in
set_option maxHeartbeats 800000 in
theorem MoreRef_core {s : Int} {S : Nat} {a : Option Addr} {n c : Nat} {xs : List Int} {w : World} (_hs' : -9223372036854775808 ≤ s ∧ s ≤ 9223372036854775807) (hx : Ints w .u8 a n c xs)
    (h0 : S < 16777216) (hS : s.tmod 16777216 = (S : Int) ∨ s.tmod 16777216 = (S : Int) - 16777216 ∧ 1 ≤ S) :
    Calls Tryz.prog 101 #[.int .i64 s, .slice a n c] w fun e w' => e = .returned (.int .i64 ((crc S xs : Nat) : Int)) ∧ w = w' := by
  have hl := hx.len
  have m1 := hx.max
  have p1 := hx.le
  have hfit : ∀ z ∈ xs, z ≤ 255 := fun z hz => (wf_u8 (hx.fit z hz)).2
  have Hfit := Lib.hid hfit; clear hfit
  rcases hS with hS | ⟨hS, hS1⟩
  all_goals
    go_enter Tryz.func101, Tryz.ntmps101
    go_wp2
    go_loop [5, 6, 7] (fun t i _ => ∃ k : Nat, k ≤ n ∧ i = .int .i64 k ∧ t = .int .i64 ((crc S (xs.take k) : Nat) : Int)) (fun _ i _ => n - (intOf i).toNat)
    case atStart => exact ⟨0, by omega, rfl, by simp [crc]⟩
    case round =>
      obtain ⟨k, hk, rfl, rfl⟩ := hrel
      by_cases hlt : k < n
      · obtain ⟨b, o, rfl, cx⟩ := hx.cell (by omega)
        have cx' := cx k hlt
        have ux := hx.u8 k
        have htc := take_crc S xs k (by omega)
        have hT : crc S (xs.take k) < 16777216 := crc_lt h0 fun z hz => Hfit.out z (List.mem_of_mem_take hz)
        obtain ⟨T, hT'⟩ : ∃ T, T = crc S (xs.take k) := ⟨_, rfl⟩
        obtain ⟨X, hX⟩ : ∃ X, X = xs.getD k 0 := ⟨_, rfl⟩
        rw [← hX] at cx' ux htc
        rw [← hT'] at hT htc ⊢
        obtain ⟨Y, rfl⟩ : ∃ Y : Nat, X = (Y : Int) := ⟨X.toNat, by omega⟩
        have Htc := Lib.hid htc; clear htc hX hT'
        have Hl := Lib.hid hl; clear hl
        clear cx
        have hY : Y * 65536 < 33554432 := by omega
        have ey : ((Y : Int) * 65536) = ((Y * 65536 : Nat) : Int) := by omega
        obtain ⟨T0, hT0⟩ : ∃ T0, T0 = T ^^^ (Y * 65536) := ⟨_, rfl⟩
        have hT0l : T0 < 16777216 := by rw [hT0]; exact xor_lt24 hT (by omega)
        have hby : byte T (Y : Int) = steps 8 T0 := by rw [hT0]; rfl
        have Hby := Lib.hid hby; clear hby
        have HT0 := Lib.hid hT0; clear hT0
        obtain ⟨Y6, hY6⟩ : ∃ Y6 : Nat, Y6 = Y * 65536 := ⟨_, rfl⟩
        rw [← hY6] at ey hY
        have HY6 := Lib.hid hY6; clear hY6
        go_wp2_with fail
        refine (xorRef_calls (x := T) (y := Y6) (by omega) hY).mono ?_
        rw [HY6.out, ← HT0.out]
        rintro e w' ⟨rfl, rfl⟩
        go_wp2
        go_loop [5, 7] (fun t j => ∃ q : Nat, q ≤ 8 ∧ j = .int .i64 q ∧ t = .int .i64 ((steps q T0 : Nat) : Int)) (fun _ j => 8 - (intOf j).toNat)
        case atStart => exact ⟨0, by omega, rfl, rfl⟩
        case round =>
          obtain ⟨q, hq, rfl, rfl⟩ := hrel
          by_cases hq8 : q < 8
          · have hU := steps_lt hT0l q
            have hsucc : steps (q + 1) T0 = step (steps q T0) := rfl
            obtain ⟨U, hU'⟩ : ∃ U, U = steps q T0 := ⟨_, rfl⟩
            rw [← hU'] at hU hsucc ⊢
            have Hsucc := Lib.hid hsucc; clear hsucc hU'
            by_cases hhi : 8388608 ≤ U
            · have hst := step_hi hU hhi
              have hst' : step U = (U * 2) ^^^ 25578747 := by rw [hst, Nat.mul_comm]
              have Hst := Lib.hid hst'; clear hst hst'
              obtain ⟨V, hV⟩ : ∃ V : Nat, V = U * 2 := ⟨_, rfl⟩
              have eV : ((U : Int) * 2) = ((V : Nat) : Int) := by omega
              have hV' : V < 33554432 ∧ 16777216 ≤ V := by omega
              have HV := Lib.hid hV; clear hV
              have hge : decide ((16777216 : Int) ≤ (V : Int)) = true := decide_eq_true (by omega)
              go_wp2_with fail
              refine (xorRef_int (by omega) (by omega)).mono ?_
              rw [show (25578747 : Int).toNat = 25578747 from rfl, Int.toNat_natCast, HV.out, ← Hst.out]
              rintro e w' ⟨rfl, rfl⟩
              go_wp2
              go_round
              case rel => exact ⟨q + 1, by omega, by go_num, by rw [Hsucc.out]⟩
              case measure => simp [intOf]; omega
            · have hlo := step_lo (s := U) (by omega)
              have Hlo := Lib.hid hlo; clear hlo
              have hge : decide ((16777216 : Int) ≤ (U : Int) * 2) = false := decide_eq_false (by omega)
              go_wp2
              go_round
              case rel => exact ⟨q + 1, by omega, by go_num, by rw [Hsucc.out, Hlo.out]; go_num⟩
              case measure => simp [intOf]; omega
          · obtain rfl : q = 8 := by omega
            go_wp2
            go_round
            case rel => exact ⟨k + 1, by omega, by go_num, by rw [Htc.out, Hby.out]⟩
            case measure => simp [intOf]; omega
      · have hke : xs.take k = xs := List.take_of_length_le (by omega)
        have Hke := Lib.hid hke; clear hke
        go_wp2
        go_ret
        refine ⟨?_, rfl⟩
        show Ending.returned (.int .i64 _) = _
        rw [Hke.out]

theorem MoreRef_calls {s : Int} {a : Option Addr} {n c : Nat} {xs : List Int} {w : World} (hs : (Lit.int .i64 s).wf = true) (hx : Ints w .u8 a n c xs) :
    Calls Tryz.prog 101 #[.int .i64 s, .slice a n c] w fun e w' => e = .returned (.int .i64 ((crc (s % 16777216).toNat xs : Nat) : Int)) ∧ w = w' := by
  have h1 := Int.emod_lt_of_pos s (show (0 : Int) < 16777216 by decide)
  have h2 := Int.emod_nonneg s (show (16777216 : Int) ≠ 0 by decide)
  have key : s.tmod 16777216 = ((s % 16777216).toNat : Int) ∨ s.tmod 16777216 = ((s % 16777216).toNat : Int) - 16777216 ∧ 1 ≤ (s % 16777216).toNat := by
    by_cases h : s.tmod 16777216 < 0
    · have h3 := tmod24_neg s h
      have h4 : 1 ≤ s % 16777216 := by
        by_cases h0 : 0 ≤ s
        · rw [tmod_pos s h0] at h; omega
        · rw [tmod_neg s (by omega)] at h; omega
      refine .inr ⟨?_, by omega⟩
      rw [h3]; omega
    · rw [tmod24_pos s h]
      exact .inl (by omega)
  exact MoreRef_core (wf_i64 hs) hx (by omega) key

set_option maxHeartbeats 400000 in
theorem SumRef_calls {a : Option Addr} {n c : Nat} {xs : List Int} {w : World} (hx : Ints w .u8 a n c xs) :
    Calls Tryz.prog 77 #[.slice a n c] w fun e w' => e = .returned (.int .i64 ((crc 11994318 xs : Nat) : Int)) ∧ w = w' := by
  go_enter Tryz.func77, Tryz.ntmps77
  go_wp2_with fail
  refine (MoreRef_calls (by decide) hx).mono ?_
  rintro e w' ⟨rfl, rfl⟩
  go_wp2
  go_ret
  exact ⟨rfl, rfl⟩

end Go.Proofs.YtgpedejeifmfdaaGreat
