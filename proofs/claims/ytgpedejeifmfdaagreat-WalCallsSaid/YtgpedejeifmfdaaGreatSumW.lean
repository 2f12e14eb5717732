/- The functions of package sum and of its reference: what each returns, for every input. -/
import Derived.Test.YtgpedejeifmfdaaGreatUse
import Derived.Test.YtgpedejeifmfdaaGreatSumP
namespace Go.Proofs.YtgpedejeifmfdaaGreat
open Go.RowKit

theorem i64_wraps (n : Int) (h₀ : 0 ≤ n) (h₁ : n < 2 ^ 63) : IntKind.i64.wrap n = n := by rw [IntKind.wrap_i64]; omega
theorem i64_xor_nat (a b : Nat) (ha : a < 2 ^ 63) (hb : b < 2 ^ 63) : bits .xor .i64 (a : Int) (b : Int) = ((a ^^^ b : Nat) : Int) := by
  simp only [bits, BitVec.ofInt_natCast, BitVec.toNat_xor, BitVec.toNat_ofNat]
  rw [show IntKind.bits .i64 = 64 from rfl, Nat.mod_eq_of_lt (show a < 2 ^ 64 by omega), Nat.mod_eq_of_lt (show b < 2 ^ 64 by omega)]
  have := Nat.xor_lt_two_pow ha hb
  exact i64_wraps _ (by omega) (by exact_mod_cast this)
theorem i64_and24 (s : Int) : bits .and .i64 s 16777215 = s % 16777216 := by
  simp only [bits]
  have e : (BitVec.ofInt 64 s &&& BitVec.ofInt 64 16777215).toNat = (s % 16777216).toNat := by
    rw [BitVec.toNat_and, BitVec.toNat_ofInt, BitVec.toNat_ofInt]
    have e1 : ((16777215 : Int) % ((2 ^ 64 : Nat) : Int)).toNat = 2 ^ 24 - 1 := by decide
    rw [e1, Nat.and_two_pow_sub_one_eq_mod]
    omega
  show IntKind.i64.wrap _ = _
  rw [i64_wraps]
  · rw [show IntKind.bits .i64 = 64 from rfl, e]; omega
  · omega
  · rw [show IntKind.bits .i64 = 64 from rfl, e]; omega

theorem xor_hi {t : Nat} (h : t < 16777216) (h' : 8388608 ≤ t) : bits .xor .i64 ((t : Int) * 2) 25578747 = ((step t : Nat) : Int) := by
  rw [step_hi h h', show ((t : Int) * 2) = ((2 * t : Nat) : Int) by omega]
  exact i64_xor_nat _ 25578747 (by omega) (by decide)
theorem xor_byte {t : Nat} {X : Int} (h : t < 16777216) (h0 : 0 ≤ X) (h1 : X ≤ 255) : bits .xor .i64 (t : Int) (X * 65536) = ((t ^^^ (X.toNat * 65536) : Nat) : Int) := by
  rw [show X * 65536 = ((X.toNat * 65536 : Nat) : Int) by omega]
  exact i64_xor_nat _ _ (by omega) (by omega)

theorem take_crc (s : Nat) (zs : List Int) (k : Nat) (h : k < zs.length) : crc s (zs.take (k + 1)) = byte (crc s (zs.take k)) (zs.getD k 0) := by
  rw [List.take_succ_eq_append_getElem h, crc_snoc, List.getD_eq_getElem?_getD, List.getElem?_eq_getElem h]; rfl

set_option maxHeartbeats 400000 in
theorem More_calls {s : Int} {a : Option Addr} {n c : Nat} {xs : List Int} {w : World} (hs : (Lit.int .i64 s).wf = true) (hx : Ints w .u8 a n c xs) :
    Calls Tryz.prog 112 #[.int .i64 s, .slice a n c] w fun e w' => e = .returned (.int .i64 ((crc (s % 16777216).toNat xs : Nat) : Int)) ∧ w = w' := by
  have hs' := wf_i64 hs
  have hl := hx.len
  have m1 := hx.max
  have p1 := hx.le
  have h24 := i64_and24 s
  have hfit : ∀ z ∈ xs, z ≤ 255 := fun z hz => (wf_u8 (hx.fit z hz)).2
  have h0 : (s % 16777216).toNat < 16777216 := by omega
  obtain ⟨S, hS⟩ : ∃ S, S = (s % 16777216).toNat := ⟨_, rfl⟩
  have h24' : bits BinOp.and IntKind.i64 s 16777215 = (S : Int) := by rw [h24]; omega
  rw [← hS] at h0 ⊢
  clear h24 hS
  have Hfit := Lib.hid hfit; clear hfit
  go_enter Tryz.func112, Tryz.ntmps112
  go_wp2
  go_loop [5, 7, 12] (fun t u i => ∃ k : Nat, k ≤ n ∧ i = .int .i64 k ∧ t = .int .i64 ((crc S (xs.take k) : Nat) : Int)) (fun _ _ i => n - (intOf i).toNat)
  case atStart => exact ⟨0, by omega, rfl, by simp [crc]⟩
  case round =>
    obtain ⟨k, hk, rfl, rfl⟩ := hrel
    by_cases hlt : k < n
    · obtain ⟨b, o, rfl, cx⟩ := hx.cell (by omega)
      have cx' := cx k hlt
      have ux := hx.u8 k
      have htc := take_crc S xs k (by omega)
      have hT : crc S (xs.take k) < 16777216 := crc_lt h0 fun z hz => Hfit.out z (List.mem_of_mem_take hz)
      obtain ⟨T, hT'⟩ : ∃ T, T = crc S (xs.take k) := ⟨_, rfl⟩
      obtain ⟨X, hX⟩ : ∃ X, X = xs.getD k 0 := ⟨_, rfl⟩
      rw [← hX] at cx' ux htc
      rw [← hT'] at hT htc ⊢
      have Htc := Lib.hid htc; clear htc hX hT'
      have Hl := Lib.hid hl; clear hl
      clear cx
      have hxb := xor_byte hT ux.1 ux.2
      obtain ⟨T0, hT0⟩ : ∃ T0, T0 = T ^^^ (X.toNat * 65536) := ⟨_, rfl⟩
      have hT0l : T0 < 16777216 := by rw [hT0]; exact xor_lt24 hT (by omega)
      have hby : byte T X = steps 8 T0 := by rw [hT0]; rfl
      rw [← hT0] at hxb
      clear hT0
      have Hby := Lib.hid hby; clear hby
      go_wp2
      go_loop [5, 21] (fun t j => ∃ q : Nat, q ≤ 8 ∧ j = .int .i64 q ∧ t = .int .i64 ((steps q T0 : Nat) : Int)) (fun _ j => 8 - (intOf j).toNat)
      case atStart => exact ⟨0, by omega, rfl, rfl⟩
      case round =>
        obtain ⟨q, hq, rfl, rfl⟩ := hrel
        by_cases hq8 : q < 8
        · have hU := steps_lt hT0l q
          have hsucc : steps (q + 1) T0 = step (steps q T0) := rfl
          obtain ⟨U, hU'⟩ : ∃ U, U = steps q T0 := ⟨_, rfl⟩
          rw [← hU'] at hU hsucc ⊢
          have Hsucc := Lib.hid hsucc; clear hsucc hU'
          by_cases hhi : 8388608 ≤ U
          · have hxh := xor_hi hU hhi
            go_wp2
            go_round
            case rel => exact ⟨q + 1, by omega, by go_num, by rw [Hsucc.out]⟩
            case measure => simp [intOf]; omega
          · have hlo := step_lo (s := U) (by omega)
            have Hlo := Lib.hid hlo; clear hlo
            go_wp2
            go_round
            case rel => exact ⟨q + 1, by omega, by go_num, by rw [Hsucc.out, Hlo.out]; go_num⟩
            case measure => simp [intOf]; omega
        · obtain rfl : q = 8 := by omega
          go_wp2
          go_round
          case rel => exact ⟨k + 1, by omega, by go_num, by rw [Htc.out, Hby.out]⟩
          case measure => simp [intOf]; omega
    · have hke : xs.take k = xs := List.take_of_length_le (by omega)
      have Hke := Lib.hid hke; clear hke
      go_wp2
      go_ret
      refine ⟨?_, rfl⟩
      show Ending.returned (.int .i64 _) = _
      rw [Hke.out]

set_option maxHeartbeats 400000 in
theorem Sum_calls {a : Option Addr} {n c : Nat} {xs : List Int} {w : World} (hx : Ints w .u8 a n c xs) :
    Calls Tryz.prog 100 #[.slice a n c] w fun e w' => e = .returned (.int .i64 ((crc 11994318 xs : Nat) : Int)) ∧ w = w' := by
  go_enter Tryz.func100, Tryz.ntmps100
  go_wp2_with fail
  refine (More_calls (by decide) hx).mono ?_
  rintro e w' ⟨rfl, rfl⟩
  go_wp2
  go_ret
  exact ⟨rfl, rfl⟩

theorem own3 (w : World) (x y z : Int) (hx : 0 ≤ x ∧ x ≤ 255) (hy : 0 ≤ y ∧ y ≤ 255) (hz : 0 ≤ z ∧ z ≤ 255) :
    Own (w.alloc (.cells #[.int .u8 x, .int .u8 y, .int .u8 z] 5)) w.heap.size 5 .u8 (.slice (some ⟨w.heap.size, 0, none⟩) 3 3) [x, y, z] := by
  refine ⟨World.ownsRow_lit w #[.int .u8 x, .int .u8 y, .int .u8 z] 3 (Nat.le_refl _) (by unfold maxLen; omega) rfl, ?_⟩
  intro q hq
  simp only [List.mem_cons, List.not_mem_nil, or_false] at hq
  rcases hq with rfl | rfl | rfl
  · exact WalkArith.wf_u8 (by omega)
  · exact WalkArith.wf_u8 (by omega)
  · exact WalkArith.wf_u8 (by omega)

set_option maxHeartbeats 400000 in
theorem Three_calls {s : Int} {w : World} (hs : (Lit.int .i64 s).wf = true) :
    Calls Tryz.prog 99 #[.int .i64 s] w fun e w' => ∃ v, e = .returned v ∧ Own w' w.heap.size 5 .u8 v (three s) ∧ Below w.heap.size w w' := by
  have hs' := wf_i64 hs
  have ho := own3 w (s / 65536 % 256) (s / 256 % 256) (s % 256) (by omega) (by omega) (by omega)
  have Ho := Lib.hid ho; clear ho
  go_enter Tryz.func99, Tryz.ntmps99
  go_wp2
  go_ret
  exact ⟨_, rfl, Ho.out, (Below.refl _ _).alloc (Nat.le_refl _) _⟩

theorem tmod24_neg (s : Int) (h : s.tmod 16777216 < 0) : s.tmod 16777216 = s % 16777216 - 16777216 := by
  by_cases h0 : 0 ≤ s
  · rw [tmod_pos s h0] at *; omega
  · rw [tmod_neg s (by omega)] at *; omega
theorem tmod24_pos (s : Int) (h : ¬ s.tmod 16777216 < 0) : s.tmod 16777216 = s % 16777216 := by
  by_cases h0 : 0 ≤ s
  · rw [tmod_pos s h0] at *
  · rw [tmod_neg s (by omega)] at *; omega

set_option maxHeartbeats 400000 in
theorem ThreeRef_calls {s : Int} {w : World} (hs : (Lit.int .i64 s).wf = true) :
    Calls Tryz.prog 76 #[.int .i64 s] w fun e w' => ∃ v, e = .returned v ∧ Own w' w.heap.size 5 .u8 v (three s) ∧ Below w.heap.size w w' := by
  have hs' := wf_i64 hs
  have h3 := three_mod s
  obtain ⟨R, hR⟩ : ∃ R, R = s % 16777216 := ⟨_, rfl⟩
  have hR0 : 0 ≤ R ∧ R < 16777216 := by omega
  rw [← hR] at h3
  by_cases hneg : s.tmod 16777216 < 0
  · have he : s.tmod 16777216 = R - 16777216 := by rw [hR]; exact tmod24_neg s hneg
    have e0 : R - 16777216 + 16777216 = R := by omega
    rw [he] at hneg
    clear hR hs
    have ho := own3 w (R / 65536) (R / 256 % 256) (R % 256) (by omega) (by omega) (by omega)
    have e1 : [R / 65536, R / 256 % 256, R % 256] = three s := by rw [← h3]; unfold three; congr 1; omega
    rw [e1] at ho
    have Ho := Lib.hid ho; clear ho e1 h3
    go_enter Tryz.func76, Tryz.ntmps76
    go_wp2
    go_ret
    exact ⟨_, rfl, Ho.out, (Below.refl _ _).alloc (Nat.le_refl _) _⟩
  · have he : s.tmod 16777216 = R := by rw [hR]; exact tmod24_pos s hneg
    rw [he] at hneg
    clear hR hs
    have ho := own3 w (R / 65536) (R / 256 % 256) (R % 256) (by omega) (by omega) (by omega)
    have e1 : [R / 65536, R / 256 % 256, R % 256] = three s := by rw [← h3]; unfold three; congr 1; omega
    rw [e1] at ho
    have Ho := Lib.hid ho; clear ho e1 h3
    go_enter Tryz.func76, Tryz.ntmps76
    go_wp2
    go_ret
    exact ⟨_, rfl, Ho.out, (Below.refl _ _).alloc (Nat.le_refl _) _⟩
end Go.Proofs.YtgpedejeifmfdaaGreat
