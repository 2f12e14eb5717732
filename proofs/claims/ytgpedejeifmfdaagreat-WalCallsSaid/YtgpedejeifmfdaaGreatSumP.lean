/- The plain law of the sum of 24 bits: steps, bytes, and what they do to differing states. Of no program. -/
import Derived.WalkKit
import Derived.Laws.BitsAllLaws
namespace Go.Proofs.YtgpedejeifmfdaaGreat

def step (s : Nat) : Nat := (2 * s) ^^^ (if s.testBit 23 then 25578747 else 0)
def steps : Nat → Nat → Nat
  | 0, s => s
  | k + 1, s => step (steps k s)
def byte (s : Nat) (c : Int) : Nat := steps 8 (s ^^^ (c.toNat * 65536))
def crc (s : Nat) (zs : List Int) : Nat := zs.foldl byte s
def three (n : Int) : List Int := [n / 65536 % 256, n / 256 % 256, n % 256]

theorem step_lt {s : Nat} (h : s < 16777216) : step s < 16777216 := by
  refine Nat.lt_pow_two_of_testBit (n := 24) _ fun i hi => ?_
  unfold step
  rw [Nat.testBit_xor, show 2 * s = s * 2 ^ 1 from by omega, Nat.testBit_mul_two_pow]
  by_cases hs : s.testBit 23
  · rw [if_pos hs]
    rcases Nat.eq_or_lt_of_le hi with rfl | hi
    · simp [hs]; decide
    · have h1 : s.testBit (i - 1) = false := Nat.testBit_lt_two_pow (Nat.lt_of_lt_of_le h (Nat.pow_le_pow_right (n := 2) (by decide) (show 24 ≤ i - 1 by omega)))
      have h2 : Nat.testBit 25578747 i = false := Nat.testBit_lt_two_pow (Nat.lt_of_lt_of_le (show 25578747 < 2 ^ 25 by decide) (Nat.pow_le_pow_right (n := 2) (by decide) (show 25 ≤ i by omega)))
      simp [h1, h2]
  · rw [if_neg hs]
    simp only [Nat.zero_testBit, Bool.xor_false]
    rcases Nat.eq_or_lt_of_le hi with rfl | hi
    · simp [Bool.not_eq_true _ ▸ hs]
    · have h1 : s.testBit (i - 1) = false := Nat.testBit_lt_two_pow (Nat.lt_of_lt_of_le h (Nat.pow_le_pow_right (n := 2) (by decide) (show 24 ≤ i - 1 by omega)))
      simp [h1]

theorem bit23 {s : Nat} (h : s < 16777216) : s.testBit 23 = decide (8388608 ≤ s) := by
  rw [Nat.testBit_eq_decide_div_mod_eq]
  have e : (2 : Nat) ^ 23 = 8388608 := by decide
  rw [e]
  congr 1
  rw [eq_iff_iff]
  omega

theorem step_hi {s : Nat} (h : s < 16777216) (h' : 8388608 ≤ s) : step s = (2 * s) ^^^ 25578747 := by
  unfold step; rw [bit23 h, decide_eq_true h']; rfl
theorem step_lo {s : Nat} (h' : s < 8388608) : step s = 2 * s := by
  unfold step; rw [bit23 (by omega), decide_eq_false (by omega)]; simp

theorem steps_lt {s : Nat} (h : s < 16777216) : ∀ k, steps k s < 16777216
  | 0 => h
  | k + 1 => step_lt (steps_lt h k)

theorem xor_lt24 {a b : Nat} (ha : a < 16777216) (hb : b < 16777216) : a ^^^ b < 16777216 := Nat.xor_lt_two_pow (n := 24) ha hb

theorem byte_lt {s : Nat} {c : Int} (h : s < 16777216) (hc : c ≤ 255) : byte s c < 16777216 :=
  steps_lt (xor_lt24 h (by omega)) 8

theorem crc_lt {zs : List Int} : ∀ {s : Nat}, s < 16777216 → (∀ z ∈ zs, z ≤ 255) → crc s zs < 16777216 := by
  induction zs with
  | nil => intro s h _; exact h
  | cons z zs ih => intro s h hz; exact ih (byte_lt h (hz z List.mem_cons_self)) fun y hy => hz y (List.mem_cons_of_mem _ hy)

theorem crc_append (s : Nat) (xs ys : List Int) : crc s (xs ++ ys) = crc (crc s xs) ys := by unfold crc; rw [List.foldl_append]
theorem crc_snoc (s : Nat) (xs : List Int) (c : Int) : crc s (xs ++ [c]) = byte (crc s xs) c := by rw [crc_append]; rfl

theorem three_mod (n : Int) : three (n % 16777216) = three n := by
  unfold three
  congr 1
  · omega
  · congr 1
    · omega
    · congr 1; omega

end Go.Proofs.YtgpedejeifmfdaaGreat
