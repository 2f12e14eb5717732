/- The plain law of the sum of 24 bits: steps, bytes, and what they do to differing states. Of no program. -/
import Derived.WalkKit
import Derived.Laws.BitsAllLaws
namespace Go.Proofs.Ytgpedejeifmfdaa

def step (s : Nat) : Nat := (2 * s) ^^^ (if s.testBit 23 then 25578747 else 0)
def steps : Nat → Nat → Nat
  | 0, s => s
  | k + 1, s => step (steps k s)
def byte (s : Nat) (c : Int) : Nat := steps 8 (s ^^^ (c.toNat * 65536))
def crc (s : Nat) (zs : List Int) : Nat := zs.foldl byte s
def three (n : Int) : List Int := [n / 65536 % 256, n / 256 % 256, n % 256]

theorem xlc (a b c : Nat) : a ^^^ (b ^^^ c) = b ^^^ (a ^^^ c) := by rw [← Nat.xor_assoc, Nat.xor_comm a b, Nat.xor_assoc]
theorem xor_can {a b c : Nat} (h : a ^^^ b = a ^^^ c) : b = c := by
  have : a ^^^ (a ^^^ b) = a ^^^ (a ^^^ c) := by rw [h]
  rwa [← Nat.xor_assoc, ← Nat.xor_assoc, Nat.xor_self, Nat.zero_xor, Nat.zero_xor] at this
theorem xor_can' {a b c : Nat} (h : b ^^^ a = c ^^^ a) : b = c := by
  rw [Nat.xor_comm b, Nat.xor_comm c] at h; exact xor_can h

theorem step_lt {s : Nat} (h : s < 16777216) : step s < 16777216 := by
  refine Nat.lt_pow_two_of_testBit (n := 24) _ fun i hi => ?_
  unfold step
  rw [Nat.testBit_xor, show 2 * s = s * 2 ^ 1 from by omega, Nat.testBit_mul_two_pow]
  by_cases hs : s.testBit 23
  · rw [if_pos hs]
    rcases Nat.eq_or_lt_of_le hi with rfl | hi
    · simp [hs]; decide
    · have h1 : s.testBit (i - 1) = false := Nat.testBit_lt_two_pow (Nat.lt_of_lt_of_le h (Nat.pow_le_pow_right (n := 2) (by decide) (show 24 ≤ i - 1 by omega)))
      have h2 : Nat.testBit 25578747 i = false := Nat.testBit_lt_two_pow (Nat.lt_of_lt_of_le (show 25578747 < 2 ^ 25 by decide) (Nat.pow_le_pow_right (n := 2) (by decide) (show 25 ≤ i by omega)))
      simp [h1, h2]
  · rw [if_neg hs]
    simp only [Nat.zero_testBit, Bool.xor_false]
    rcases Nat.eq_or_lt_of_le hi with rfl | hi
    · simp [Bool.not_eq_true _ ▸ hs]
    · have h1 : s.testBit (i - 1) = false := Nat.testBit_lt_two_pow (Nat.lt_of_lt_of_le h (Nat.pow_le_pow_right (n := 2) (by decide) (show 24 ≤ i - 1 by omega)))
      simp [h1]

theorem bit23 {s : Nat} (h : s < 16777216) : s.testBit 23 = decide (8388608 ≤ s) := by
  rw [Nat.testBit_eq_decide_div_mod_eq]
  have e : (2 : Nat) ^ 23 = 8388608 := by decide
  rw [e]
  congr 1
  rw [eq_iff_iff]
  omega

theorem step_hi {s : Nat} (h : s < 16777216) (h' : 8388608 ≤ s) : step s = (2 * s) ^^^ 25578747 := by
  unfold step; rw [bit23 h, decide_eq_true h']; rfl
theorem step_lo {s : Nat} (h' : s < 8388608) : step s = 2 * s := by
  unfold step; rw [bit23 (by omega), decide_eq_false (by omega)]; simp

theorem steps_lt {s : Nat} (h : s < 16777216) : ∀ k, steps k s < 16777216
  | 0 => h
  | k + 1 => step_lt (steps_lt h k)

theorem two_xor (a b : Nat) : 2 * (a ^^^ b) = (2 * a) ^^^ (2 * b) := by
  apply Nat.eq_of_testBit_eq
  intro i
  rw [Nat.testBit_xor, Nat.mul_comm, Nat.mul_comm 2 a, Nat.mul_comm 2 b]
  have e := fun x => Nat.testBit_mul_two_pow (x := x) (i := 1) (j := i)
  simp only [Nat.pow_one] at e
  rw [e, e, e]
  by_cases h : 1 ≤ i <;> simp [h, Nat.testBit_xor]

theorem step_xor (a b : Nat) : step (a ^^^ b) = step a ^^^ step b := by
  unfold step
  rw [two_xor, Nat.testBit_xor]
  cases a.testBit 23 <;> cases b.testBit 23
  · simp
  · simp [Nat.xor_assoc]
  · simp only [Bool.xor_false, if_true, Bool.false_eq_true, if_false, Nat.xor_zero]
    rw [Nat.xor_assoc, Nat.xor_assoc, Nat.xor_comm (2 * b)]
  · simp only [Bool.xor_self, if_true, Bool.false_eq_true, if_false, Nat.xor_zero]
    rw [Nat.xor_assoc, xlc 25578747, Nat.xor_self, Nat.xor_zero]

theorem steps_xor (k a b : Nat) : steps k (a ^^^ b) = steps k a ^^^ steps k b := by
  induction k with
  | zero => rfl
  | succ k ih => unfold steps; rw [ih, step_xor]

theorem step_inj {a b : Nat} (e : step a = step b) : a = b := by
  have h0 : (step a).testBit 0 = (step b).testBit 0 := by rw [e]
  unfold step at e h0
  have e0 : ∀ x : Nat, (2 * x).testBit 0 = false := by intro x; rw [Nat.testBit_zero]; simp
  rw [Nat.testBit_xor, Nat.testBit_xor, e0, e0] at h0
  have key : (2 * a) = (2 * b) := by
    cases ha : a.testBit 23 <;> cases hb : b.testBit 23 <;> rw [ha, hb] at h0 e
    · simpa using e
    · exact absurd h0 (by decide)
    · exact absurd h0 (by decide)
    · exact xor_can' e
  omega

theorem steps_inj (k : Nat) {a b : Nat} (e : steps k a = steps k b) : a = b := by
  induction k with
  | zero => exact e
  | succ k ih => exact ih (step_inj e)

theorem xor_lt24 {a b : Nat} (ha : a < 16777216) (hb : b < 16777216) : a ^^^ b < 16777216 := Nat.xor_lt_two_pow (n := 24) ha hb

theorem byte_lt {s : Nat} {c : Int} (h : s < 16777216) (hc : c ≤ 255) : byte s c < 16777216 :=
  steps_lt (xor_lt24 h (by omega)) 8

theorem byte_inj {a b : Nat} {c : Int} (e : byte a c = byte b c) : a = b := xor_can' (steps_inj 8 e)

theorem byte_inj2 {a : Nat} {c d : Int} (hc : 0 ≤ c) (hd : 0 ≤ d) (e : byte a c = byte a d) : c = d := by
  have := xor_can (steps_inj 8 e)
  omega

theorem crc_lt {zs : List Int} : ∀ {s : Nat}, s < 16777216 → (∀ z ∈ zs, z ≤ 255) → crc s zs < 16777216 := by
  induction zs with
  | nil => intro s h _; exact h
  | cons z zs ih => intro s h hz; exact ih (byte_lt h (hz z List.mem_cons_self)) fun y hy => hz y (List.mem_cons_of_mem _ hy)

theorem crc_append (s : Nat) (xs ys : List Int) : crc s (xs ++ ys) = crc (crc s xs) ys := by unfold crc; rw [List.foldl_append]
theorem crc_snoc (s : Nat) (xs : List Int) (c : Int) : crc s (xs ++ [c]) = byte (crc s xs) c := by rw [crc_append]; rfl

theorem crc_inj {zs : List Int} : ∀ {a b : Nat}, crc a zs = crc b zs → a = b := by
  induction zs with
  | nil => intro a b e; exact e
  | cons z zs ih => intro a b e; exact byte_inj (ih e)

theorem xor_low (h l : Nat) (hl : l < 65536) : (h * 65536 + l) ^^^ (h * 65536) = l := by
  have e : h * 65536 + l = (h * 65536) ^^^ l := by
    apply Nat.eq_of_testBit_eq
    intro i
    have e16 : (65536 : Nat) = 2 ^ 16 := by decide
    rw [Nat.testBit_xor, e16, Nat.mul_comm h, Nat.testBit_two_pow_mul_add _ hl, Nat.mul_comm _ h, Nat.testBit_mul_two_pow]
    by_cases h : i < 16
    · simp [h, show ¬ 16 ≤ i by omega]
    · have : l.testBit i = false := Nat.testBit_lt_two_pow (Nat.lt_of_lt_of_le hl (by rw [e16]; exact Nat.pow_le_pow_right (by decide) (by omega)))
      simp [h, show 16 ≤ i by omega, this]
  rw [e, Nat.xor_comm, ← Nat.xor_assoc, Nat.xor_self, Nat.zero_xor]

theorem steps8_low (l : Nat) (hl : l < 65536) : steps 8 l = l * 256 := by
  have h : ∀ k, k ≤ 8 → steps k l = l * 2 ^ k := by
    intro k
    induction k with
    | zero => intro _; simp [steps]
    | succ k ih =>
      intro hk
      have hp : 2 ^ k ≤ 2 ^ 7 := Nat.pow_le_pow_right (by decide) (by omega)
      have hm : l * 2 ^ k ≤ 65535 * 2 ^ 7 := Nat.mul_le_mul (by omega) hp
      rw [steps, ih (by omega), step_lo (by omega), Nat.pow_succ]
      rw [Nat.mul_comm 2, Nat.mul_assoc]
  exact h 8 (by omega)

theorem byte_top (h l : Nat) (hl : l < 65536) : byte (h * 65536 + l) (h : Int) = l * 256 := by
  unfold byte
  rw [Int.toNat_natCast, xor_low h l hl, steps8_low l hl]

/-- With its own three bytes behind, a state becomes 0. -/
theorem crc_three {s : Nat} (h : s < 16777216) : crc s (three s) = 0 := by
  unfold crc three
  simp only [List.foldl_cons, List.foldl_nil]
  have e1 : (s : Int) / 65536 % 256 = ((s / 65536 : Nat) : Int) := by omega
  have e2 : (s : Int) / 256 % 256 = ((s / 256 % 256 : Nat) : Int) := by omega
  have e3 : (s : Int) % 256 = ((s % 256 : Nat) : Int) := by omega
  rw [e1, e2, e3]
  have b1 := byte_top (s / 65536) (s % 65536) (by omega)
  rw [show s / 65536 * 65536 + s % 65536 = s by omega] at b1
  have b2 := byte_top (s / 256 % 256) (s % 256 * 256) (by omega)
  rw [show s / 256 % 256 * 65536 + s % 256 * 256 = s % 65536 * 256 by omega] at b2
  have b3 := byte_top (s % 256) 0 (by omega)
  rw [show s % 256 * 65536 + 0 = s % 256 * 256 * 256 by omega] at b3
  rw [b1, b2, b3]

theorem three_fit (n : Int) : ∀ z ∈ three n, 0 ≤ z ∧ z ≤ 255 := by
  intro z hz
  simp only [three, List.mem_cons, List.not_mem_nil, or_false] at hz
  rcases hz with rfl | rfl | rfl <;> omega

theorem three_mod (n : Int) : three (n % 16777216) = three n := by
  unfold three
  congr 1
  · omega
  · congr 1
    · omega
    · congr 1; omega

/-- One byte in its place turned: another state at the end. -/
theorem crc_set {zs : List Int} {s i : Nat} {c : Int} (hi : i < zs.length) (h0 : 0 ≤ zs[i]) (hc : 0 ≤ c) (hne : c ≠ zs[i]) : crc s (zs.set i c) ≠ crc s zs := by
  intro e
  rw [List.set_eq_take_append_cons_drop, if_pos hi] at e
  have hz : zs = zs.take i ++ zs[i] :: zs.drop (i + 1) := by simp
  have e1 : crc s zs = crc s (zs.take i ++ zs[i] :: zs.drop (i + 1)) := by rw [← hz]
  rw [e1, crc_append, crc_append] at e
  have e' : crc (byte (crc s (zs.take i)) c) (zs.drop (i+1)) = crc (byte (crc s (zs.take i)) zs[i]) (zs.drop (i+1)) := e
  exact hne (byte_inj2 hc h0 (crc_inj e'))

theorem steps8_one : steps 8 65536 = 8801531 := by decide +kernel

/-- The last bit of a byte and the first of the next one turned. -/
theorem crc_two {s : Nat} {c d : Nat} {r : List Int} :
    crc s (((c ^^^ 1 : Nat) : Int) :: ((d ^^^ 128 : Nat) : Int) :: r) ≠ crc s ((c : Int) :: (d : Int) :: r) := by
  intro e
  have e' : byte (byte s ((c ^^^ 1 : Nat) : Int)) ((d ^^^ 128 : Nat) : Int) = byte (byte s (c : Int)) (d : Int) := crc_inj (zs := r) e
  unfold byte at e'
  have e2 := steps_inj 8 e'
  simp only [Int.toNat_natCast] at e2
  have x16 : ∀ a b : Nat, (a ^^^ b) * 65536 = (a * 65536) ^^^ (b * 65536) := by
    intro a b
    apply Nat.eq_of_testBit_eq
    intro i
    rw [Nat.testBit_xor, show (65536 : Nat) = 2 ^ 16 by decide, Nat.testBit_mul_two_pow, Nat.testBit_mul_two_pow, Nat.testBit_mul_two_pow, Nat.testBit_xor]
    by_cases h : 16 ≤ i <;> simp [h]
  rw [x16 c 1, x16 d 128, ← Nat.xor_assoc, ← Nat.xor_assoc s, steps_xor 8 (s ^^^ c * 65536), Nat.one_mul, steps8_one] at e2
  rw [Nat.xor_assoc, Nat.xor_assoc] at e2
  have e3 := xor_can e2
  rw [xlc] at e3
  have e4 : 8801531 ^^^ 128 * 65536 = 0 := xor_can (a := d * 65536) (by rw [e3, Nat.xor_zero])
  exact absurd e4 (by decide)
end Go.Proofs.Ytgpedejeifmfdaa
