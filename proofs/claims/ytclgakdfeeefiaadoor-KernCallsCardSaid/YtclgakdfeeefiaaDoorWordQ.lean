/- Plain arithmetic of words: turns, counts by parts, the lowest bit. Of no program. -/
import Derived.Test.YtclgakdfeeefiaaDoorWordP
namespace Go.Proofs.YtclgakdfeeefiaaDoor
open Go

theorem pop_mod : ∀ (k y : Nat), Lib.popAux k y = Lib.popAux k (y % 2 ^ k)
  | 0, _ => rfl
  | k + 1, y => by
    rw [pop_succ, pop_succ, pop_mod k (y / 2), pop_mod k (y % 2 ^ (k + 1) / 2)]
    have e1 : y % 2 ^ (k + 1) % 2 = y % 2 := Nat.mod_mod_of_dvd _ ⟨2 ^ k, by rw [Nat.pow_succ]; omega⟩
    have e2 : y % 2 ^ (k + 1) / 2 = y / 2 % 2 ^ k := by rw [Nat.pow_succ, Nat.mod_mul_left_div_self]
    rw [e1, e2, Nat.mod_mod]
theorem pop_zero : ∀ k, Lib.popAux k 0 = 0
  | 0 => rfl
  | k + 1 => by rw [pop_succ, Nat.zero_div, pop_zero k]
/-- The bits of a word, by parts. -/
theorem pop_parts {k : Nat} (hk : k ≤ 64) (q r : Nat) (hr : r < 2 ^ k) : pop (2 ^ k * q + r) = Lib.popAux k r + Lib.popAux (64 - k) q := by
  have e : (2 ^ k * q + r) / 2 ^ k = q := by
    rw [Nat.mul_add_div (Nat.two_pow_pos k), Nat.div_eq_of_lt hr, Nat.add_zero]
  have e2 : (2 ^ k * q + r) % 2 ^ k = r := by rw [Nat.mul_add_mod, Nat.mod_eq_of_lt hr]
  unfold pop
  rw [show 64 = k + (64 - k) by omega, pop_add, pop_mod k, e, e2]
  congr 2
  omega

/-! ### turns -/
def rot1 (u : Nat) : Nat := 2 * u % 2 ^ 64 + u / 2 ^ 63
theorem rot1_lt {u : Nat} (h : u < 2 ^ 64) : rot1 u < 2 ^ 64 := by unfold rot1; omega
def rots : Nat → Nat → Nat
  | 0, u => u
  | k + 1, u => rot1 (rots k u)
theorem rots_lt {u : Nat} (h : u < 2 ^ 64) : ∀ k, rots k u < 2 ^ 64
  | 0 => h
  | k + 1 => rot1_lt (rots_lt h k)
theorem rots_add (a b u : Nat) : rots (a + b) u = rots a (rots b u) := by
  induction a with
  | zero => rw [Nat.zero_add]; rfl
  | succ a ih => rw [show a + 1 + b = (a + b) + 1 by omega]; show rot1 _ = rot1 _; rw [ih]
/-- So many steps, at once. -/
theorem rots_eq {u : Nat} (h : u < 2 ^ 64) : ∀ s, s ≤ 64 → rots s u = (u % 2 ^ (64 - s)) * 2 ^ s + u / 2 ^ (64 - s)
  | 0, _ => by
    rw [Nat.sub_zero, Nat.mod_eq_of_lt h, Nat.div_eq_of_lt h]
    simp [rots]
  | s + 1, hs => by
    have ih := rots_eq h s (by omega)
    obtain ⟨d, hd⟩ : ∃ d, 64 - s = d + 1 := ⟨63 - s, by omega⟩
    have hd2 : 64 - (s + 1) = d := by omega
    show rot1 (rots s u) = _
    rw [ih, hd, hd2]
    have hp : (2 : Nat) ^ 64 = 2 ^ (d + 1) * 2 ^ s := by rw [← Nat.pow_add]; congr 1; omega
    have hp3 : (2 : Nat) ^ 63 = 2 ^ d * 2 ^ s := by rw [← Nat.pow_add]; congr 1; omega
    -- u = (2 q + t) 2^d + r
    have hD := Nat.two_pow_pos d
    have hS := Nat.two_pow_pos s
    have hr : u % 2 ^ d < 2 ^ d := Nat.mod_lt _ hD
    obtain ⟨t, ht, h1, h2⟩ : ∃ t, t < 2 ∧ u % 2 ^ (d + 1) = t * 2 ^ d + u % 2 ^ d ∧ u / 2 ^ d = 2 * (u / 2 ^ (d + 1)) + t := by
      refine ⟨u / 2 ^ d % 2, by omega, ?_, ?_⟩
      · rw [Nat.pow_succ, Nat.mod_mul]
        rw [Nat.mul_comm (u / 2 ^ d % 2)]; omega
      · rw [Nat.pow_succ, ← Nat.div_div_eq_div_mul]; omega
    have hq : u / 2 ^ (d + 1) < 2 ^ s := by
      rw [Nat.div_lt_iff_lt_mul (Nat.two_pow_pos _)]
      rw [Nat.mul_comm, ← hp]; exact h
    rw [h1, h2]
    generalize u % 2 ^ d = r at hr
    generalize u / 2 ^ (d + 1) = q at hq
    clear ih h1 h2 hd hd2
    have hb : r * 2 ^ s + q < 2 ^ 63 := by
      rw [hp3]
      have h3 : r + 1 ≤ 2 ^ d := hr
      have h4 : (r + 1) * 2 ^ s ≤ 2 ^ d * 2 ^ s := Nat.mul_le_mul_right _ h3
      rw [Nat.add_mul, Nat.one_mul] at h4
      omega
    have e1 : (t * 2 ^ d + r) * 2 ^ s + q = t * 2 ^ 63 + (r * 2 ^ s + q) := by
      rw [Nat.add_mul, hp3, Nat.mul_assoc]; omega
    have e2 : r * 2 ^ (s + 1) = 2 * (r * 2 ^ s) := by rw [Nat.pow_succ, ← Nat.mul_assoc, Nat.mul_comm]
    rw [e1, e2]
    generalize r * 2 ^ s = R at *
    unfold rot1
    omega
theorem rots_64 {u : Nat} (h : u < 2 ^ 64) : rots 64 u = u := by
  rw [rots_eq h 64 (Nat.le_refl _)]
  simp [Nat.mod_one]
theorem rots_mod {u : Nat} (h : u < 2 ^ 64) (k : Nat) : rots k u = rots (k % 64) u := by
  induction k using Nat.strongRecOn with
  | ind k ih =>
    by_cases hk : k < 64
    · rw [Nat.mod_eq_of_lt hk]
    · have e : k = (k - 64) + 64 := by omega
      rw [e, rots_add, rots_64 h, ih (k - 64) (by omega)]
      congr 1
      omega
/-- Bits turned to the left by any number. -/
def turnS (u : Nat) (k : Int) : Nat := rots (k % 64).toNat u
theorem turnS_lt {u : Nat} (h : u < 2 ^ 64) (k : Int) : turnS u k < 2 ^ 64 := rots_lt h _
theorem turn_turn {u : Nat} (h : u < 2 ^ 64) (a b : Int) : turnS (turnS u a) b = turnS u (a + b) := by
  unfold turnS
  rw [← rots_add, rots_mod h ((b % 64).toNat + (a % 64).toNat)]
  congr 1
  omega
theorem turn_zero (u : Nat) {k : Int} (hk : k % 64 = 0) : turnS u k = u := by unfold turnS; rw [hk]; rfl
theorem turn_cong (u : Nat) {a b : Int} (h : a % 64 = b % 64) : turnS u a = turnS u b := by unfold turnS; rw [h]
theorem pop_rot1 {u : Nat} (h : u < 2 ^ 64) : pop (rot1 u) = pop u := by
  have e1 : u = 2 ^ 63 * (u / 2 ^ 63) + u % 2 ^ 63 := by omega
  have ht : u / 2 ^ 63 < 2 := by omega
  have hr : u % 2 ^ 63 < 2 ^ 63 := Nat.mod_lt _ (by decide)
  generalize u / 2 ^ 63 = t at e1 ht
  generalize u % 2 ^ 63 = r at e1 hr
  have e2 : rot1 u = 2 ^ 1 * r + t := by unfold rot1; omega
  rw [e2, e1, pop_parts (by decide) r t (by omega), pop_parts (by decide) t r hr]
  have : Lib.popAux 1 t = t := by rw [pop_succ]; show t % 2 + 0 = t; omega
  show Lib.popAux 1 t + Lib.popAux 63 r = Lib.popAux 63 r + Lib.popAux 1 t
  omega
theorem pop_turn {u : Nat} (h : u < 2 ^ 64) (k : Int) : pop (turnS u k) = pop u := by
  unfold turnS
  generalize (k % 64).toNat = n
  induction n with
  | zero => rfl
  | succ n ih => show pop (rot1 (rots n u)) = _; rw [pop_rot1 (rots_lt h n), ih]

/-! ### the lowest bit -/
theorem ctzFrom_at : ∀ (f l m : Nat), l < f → Lib.ctzFrom f (2 ^ l * (2 * m + 1)) = l
  | f + 1, 0, m, _ => by
    unfold Lib.ctzFrom
    rw [if_pos (by omega)]
  | f + 1, l + 1, m, h => by
    unfold Lib.ctzFrom
    have e : 2 ^ (l + 1) * (2 * m + 1) = 2 * (2 ^ l * (2 * m + 1)) := by rw [Nat.pow_succ, Nat.mul_comm (2 ^ l), Nat.mul_assoc]
    rw [if_neg (by rw [e]; omega), e, Nat.mul_div_cancel_left _ (by decide), ctzFrom_at f l m (by omega)]
    omega
theorem ctz_at {l m : Nat} (h : l < 64) : Lib.ctz 64 (2 ^ l * (2 * m + 1)) = l := by
  unfold Lib.ctz
  have : 0 < 2 ^ l * (2 * m + 1) := Nat.mul_pos (Nat.two_pow_pos l) (by omega)
  rw [if_neg (by omega), ctzFrom_at 64 l m h]
theorem ctz_spec {u : Nat} (h0 : u ≠ 0) (h : u < 2 ^ 64) : ∃ m, u = 2 ^ Lib.ctz 64 u * (2 * m + 1) ∧ Lib.ctz 64 u < 64 := by
  have := Lib.ctzFrom_spec 64 u (by omega) h
  unfold Lib.ctz
  rw [if_neg h0]
  exact this
theorem ctz_zero : Lib.ctz 64 0 = 64 := rfl
theorem ctz_ge {l m : Nat} (h : 2 ^ l * m < 2 ^ 64) (hl : l ≤ 64) : l ≤ Lib.ctz 64 (2 ^ l * m) := by
  by_cases h0 : m = 0
  · subst h0
    rw [Nat.mul_zero, ctz_zero]
    exact hl
  · have hm : m < 2 ^ 64 := Nat.lt_of_le_of_lt (Nat.le_mul_of_pos_left m (Nat.two_pow_pos l)) h
    obtain ⟨q, hq, hc⟩ := ctz_spec h0 hm
    generalize Lib.ctz 64 m = c at hq hc
    rw [hq, ← Nat.mul_assoc, ← Nat.pow_add] at h ⊢
    have h1 : 2 ^ (l + c) < 2 ^ 64 := Nat.lt_of_le_of_lt (Nat.le_mul_of_pos_right _ (by omega)) h
    have h2 : l + c < 64 := (Nat.pow_lt_pow_iff_right (by decide)).1 h1
    rw [ctz_at h2]
    omega
/-- Without its lowest bit. -/
theorem without_low {u : Nat} (h0 : u ≠ 0) (h : u < 2 ^ 64) : pop u = pop (u - 2 ^ Lib.ctz 64 u) + 1 ∧ Lib.ctz 64 u < Lib.ctz 64 (u - 2 ^ Lib.ctz 64 u) ∧ 2 ^ Lib.ctz 64 u ≤ u := by
  obtain ⟨m, hm, hl⟩ := ctz_spec h0 h
  generalize Lib.ctz 64 u = l at hm hl
  have e : u - 2 ^ l = 2 ^ (l + 1) * m := by
    rw [hm, Nat.mul_add, Nat.mul_one, Nat.add_sub_cancel, ← Nat.mul_assoc, Nat.pow_succ]
  have hle : 2 ^ l ≤ u := by rw [hm]; exact Nat.le_mul_of_pos_right _ (by omega)
  refine ⟨?_, ?_, hle⟩
  · have h1 := pop_parts (k := l) (by omega) (2 * m + 1) 0 (Nat.two_pow_pos l)
    have h2 := pop_parts (k := l + 1) (by omega) m 0 (Nat.two_pow_pos _)
    rw [Nat.add_zero, ← hm, pop_zero] at h1
    rw [Nat.add_zero, ← e, pop_zero] at h2
    obtain ⟨f, hf⟩ : ∃ f, 64 - l = f + 1 := ⟨63 - l, by omega⟩
    rw [hf, pop_succ] at h1
    rw [show 64 - (l + 1) = f by omega] at h2
    have h3 : (2 * m + 1) / 2 = m := by omega
    rw [h3] at h1
    omega
  · rw [e]
    have := ctz_ge (l := l + 1) (m := m) (by rw [← e]; exact Nat.lt_of_le_of_lt (Nat.sub_le _ _) h) (by omega)
    omega
theorem high_part {u k : Nat} (hk : k ≤ 64) : pop (2 ^ k * (u / 2 ^ k)) + pop (u % 2 ^ k) = pop u := by
  have h1 := pop_parts hk (u / 2 ^ k) 0 (Nat.two_pow_pos k)
  have h2 := pop_parts hk 0 (u % 2 ^ k) (Nat.mod_lt _ (Nat.two_pow_pos k))
  have h3 := pop_parts hk (u / 2 ^ k) (u % 2 ^ k) (Nat.mod_lt _ (Nat.two_pow_pos k))
  rw [Nat.div_add_mod] at h3
  rw [Nat.add_zero, pop_zero] at h1
  rw [Nat.mul_zero, Nat.zero_add, pop_zero] at h2
  omega
end Go.Proofs.YtclgakdfeeefiaaDoor
