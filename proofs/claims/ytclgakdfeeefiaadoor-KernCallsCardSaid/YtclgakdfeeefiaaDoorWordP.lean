/- Plain arithmetic of words: bits by digits, turns, counts, packing. Of no program. -/
import Derived.Lib.TrailingZeros
import Derived.Lib.BitFns
namespace Go.Proofs.YtclgakdfeeefiaaDoor
open Go

/-! ### digits of 8 bits -/
def val8 : List Nat → Nat
  | [] => 0
  | b :: bs => b + 256 * val8 bs
def dig8 : Nat → Nat → List Nat
  | 0, _ => []
  | n + 1, x => x % 256 :: dig8 n (x / 256)
theorem val_dig : ∀ (n x : Nat), x < 256 ^ n → val8 (dig8 n x) = x
  | 0, x, h => by simp at h; simp [dig8, val8, h]
  | n + 1, x, h => by
    unfold dig8 val8
    rw [val_dig n (x / 256) (by rw [Nat.pow_succ] at h; omega)]
    omega
theorem dig_lt : ∀ (n x : Nat), ∀ b ∈ dig8 n x, b < 256
  | 0, _, b, h => by cases h
  | n + 1, x, b, h => by
    unfold dig8 at h
    rcases List.mem_cons.1 h with rfl | h
    · omega
    · exact dig_lt n _ b h
theorem and_step (b m y z : Nat) (hb : b < 256) (hm : m < 256) : (b + 256 * y) &&& (m + 256 * z) = (b &&& m) + 256 * (y &&& z) := by
  have hl : b &&& m < 256 := Nat.lt_of_le_of_lt Nat.and_le_left hb
  have h1 : ((b + 256 * y) &&& (m + 256 * z)) % 2 ^ 8 = (b + 256 * y) % 2 ^ 8 &&& (m + 256 * z) % 2 ^ 8 := Nat.and_mod_two_pow
  have h2 : ((b + 256 * y) &&& (m + 256 * z)) / 2 ^ 8 = (b + 256 * y) / 2 ^ 8 &&& (m + 256 * z) / 2 ^ 8 := Nat.and_div_two_pow
  have e1 : (b + 256 * y) % 2 ^ 8 = b := by omega
  have e2 : (m + 256 * z) % 2 ^ 8 = m := by omega
  have e3 : (b + 256 * y) / 2 ^ 8 = y := by omega
  have e4 : (m + 256 * z) / 2 ^ 8 = z := by omega
  rw [e1, e2] at h1
  rw [e3, e4] at h2
  omega
theorem and_mask (m : Nat) (hm : m < 256) : ∀ (bs : List Nat), (∀ b ∈ bs, b < 256) → val8 bs &&& val8 (List.replicate bs.length m) = val8 (bs.map (· &&& m))
  | [], _ => by simp [val8]
  | b :: bs, h => by
    show (b + 256 * val8 bs) &&& (m + 256 * val8 (List.replicate bs.length m)) = (b &&& m) + 256 * val8 (bs.map (· &&& m))
    rw [and_step b m _ _ (h b (.head _)) hm, and_mask m hm bs fun x hx => h x (.tail _ hx)]
/-- A shift to the right by so many bits, under a mask that sees no other byte's bits. -/
theorem shr_mask (m q : Nat) (hm : m < 256) (hq : q = 2 ∨ q = 4 ∨ q = 16) (hk : ∀ b, b < 256 → ∀ t, t < 256 → (b / q + 256 / q * (t % q)) &&& m = (b / q) &&& m) : ∀ (bs : List Nat), (∀ b ∈ bs, b < 256) →
    (val8 bs / q) &&& val8 (List.replicate bs.length m) = val8 (bs.map fun b => (b / q) &&& m)
  | [], _ => by simp [val8]
  | b :: bs, h => by
    have hb := h b (.head _)
    have ih := shr_mask m q hm hq hk bs fun x hx => h x (.tail _ hx)
    show ((b + 256 * val8 bs) / q) &&& (m + 256 * val8 (List.replicate bs.length m)) = ((b / q) &&& m) + 256 * val8 (bs.map fun b => (b / q) &&& m)
    have e : (b + 256 * val8 bs) / q = (b / q + 256 / q * (val8 bs % q)) + 256 * (val8 bs / q) := by
      rcases hq with rfl | rfl | rfl <;> omega
    have hlt : b / q + 256 / q * (val8 bs % q) < 256 := by rcases hq with rfl | rfl | rfl <;> omega
    rw [e, and_step _ m _ _ hlt hm, ih]
    have := hk b hb (val8 bs % q) (by rcases hq with rfl | rfl | rfl <;> omega)
    have e2 : val8 bs % q % q = val8 bs % q := Nat.mod_mod _ _
    rw [e2] at this
    rw [this]
theorem val_add (f g : Nat → Nat) : ∀ bs : List Nat, val8 (bs.map f) + val8 (bs.map g) = val8 (bs.map fun b => f b + g b)
  | [] => rfl
  | b :: bs => by
    have := val_add f g bs
    simp only [List.map_cons, val8]
    omega
def s1 (b : Nat) : Nat := ((b / 2) &&& 85) + (b &&& 85)
def s2 (b : Nat) : Nat := ((b / 4) &&& 51) + (b &&& 51)
def s3 (b : Nat) : Nat := (b / 16 + b) &&& 15
def pop (x : Nat) : Nat := Lib.popAux 64 x
theorem s1_lt : ∀ b, b < 256 → s1 b < 256 := by decide +kernel
theorem s2_lt : ∀ b, b < 256 → s2 (s1 b) < 256 := by decide +kernel
theorem s3_pop : ∀ b, b < 256 → s3 (s2 (s1 b)) = Lib.popAux 8 b ∧ Lib.popAux 8 b ≤ 8 := by decide +kernel
theorem s2_nib : ∀ b, b < 256 → s2 (s1 b) / 16 ≤ 4 ∧ s2 (s1 b) % 16 ≤ 4 := by decide +kernel
theorem k1 : ∀ b, b < 256 → ∀ t, t < 256 → (b / 2 + 256 / 2 * (t % 2)) &&& 85 = (b / 2) &&& 85 := by
  have h : ∀ b, b < 256 → ∀ t, t < 2 → (b / 2 + 256 / 2 * t) &&& 85 = (b / 2) &&& 85 := by decide +kernel
  intro b hb t _
  exact h b hb _ (by omega)
theorem k2 : ∀ b, b < 256 → ∀ t, t < 256 → (b / 4 + 256 / 4 * (t % 4)) &&& 51 = (b / 4) &&& 51 := by
  have h : ∀ b, b < 256 → ∀ t, t < 4 → (b / 4 + 256 / 4 * t) &&& 51 = (b / 4) &&& 51 := by decide +kernel
  intro b hb t _
  exact h b hb _ (by omega)
/-- The third step: nibbles that are 4 at most. -/
theorem step3 : ∀ (bs : List Nat), (∀ b ∈ bs, b / 16 ≤ 4 ∧ b % 16 ≤ 4) → (val8 bs / 16 + val8 bs) &&& val8 (List.replicate bs.length 15) = val8 (bs.map s3)
  | [], _ => by simp [val8]
  | b :: bs, h => by
    have hb := h b (.head _)
    have ih := step3 bs fun x hx => h x (.tail _ hx)
    have hv : val8 bs % 16 ≤ 4 := by
      cases bs with
      | nil => simp [val8]
      | cons c cs =>
        have := (h c (.tail _ (.head _))).2
        show (c + 256 * val8 cs) % 16 ≤ 4
        omega
    show ((b + 256 * val8 bs) / 16 + (b + 256 * val8 bs)) &&& (15 + 256 * val8 (List.replicate bs.length 15)) = s3 b + 256 * val8 (bs.map s3)
    have e : (b + 256 * val8 bs) / 16 + (b + 256 * val8 bs) = ((b / 16 + b) + 16 * (val8 bs % 16)) + 256 * (val8 bs / 16 + val8 bs) := by omega
    have hl : (b / 16 + b) + 16 * (val8 bs % 16) < 256 := by omega
    rw [e, and_step _ 15 _ _ hl (by decide), ih]
    have : (b / 16 + b + 16 * (val8 bs % 16)) &&& 15 = s3 b := by
      unfold s3
      rw [show (15 : Nat) = 2 ^ 4 - 1 by rfl, Nat.and_two_pow_sub_one_eq_mod, Nat.and_two_pow_sub_one_eq_mod]
      omega
    rw [this]
theorem pop_succ (f x : Nat) : Lib.popAux (f + 1) x = x % 2 + Lib.popAux f (x / 2) := rfl
theorem pop_add (f g : Nat) : ∀ x, Lib.popAux (f + g) x = Lib.popAux f x + Lib.popAux g (x / 2 ^ f) := by
  induction f with
  | zero => intro x; simp [Lib.popAux]
  | succ f ih =>
    intro x
    rw [show f + 1 + g = (f + g) + 1 by omega, pop_succ, pop_succ, ih (x / 2), Nat.div_div_eq_div_mul, show 2 * 2 ^ f = 2 ^ (f + 1) by rw [Nat.pow_succ]; omega, Nat.add_assoc]
def sumL (l : List Nat) : Nat := l.foldr (· + ·) 0
theorem pop_dig : ∀ (n x : Nat), Lib.popAux (8 * n) x = sumL ((dig8 n x).map (Lib.popAux 8))
  | 0, x => rfl
  | n + 1, x => by
    rw [show 8 * (n + 1) = 8 + 8 * n by omega, pop_add]
    unfold dig8
    rw [List.map_cons]
    show _ = Lib.popAux 8 (x % 256) + sumL _
    rw [← pop_dig n (x / 256)]
    have : Lib.popAux 8 x = Lib.popAux 8 (x % 256) := by
      have h : ∀ k, k ≤ 8 → ∀ y, Lib.popAux k y = Lib.popAux k (y % 2 ^ k) := by
        intro k
        induction k with
        | zero => intro _ y; rfl
        | succ k ih =>
          intro hk y
          unfold Lib.popAux
          rw [ih (by omega) (y / 2), ih (by omega) (y % 2 ^ (k + 1) / 2)]
          have e1 : y % 2 ^ (k + 1) % 2 = y % 2 := Nat.mod_mod_of_dvd _ ⟨2 ^ k, by rw [Nat.pow_succ]; omega⟩
          have e2 : y % 2 ^ (k + 1) / 2 = y / 2 % 2 ^ k := by rw [Nat.pow_succ, Nat.mod_mul_left_div_self]
          rw [e1, e2, Nat.mod_mod]
      exact h 8 (by omega) x
    rw [← this]
theorem val_div {a : Nat} {l : List Nat} (h : a < 256) : val8 (a :: l) / 256 = val8 l := by
  show (a + 256 * val8 l) / 256 = val8 l
  omega
theorem val_mod (a : Nat) (l : List Nat) : val8 (a :: l) % 128 = a % 128 := by
  show (a + 256 * val8 l) % 128 = a % 128
  omega
def addL : List Nat → List Nat → List Nat
  | [], m => m
  | l, [] => l
  | a :: l, b :: m => (a + b) :: addL l m
theorem val_addL : ∀ l m : List Nat, val8 l + val8 m = val8 (addL l m)
  | [], m => by simp [val8, addL]
  | a :: l, [] => by simp [val8, addL]
  | a :: l, b :: m => by
    have := val_addL l m
    show (a + 256 * val8 l) + (b + 256 * val8 m) = (a + b) + 256 * val8 (addL l m)
    omega
/-- What math/bits.OnesCount64 computes. -/
def onesOf (x : Nat) : Nat :=
  let x := ((x / 2) &&& 6148914691236517205) + (x &&& 6148914691236517205)
  let x := ((x / 4) &&& 3689348814741910323) + (x &&& 3689348814741910323)
  let x := (x / 16 + x) &&& 1085102592571150095
  let x := x + x / 256
  let x := x + x / 65536
  let x := x + x / 4294967296
  x &&& 127
set_option maxHeartbeats 1000000 in
theorem ones_pop (x : Nat) (hx : x < 2 ^ 64) : onesOf x = pop x ∧ pop x ≤ 64 := by
  have hv : val8 (dig8 8 x) = x := val_dig 8 x (by rw [show (256 : Nat) ^ 8 = 2 ^ 64 by rfl]; exact hx)
  have hl : (dig8 8 x).length = 8 := rfl
  have hlt := dig_lt 8 x
  have hpop : pop x = sumL ((dig8 8 x).map (Lib.popAux 8)) := pop_dig 8 x
  generalize dig8 8 x = D at hv hl hlt hpop
  have m1 : (6148914691236517205 : Nat) = val8 (List.replicate 8 85) := by decide
  have m2 : (3689348814741910323 : Nat) = val8 (List.replicate 8 51) := by decide
  have m3 : (1085102592571150095 : Nat) = val8 (List.replicate 8 15) := by decide
  have e1 : ((x / 2) &&& 6148914691236517205) + (x &&& 6148914691236517205) = val8 (D.map s1) := by
    rw [m1, ← hv, ← hl, shr_mask 85 2 (by decide) (.inl rfl) k1 D hlt, and_mask 85 (by decide) D hlt, val_add]
    rfl
  have hlt1 : ∀ b ∈ D.map s1, b < 256 := fun b hb => by obtain ⟨c, hc, rfl⟩ := List.mem_map.1 hb; exact s1_lt c (hlt c hc)
  have e2 : ((val8 (D.map s1) / 4) &&& 3689348814741910323) + (val8 (D.map s1) &&& 3689348814741910323) = val8 ((D.map s1).map s2) := by
    rw [m2, ← hl, ← List.length_map (f := s1), shr_mask 51 4 (by decide) (.inr (.inl rfl)) k2 _ hlt1, and_mask 51 (by decide) _ hlt1, val_add]
    rfl
  have hnib : ∀ b ∈ (D.map s1).map s2, b / 16 ≤ 4 ∧ b % 16 ≤ 4 := fun b hb => by
    obtain ⟨c, hc, rfl⟩ := List.mem_map.1 hb
    obtain ⟨d, hd, rfl⟩ := List.mem_map.1 hc
    exact s2_nib d (hlt d hd)
  have hl3 : ((D.map s1).map s2).length = 8 := by rw [List.length_map, List.length_map, hl]
  have m3' : (1085102592571150095 : Nat) = val8 (List.replicate ((D.map s1).map s2).length 15) := by rw [hl3]; exact m3
  have hm3 : ((D.map s1).map s2).map s3 = D.map (Lib.popAux 8) := by
    rw [List.map_map, List.map_map]
    exact List.map_congr_left fun b hb => (s3_pop b (hlt b hb)).1
  have e3 : (val8 ((D.map s1).map s2) / 16 + val8 ((D.map s1).map s2)) &&& 1085102592571150095 = val8 (D.map (Lib.popAux 8)) := by
    rw [m3', step3 _ hnib, hm3]
  have h8 : ∀ c ∈ D.map (Lib.popAux 8), c ≤ 8 := fun c hc => by obtain ⟨b, hb, rfl⟩ := List.mem_map.1 hc; exact (s3_pop b (hlt b hb)).2
  have hl2 : (D.map (Lib.popAux 8)).length = 8 := by rw [List.length_map, hl]
  unfold onesOf
  simp only [e1, e2, e3]
  rw [hpop]
  generalize D.map (Lib.popAux 8) = C at h8 hl2
  clear e1 e2 e3 hnib hlt1 hpop hlt hl hv m1 m2 m3 m3' hm3 hl3
  match C, hl2 with
  | [c0, c1, c2, c3, c4, c5, c6, c7], _ =>
    have b0 := h8 c0 (by simp)
    have b1 := h8 c1 (by simp)
    have b2 := h8 c2 (by simp)
    have b3 := h8 c3 (by simp)
    have b4 := h8 c4 (by simp)
    have b5 := h8 c5 (by simp)
    have b6 := h8 c6 (by simp)
    have b7 := h8 c7 (by simp)
    have es : sumL [c0, c1, c2, c3, c4, c5, c6, c7] = c0 + (c1 + (c2 + (c3 + (c4 + (c5 + (c6 + (c7 + 0))))))) := rfl
    have q1 : val8 [c0, c1, c2, c3, c4, c5, c6, c7] / 256 = val8 [c1, c2, c3, c4, c5, c6, c7] := val_div (by omega)
    have e1 : val8 [c0, c1, c2, c3, c4, c5, c6, c7] + val8 [c1, c2, c3, c4, c5, c6, c7] = val8 [c0 + c1, c1 + c2, c2 + c3, c3 + c4, c4 + c5, c5 + c6, c6 + c7, c7] := val_addL _ _
    have q2 : val8 [c0 + c1, c1 + c2, c2 + c3, c3 + c4, c4 + c5, c5 + c6, c6 + c7, c7] / 65536 = val8 [c2 + c3, c3 + c4, c4 + c5, c5 + c6, c6 + c7, c7] := by
      rw [show (65536 : Nat) = 256 * 256 by rfl, ← Nat.div_div_eq_div_mul, val_div (by omega), val_div (by omega)]
    have e2 : val8 [c0 + c1, c1 + c2, c2 + c3, c3 + c4, c4 + c5, c5 + c6, c6 + c7, c7] + val8 [c2 + c3, c3 + c4, c4 + c5, c5 + c6, c6 + c7, c7] =
        val8 [c0 + c1 + (c2 + c3), c1 + c2 + (c3 + c4), c2 + c3 + (c4 + c5), c3 + c4 + (c5 + c6), c4 + c5 + (c6 + c7), c5 + c6 + c7, c6 + c7, c7] := val_addL _ _
    have q3 : val8 [c0 + c1 + (c2 + c3), c1 + c2 + (c3 + c4), c2 + c3 + (c4 + c5), c3 + c4 + (c5 + c6), c4 + c5 + (c6 + c7), c5 + c6 + c7, c6 + c7, c7] / 4294967296 = val8 [c4 + c5 + (c6 + c7), c5 + c6 + c7, c6 + c7, c7] := by
      rw [show (4294967296 : Nat) = 256 * (256 * (256 * 256)) by rfl, ← Nat.div_div_eq_div_mul, ← Nat.div_div_eq_div_mul, ← Nat.div_div_eq_div_mul, val_div (by omega), val_div (by omega), val_div (by omega), val_div (by omega)]
    have l1 : val8 [c0 + c1 + (c2 + c3), c1 + c2 + (c3 + c4), c2 + c3 + (c4 + c5), c3 + c4 + (c5 + c6), c4 + c5 + (c6 + c7), c5 + c6 + c7, c6 + c7, c7] % 128 = (c0 + c1 + (c2 + c3)) % 128 := val_mod _ _
    have l2 : val8 [c4 + c5 + (c6 + c7), c5 + c6 + c7, c6 + c7, c7] % 128 = (c4 + c5 + (c6 + c7)) % 128 := val_mod _ _
    rw [es, q1, e1, q2, e2, q3, show (127 : Nat) = 2 ^ 7 - 1 by rfl, Nat.and_two_pow_sub_one_eq_mod, show (2 : Nat) ^ 7 = 128 by rfl, Nat.add_mod, l1, l2]
    omega
end Go.Proofs.YtclgakdfeeefiaaDoor
