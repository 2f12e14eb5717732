/- The desk's laws: lists gone through in order; masks' bits. -/
import Derived.Test.YtdccocgdgcjfcaaDesk8
namespace Go.Proofs.Ytdccocgdgcjfcaa
open Go.RowKit

theorem and15 : ∀ k < 16, bits .and .i64 ((k : Nat) : Int) 15 = (k : Int) := by decide
theorem bits_and_one16 {x : Int} (h0 : 0 ≤ x) (h1 : x < 65536) : bits .and .u16 x 1 = x % 2 := by
  obtain ⟨n, rfl⟩ : ∃ n : Nat, x = n := ⟨x.toNat, by omega⟩
  show IntKind.u16.wrap ((BitVec.ofInt 16 (n : Int) &&& BitVec.ofInt 16 1).toNat : Int) = _
  have h2 : (BitVec.ofInt 16 (n : Int) &&& BitVec.ofInt 16 1).toNat = n % 2 := by
    rw [BitVec.toNat_and, BitVec.ofInt_natCast, BitVec.toNat_ofNat]
    show n % 2 ^ 16 &&& 1 = _
    rw [Nat.and_one_is_mod]
    omega
  rw [h2, IntKind.wrap_u16]
  omega
theorem has_shift16 {s : Int} (h : 0 ≤ s ∧ s ≤ 65535) (K : Nat) : (bits .and .u16 (s / 2 ^ K) 1 == 0) = !has s K := by
  obtain ⟨S, rfl⟩ : ∃ S : Nat, s = S := ⟨s.toNat, by omega⟩
  have e : ((2 : Int) ^ K) = ((2 ^ K : Nat) : Int) := by simp
  have h1 : (1 : Int) ≤ ((2 ^ K : Nat) : Int) := by have := Nat.one_le_two_pow (n := K); omega
  have n0 : 0 ≤ (S : Int) / ((2 ^ K : Nat) : Int) := Int.ediv_nonneg (by omega) (by omega)
  have n1 : (S : Int) / ((2 ^ K : Nat) : Int) ≤ (S : Int) := Int.ediv_le_self _ (by omega)
  rw [has_div, e, bits_and_one16 n0 (by omega)]
  generalize (S : Int) / ((2 ^ K : Nat) : Int) = q
  have h : q % 2 = 0 ∨ q % 2 = 1 := by omega
  rcases h with h | h <;> rw [h] <;> rfl

theorem thoseAux_append (g : Ent → Bool) : ∀ (a b : List Ent) (k : Nat), thoseAux g (a ++ b) k = thoseAux g a k ++ thoseAux g b (k + a.length)
  | [], b, k => rfl
  | e :: a, b, k => by
    simp only [List.cons_append, thoseAux, thoseAux_append g a b (k + 1), List.append_assoc, List.length_cons]
    rw [show k + 1 + a.length = k + (a.length + 1) by omega]
/-- so many among the first t -/
def cntOf (g : Ent → Bool) (es : List Ent) (t : Nat) : Nat := (thoseOf g (es.take t)).length
theorem those_split (g : Ent → Bool) (es : List Ent) (t : Nat) (ht : t ≤ es.length) : thoseOf g es = thoseOf g (es.take t) ++ thoseAux g (es.drop t) t := by
  conv => lhs; rw [← List.take_append_drop t es]
  unfold thoseOf
  rw [thoseAux_append, Nat.zero_add, List.length_take, Nat.min_eq_left ht]
theorem cnt_zero (g : Ent → Bool) (es : List Ent) : cntOf g es 0 = 0 := rfl
theorem cnt_all (g : Ent → Bool) (es : List Ent) : cntOf g es es.length = (thoseOf g es).length := by unfold cntOf; rw [List.take_length]
theorem cnt_le (g : Ent → Bool) (es : List Ent) (t : Nat) (ht : t ≤ es.length) : cntOf g es t ≤ (thoseOf g es).length := by
  rw [those_split g es t ht, List.length_append]; exact Nat.le_add_right _ _
theorem take_snoc (es : List Ent) (t : Nat) (ht : t < es.length) : es.take (t + 1) = es.take t ++ [es[t]] := by
  rw [List.take_add_one, List.getElem?_eq_getElem ht]; rfl
theorem cnt_no (g : Ent → Bool) (es : List Ent) (t : Nat) (ht : t < es.length) (hg : g es[t] = false) : cntOf g es (t + 1) = cntOf g es t := by
  unfold cntOf; rw [take_snoc es t ht, thoseOf_snoc, hg]; simp
theorem cnt_yes (g : Ent → Bool) (es : List Ent) (t : Nat) (ht : t < es.length) (hg : g es[t] = true) : cntOf g es (t + 1) = cntOf g es t + 1 ∧ cntOf g es t < (thoseOf g es).length ∧ (thoseOf g es).getD (cntOf g es t) 0 = ((t + 1 : Nat) : Int) := by
  have h1 : cntOf g es (t + 1) = cntOf g es t + 1 := by unfold cntOf; rw [take_snoc es t ht, thoseOf_snoc, hg]; simp
  have h2 := cnt_le g es (t + 1) ht
  refine ⟨h1, by omega, ?_⟩
  rw [those_split g es t (by omega), List.drop_eq_getElem_cons ht]
  unfold cntOf
  rw [List.getD_eq_getElem?_getD, List.getElem?_append_right (Nat.le_refl _), Nat.sub_self]
  simp [thoseAux, hg]
end Go.Proofs.Ytdccocgdgcjfcaa
