/- Records as bytes: plain. -/
import Derived.Test.YtgpedejeifmfdaaGreatPkP
import Derived.Test.YtgpedejeifmfdaaGreatPkZ
namespace Go.Proofs.YtgpedejeifmfdaaGreat
open Go.RowKit

/-- A record: its kind, transaction, mask, key, the value that was there and the one that is. -/
structure Rc where
  kind : Int
  tx : Int
  mask : Int
  k0 : Int
  k1 : Int
  k2 : Int
  k3 : Int
  ot : Bool
  o : Int
  nt : Bool
  n : Int
def noRc : Rc := ⟨0, 0, 0, 0, 0, 0, 0, false, 0, false, 0⟩
def Rc.numbers (r : Rc) : List Int := [r.kind, r.tx, r.mask, r.k0, r.k1, r.k2, r.k3, r.o, r.n]
theorem Rc.ext_iff {a b : Rc} : (a.numbers = b.numbers ∧ a.ot = b.ot ∧ a.nt = b.nt) ↔ a = b := ⟨fun h => by cases a; cases b; simp only [Rc.numbers, List.cons.injEq] at h; obtain ⟨⟨rfl, rfl, rfl, rfl, rfl, rfl, rfl, rfl, rfl, -⟩, rfl, rfl⟩ := h; rfl, fun h => by rw [h]; exact ⟨rfl, rfl, rfl⟩⟩
instance : DecidableEq Rc := fun _ _ => decidable_of_iff _ Rc.ext_iff
def Rc.ok (r : Rc) : Prop := (-9223372036854775808 ≤ r.kind ∧ r.kind ≤ 9223372036854775807) ∧ (-9223372036854775808 ≤ r.tx ∧ r.tx ≤ 9223372036854775807) ∧ (0 ≤ r.mask ∧ r.mask ≤ 65535) ∧ (0 ≤ r.k0 ∧ r.k0 ≤ 255) ∧ (0 ≤ r.k1 ∧ r.k1 ≤ 255) ∧ (0 ≤ r.k2 ∧ r.k2 ≤ 255) ∧ (0 ≤ r.k3 ∧ r.k3 ≤ 255) ∧ (-9223372036854775808 ≤ r.o ∧ r.o ≤ 9223372036854775807) ∧ (-9223372036854775808 ≤ r.n ∧ r.n ≤ 9223372036854775807)
/-- What of a record its kind has. -/
def partRc (r : Rc) : Rc :=
  if r.kind = 1 then ⟨r.kind, r.tx, 0, r.k0, r.k1, r.k2, r.k3, r.ot, r.o, r.nt, r.n⟩
  else if r.kind = 2 then ⟨r.kind, r.tx, r.mask, 0, 0, 0, 0, false, 0, false, 0⟩
  else if r.kind = 7 then ⟨r.kind, 0, 0, r.k0, r.k1, r.k2, r.k3, false, 0, r.nt, r.n⟩
  else if r.kind = 8 then ⟨r.kind, 0, r.mask, 0, 0, 0, 0, false, 0, false, 0⟩
  else ⟨r.kind, r.tx, 0, 0, 0, 0, 0, false, 0, false, 0⟩
def numRc (r : Rc) : Prop := 1 ≤ r.tx ∧ r.tx ≤ 1048576
def valOk (there : Bool) (n : Int) : Prop := there = true ∨ n = 0
/-- A right record. -/
def RightRc (r : Rc) : Prop := (1 ≤ r.kind ∧ r.kind ≤ 8) ∧ partRc r = r ∧
  (if r.kind = 1 then numRc r ∧ valOk r.ot r.o ∧ valOk r.nt r.n else if r.kind = 2 then numRc r ∧ r.mask ≠ 0 else if r.kind = 7 then r.nt = true else if r.kind = 8 then r.mask ≤ 64 else numRc r)
instance (r : Rc) : Decidable (numRc r) := inferInstanceAs (Decidable (_ ∧ _))
instance (t : Bool) (n : Int) : Decidable (valOk t n) := inferInstanceAs (Decidable (_ ∨ _))
instance (r : Rc) : Decidable (RightRc r) := inferInstanceAs (Decidable (_ ∧ _ ∧ _))
def rightRc (r : Rc) : Bool := decide (RightRc r)
/-- How many bytes a number has, as few as can be, one at least. -/
def nbF : Nat → Nat → Nat
  | 0, _ => 1
  | f + 1, u => if u < 256 then 1 else nbF f (u / 256) + 1
def nb (u : Nat) : Nat := nbF 7 u
theorem nbF_pos : ∀ (f u : Nat), 1 ≤ nbF f u
  | 0, _ => Nat.le_refl _
  | f + 1, u => by unfold nbF; split <;> omega
theorem nbF_le : ∀ (f u : Nat), nbF f u ≤ f + 1
  | 0, _ => Nat.le_refl _
  | f + 1, u => by unfold nbF; have := nbF_le f (u / 256); split <;> omega
theorem nbF_lt : ∀ (f u : Nat), u < 256 ^ (f + 1) → u < 256 ^ nbF f u
  | 0, u, h => h
  | f + 1, u, h => by
    unfold nbF
    split
    · omega
    · have := nbF_lt f (u / 256) (by rw [Nat.pow_succ] at h; exact Nat.div_lt_of_lt_mul (by omega))
      rw [Nat.pow_succ]
      omega
theorem nbF_ge : ∀ (f u k : Nat), 1 ≤ k → k < nbF f u → 256 ^ k ≤ u
  | 0, u, k, h1, h => by simp only [nbF] at h; omega
  | f + 1, u, k, h1, h => by
    unfold nbF at h
    split at h
    · omega
    · rename_i hu
      by_cases hk : k = 1
      · subst hk; omega
      · have := nbF_ge f (u / 256) (k - 1) (by omega) (by omega)
        have e : 256 ^ k = 256 * 256 ^ (k - 1) := by rw [show k = (k - 1) + 1 by omega, Nat.pow_succ, Nat.mul_comm]; rfl
        rw [e]
        have := Nat.div_mul_le_self u 256
        omega
theorem nb_pos (u : Nat) : 1 ≤ nb u := nbF_pos 7 u
theorem nb_le (u : Nat) : nb u ≤ 8 := nbF_le 7 u
theorem nb_lt {u : Nat} (h : u < 18446744073709551616) : u < 256 ^ nb u := nbF_lt 7 u (by simpa using h)
def zigN (n : Int) : Nat := (zigS n).toNat
theorem zigN_lt {n : Int} (h0 : -9223372036854775808 ≤ n) (h1 : n ≤ 9223372036854775807) : zigN n < 18446744073709551616 := by unfold zigN zigS; split <;> omega
theorem zigN_eq (n : Int) : ((zigN n : Nat) : Int) = zigS n := by unfold zigN zigS; split <;> omega
/-- A value's bytes. -/
def smallS (there : Bool) (n : Int) : List Int := if there = true then bytesZ (nb (zigN n)) (zigN n) else []
theorem small_len (t : Bool) (n : Int) : (smallS t n).length ≤ 8 := by
  unfold smallS
  split
  · rw [bytes_len]; exact nb_le _
  · simp
def bitN (b : Bool) : Nat := if b = true then 1 else 0
def flagsS (r : Rc) : Nat := bitN r.ot + 2 * bitN r.nt + 4 * ((smallS r.ot r.o).length - 1) + 32 * ((smallS r.nt r.n).length - 1)
def maskedK (k : Int) : Prop := k = 2 ∨ k = 8
def keyedK (k : Int) : Prop := k = 1 ∨ k = 7
instance (k : Int) : Decidable (maskedK k) := inferInstanceAs (Decidable (_ ∨ _))
instance (k : Int) : Decidable (keyedK k) := inferInstanceAs (Decidable (_ ∨ _))
def headS (r : Rc) : List Int := bytesZ 3 (r.kind - 1 + 8 * r.tx).toNat
def bodyS (r : Rc) : List Int := if maskedK r.kind then bytesZ 2 r.mask.toNat else if keyedK r.kind then [r.k0, r.k1, r.k2, r.k3, (flagsS r : Int)] ++ smallS r.ot r.o ++ smallS r.nt r.n else []
/-- A record's bytes. -/
def enc (r : Rc) : List Int := headS r ++ bodyS r
def rvalAt (b : List Int) (k : Nat) : Int := if k = 0 then 0 else zagS (fromZ (b.take k) : Nat)
/-- What may be a record at the beginning of bytes, and how many it has; none: there are too few. -/
def parse (b : List Int) : Option (Rc × Nat) :=
  if b.length < 3 then none else
  let w := fromZ (b.take 3)
  let kind : Int := ((w % 8 : Nat) : Int) + 1
  let tx : Int := ((w / 8 : Nat) : Int)
  if maskedK kind then (if b.length < 5 then none else some (⟨kind, tx, (fromZ ((b.drop 3).take 2) : Nat), 0, 0, 0, 0, false, 0, false, 0⟩, 5))
  else if keyedK kind then
    if b.length < 8 then none else
    let f := (b.getD 7 0).toNat
    let la := if f % 2 = 1 then f / 4 % 8 + 1 else 0
    let lb := if f / 2 % 2 = 1 then f / 32 + 1 else 0
    if b.length < 8 + la + lb then none else
    some (⟨kind, tx, 0, b.getD 3 0, b.getD 4 0, b.getD 5 0, b.getD 6 0, decide (f % 2 = 1), rvalAt (b.drop 8) la, decide (f / 2 % 2 = 1), rvalAt (b.drop (8 + la)) lb⟩, 8 + la + lb)
  else some (⟨kind, tx, 0, 0, 0, 0, 0, false, 0, false, 0⟩, 3)
/-- The record at the beginning of bytes, and how many it has; 0: there is none. -/
def dec (b : List Int) : Rc × Nat := match parse b with
  | some (r, n) => if rightRc r = true ∧ enc r = b.take n then (r, n) else (noRc, 0)
  | none => (noRc, 0)
theorem small_pos (n : Int) : 1 ≤ (smallS true n).length := by unfold smallS; rw [if_pos rfl, bytes_len]; exact nb_pos _
theorem flags_parts (r : Rc) : flagsS r < 256 ∧ (flagsS r % 2 = 1 ↔ r.ot = true) ∧ (flagsS r / 2 % 2 = 1 ↔ r.nt = true) ∧ (if flagsS r % 2 = 1 then flagsS r / 4 % 8 + 1 else 0) = (smallS r.ot r.o).length ∧ (if flagsS r / 2 % 2 = 1 then flagsS r / 32 + 1 else 0) = (smallS r.nt r.n).length := by
  have ha := small_len r.ot r.o
  have hb := small_len r.nt r.n
  have pa := small_pos r.o
  have pb := small_pos r.n
  have ea : smallS false r.o = [] := rfl
  have eb : smallS false r.n = [] := rfl
  unfold flagsS bitN
  cases h1 : r.ot <;> cases h2 : r.nt <;> rw [h1] at ha <;> rw [h2] at hb <;> simp only [ea, eb, List.length_nil, if_true, Bool.false_eq_true, if_false] at * <;> refine ⟨by omega, ⟨fun h => by first | rfl | omega, fun h => by first | omega | cases h⟩, ⟨fun h => by first | rfl | omega, fun h => by first | omega | cases h⟩, ?_, ?_⟩ <;> split <;> omega
theorem head_lt {r : Rc} (h : RightRc r) : (r.kind - 1 + 8 * r.tx).toNat < 256 ^ 3 ∧ 0 ≤ r.tx ∧ r.tx ≤ 1048576 := by
  obtain ⟨hk, hp, hr⟩ := h
  have ht : 0 ≤ r.tx ∧ r.tx ≤ 1048576 := by
    by_cases h1 : r.kind = 1
    · rw [if_pos h1] at hr; have := hr.1; unfold numRc at this; omega
    rw [if_neg h1] at hr
    by_cases h2 : r.kind = 2
    · rw [if_pos h2] at hr; have := hr.1; unfold numRc at this; omega
    rw [if_neg h2] at hr
    by_cases h7 : r.kind = 7
    · unfold partRc at hp; rw [if_neg h1, if_neg h2, if_pos h7] at hp; have : r.tx = 0 := by rw [← hp]
      omega
    rw [if_neg h7] at hr
    by_cases h8 : r.kind = 8
    · unfold partRc at hp; rw [if_neg h1, if_neg h2, if_neg h7, if_pos h8] at hp; have : r.tx = 0 := by rw [← hp]
      omega
    rw [if_neg h8] at hr; unfold numRc at hr; omega
  refine ⟨?_, ht⟩
  omega
theorem enc_len (r : Rc) : (enc r).length = 3 + (bodyS r).length := by unfold enc headS; rw [List.length_append, bytes_len]
theorem dec_some {b : List Int} (h : (dec b).2 ≠ 0) : RightRc (dec b).1 ∧ enc (dec b).1 = b.take (dec b).2 ∧ (dec b).2 = (enc (dec b).1).length ∧ b = enc (dec b).1 ++ b.drop (dec b).2 := by
  unfold dec at h ⊢
  cases hp : parse b with
  | none => rw [hp] at h; exact absurd rfl h
  | some x =>
    obtain ⟨r, n⟩ := x
    simp only [hp] at h ⊢
    by_cases hc : rightRc r = true ∧ enc r = b.take n
    · rw [if_pos hc] at h ⊢
      have hn : n ≤ b.length := by
        unfold parse at hp
        simp only at hp
        (repeat' split at hp) <;> first | cases hp; done | (cases hp; omega)
      refine ⟨of_decide_eq_true hc.1, hc.2, ?_, ?_⟩
      · show n = _
        rw [hc.2, List.length_take]; omega
      · show b = enc r ++ b.drop n
        rw [hc.2, List.take_append_drop]
    · rw [if_neg hc] at h; exact absurd rfl h
theorem dec_le (b : List Int) : (dec b).2 ≤ b.length := by
  by_cases h : (dec b).2 = 0
  · omega
  · obtain ⟨-, -, h3, h4⟩ := dec_some h
    have := congrArg List.length h4
    rw [List.length_append] at this
    omega
/-- All records of bytes, and how many bytes they have. -/
def allF : Nat → List Int → List Rc × Nat
  | 0, _ => ([], 0)
  | f + 1, b => if (dec b).2 = 0 then ([], 0) else ((dec b).1 :: (allF f (b.drop (dec b).2)).1, (dec b).2 + (allF f (b.drop (dec b).2)).2)
def allR (b : List Int) : List Rc × Nat := allF (b.length + 1) b
theorem allF_fuel : ∀ (f g : Nat) (b : List Int), b.length < f → b.length < g → allF f b = allF g b
  | 0, _, b, h, _ => by omega
  | _, 0, b, _, h => by omega
  | f + 1, g + 1, b, h1, h2 => by
    unfold allF
    by_cases h : (dec b).2 = 0
    · rw [if_pos h, if_pos h]
    · have := dec_le b
      rw [if_neg h, if_neg h, allF_fuel f g (b.drop (dec b).2) (by rw [List.length_drop]; omega) (by rw [List.length_drop]; omega)]
theorem all_none {b : List Int} (h : (dec b).2 = 0) : allR b = ([], 0) := by unfold allR allF; rw [if_pos h]
theorem all_more {b : List Int} (h : (dec b).2 ≠ 0) : allR b = ((dec b).1 :: (allR (b.drop (dec b).2)).1, (dec b).2 + (allR (b.drop (dec b).2)).2) := by
  have := dec_le b
  unfold allR
  rw [show allF (b.length + 1) b = _ from rfl]
  conv => lhs; unfold allF
  rw [if_neg h, allF_fuel b.length ((b.drop (dec b).2).length + 1) (b.drop (dec b).2) (by rw [List.length_drop]; omega) (by omega)]
theorem all_le : ∀ (n : Nat) (b : List Int), b.length ≤ n → (allR b).2 ≤ b.length
  | n, b, hn => by
    by_cases h : (dec b).2 = 0
    · rw [all_none h]; exact Nat.zero_le _
    · have hl := dec_le b
      rw [all_more h]
      cases n with
      | zero => omega
      | succ n =>
        have := all_le n (b.drop (dec b).2) (by rw [List.length_drop]; omega)
        rw [List.length_drop] at this
        show (dec b).2 + _ ≤ _
        omega
def encs (l : List Rc) : List Int := l.flatMap enc
theorem encs_cons (r : Rc) (l : List Rc) : encs (r :: l) = enc r ++ encs l := by unfold encs; rw [List.flatMap_cons]
theorem encs_append (a b : List Rc) : encs (a ++ b) = encs a ++ encs b := by unfold encs; rw [List.flatMap_append]
end Go.Proofs.YtgpedejeifmfdaaGreat
