/- Messages as numbers: plain. -/
import Derived.Test.YtdaaphebfhlpmaaNoteM
import Derived.Test.YtdaaphebfhlpmaaPkP
namespace Go.Proofs.Ytdaaphebfhlpmaa
open Go.RowKit

abbrev wid : List Int := [3, 3, 2, 21]
def wordZ (m : Msg) : Int := m.kind + 8 * m.part + 64 * m.what + 256 * m.tx
def wordN (m : Msg) : Nat := (wordZ m).toNat
def ofN (u : Nat) : Msg := (((u % 8 : Nat) : Int), ((u / 8 % 8 : Nat) : Int), ((u / 256 : Nat) : Int), ((u / 64 % 4 : Nat) : Int))
def upOf (m : Msg) : Bool := decide (1 ≤ m.kind ∧ m.kind ≤ 3)

theorem wid_right : rightS wid = true := by decide
theorem right_bounds {m : Msg} (h : rightOf m = true) : 1 ≤ m.kind ∧ m.kind ≤ 5 ∧ 0 ≤ m.part ∧ m.part ≤ 5 ∧ 1 ≤ m.tx ∧ m.tx ≤ 1048576 ∧ 0 ≤ m.what ∧ m.what ≤ 2 := by
  obtain ⟨k, p, t, x⟩ := m
  have := (right_iff k p t x).1 h
  simp only [Msg.kind, Msg.part, Msg.tx, Msg.what]
  omega
theorem wordZ_nat {m : Msg} (h : rightOf m = true) : wordZ m = (wordN m : Nat) ∧ 256 ≤ wordN m ∧ wordN m < 536870912 := by
  have hb := right_bounds h
  unfold wordN wordZ
  omega
theorem note_pack {m : Msg} (h : rightOf m = true) : packS wid [m.kind, m.part, m.what, m.tx] = (wordN m, true) := by
  have hb := right_bounds h
  have ho : okV wid [m.kind, m.part, m.what, m.tx] := fun j hj => by
    have hj : j < 4 := hj
    have : j = 0 ∨ j = 1 ∨ j = 2 ∨ j = 3 := by omega
    rcases this with rfl | rfl | rfl | rfl
    · exact decide_eq_true (show 0 ≤ m.kind ∧ m.kind < 8 by omega)
    · exact decide_eq_true (show 0 ≤ m.part ∧ m.part < 8 by omega)
    · exact decide_eq_true (show 0 ≤ m.what ∧ m.what < 4 by omega)
    · exact decide_eq_true (show 0 ≤ m.tx ∧ m.tx < 2097152 by omega)
  unfold packS
  rw [if_pos ⟨wid_right, rfl, ho⟩]
  congr 1
  show m.kind.toNat + 8 * (m.part.toNat + 8 * (m.what.toNat + 4 * (m.tx.toNat + 2097152 * 0))) = (wordZ m).toNat
  unfold wordZ
  omega
theorem note_rest (u : Nat) : restU wid u = u / 536870912 := by
  show u / 8 / 8 / 4 / 2097152 = _
  rw [Nat.div_div_eq_div_mul, Nat.div_div_eq_div_mul, Nat.div_div_eq_div_mul]
theorem note_out {u : Nat} (h : u < 536870912) : outZ wid u = [(ofN u).kind, (ofN u).part, (ofN u).what, (ofN u).tx] := by
  show [((u % 8 : Nat) : Int), ((u / 8 % 8 : Nat) : Int), ((u / 8 / 8 % 4 : Nat) : Int), ((u / 8 / 8 / 4 % 2097152 : Nat) : Int)] = [((u % 8 : Nat) : Int), ((u / 8 % 8 : Nat) : Int), ((u / 64 % 4 : Nat) : Int), ((u / 256 : Nat) : Int)]
  have e1 : u / 8 / 8 % 4 = u / 64 % 4 := by omega
  have e2 : u / 8 / 8 / 4 % 2097152 = u / 256 := by omega
  rw [e1, e2]
theorem of_word {m : Msg} (h : rightOf m = true) : ofN (wordN m) = m := by
  obtain ⟨k, p, t, x⟩ := m
  have hb := right_bounds h
  have hw := (wordZ_nat h).1
  simp only [Msg.kind, Msg.part, Msg.tx, Msg.what] at hb
  unfold wordZ at hw
  simp only [Msg.kind, Msg.part, Msg.tx, Msg.what] at hw
  generalize wordN (k, p, t, x) = u at hw
  have h1 : ((u % 8 : Nat) : Int) = k := by omega
  have h2 : ((u / 8 % 8 : Nat) : Int) = p := by omega
  have h3 : ((u / 256 : Nat) : Int) = t := by omega
  have h4 : ((u / 64 % 4 : Nat) : Int) = x := by omega
  unfold ofN
  rw [h1, h2, h3, h4]
theorem word_inj {a b : Msg} (ha : rightOf a = true) (hb : rightOf b = true) : wordN a = wordN b ↔ a = b := ⟨fun e => by rw [← of_word ha, e, of_word hb], fun e => by rw [e]⟩
/-- What Word answers. -/
def noteW (m : Msg) : Nat := if rightOf m = true then wordN m else 0
/-- What Of answers. -/
def noteB (u : Nat) : Bool := decide (u < 536870912) && rightOf (ofN u)
def noteO (u : Nat) : Msg := if noteB u = true then ofN u else noMsg
theorem noteO_word {m : Msg} (h : rightOf m = true) : noteB (wordN m) = true ∧ noteO (wordN m) = m := by
  have h1 : noteB (wordN m) = true := by
    unfold noteB
    rw [of_word h, h, Bool.and_true]
    exact decide_eq_true (wordZ_nat h).2.2
  refine ⟨h1, ?_⟩
  unfold noteO
  rw [if_pos h1, of_word h]
/-- What Order answers. -/
def noteC (a b : Msg) : Int := if rightOf a = true ∧ rightOf b = true then (if wordN a < wordN b then -1 else if wordN b < wordN a then 1 else 0) else 0
end Go.Proofs.Ytdaaphebfhlpmaa
