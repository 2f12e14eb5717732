/- Packing and unpacking, bytes and back: plain. -/
import Derived.Test.YtgpedejeifmfdaaPk5
namespace Go.Proofs.Ytgpedejeifmfdaa
open Go.RowKit

theorem u64_nat5 {a : Int} (h : (Lit.int .u64 a).wf = true) : ∃ u : Nat, a = (u : Int) ∧ u < 18446744073709551616 := by
  have := wf_of h
  simp [IntKind.min, IntKind.max, IntKind.signed, IntKind.bits] at this
  exact ⟨a.toNat, by omega, by omega⟩
theorem from_bytes : ∀ (n u : Nat), fromZ (bytesZ n u) = val8 (dig8 n u)
  | 0, _ => rfl
  | n + 1, u => by
    have := from_bytes n (u / 256)
    unfold bytesZ at this ⊢
    show ((u % 256 : Nat) : Int).toNat + 256 * fromZ _ = u % 256 + 256 * val8 (dig8 n (u / 256))
    rw [this, Int.toNat_natCast]
theorem pow8 (n : Nat) : 2 ^ (8 * n) = 256 ^ n := by rw [Nat.pow_mul]
theorem bytes_back {n u : Nat} (h : u / 2 ^ (8 * n) = 0) : fromZ (bytesZ n u) = u ∧ u < 256 ^ n := by
  have hl : u < 256 ^ n := by
    rw [pow8] at h
    have := Nat.pow_pos (n := n) (show 0 < 256 by decide)
    exact (Nat.div_eq_zero_iff_lt this).1 h
  exact ⟨by rw [from_bytes, val_dig n u hl], hl⟩
theorem okV_cons {k v : Int} {ws vs : List Int} (h : okV (k :: ws) (v :: vs)) : fitB k v = true ∧ okV ws vs := by
  refine ⟨h 0 (by simp), fun j hj => ?_⟩
  have := h (j + 1) (by simpa using hj)
  simpa using this
theorem okV_mk {k v : Int} {ws vs : List Int} (h1 : fitB k v = true) (h2 : okV ws vs) : okV (k :: ws) (v :: vs) := fun j hj => by
  cases j with
  | zero => simpa using h1
  | succ j => simpa using h2 j (by simpa using hj)
theorem unpack_pack : ∀ {ws vs : List Int}, vs.length = ws.length → okV ws vs → outZ ws (packV ws vs) = vs ∧ restU ws (packV ws vs) = 0
  | [], [], _, _ => ⟨rfl, rfl⟩
  | [], _ :: _, h, _ => by simp at h
  | _ :: _, [], h, _ => by simp at h
  | k :: ws, v :: vs, h, ho => by
    obtain ⟨h1, h2⟩ := okV_cons ho
    obtain ⟨i1, i2⟩ := unpack_pack (ws := ws) (vs := vs) (by simpa using h) h2
    have hf := of_decide_eq_true h1
    have hlt : v.toNat < 2 ^ k.toNat := by
      have h3 := hf.2
      rw [show (2 : Int) ^ k.toNat = ((2 ^ k.toNat : Nat) : Int) by push_cast; rfl] at h3
      omega
    have hp := Nat.two_pow_pos k.toNat
    have e1 : (v.toNat + 2 ^ k.toNat * packV ws vs) % 2 ^ k.toNat = v.toNat := by rw [Nat.add_mul_mod_self_left, Nat.mod_eq_of_lt hlt]
    have e2 : (v.toNat + 2 ^ k.toNat * packV ws vs) / 2 ^ k.toNat = packV ws vs := by rw [Nat.add_mul_div_left _ _ hp, Nat.div_eq_of_lt hlt, Nat.zero_add]
    constructor
    · show (((v.toNat + 2 ^ k.toNat * packV ws vs) % 2 ^ k.toNat : Nat) : Int) :: outZ ws ((v.toNat + 2 ^ k.toNat * packV ws vs) / 2 ^ k.toNat) = v :: vs
      rw [e1, e2, i1]
      congr 1
      omega
    · show restU ws ((v.toNat + 2 ^ k.toNat * packV ws vs) / 2 ^ k.toNat) = 0
      rw [e2, i2]
theorem pack_unpack : ∀ {ws : List Int} {u : Nat}, okW ws → restU ws u = 0 → packV ws (outZ ws u) = u ∧ okV ws (outZ ws u)
  | [], u, _, h => ⟨Eq.symm h, fun j hj => by cases hj⟩
  | k :: ws, u, hok, h => by
    obtain ⟨i1, i2⟩ := pack_unpack (ws := ws) (u := u / 2 ^ k.toNat) (fun x hx => hok x (.tail _ hx)) h
    have hp := Nat.two_pow_pos k.toNat
    constructor
    · show ((u % 2 ^ k.toNat : Nat) : Int).toNat + 2 ^ k.toNat * packV ws (outZ ws (u / 2 ^ k.toNat)) = u
      rw [i1, Int.toNat_natCast, Nat.mod_add_div]
    · refine okV_mk (decide_eq_true ⟨by omega, ?_⟩) i2
      have := Nat.mod_lt u hp
      rw [show (2 : Int) ^ k.toNat = ((2 ^ k.toNat : Nat) : Int) by push_cast; rfl]
      omega
theorem pack_bound : ∀ {ws vs : List Int}, okW ws → vs.length = ws.length → okV ws vs → packV ws vs < 2 ^ (sumW ws).toNat
  | [], [], _, _, _ => by decide
  | [], _ :: _, _, h, _ => by simp at h
  | _ :: _, [], _, h, _ => by simp at h
  | k :: ws, v :: vs, hw, h, ho => by
    obtain ⟨h1, h2⟩ := okV_cons ho
    have hw2 : okW ws := fun x hx => hw x (.tail _ hx)
    have ih := pack_bound (ws := ws) (vs := vs) hw2 (by simpa using h) h2
    have hf := of_decide_eq_true h1
    have hk := hw k (.head _)
    have hs := sumW_bound hw2
    have hlt : v.toNat < 2 ^ k.toNat := by
      have h3 := hf.2
      rw [show (2 : Int) ^ k.toNat = ((2 ^ k.toNat : Nat) : Int) by push_cast; rfl] at h3
      omega
    show v.toNat + 2 ^ k.toNat * packV ws vs < 2 ^ (k + sumW ws).toNat
    rw [show (k + sumW ws).toNat = k.toNat + (sumW ws).toNat by omega, Nat.pow_add]
    have h5 : 2 ^ k.toNat * (packV ws vs + 1) ≤ 2 ^ k.toNat * 2 ^ (sumW ws).toNat := Nat.mul_le_mul_left _ ih
    rw [Nat.mul_add, Nat.mul_one] at h5
    omega
theorem pack_lt {ws vs : List Int} (hr : rightS ws = true) (h : vs.length = ws.length) (ho : okV ws vs) : packV ws vs < 18446744073709551616 := by
  obtain ⟨h1, h2⟩ := of_decide_eq_true hr
  have hs := sumW_bound h1
  exact Nat.lt_of_lt_of_le (pack_bound h1 h ho) (Nat.pow_le_pow_right (n := 2) (by decide) (show (sumW ws).toNat ≤ 64 by omega))
end Go.Proofs.Ytgpedejeifmfdaa
