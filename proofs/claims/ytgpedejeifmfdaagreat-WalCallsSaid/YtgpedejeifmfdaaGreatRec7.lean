/- rec.Decode; bytes.Equal. -/
import Derived.Test.YtgpedejeifmfdaaGreatRec6
namespace Go.Proofs.YtgpedejeifmfdaaGreat
open Go.RowKit

theorem take_keep {s : Tk} (n : Nat) (h : s.lost = true) : (takeT s n).1.lost = true := by unfold takeT; split <;> simp [h]
theorem val_keep {s : Tk} (t n : Nat) (h : s.lost = true) : (valT s t n).1.lost = true := by
  unfold valT
  split
  · exact h
  · exact take_keep _ h
theorem kT_keep {s : Tk} (h : s.lost = true) : ∀ j, (kT s j).lost = true
  | 0 => h
  | j + 1 => take_keep 1 (kT_keep h j)
theorem take_ok {l : List Int} {b : Bool} {n : Nat} (h : n ≤ l.length) : takeT ⟨l, b⟩ n = (⟨l.drop n, b⟩, fromZ (l.take n)) := if_neg (by show ¬ l.length < n; omega)
theorem take_no {l : List Int} {b : Bool} {n : Nat} (h : l.length < n) : takeT ⟨l, b⟩ n = (⟨l, true⟩, 0) := if_pos h
theorem kT_ok {l : List Int} : ∀ j, j ≤ l.length → kT ⟨l, false⟩ j = ⟨l.drop j, false⟩
  | 0, _ => rfl
  | j + 1, h => by
    have ih := kT_ok (l := l) j (by omega)
    rw [kT, ih, take_ok (by rw [List.length_drop]; omega), List.drop_drop]
theorem kT_no {l : List Int} : ∀ j, l.length < j → (kT ⟨l, false⟩ j).lost = true
  | 0, h => by omega
  | j + 1, h => by
    by_cases hj : l.length < j
    · exact take_keep 1 (kT_no j hj)
    · rw [kT, kT_ok j (by omega), take_no (by rw [List.length_drop]; omega)]
theorem from_one {l : List Int} {j : Nat} (hj : j < l.length) (hz : ∀ z ∈ l, 0 ≤ z ∧ z ≤ 255) : ((fromZ ((l.drop j).take 1) : Nat) : Int) = l.getD j 0 ∧ fromZ ((l.drop j).take 1) = (l.getD j 0).toNat := by
  rw [List.drop_eq_getElem_cons hj, List.getD_eq_getElem?_getD, List.getElem?_eq_getElem hj]
  have := hz _ (List.getElem_mem hj)
  simp only [List.take_succ_cons, List.take_zero, fromZ, Option.getD_some]
  omega
theorem kB_ok {l : List Int} {j : Nat} (hj : j < l.length) (hz : ∀ z ∈ l, 0 ≤ z ∧ z ≤ 255) : kB ⟨l, false⟩ j = l.getD j 0 := by
  unfold kB
  rw [kT_ok j (by omega), take_ok (by rw [List.length_drop]; omega)]
  exact (from_one hj hz).1
theorem val_ok {l : List Int} {t n : Nat} (ht : t < 2) (h : (if t = 1 then n + 1 else 0) ≤ l.length) : valT ⟨l, false⟩ t n = (⟨l.drop (if t = 1 then n + 1 else 0), false⟩, decide (t = 1), rvalAt l (if t = 1 then n + 1 else 0)) := by
  unfold valT rvalAt
  by_cases h1 : t = 1
  · subst h1
    rw [if_pos rfl] at h
    simp only [if_true] at h ⊢
    rw [if_neg (by decide), take_ok h, if_neg (by omega)]
    rfl
  · have h0 : t = 0 := by omega
    subst h0
    simp
theorem val_no {l : List Int} {t n : Nat} (ht : t < 2) (h : l.length < (if t = 1 then n + 1 else 0)) : (valT ⟨l, false⟩ t n).1.lost = true := by
  unfold valT
  by_cases h1 : t = 1
  · subst h1
    rw [if_pos rfl] at h
    rw [if_neg (by decide), take_no h]
  · rw [if_neg h1] at h
    omega

set_option maxHeartbeats 2000000 in
theorem rec_parse {zs : List Int} (hz : ∀ z ∈ zs, 0 ≤ z ∧ z ≤ 255) : ((recT ⟨zs, false⟩).1.lost = true ∧ parse zs = none) ∨ ((recT ⟨zs, false⟩).1.lost = false ∧ (recT ⟨zs, false⟩).1.rest.length ≤ zs.length ∧ parse zs = some ((recT ⟨zs, false⟩).2, zs.length - (recT ⟨zs, false⟩).1.rest.length)) := by
  by_cases h3 : zs.length < 3
  · refine .inl ⟨?_, by unfold parse; rw [if_pos h3]⟩
    unfold recT
    rw [take_no h3]
    simp only
    split
    · exact take_keep 2 rfl
    · split
      · have h5 : (takeT (kT ⟨zs, true⟩ 4) 1).1.lost = true := take_keep 1 (kT_keep rfl 4)
        generalize takeT (kT ⟨zs, true⟩ 4) 1 = T at *
        exact val_keep _ _ (val_keep _ _ h5)
      · rfl
  have ht : takeT ⟨zs, false⟩ 3 = (⟨zs.drop 3, false⟩, fromZ (zs.take 3)) := take_ok (by omega)
  unfold recT parse
  rw [ht, if_neg h3]
  simp only
  generalize hu : fromZ (zs.take 3) = u
  by_cases hm : maskedK (((u % 8 : Nat) : Int) + 1)
  · simp only [if_pos hm]
    by_cases h5 : zs.length < 5
    · rw [take_no (by rw [List.length_drop]; omega), if_pos h5]
      exact .inl ⟨rfl, rfl⟩
    · rw [take_ok (by rw [List.length_drop]; omega), if_neg h5]
      refine .inr ⟨rfl, by simp, ?_⟩
      congr 2
      simp
      omega
  simp only [if_neg hm]
  by_cases hy : keyedK (((u % 8 : Nat) : Int) + 1)
  · simp only [if_pos hy]
    have hzd : ∀ z ∈ zs.drop 3, 0 ≤ z ∧ z ≤ 255 := fun z h => hz z (List.mem_of_mem_drop h)
    by_cases h8 : zs.length < 8
    · rw [if_pos h8]
      refine .inl ⟨?_, rfl⟩
      have h5 : (kT ⟨zs.drop 3, false⟩ (4 + 1)).lost = true := kT_no (l := zs.drop 3) (4 + 1) (by rw [List.length_drop]; omega)
      rw [kT] at h5
      generalize takeT (kT ⟨zs.drop 3, false⟩ 4) 1 = T at *
      exact val_keep _ _ (val_keep _ _ h5)
    · rw [if_neg h8]
      have hd3 : (zs.drop 3).length = zs.length - 3 := List.length_drop
      have k4 : takeT (kT ⟨zs.drop 3, false⟩ 4) 1 = (⟨zs.drop 8, false⟩, (zs.getD 7 0).toNat) := by
        rw [kT_ok 4 (by omega), take_ok (by rw [List.length_drop]; omega), (from_one (by omega) hzd).2, List.drop_drop, List.drop_drop, List.getD_eq_getElem?_getD, List.getD_eq_getElem?_getD, List.getElem?_drop]
      have kb : ∀ j, j < 4 → kB ⟨zs.drop 3, false⟩ j = zs.getD (3 + j) 0 := fun j hj => by
        rw [kB_ok (by omega) hzd, List.getD_eq_getElem?_getD, List.getD_eq_getElem?_getD, List.getElem?_drop]
      rw [k4, kb 0 (by decide), kb 1 (by decide), kb 2 (by decide), kb 3 (by decide)]
      simp only
      generalize (zs.getD 7 0).toNat = f
      have hd8 : (zs.drop 8).length = zs.length - 8 := List.length_drop
      have m1 : f % 2 < 2 := by omega
      have m2 : f / 2 % 2 < 2 := by omega
      generalize hla : (if f % 2 = 1 then f / 4 % 8 + 1 else 0) = la
      generalize hlb : (if f / 2 % 2 = 1 then f / 32 + 1 else 0) = lb
      by_cases h9 : zs.length < 8 + la
      · rw [if_pos (by omega)]
        exact .inl ⟨val_keep _ _ (val_no m1 (by rw [hla, hd8]; omega)), rfl⟩
      rw [val_ok m1 (by rw [hla, hd8]; omega), hla]
      simp only
      have hd9 : ((zs.drop 8).drop la).length = zs.length - 8 - la := by rw [List.length_drop, hd8]
      by_cases h10 : zs.length < 8 + la + lb
      · rw [if_pos h10]
        exact .inl ⟨val_no m2 (by rw [hlb, hd9]; omega), rfl⟩
      rw [val_ok m2 (by rw [hlb, hd9]; omega), hlb, if_neg h10]
      refine .inr ⟨rfl, by simp, ?_⟩
      refine congrArg some (Prod.ext ?_ ?_)
      · show (⟨_, _, _, _, _, _, _, _, _, _, _⟩ : Rc) = ⟨_, _, _, _, _, _, _, _, _, _, _⟩
        rw [show zs.drop (8 + la) = (zs.drop 8).drop la by rw [List.drop_drop]]
      · show 8 + la + lb = zs.length - (((zs.drop 8).drop la).drop lb).length
        rw [List.length_drop, hd9]
        omega
  · simp only [if_neg hy]
    refine .inr ⟨trivial, by simp, ?_⟩
    congr 2
    simp
    omega
theorem zag_range {u : Nat} (h : u < 18446744073709551616) : -9223372036854775808 ≤ zagS (u : Int) ∧ zagS (u : Int) ≤ 9223372036854775807 := by unfold zagS; split <;> omega
theorem kT_rest {s : Tk} (h : ∀ z ∈ s.rest, 0 ≤ z ∧ z ≤ 255) : ∀ j, ∀ z ∈ (kT s j).rest, 0 ≤ z ∧ z ≤ 255
  | 0 => h
  | j + 1 => take_rest (kT_rest h j) 1
theorem kB_range {s : Tk} (h : ∀ z ∈ s.rest, 0 ≤ z ∧ z ≤ 255) (j : Nat) : 0 ≤ kB s j ∧ kB s j ≤ 255 := by
  have := take_lt (kT_rest h j) (n := 1)
  unfold kB
  omega
theorem val_range {s : Tk} (h : ∀ z ∈ s.rest, 0 ≤ z ∧ z ≤ 255) (t : Nat) {n : Nat} (hn : n ≤ 7) : -9223372036854775808 ≤ (valT s t n).2.2 ∧ (valT s t n).2.2 ≤ 9223372036854775807 := by
  unfold valT
  split
  · exact ⟨by show (-9223372036854775808 : Int) ≤ 0; decide, by show (0 : Int) ≤ 9223372036854775807; decide⟩
  · exact zag_range (take_lt64 h (by omega))
theorem val_rest {s : Tk} (h : ∀ z ∈ s.rest, 0 ≤ z ∧ z ≤ 255) (t n : Nat) : ∀ z ∈ (valT s t n).1.rest, 0 ≤ z ∧ z ≤ 255 := by
  unfold valT
  split
  · exact h
  · exact take_rest h _
theorem rec_ok {s : Tk} (h : ∀ z ∈ s.rest, 0 ≤ z ∧ z ≤ 255) : (recT s).2.ok := by
  have hu := take_lt h (n := 3)
  have h1 := take_rest h 3
  unfold recT
  simp only
  generalize takeT s 3 = T at *
  obtain ⟨s1, u⟩ := T
  simp only at hu h1 ⊢
  split
  · have := take_lt h1 (n := 2)
    unfold Rc.ok
    simp only
    omega
  split
  · have h4 := take_rest (kT_rest h1 4) 1
    have hf := take_lt (kT_rest h1 4) (n := 1)
    have b0 := kB_range h1 0
    have b1 := kB_range h1 1
    have b2 := kB_range h1 2
    have b3 := kB_range h1 3
    generalize takeT (kT s1 4) 1 = T at *
    obtain ⟨s2, f⟩ := T
    simp only at h4 hf ⊢
    have v1 := val_range h4 (f % 2) (n := f / 4 % 8) (by omega)
    have v2 := val_range (val_rest h4 (f % 2) (f / 4 % 8)) (f / 2 % 2) (n := f / 32) (by omega)
    unfold Rc.ok
    simp only
    omega
  · unfold Rc.ok
    simp only
    omega
set_option maxHeartbeats 400000 in
theorem Equal_calls {a1 a2 : Option Addr} {n1 n2 c1 c2 : Nat} {xs ys : List Int} {w : World} (hx : Ints w .u8 a1 n1 c1 xs) (hy : Ints w .u8 a2 n2 c2 ys) :
    Calls Tryz.prog 68 #[.slice a1 n1 c1, .slice a2 n2 c2] w fun e w' => e = .returned (.bool (decide (xs = ys))) ∧ w = w' := by
  have h1 := hx.string (P := Tryz.prog) 39 5 9 Tryz.underlying39 Tryz.underlying5 Tryz.underlying9
  have h2 := hy.string (P := Tryz.prog) 39 5 9 Tryz.underlying39 Tryz.underlying5 Tryz.underlying9
  have hb := strOfNums_beq hx.fit hy.fit
  generalize strOfNums xs = s1 at *
  generalize strOfNums ys = s2 at *
  obtain ⟨B, hB⟩ : ∃ B, B = decide (xs = ys) := ⟨_, rfl⟩
  rw [← hB] at hb ⊢
  clear hB
  have Hb := Lib.hid hb; clear hb
  go_enter Tryz.func68, Tryz.ntmps68
  go_wp2
  go_ret
  exact ⟨by rw [← Hb.out]; rfl, rfl⟩
end Go.Proofs.YtgpedejeifmfdaaGreat
