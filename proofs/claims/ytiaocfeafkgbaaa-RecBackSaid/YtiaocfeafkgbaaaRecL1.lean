/- The law RecSizes. -/
import Derived.Test.YtiaocfeafkgbaaaRecO
namespace Go.Proofs.Ytiaocfeafkgbaaa
open Go.RowKit

def lenR (r : Rc) : Nat := if rightRc r = true then (enc r).length else 0
def sumLen (l : List Rc) : Nat := (l.map lenR).sum
theorem sumLen_take {l : List Rc} {j : Nat} (hj : j < l.length) : sumLen (l.take (j + 1)) = sumLen (l.take j) + lenR l[j] := by
  unfold sumLen
  rw [List.take_succ_eq_append_getElem hj, List.map_append, List.sum_append]
  simp
theorem lenR_le (r : Rc) : lenR r ≤ 24 := by unfold lenR; have := enc_len24 r; split <;> omega
theorem sumLen_le : ∀ l : List Rc, sumLen l ≤ 24 * l.length
  | [] => Nat.zero_le _
  | r :: l => by
    have := sumLen_le l
    have := lenR_le r
    have e : sumLen (r :: l) = lenR r + sumLen l := rfl
    rw [e, List.length_cons]
    omega
theorem sumLen_all : ∀ l : List Rc, rightAll l = true → sumLen l = (encs l).length
  | [], _ => rfl
  | r :: l, h => by
    unfold rightAll at h
    rw [List.all_cons, Bool.and_eq_true] at h
    have e : sumLen (r :: l) = lenR r + sumLen l := rfl
    rw [e, sumLen_all l h.2, encs_cons, List.length_append]
    unfold lenR
    rw [if_pos h.1]
theorem all_take {l : List Rc} {j : Nat} (hj : j < l.length) : (l.take (j + 1)).all rightRc = ((l.take j).all rightRc && rightRc l[j]) := by
  rw [List.take_succ_eq_append_getElem hj, List.all_append]
  simp
set_option maxHeartbeats 8000000 in
theorem lawRecSizes {w : World} {a : Option Addr} {L c : Nat} {l : List Rc} (hx : RRow w a L c l) : Calls Try.prog 7 #[.slice a L c] w fun e w' => e = .returned (.bool true) ∧ Below w.heap.size w w' := by
  have hl := hx.recs.len
  have hb := Below.refl w.heap.size w
  have Hb := Lib.hid hb; clear hb
  have Hx := Lib.hid hx; clear hx
  have Hl := Lib.hid hl; clear hl
  have hl0 := Hx.out.recs.le
  have hl1 := Hx.out.recs.max
  by_cases h60 : 60 < L
  · have d0 : decide ((60 : Int) < (L : Int)) = true := decide_eq_true (by omega)
    go_enter Try.func7, Try.ntmps7
    go_wp2_with fail
    refine alive_calls.mono ?_
    rintro e w1 ⟨rfl, bk⟩
    have hb := Hb.out.trans (bk.mono Hb.out.size)
    clear bk Hb
    have Hb := Lib.hid hb; clear hb
    go_wp2
    go_ret
    exact ⟨rfl, Hb.out⟩
  have d0 : decide ((60 : Int) < (L : Int)) = false := decide_eq_false (by omega)
  go_enter Try.func7, Try.ntmps7
  go_wp2_with fail
  refine alive_calls.mono ?_
  rintro e w1 ⟨rfl, bk⟩
  have hb := Hb.out.trans (bk.mono Hb.out.size)
  clear bk Hb
  have Hb := Lib.hid hb; clear hb
  go_wp2_with fail
  go_loopw [3, 4, 5] (fun n r v wr => ∃ j : Nat, j ≤ L ∧ v = .int .i64 j ∧ r = .bool ((l.take j).all rightRc) ∧ n = .int .i64 (sumLen (l.take j) : Nat) ∧ Below w.heap.size w wr) (fun _ _ v _ => L - (intOf v).toNat)
  case atStart => exact ⟨0, Nat.zero_le _, rfl, rfl, rfl, Hb.out⟩
  case round =>
    clear Hb
    obtain ⟨j, hj, rfl, rfl, rfl, hb⟩ := hrel
    obtain ⟨wo, rfl⟩ : ∃ wo, wo = wr := ⟨_, rfl⟩
    have hsl := sumLen_le (l.take j)
    rw [List.length_take] at hsl
    by_cases hlt : j < L
    · have hjl : j < l.length := by rw [Hl.out]; exact hlt
      have hx2 := Hx.out.recs.keep hb
      obtain ⟨ga, oa, rfl⟩ := hx2.addr (by omega)
      have hrok := Hx.out.ok _ (List.getElem_mem hjl)
      have hat := all_take hjl
      have hst := sumLen_take hjl
      have hcx := fun w' (hb' : Below wo.heap.size wo w') => (hx2.keep hb').at hjl
      obtain ⟨r, hr⟩ : ∃ r, r = l[j] := ⟨_, rfl⟩
      rw [← hr] at hcx hrok hat hst
      clear hr
      have hen := fun w : World => Encode_calls (w := w) r hrok
      have hri := fun w : World => Right_calls (w := w) r
      have hel := enc_len24 r
      have hep := enc_pos r
      obtain ⟨S, hS⟩ : ∃ S, S = sumLen (l.take j) := ⟨_, rfl⟩
      obtain ⟨AL, hAL⟩ : ∃ A, A = (l.take j).all rightRc := ⟨_, rfl⟩
      obtain ⟨B, hB⟩ : ∃ B, B = rightRc r := ⟨_, rfl⟩
      obtain ⟨E, hE⟩ : ∃ E, E = enc r := ⟨_, rfl⟩
      have hle : lenR r = if B = true then E.length else 0 := by unfold lenR; rw [hB, hE]
      rw [← hB, ← hE] at hen
      rw [← hE] at hel hep
      rw [← hB] at hri
      rw [← hAL, ← hB] at hat
      rw [← hS, hle] at hst
      rw [← hS] at hsl ⊢
      rw [← hAL]
      clear hS hAL hB hE hle
      have Hat := Lib.hid hat; clear hat
      have Hst := Lib.hid hst; clear hst
      have Hcx := Lib.hid hcx; clear hcx hx2
      obtain ⟨kd, t, m, k0, k1, k2, k3, ot, o, nt, n⟩ := r
      simp only [Rc.cells] at hen hri
      have Hen := Lib.hid hen; clear hen
      have Hri := Lib.hid hri; clear hri
      have Hb := Lib.hid hb; clear hb
      have i1 : (0 : Int) ≤ (j : Int) := by omega
      have i2 : (j : Int) < (L : Int) := by omega
      clear hrok
      have hcx := Hcx.out _ (Below.refl _ _)
      have x0 := hcx 0 _ rfl
      have x1 := hcx 1 _ rfl
      have x2 := hcx 2 _ rfl
      have x3 := hcx 3 _ rfl
      have x4 := hcx 4 _ rfl
      have x5 := hcx 5 _ rfl
      have x6 := hcx 6 _ rfl
      have x7 := hcx 7 _ rfl
      have x8 := hcx 8 _ rfl
      have x9 := hcx 9 _ rfl
      have x10 := hcx 10 _ rfl
      simp only [rcF, Nat.add_zero] at x0 x1 x2 x3 x4 x5 x6 x7 x8 x9 x10
      clear hcx
      cases B with
      | false =>
        go_wp2_with fail
        clear x0 x1 x2 x3 x4 x5 x6 x7 x8 x9 x10
        refine (Hen.out _).mono ?_
        rintro e w4 ⟨v, rfl, own4, bk⟩
        rw [if_neg (by decide)] at own4
        have hb := Hb.out.trans (bk.mono Hb.out.size)
        obtain ⟨ea, ec, rfl, -, -⟩ := own4.ints
        have hst := Hst.out
        rw [if_neg (by decide)] at hst
        clear own4 Hst Hb
        have Hst := Lib.hid hst; clear hst
        have Hb := Lib.hid hb; clear hb
        have hcx := Hcx.out _ bk
        have x0 := hcx 0 _ rfl
        have x1 := hcx 1 _ rfl
        have x2 := hcx 2 _ rfl
        have x3 := hcx 3 _ rfl
        have x4 := hcx 4 _ rfl
        have x5 := hcx 5 _ rfl
        have x6 := hcx 6 _ rfl
        have x7 := hcx 7 _ rfl
        have x8 := hcx 8 _ rfl
        have x9 := hcx 9 _ rfl
        have x10 := hcx 10 _ rfl
        simp only [rcF, Nat.add_zero] at x0 x1 x2 x3 x4 x5 x6 x7 x8 x9 x10
        clear hcx
        clear bk
        have hl0' : (([] : List Int).length : Int) = 0 := rfl
        cases AL with
        | false =>
          go_wp2_with fail
          clear x0 x1 x2 x3 x4 x5 x6 x7 x8 x9 x10
          refine (Hri.out _).mono ?_
          rintro e w5 ⟨rfl, bk⟩
          have hb := Hb.out.trans (bk.mono Hb.out.size)
          clear Hb bk
          have Hb := Lib.hid hb; clear hb
          go_wp2_with fail
          go_roundw
          case rel => exact ⟨j + 1, by omega, by go_num, by rw [Hat.out]; rfl, by rw [Hst.out]; rfl, Hb.out⟩
          case measure => simp [intOf]; omega
        | true =>
          go_wp2_with fail
          clear x0 x1 x2 x3 x4 x5 x6 x7 x8 x9 x10
          refine (Hri.out _).mono ?_
          rintro e w5 ⟨rfl, bk⟩
          have hb := Hb.out.trans (bk.mono Hb.out.size)
          clear Hb bk
          have Hb := Lib.hid hb; clear hb
          go_wp2_with fail
          go_roundw
          case rel => exact ⟨j + 1, by omega, by go_num, by rw [Hat.out]; rfl, by rw [Hst.out]; rfl, Hb.out⟩
          case measure => simp [intOf]; omega
      | true =>
        go_wp2_with fail
        clear x0 x1 x2 x3 x4 x5 x6 x7 x8 x9 x10
        refine (Hen.out _).mono ?_
        rintro e w4 ⟨v, rfl, own4, bk⟩
        rw [if_pos trivial] at own4
        have hb := Hb.out.trans (bk.mono Hb.out.size)
        obtain ⟨ea, ec, rfl, -, -⟩ := own4.ints
        have hst := Hst.out
        rw [if_pos trivial] at hst
        clear own4 Hst Hb
        have Hst := Lib.hid hst; clear hst
        have Hb := Lib.hid hb; clear hb
        have hcx := Hcx.out _ bk
        have x0 := hcx 0 _ rfl
        have x1 := hcx 1 _ rfl
        have x2 := hcx 2 _ rfl
        have x3 := hcx 3 _ rfl
        have x4 := hcx 4 _ rfl
        have x5 := hcx 5 _ rfl
        have x6 := hcx 6 _ rfl
        have x7 := hcx 7 _ rfl
        have x8 := hcx 8 _ rfl
        have x9 := hcx 9 _ rfl
        have x10 := hcx 10 _ rfl
        simp only [rcF, Nat.add_zero] at x0 x1 x2 x3 x4 x5 x6 x7 x8 x9 x10
        clear hcx
        clear bk
        generalize E.length = EL at *
        have e3 : decide ((EL : Int) < 3) = false := decide_eq_false (by omega)
        have e24 : decide ((24 : Int) < (EL : Int)) = false := decide_eq_false (by omega)
        cases AL with
        | false =>
          go_wp2_with fail
          clear x0 x1 x2 x3 x4 x5 x6 x7 x8 x9 x10
          refine (Hri.out _).mono ?_
          rintro e w5 ⟨rfl, bk⟩
          have hb := Hb.out.trans (bk.mono Hb.out.size)
          clear Hb bk
          have Hb := Lib.hid hb; clear hb
          go_wp2_with fail
          go_roundw
          case rel => exact ⟨j + 1, by omega, by go_num, by rw [Hat.out]; rfl, by rw [Hst.out]; go_num, Hb.out⟩
          case measure => simp [intOf]; omega
        | true =>
          go_wp2_with fail
          clear x0 x1 x2 x3 x4 x5 x6 x7 x8 x9 x10
          refine (Hri.out _).mono ?_
          rintro e w5 ⟨rfl, bk⟩
          have hb := Hb.out.trans (bk.mono Hb.out.size)
          clear Hb bk
          have Hb := Lib.hid hb; clear hb
          go_wp2_with fail
          go_roundw
          case rel => exact ⟨j + 1, by omega, by go_num, by rw [Hat.out]; rfl, by rw [Hst.out]; go_num, Hb.out⟩
          case measure => simp [intOf]; omega
    · obtain rfl : j = L := by omega
      have e : l.take j = l := by rw [← Hl.out, List.take_length]
      rw [e] at hsl ⊢
      have hjo := Join_calls (Hx.out.recs.keep hb) Hx.out.ok (by omega)
      have hsa := sumLen_all l
      rw [show l.all rightRc = rightAll l from rfl]
      generalize rightAll l = R at *
      generalize sumLen l = S at *
      have Hjo := Lib.hid hjo; clear hjo
      have Hsa := Lib.hid hsa; clear hsa
      have Hb := Lib.hid hb; clear hb e
      cases R with
      | false =>
        go_wp2_with fail
        refine Hjo.out.mono ?_
        rintro e w4 ⟨v, rfl, own4, bk⟩
        rw [if_neg (by decide)] at own4
        have hb := Hb.out.trans (bk.mono Hb.out.size)
        obtain ⟨ea, ec, rfl, -, -⟩ := own4.ints
        clear own4 bk Hb
        have Hb := Lib.hid hb; clear hb
        have hl0' : (([] : List Int).length : Int) = 0 := rfl
        go_wp2_with fail
        go_ret
        exact ⟨rfl, Hb.out⟩
      | true =>
        go_wp2_with fail
        refine Hjo.out.mono ?_
        rintro e w4 ⟨v, rfl, own4, bk⟩
        rw [if_pos trivial] at own4
        have hb := Hb.out.trans (bk.mono Hb.out.size)
        obtain ⟨ea, ec, rfl, -, -⟩ := own4.ints
        rw [← Hsa.out trivial]
        clear own4 bk Hb
        have Hb := Lib.hid hb; clear hb
        go_wp2_with fail
        go_ret
        exact ⟨rfl, Hb.out⟩
end Go.Proofs.Ytiaocfeafkgbaaa
