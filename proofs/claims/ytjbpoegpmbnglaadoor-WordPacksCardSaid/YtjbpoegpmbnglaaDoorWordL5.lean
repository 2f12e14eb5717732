/- The law WordBytes. -/
import Derived.Test.YtjbpoegpmbnglaaDoorWord6
namespace Go.Proofs.YtjbpoegpmbnglaaDoor
open Go.RowKit

theorem u64_nat5 {a : Int} (h : (Lit.int .u64 a).wf = true) : ∃ u : Nat, a = (u : Int) ∧ u < 18446744073709551616 := by
  have := wf_of h
  simp [IntKind.min, IntKind.max, IntKind.signed, IntKind.bits] at this
  exact ⟨a.toNat, by omega, by omega⟩
theorem from_bytes : ∀ (n u : Nat), fromZ (bytesZ n u) = val8 (dig8 n u)
  | 0, _ => rfl
  | n + 1, u => by
    have := from_bytes n (u / 256)
    unfold bytesZ at this ⊢
    show ((u % 256 : Nat) : Int).toNat + 256 * fromZ _ = u % 256 + 256 * val8 (dig8 n (u / 256))
    rw [this, Int.toNat_natCast]
theorem pow8 (n : Nat) : 2 ^ (8 * n) = 256 ^ n := by rw [Nat.pow_mul]
theorem bytes_back {n u : Nat} (h : u / 2 ^ (8 * n) = 0) : fromZ (bytesZ n u) = u ∧ u < 256 ^ n := by
  have hl : u < 256 ^ n := by
    rw [pow8] at h
    have := Nat.pow_pos (n := n) (show 0 < 256 by decide)
    exact (Nat.div_eq_zero_iff_lt this).1 h
  exact ⟨by rw [from_bytes, val_dig n u hl], hl⟩
set_option maxHeartbeats 2000000 in
theorem lawWordBytes {w : World} {a n : Int} (hT : TabOk w) (h1 : (Lit.int .u64 a).wf = true) (h2 : (Lit.int .i64 n).wf = true) :
    Calls Tryd.prog 9 #[.int .u64 a, .int .i64 n] w fun e w' => e = .returned (.bool true) ∧ Below w.heap.size w w' := by
  have ha := alive_calls hT
  obtain ⟨u, rfl, hu⟩ := u64_nat5 h1
  have hn64 := wf_i64 h2
  clear h1 h2 hT
  have hA := Lib.hid ha; clear ha
  by_cases hg : 0 ≤ n ∧ n ≤ 8
  · obtain ⟨N, rfl⟩ : ∃ N : Nat, n = N := ⟨n.toNat, by omega⟩
    have hN : N ≤ 8 := by omega
    clear hg hn64
    have k1 : decide ((N : Int) < 0) = false := decide_eq_false (by omega)
    have k2 : decide (8 < (N : Int)) = false := decide_eq_false (by omega)
    have hw8 : IntKind.u64.wrap (8 * (N : Int)) = 8 * (N : Int) := by rw [IntKind.wrap_u64]; omega
    have hmin : min (8 * N) 64 = 8 * N := by omega
    have hsh : (u : Int) / 2 ^ (8 * N) = ((u / 2 ^ (8 * N) : Nat) : Int) := by push_cast; rfl
    by_cases h0 : u / 2 ^ (8 * N) = 0
    · obtain ⟨hback, hlt⟩ := bytes_back h0
      have hz : ((u : Int) / 2 ^ (8 * N) != 0) = false := by rw [hsh, h0]; rfl
      have c1 := fun w : World => Bytes_calls (w := w) hu hN h0
      have hu2 : ((u : Int) != (u : Int)) = false := by simp
      have hNN : ((N : Int) != (N : Int)) = false := by simp
      have hbl := bytes_len N u
      have C1 := Lib.hid c1; clear c1 hsh
      by_cases hN8 : N < 8
      · have k3 : decide ((N : Int) < 8) = true := decide_eq_true (by omega)
        have k4 : ((N : Int) == 8) = false := by simp; omega
        have k5 : ((N : Int) + 1 == (N : Int) + 1) = true := by simp
        have h0' : u / 2 ^ (8 * (N + 1)) = 0 := by
          rw [pow8]
          exact Nat.div_eq_of_lt (Nat.lt_of_lt_of_le hlt (Nat.pow_le_pow_right (by decide) (by omega)))
        have c2 := fun w : World => Bytes_calls (w := w) hu (n := N + 1) (by omega) h0'
        have hsn := bytes_snoc N u
        rw [Nat.div_eq_of_lt hlt] at hsn
        have hsn : bytesZ (N + 1) u = bytesZ N u ++ [0] := hsn
        have e2 : ((N + 1 : Nat) : Int) = (N : Int) + 1 := by omega
        rw [e2] at c2
        have C2 := Lib.hid c2; clear c2 h0' h0 hu
        have Hsn := Lib.hid hsn; clear hsn
        have Hback := Lib.hid hback; clear hback hlt e2
        have Hbl := Lib.hid hbl; clear hbl
        go_enter Tryd.func9, Tryd.ntmps9
        go_wp2_with fail
        refine hA.out.mono ?_
        rintro e w1 ⟨rfl, b1⟩
        have hB := Lib.hid b1; clear b1
        go_wp2_with fail
        refine (C1.out _).mono ?_
        rintro e w2 ⟨v, rfl, ov, b2⟩
        obtain ⟨va, vc, rfl, iv, -⟩ := ov.ints
        rw [Hbl.out] at iv ⊢
        have hb := hB.out.trans (b2.mono hB.out.size)
        clear hB b2 ov C1
        have hB := Lib.hid hb; clear hb
        have hfr := From_calls iv (by omega)
        rw [Hback.out] at hfr
        have Hiv := Lib.hid iv; clear iv
        have Hfr := Lib.hid hfr; clear hfr
        go_wp2_with fail
        refine Hfr.out.mono ?_
        rintro e w3 ⟨rfl, b3⟩
        have hiv := Hiv.out.keep b3
        have hb := hB.out.trans (b3.mono hB.out.size)
        clear hB b3 Hiv Hfr
        have hB := Lib.hid hb; clear hb
        have Hiv := Lib.hid hiv; clear hiv
        go_wp2_with fail
        refine (C2.out _).mono ?_
        rintro e w4 ⟨v, rfl, ov, b4⟩
        obtain ⟨wa, wc, rfl, iw, -⟩ := ov.ints
        have hl2 := bytes_len (N + 1) u
        rw [hl2] at iw ⊢
        rw [Hsn.out] at iw
        have hcap := iw.le
        have hmx := iw.max
        obtain ⟨gw, ow, rfl, hcw⟩ := iw.cell (by omega)
        have hlast := hcw N (by omega)
        rw [List.getD_eq_getElem?_getD, List.getElem?_append_right (by rw [Hbl.out]; exact Nat.le_refl _), Hbl.out, Nat.sub_self] at hlast
        have hlast : w4.cell? ⟨gw, ow + N, none⟩ = some (.int .u8 0) := hlast
        have itake := iw.take N (by omega)
        have et : (bytesZ N u ++ [0]).take N = bytesZ N u := by rw [List.take_append_of_le_length (by rw [Hbl.out]; exact Nat.le_refl _), List.take_of_length_le (by rw [Hbl.out]; exact Nat.le_refl _)]
        rw [et] at itake
        have hsm := SameBytes_yes itake (Hiv.out.keep b4) rfl
        have hb := hB.out.trans (b4.mono hB.out.size)
        have e3 : ((N + 1 : Nat) : Int) = (N : Int) + 1 := by omega
        clear hB b4 Hiv C2 ov hcw iw et itake hl2
        have hB := Lib.hid hb; clear hb
        have Hsm := Lib.hid hsm; clear hsm
        have i1 : (0 : Int) ≤ (N : Int) := by omega
        have i2 : (N : Int) < (N : Int) + 1 := by omega
        have i3 : (N : Int) ≤ (wc : Int) := by omega
        clear e3
        go_wp2_with fail
        refine Hsm.out.mono ?_
        rintro e w5 ⟨rfl, nd, hw5⟩
        have hb := hB.out.trans ((below_drawn w4 nd).mono hB.out.size)
        have hlast := ((below_drawn w4 nd).cell (p := ⟨gw, ow + N, none⟩) (World.block_lt_of_cell? _ _ hlast)).trans hlast
        rw [← hw5] at hb hlast
        clear hw5 Hsm hB
        have hB := Lib.hid hb; clear hb
        go_wp2
        go_ret
        exact ⟨rfl, hB.out⟩
      · obtain rfl : N = 8 := by omega
        have c2 := fun w : World => Bytes_bad (w := w) (u := u) (n := 9) (.inl (by omega))
        have C2 := Lib.hid c2; clear c2 h0 hu
        have Hback := Lib.hid hback; clear hback hlt hz hmin hw8
        have Hbl := Lib.hid hbl; clear hbl
        go_enter Tryd.func9, Tryd.ntmps9
        go_wp2_with fail
        refine hA.out.mono ?_
        rintro e w1 ⟨rfl, b1⟩
        have hB := Lib.hid b1; clear b1
        go_wp2_with fail
        refine (C1.out _).mono ?_
        rintro e w2 ⟨v, rfl, ov, b2⟩
        obtain ⟨va, vc, rfl, iv, -⟩ := ov.ints
        rw [Hbl.out] at iv ⊢
        have hb := hB.out.trans (b2.mono hB.out.size)
        clear hB b2 ov C1
        have hB := Lib.hid hb; clear hb
        have hfr := From_calls iv (by omega)
        rw [Hback.out] at hfr
        clear iv
        have Hfr := Lib.hid hfr; clear hfr
        go_wp2_with fail
        refine Hfr.out.mono ?_
        rintro e w3 ⟨rfl, b3⟩
        have hb := hB.out.trans (b3.mono hB.out.size)
        clear hB b3 Hfr
        have hB := Lib.hid hb; clear hb
        go_wp2_with fail
        refine (C2.out _).mono ?_
        rintro e w4 ⟨rfl, rfl⟩
        go_wp2
        go_ret
        exact ⟨rfl, hB.out⟩
    · have hN8 : N < 8 := by
        apply Nat.lt_of_not_le
        intro hle
        obtain rfl : N = 8 := by omega
        exact h0 (Nat.div_eq_of_lt hu)
      have k3 : decide ((N : Int) < 8) = true := decide_eq_true (by omega)
      have c1 := fun w : World => Bytes_bad (w := w) (u := u) (n := (N : Int)) (.inr ⟨by omega, by omega, by rw [Int.toNat_natCast]; exact h0⟩)
      have hz : ((u : Int) / 2 ^ (8 * N) != 0) = true := by rw [hsh]; exact bne_iff_ne.2 (by omega)
      have C1 := Lib.hid c1; clear c1 hsh h0
      go_enter Tryd.func9, Tryd.ntmps9
      go_wp2_with fail
      refine hA.out.mono ?_
      rintro e w1 ⟨rfl, b1⟩
      have hB := Lib.hid b1; clear b1
      go_wp2_with fail
      refine (C1.out _).mono ?_
      rintro e w2 ⟨rfl, rfl⟩
      go_wp2
      go_ret
      exact ⟨rfl, hB.out⟩
  · have c1 := fun w : World => Bytes_bad (w := w) (u := u) (n := n) (.inl hg)
    have hd : decide (n < 0) = true ∨ (decide (n < 0) = false ∧ decide (8 < n) = true) := by
      by_cases h : n < 0
      · exact .inl (decide_eq_true h)
      · exact .inr ⟨decide_eq_false h, decide_eq_true (by omega)⟩
    have C1 := Lib.hid c1; clear c1 hg
    rcases hd with e1 | ⟨e1, e2⟩
    all_goals
      go_enter Tryd.func9, Tryd.ntmps9
      go_wp2_with fail
      refine hA.out.mono ?_
      rintro e w1 ⟨rfl, b1⟩
      have hB := Lib.hid b1; clear b1
      go_wp2_with fail
      refine (C1.out _).mono ?_
      rintro e w2 ⟨rfl, rfl⟩
      go_wp2
      go_ret
      exact ⟨rfl, hB.out⟩
end Go.Proofs.YtjbpoegpmbnglaaDoor
