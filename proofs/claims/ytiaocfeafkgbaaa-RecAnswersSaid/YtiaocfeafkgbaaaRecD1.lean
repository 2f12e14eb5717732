/- The document's value and small. -/
import Derived.Test.YtiaocfeafkgbaaaRecJ
namespace Go.Proofs.Ytiaocfeafkgbaaa
open Go.RowKit

theorem Rvalue_calls {w : World} (t : Bool) (n : Int) : Calls Try.prog 37 #[.agg #[.bool t, .int .i64 n]] w fun e w' => e = .returned (.bool (decide (valOk t n))) ∧ Below w.heap.size w w' := by
  have hb := (Below.refl w.heap.size w).alloc (Nat.le_refl _) (.cells #[.bool t, .int .i64 n] 32)
  cases t
  · by_cases h : n = 0
    · subst h
      go_enter Try.func37, Try.ntmps37
      go_wp2
      go_ret
      exact ⟨rfl, hb⟩
    · have e1 : (n == 0) = false := by simpa using h
      rw [decide_eq_false (show ¬ valOk false n by unfold valOk; simpa using h)]
      clear h
      go_enter Try.func37, Try.ntmps37
      go_wp2
      go_ret
      exact ⟨rfl, hb⟩
  · rw [decide_eq_true (show valOk true n from .inl rfl)]
    go_enter Try.func37, Try.ntmps37
    go_wp2
    go_ret
    exact ⟨rfl, hb⟩
theorem nat_rem (U : Nat) : (U : Int).tmod 256 = ((U % 256 : Nat) : Int) ∧ (U : Int).tdiv 256 = ((U / 256 : Nat) : Int) := ⟨by rw [Int.tmod_eq_emod_of_nonneg (by omega)]; omega, by rw [Int.tdiv_eq_ediv_of_nonneg (by omega)]; omega⟩
theorem nb_of {U i : Nat} (h1 : 1 ≤ i) (h2 : i ≤ nb U) (h : U / 256 ^ i = 0) : i = nb U := by
  rcases Nat.lt_or_ge i (nb U) with hl | hl
  · have := nbF_ge 7 U i h1 hl
    have h3 := (Nat.div_eq_zero_iff_lt (Nat.pow_pos (by decide))).1 h
    omega
  · omega
theorem nb_lt_of {U i : Nat} (hU : U < 18446744073709551616) (h2 : i ≤ nb U) (h : U / 256 ^ i ≠ 0) : i < nb U := by
  rcases Nat.lt_or_ge i (nb U) with hl | hl
  · exact hl
  · obtain rfl : i = nb U := by omega
    exact absurd (Nat.div_eq_of_lt (nb_lt hU)) h
set_option maxHeartbeats 4000000 in
theorem Rsmall_calls {w : World} {n : Int} (h0 : -9223372036854775808 ≤ n) (h1 : n ≤ 9223372036854775807) : Calls Try.prog 36 #[.int .i64 n] w fun e w' => ∃ v, e = .returned v ∧ Own w' w.heap.size 5 .u8 v (smallS true n) ∧ Below w.heap.size w w' := by
  have hz := fun w : World => RZig_calls (w := w) h0 h1
  rw [← zigN_eq] at hz
  have hu := zigN_lt h0 h1
  have hs : smallS true n = bytesZ (nb (zigN n)) (zigN n) := by unfold smallS; rw [if_pos rfl]
  rw [hs]
  clear hs h0 h1
  generalize zigN n = U at *
  obtain ⟨Z, hZ⟩ : ∃ Z, Z = bytesZ (nb U) U := ⟨_, rfl⟩
  rw [← hZ]
  have HZ := Lib.hid hZ; clear hZ
  have Hz := Lib.hid hz; clear hz
  obtain ⟨r1, r2⟩ := nat_rem U
  have hw8 : IntKind.u8.wrap ((U % 256 : Nat) : Int) = ((U % 256 : Nat) : Int) := by rw [IntKind.wrap_u8]; omega
  have hnb := nb_pos U
  have hnl := nb_le U
  have b1 := (Below.refl w.heap.size w).alloc (Nat.le_refl _) (.cells #[.int .u8 (U % 256 : Nat)] 5)
  have o1 : Own (w.alloc (.cells #[.int .u8 (U % 256 : Nat)] 5)) w.heap.size 5 .u8 (.slice (some ⟨w.heap.size, 0, none⟩) 1 1) (bytesZ 1 U) := ⟨⟨rfl, .inr ⟨w.heap.size, 1, #[.int .u8 (U % 256 : Nat)], rfl, Nat.le_refl _, heap_alloc_new w _, Nat.le_refl _, by unfold maxLen; omega, rfl, rfl⟩⟩, fun z hz => by
    have e : bytesZ 1 U = [((U % 256 : Nat) : Int)] := rfl
    rw [e, List.mem_singleton] at hz
    subst hz
    exact wf_u8' (by omega)⟩
  have O1 := Lib.hid o1; clear o1
  have B1 := Lib.hid b1; clear b1
  go_enter Try.func36, Try.ntmps36
  go_wp2_with fail
  refine (Hz.out _).mono ?_
  rintro e w1 ⟨rfl, rfl⟩
  go_wp2_with fail
  go_loopw [3, 4] (fun u v wr => ∃ i : Nat, 1 ≤ i ∧ i ≤ nb U ∧ u = .int .u64 ((U / 256 ^ i : Nat) : Int) ∧ Own wr w1.heap.size 5 .u8 v (bytesZ i U) ∧ Below w1.heap.size w1 wr) (fun _ v _ => nb U - sliceLen v)
  case atStart => exact ⟨1, Nat.le_refl _, hnb, by rw [Nat.pow_one, show ((U / 256 : Nat) : Int) = (U : Int) / 256 by omega], O1.out, B1.out⟩
  case round =>
    clear O1 B1
    obtain ⟨i, hi, hin, rfl, ho, hb⟩ := hrel
    obtain ⟨wo, rfl⟩ : ∃ wo, wo = wr := ⟨_, rfl⟩
    obtain ⟨va, vc, rfl, -, -⟩ := ho.ints
    have hnbo := fun h1 h2 => nb_of (U := U) (i := i) h1 h2
    have hnbl := nb_lt_of hu hin
    have hsn := bytes_snoc i U
    have hpw : U / 256 ^ (i + 1) = U / 256 ^ i / 256 := by rw [Nat.pow_succ, Nat.div_div_eq_div_mul]
    have hbl : (bytesZ i U).length = i := bytes_len i U
    have hVl : U / 256 ^ i < 18446744073709551616 := Nat.lt_of_le_of_lt (Nat.div_le_self _ _) hu
    obtain ⟨V, hV⟩ : ∃ V, V = U / 256 ^ i := ⟨_, rfl⟩
    rw [← hV] at hnbo hnbl hsn hpw hVl ⊢
    rw [hbl] at ho ⊢
    obtain ⟨p1, p2⟩ := nat_rem V
    have Hsn := Lib.hid hsn; clear hsn
    have Hpw := Lib.hid hpw; clear hpw
    have Ho := Lib.hid ho; clear ho
    have Hb := Lib.hid hb; clear hb hV hbl
    by_cases h0 : V = 0
    · have e := hnbo hi hin h0
      have d0 : decide ((0 : Int) < (V : Int)) = false := decide_eq_false (by omega)
      have He := Lib.hid e; clear e hnbo hnbl
      subst h0
      go_wp2_with fail
      go_ret
      exact ⟨_, rfl, by rw [HZ.out, ← He.out]; exact Ho.out, Hb.out⟩
    · have hlt := hnbl h0
      have d0 : decide ((0 : Int) < (V : Int)) = true := decide_eq_true (by omega)
      have d1 : (0 : Int) < (V : Int) := by omega
      obtain ⟨w4, hw4⟩ : ∃ w4, w4 = wo.alloc (.cells #[.int .u8 (V % 256 : Nat)] 5) := ⟨_, rfl⟩
      have bk : Below wo.heap.size wo w4 := by rw [hw4]; exact (Below.refl _ _).alloc (Nat.le_refl _) _
      have i4 : Ints w4 .u8 (some ⟨wo.heap.size, 0, none⟩) 1 1 [((V % 256 : Nat) : Int)] := by
        rw [hw4]
        exact ints_alloc [((V % 256 : Nat) : Int)] rfl rfl (by decide) (fun z hz => by rw [List.mem_singleton] at hz; subst hz; exact wf_u8' (by omega))
      have o4 := Ho.out.below bk
      have b4 := Hb.out.trans (bk.mono Hb.out.size)
      clear Ho Hb bk hnbo hnbl
      have I4 := Lib.hid i4; clear i4
      have O4 := Lib.hid o4; clear o4
      have B4 := Lib.hid b4; clear b4
      have hw4' : w4 = wo.alloc (.cells #[.int .u8 ((V : Int) % 256)] 5) := by rw [hw4, show ((V : Int) % 256) = ((V % 256 : Nat) : Int) by omega]
      clear hw4
      go_wp2_with (with_reducible refine stop_builtin .append ?_)
      refine unpark ?_
      rw [← hw4']
      clear hw4'
      refine wpList_append_ints _ rfl _ _ 25 rfl .u8 w1.heap.size 5 (.int .u8 0) 1 Try.underlying25 Try.infoU8 rfl _ _ rfl O4.out _ 1 1 _ rfl I4.out (by rw [bytes_len]; omega) (by decide) B4.out.size ?_
      intro v' w5 o5 g5 _
      have b5 := B4.out.grown g5 B4.out.size (fun k hk => (O4.out.block k hk).1)
      rw [← Hsn.out] at o5
      clear I4 O4 B4 g5
      obtain ⟨va', vc', rfl, -, -⟩ := o5.ints
      have O5 := Lib.hid o5; clear o5
      have B5 := Lib.hid b5; clear b5
      go_wp2_with fail
      go_roundw
      case rel => exact ⟨i + 1, by omega, by omega, by rw [Hpw.out, show ((V / 256 : Nat) : Int) = (V : Int) / 256 by omega], O5.out, B5.out⟩
      case measure => simp [sliceLen, bytes_len]; omega
end Go.Proofs.Ytiaocfeafkgbaaa
