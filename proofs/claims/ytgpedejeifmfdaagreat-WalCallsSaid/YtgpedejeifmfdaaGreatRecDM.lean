/- Merged by merge.py out of: RecD1, RecDP, RecD2, RecD3, RecD4, RecD5, RecD6, RecD7. -/
import Derived.Test.YtgpedejeifmfdaaGreatRecJ
import Derived.Test.YtgpedejeifmfdaaGreatPkF
import Derived.Deep.Cut
import Derived.Deep.CutRange
import Derived.Deep.CutBlock
import Derived.StillTailTactics
/- The document's value and small. -/
namespace Go.Proofs.YtgpedejeifmfdaaGreat
open Go.RowKit

theorem Rvalue_calls {w : World} (t : Bool) (n : Int) : Calls Tryz.prog 95 #[.agg #[.bool t, .int .i64 n]] w fun e w' => e = .returned (.bool (decide (valOk t n))) ∧ Below w.heap.size w w' := by
  have hb := (Below.refl w.heap.size w).alloc (Nat.le_refl _) (.cells #[.bool t, .int .i64 n] 61)
  cases t
  · by_cases h : n = 0
    · subst h
      go_enter Tryz.func95, Tryz.ntmps95
      go_wp2
      go_ret
      exact ⟨rfl, hb⟩
    · have e1 : (n == 0) = false := by simpa using h
      rw [decide_eq_false (show ¬ valOk false n by unfold valOk; simpa using h)]
      clear h
      go_enter Tryz.func95, Tryz.ntmps95
      go_wp2
      go_ret
      exact ⟨rfl, hb⟩
  · rw [decide_eq_true (show valOk true n from .inl rfl)]
    go_enter Tryz.func95, Tryz.ntmps95
    go_wp2
    go_ret
    exact ⟨rfl, hb⟩
theorem nat_rem (U : Nat) : (U : Int).tmod 256 = ((U % 256 : Nat) : Int) ∧ (U : Int).tdiv 256 = ((U / 256 : Nat) : Int) := ⟨by rw [Int.tmod_eq_emod_of_nonneg (by omega)]; omega, by rw [Int.tdiv_eq_ediv_of_nonneg (by omega)]; omega⟩
theorem nb_of {U i : Nat} (h1 : 1 ≤ i) (h2 : i ≤ nb U) (h : U / 256 ^ i = 0) : i = nb U := by
  rcases Nat.lt_or_ge i (nb U) with hl | hl
  · have := nbF_ge 7 U i h1 hl
    have h3 := (Nat.div_eq_zero_iff_lt (Nat.pow_pos (by decide))).1 h
    omega
  · omega
theorem nb_lt_of {U i : Nat} (hU : U < 18446744073709551616) (h2 : i ≤ nb U) (h : U / 256 ^ i ≠ 0) : i < nb U := by
  rcases Nat.lt_or_ge i (nb U) with hl | hl
  · exact hl
  · obtain rfl : i = nb U := by omega
    exact absurd (Nat.div_eq_of_lt (nb_lt hU)) h
set_option maxHeartbeats 4000000 in
theorem Rsmall_calls {w : World} {n : Int} (h0 : -9223372036854775808 ≤ n) (h1 : n ≤ 9223372036854775807) : Calls Tryz.prog 72 #[.int .i64 n] w fun e w' => ∃ v, e = .returned v ∧ Own w' w.heap.size 5 .u8 v (smallS true n) ∧ Below w.heap.size w w' := by
  have hz := fun w : World => RZig_calls (w := w) h0 h1
  rw [← zigN_eq] at hz
  have hu := zigN_lt h0 h1
  have hs : smallS true n = bytesZ (nb (zigN n)) (zigN n) := by unfold smallS; rw [if_pos rfl]
  rw [hs]
  clear hs h0 h1
  generalize zigN n = U at *
  obtain ⟨Z, hZ⟩ : ∃ Z, Z = bytesZ (nb U) U := ⟨_, rfl⟩
  rw [← hZ]
  have HZ := Lib.hid hZ; clear hZ
  have Hz := Lib.hid hz; clear hz
  obtain ⟨r1, r2⟩ := nat_rem U
  have hw8 : IntKind.u8.wrap ((U % 256 : Nat) : Int) = ((U % 256 : Nat) : Int) := by rw [IntKind.wrap_u8]; omega
  have hnb := nb_pos U
  have hnl := nb_le U
  have b1 := (Below.refl w.heap.size w).alloc (Nat.le_refl _) (.cells #[.int .u8 (U % 256 : Nat)] 5)
  have o1 : Own (w.alloc (.cells #[.int .u8 (U % 256 : Nat)] 5)) w.heap.size 5 .u8 (.slice (some ⟨w.heap.size, 0, none⟩) 1 1) (bytesZ 1 U) := ⟨⟨rfl, .inr ⟨w.heap.size, 1, #[.int .u8 (U % 256 : Nat)], rfl, Nat.le_refl _, heap_alloc_new w _, Nat.le_refl _, by unfold maxLen; omega, rfl, rfl⟩⟩, fun z hz => by
    have e : bytesZ 1 U = [((U % 256 : Nat) : Int)] := rfl
    rw [e, List.mem_singleton] at hz
    subst hz
    exact wf_u8' (by omega)⟩
  have O1 := Lib.hid o1; clear o1
  have B1 := Lib.hid b1; clear b1
  go_enter Tryz.func72, Tryz.ntmps72
  go_wp2_with fail
  refine (Hz.out _).mono ?_
  rintro e w1 ⟨rfl, rfl⟩
  go_wp2_with fail
  go_loopw [3, 4] (fun u v wr => ∃ i : Nat, 1 ≤ i ∧ i ≤ nb U ∧ u = .int .u64 ((U / 256 ^ i : Nat) : Int) ∧ Own wr w1.heap.size 5 .u8 v (bytesZ i U) ∧ Below w1.heap.size w1 wr) (fun _ v _ => nb U - sliceLen v)
  case atStart => exact ⟨1, Nat.le_refl _, hnb, by rw [Nat.pow_one, show ((U / 256 : Nat) : Int) = (U : Int) / 256 by omega], O1.out, B1.out⟩
  case round =>
    clear O1 B1
    obtain ⟨i, hi, hin, rfl, ho, hb⟩ := hrel
    obtain ⟨wo, rfl⟩ : ∃ wo, wo = wr := ⟨_, rfl⟩
    obtain ⟨va, vc, rfl, -, -⟩ := ho.ints
    have hnbo := fun h1 h2 => nb_of (U := U) (i := i) h1 h2
    have hnbl := nb_lt_of hu hin
    have hsn := bytes_snoc i U
    have hpw : U / 256 ^ (i + 1) = U / 256 ^ i / 256 := by rw [Nat.pow_succ, Nat.div_div_eq_div_mul]
    have hbl : (bytesZ i U).length = i := bytes_len i U
    have hVl : U / 256 ^ i < 18446744073709551616 := Nat.lt_of_le_of_lt (Nat.div_le_self _ _) hu
    obtain ⟨V, hV⟩ : ∃ V, V = U / 256 ^ i := ⟨_, rfl⟩
    rw [← hV] at hnbo hnbl hsn hpw hVl ⊢
    rw [hbl] at ho ⊢
    obtain ⟨p1, p2⟩ := nat_rem V
    have Hsn := Lib.hid hsn; clear hsn
    have Hpw := Lib.hid hpw; clear hpw
    have Ho := Lib.hid ho; clear ho
    have Hb := Lib.hid hb; clear hb hV hbl
    by_cases h0 : V = 0
    · have e := hnbo hi hin h0
      have d0 : decide ((0 : Int) < (V : Int)) = false := decide_eq_false (by omega)
      have He := Lib.hid e; clear e hnbo hnbl
      subst h0
      go_wp2_with fail
      go_ret
      exact ⟨_, rfl, by rw [HZ.out, ← He.out]; exact Ho.out, Hb.out⟩
    · have hlt := hnbl h0
      have d0 : decide ((0 : Int) < (V : Int)) = true := decide_eq_true (by omega)
      have d1 : (0 : Int) < (V : Int) := by omega
      obtain ⟨w4, hw4⟩ : ∃ w4, w4 = wo.alloc (.cells #[.int .u8 (V % 256 : Nat)] 5) := ⟨_, rfl⟩
      have bk : Below wo.heap.size wo w4 := by rw [hw4]; exact (Below.refl _ _).alloc (Nat.le_refl _) _
      have i4 : Ints w4 .u8 (some ⟨wo.heap.size, 0, none⟩) 1 1 [((V % 256 : Nat) : Int)] := by
        rw [hw4]
        exact ints_alloc [((V % 256 : Nat) : Int)] rfl rfl (by decide) (fun z hz => by rw [List.mem_singleton] at hz; subst hz; exact wf_u8' (by omega))
      have o4 := Ho.out.below bk
      have b4 := Hb.out.trans (bk.mono Hb.out.size)
      clear Ho Hb bk hnbo hnbl
      have I4 := Lib.hid i4; clear i4
      have O4 := Lib.hid o4; clear o4
      have B4 := Lib.hid b4; clear b4
      have hw4' : w4 = wo.alloc (.cells #[.int .u8 ((V : Int) % 256)] 5) := by rw [hw4, show ((V : Int) % 256) = ((V % 256 : Nat) : Int) by omega]
      clear hw4
      go_wp2_with (with_reducible refine stop_builtin .append ?_)
      refine unpark ?_
      rw [← hw4']
      clear hw4'
      refine wpList_append_ints _ rfl _ _ 39 rfl .u8 w1.heap.size 5 (.int .u8 0) 1 Tryz.underlying39 Tryz.infoU8 rfl _ _ rfl O4.out _ 1 1 _ rfl I4.out (by rw [bytes_len]; omega) (by decide) B4.out.size ?_
      intro v' w5 o5 g5 _
      have b5 := B4.out.grown g5 B4.out.size (fun k hk => (O4.out.block k hk).1)
      rw [← Hsn.out] at o5
      clear I4 O4 B4 g5
      obtain ⟨va', vc', rfl, -, -⟩ := o5.ints
      have O5 := Lib.hid o5; clear o5
      have B5 := Lib.hid b5; clear b5
      go_wp2_with fail
      go_roundw
      case rel => exact ⟨i + 1, by omega, by omega, by rw [Hpw.out, show ((V / 256 : Nat) : Int) = (V : Int) / 256 by omega], O5.out, B5.out⟩
      case measure => simp [sliceLen, bytes_len]; omega
end Go.Proofs.YtgpedejeifmfdaaGreat
/- Right of each kind, plain. -/
namespace Go.Proofs.YtgpedejeifmfdaaGreat
section
variable {t m k0 k1 k2 k3 o n : Int} {ot nt : Bool}
theorem bool_iff {a b : Bool} (h : a = true ↔ b = true) : a = b := Bool.eq_iff_iff.2 h
set_option maxHeartbeats 1000000 in
theorem rr1 : rightRc ⟨1, t, m, k0, k1, k2, k3, ot, o, nt, n⟩ = (decide (1 ≤ t) && decide (t ≤ 1048576) && decide (m = 0) && decide (valOk ot o) && decide (valOk nt n)) := by
  refine bool_iff ?_
  unfold rightRc
  rw [decide_eq_true_iff, right_iffs]
  simp only [Bool.and_eq_true, decide_eq_true_eq, partRc, if_true, Rc.mk.injEq, true_and, and_true]
  constructor
  · rintro ⟨-, h, ⟨h1, h2⟩, h3, h4⟩; exact ⟨⟨⟨⟨h1, h2⟩, by first | exact h | exact h.symm⟩, h3⟩, h4⟩
  · rintro ⟨⟨⟨⟨h1, h2⟩, h⟩, h3⟩, h4⟩; exact ⟨by decide, by first | exact h | exact h.symm, ⟨h1, h2⟩, h3, h4⟩
theorem rr2 : rightRc ⟨2, t, m, k0, k1, k2, k3, ot, o, nt, n⟩ = (decide ((⟨2, t, m, k0, k1, k2, k3, ot, o, nt, n⟩ : Rc) = ⟨2, t, m, 0, 0, 0, 0, false, 0, false, 0⟩) && decide (1 ≤ t) && decide (t ≤ 1048576) && decide (m ≠ 0)) := by
  refine bool_iff ?_
  unfold rightRc
  rw [decide_eq_true_iff, right_iffs]
  rw [show partRc ⟨2, t, m, k0, k1, k2, k3, ot, o, nt, n⟩ = ⟨2, t, m, 0, 0, 0, 0, false, 0, false, 0⟩ from rfl, if_neg (by decide), if_pos rfl]
  simp only [Bool.and_eq_true, decide_eq_true_eq]
  exact ⟨fun h => ⟨⟨⟨h.2.1.symm, h.2.2.1.1⟩, h.2.2.1.2⟩, h.2.2.2⟩, fun h => ⟨by decide, h.1.1.1.symm, ⟨h.1.1.2, h.1.2⟩, h.2⟩⟩
theorem rr7 : rightRc ⟨7, t, m, k0, k1, k2, k3, ot, o, nt, n⟩ = (decide ((⟨7, t, m, k0, k1, k2, k3, ot, o, nt, n⟩ : Rc) = ⟨7, 0, 0, k0, k1, k2, k3, false, 0, nt, n⟩) && nt) := by
  refine bool_iff ?_
  unfold rightRc
  rw [decide_eq_true_iff, right_iffs]
  rw [show partRc ⟨7, t, m, k0, k1, k2, k3, ot, o, nt, n⟩ = ⟨7, 0, 0, k0, k1, k2, k3, false, 0, nt, n⟩ from rfl, if_neg (by decide), if_neg (by decide), if_pos rfl]
  simp only [Bool.and_eq_true, decide_eq_true_eq]
  exact ⟨fun h => ⟨h.2.1.symm, h.2.2⟩, fun h => ⟨by decide, h.1.symm, h.2⟩⟩
theorem rr8 : rightRc ⟨8, t, m, k0, k1, k2, k3, ot, o, nt, n⟩ = (decide ((⟨8, t, m, k0, k1, k2, k3, ot, o, nt, n⟩ : Rc) = ⟨8, 0, m, 0, 0, 0, 0, false, 0, false, 0⟩) && decide (m ≤ 64)) := by
  refine bool_iff ?_
  unfold rightRc
  rw [decide_eq_true_iff, right_iffs]
  rw [show partRc ⟨8, t, m, k0, k1, k2, k3, ot, o, nt, n⟩ = ⟨8, 0, m, 0, 0, 0, 0, false, 0, false, 0⟩ from rfl, if_neg (by decide), if_neg (by decide), if_neg (by decide), if_pos rfl]
  simp only [Bool.and_eq_true, decide_eq_true_eq]
  exact ⟨fun h => ⟨h.2.1.symm, h.2.2⟩, fun h => ⟨by decide, h.1.symm, h.2⟩⟩
theorem rr3 : rightRc ⟨3, t, m, k0, k1, k2, k3, ot, o, nt, n⟩ = (decide ((⟨3, t, m, k0, k1, k2, k3, ot, o, nt, n⟩ : Rc) = ⟨3, t, 0, 0, 0, 0, 0, false, 0, false, 0⟩) && decide (1 ≤ t) && decide (t ≤ 1048576)) := by
  refine bool_iff ?_
  unfold rightRc
  rw [decide_eq_true_iff, right_iffs]
  rw [show partRc ⟨3, t, m, k0, k1, k2, k3, ot, o, nt, n⟩ = ⟨3, t, 0, 0, 0, 0, 0, false, 0, false, 0⟩ from rfl, if_neg (by decide), if_neg (by decide), if_neg (by decide), if_neg (by decide)]
  simp only [Bool.and_eq_true, decide_eq_true_eq]
  exact ⟨fun h => ⟨⟨h.2.1.symm, h.2.2.1⟩, h.2.2.2⟩, fun h => ⟨by decide, h.1.1.symm, h.1.2, h.2⟩⟩
theorem rr4 : rightRc ⟨4, t, m, k0, k1, k2, k3, ot, o, nt, n⟩ = (decide ((⟨4, t, m, k0, k1, k2, k3, ot, o, nt, n⟩ : Rc) = ⟨4, t, 0, 0, 0, 0, 0, false, 0, false, 0⟩) && decide (1 ≤ t) && decide (t ≤ 1048576)) := by
  refine bool_iff ?_
  unfold rightRc
  rw [decide_eq_true_iff, right_iffs]
  rw [show partRc ⟨4, t, m, k0, k1, k2, k3, ot, o, nt, n⟩ = ⟨4, t, 0, 0, 0, 0, 0, false, 0, false, 0⟩ from rfl, if_neg (by decide), if_neg (by decide), if_neg (by decide), if_neg (by decide)]
  simp only [Bool.and_eq_true, decide_eq_true_eq]
  exact ⟨fun h => ⟨⟨h.2.1.symm, h.2.2.1⟩, h.2.2.2⟩, fun h => ⟨by decide, h.1.1.symm, h.1.2, h.2⟩⟩
theorem rr5 : rightRc ⟨5, t, m, k0, k1, k2, k3, ot, o, nt, n⟩ = (decide ((⟨5, t, m, k0, k1, k2, k3, ot, o, nt, n⟩ : Rc) = ⟨5, t, 0, 0, 0, 0, 0, false, 0, false, 0⟩) && decide (1 ≤ t) && decide (t ≤ 1048576)) := by
  refine bool_iff ?_
  unfold rightRc
  rw [decide_eq_true_iff, right_iffs]
  rw [show partRc ⟨5, t, m, k0, k1, k2, k3, ot, o, nt, n⟩ = ⟨5, t, 0, 0, 0, 0, 0, false, 0, false, 0⟩ from rfl, if_neg (by decide), if_neg (by decide), if_neg (by decide), if_neg (by decide)]
  simp only [Bool.and_eq_true, decide_eq_true_eq]
  exact ⟨fun h => ⟨⟨h.2.1.symm, h.2.2.1⟩, h.2.2.2⟩, fun h => ⟨by decide, h.1.1.symm, h.1.2, h.2⟩⟩
theorem rr6 : rightRc ⟨6, t, m, k0, k1, k2, k3, ot, o, nt, n⟩ = (decide ((⟨6, t, m, k0, k1, k2, k3, ot, o, nt, n⟩ : Rc) = ⟨6, t, 0, 0, 0, 0, 0, false, 0, false, 0⟩) && decide (1 ≤ t) && decide (t ≤ 1048576)) := by
  refine bool_iff ?_
  unfold rightRc
  rw [decide_eq_true_iff, right_iffs]
  rw [show partRc ⟨6, t, m, k0, k1, k2, k3, ot, o, nt, n⟩ = ⟨6, t, 0, 0, 0, 0, 0, false, 0, false, 0⟩ from rfl, if_neg (by decide), if_neg (by decide), if_neg (by decide), if_neg (by decide)]
  simp only [Bool.and_eq_true, decide_eq_true_eq]
  exact ⟨fun h => ⟨⟨h.2.1.symm, h.2.2.1⟩, h.2.2.2⟩, fun h => ⟨by decide, h.1.1.symm, h.1.2, h.2⟩⟩
end
end Go.Proofs.YtgpedejeifmfdaaGreat
/- The document's Right. -/
namespace Go.Proofs.YtgpedejeifmfdaaGreat
open Go.RowKit

set_option maxHeartbeats 16000000 in
theorem RRight_calls {w : World} (r : Rc) (hm0 : 0 ≤ r.mask) : Calls Tryz.prog 71 #[.agg r.cells.toArray] w fun e w' => e = .returned (.bool (rightRc r)) ∧ Below w.heap.size w w' := by
  obtain ⟨k, t, m, k0, k1, k2, k3, ot, o, nt, n⟩ := r
  simp only at hm0
  have hri := right_iffs k t m k0 k1 k2 k3 ot o nt n
  have Hri := Lib.hid hri; clear hri
  have v1 := fun w : World => Rvalue_calls (w := w) ot o
  have v2 := fun w : World => Rvalue_calls (w := w) nt n
  have V1 := Lib.hid v1; clear v1
  have V2 := Lib.hid v2; clear v2
  simp only [Rc.cells]
  by_cases c1 : k = 1
  case pos =>
    subst c1
    by_cases g1 : 1 ≤ t
    case neg =>
      have hv : rightRc ⟨1, t, m, k0, k1, k2, k3, ot, o, nt, n⟩ = false := by rw [rr1, decide_eq_false g1, Bool.false_and, Bool.false_and, Bool.false_and, Bool.false_and]
      have HV := Lib.hid hv; clear hv Hri
      have f1 : decide (1 ≤ t) = false := decide_eq_false g1
      clear g1
      obtain ⟨w1, hw1⟩ : ∃ w1, w1 = w.alloc (.cells #[.int .i64 1, .int .i64 t, .int .u16 m, .int .u8 k0, .int .u8 k1, .int .u8 k2, .int .u8 k3, .bool ot, .int .i64 o, .bool nt, .int .i64 n] 63) := ⟨_, rfl⟩
      have b1 : Below w.heap.size w w1 := by rw [hw1]; exact (Below.refl _ _).alloc (Nat.le_refl _) _
      have x1 : w1.heap[w.heap.size]? = some (.cells #[.int .i64 1, .int .i64 t, .int .u16 m, .int .u8 k0, .int .u8 k1, .int .u8 k2, .int .u8 k3, .bool ot, .int .i64 o, .bool nt, .int .i64 n] 63 (0, 0)) := by rw [hw1]; exact heap_alloc_new w _
      obtain ⟨w2, hw2⟩ : ∃ w2, w2 = w1.alloc (.cells #[.int .i64 1, .int .i64 0, .int .u16 0, .int .u8 0, .int .u8 0, .int .u8 0, .int .u8 0, .bool false, .int .i64 0, .bool false, .int .i64 0] 63) := ⟨_, rfl⟩
      have bk : Below w1.heap.size w1 w2 := by rw [hw2]; exact (Below.refl _ _).alloc (Nat.le_refl _) _
      have XA := Lib.hid ((bk.block _ (Array.getElem?_eq_some_iff.1 x1).1).trans x1)
      have Hb := Lib.hid (b1.trans (bk.mono b1.size))
      have y0 := cells_at x1 0
      have y1 := cells_at x1 1
      have y2 := cells_at x1 2
      have y3 := cells_at x1 3
      have y4 := cells_at x1 4
      have y5 := cells_at x1 5
      have y6 := cells_at x1 6
      have y7 := cells_at x1 7
      have y8 := cells_at x1 8
      have y9 := cells_at x1 9
      have y10 := cells_at x1 10
      clear x1 b1 bk
      go_enter Tryz.func71, Tryz.ntmps71
      go_wp2_with fail
      rw [← hw1, ← hw2]
      clear hw1 hw2
      go_ret
      exact ⟨(congrArg (fun b => Ending.returned (Value.bool b)) HV.out).symm, Hb.out⟩
    by_cases g2 : t ≤ 1048576
    case neg =>
      have hv : rightRc ⟨1, t, m, k0, k1, k2, k3, ot, o, nt, n⟩ = false := by rw [rr1, decide_eq_true g1, decide_eq_false g2, Bool.true_and, Bool.false_and, Bool.false_and, Bool.false_and]
      have HV := Lib.hid hv; clear hv Hri
      have f1 : decide (1 ≤ t) = true := decide_eq_true g1
      have f2 : decide (t ≤ 1048576) = false := decide_eq_false g2
      clear g1 g2
      obtain ⟨w1, hw1⟩ : ∃ w1, w1 = w.alloc (.cells #[.int .i64 1, .int .i64 t, .int .u16 m, .int .u8 k0, .int .u8 k1, .int .u8 k2, .int .u8 k3, .bool ot, .int .i64 o, .bool nt, .int .i64 n] 63) := ⟨_, rfl⟩
      have b1 : Below w.heap.size w w1 := by rw [hw1]; exact (Below.refl _ _).alloc (Nat.le_refl _) _
      have x1 : w1.heap[w.heap.size]? = some (.cells #[.int .i64 1, .int .i64 t, .int .u16 m, .int .u8 k0, .int .u8 k1, .int .u8 k2, .int .u8 k3, .bool ot, .int .i64 o, .bool nt, .int .i64 n] 63 (0, 0)) := by rw [hw1]; exact heap_alloc_new w _
      obtain ⟨w2, hw2⟩ : ∃ w2, w2 = w1.alloc (.cells #[.int .i64 1, .int .i64 0, .int .u16 0, .int .u8 0, .int .u8 0, .int .u8 0, .int .u8 0, .bool false, .int .i64 0, .bool false, .int .i64 0] 63) := ⟨_, rfl⟩
      have bk : Below w1.heap.size w1 w2 := by rw [hw2]; exact (Below.refl _ _).alloc (Nat.le_refl _) _
      have XA := Lib.hid ((bk.block _ (Array.getElem?_eq_some_iff.1 x1).1).trans x1)
      have Hb := Lib.hid (b1.trans (bk.mono b1.size))
      have y0 := cells_at x1 0
      have y1 := cells_at x1 1
      have y2 := cells_at x1 2
      have y3 := cells_at x1 3
      have y4 := cells_at x1 4
      have y5 := cells_at x1 5
      have y6 := cells_at x1 6
      have y7 := cells_at x1 7
      have y8 := cells_at x1 8
      have y9 := cells_at x1 9
      have y10 := cells_at x1 10
      clear x1 b1 bk
      go_enter Tryz.func71, Tryz.ntmps71
      go_wp2_with fail
      rw [← hw1, ← hw2]
      clear hw1 hw2
      go_ret
      exact ⟨(congrArg (fun b => Ending.returned (Value.bool b)) HV.out).symm, Hb.out⟩
    by_cases g3 : m = 0
    case neg =>
      have hv : rightRc ⟨1, t, m, k0, k1, k2, k3, ot, o, nt, n⟩ = false := by rw [rr1, decide_eq_true g1, decide_eq_true g2, Bool.true_and, decide_eq_false g3, Bool.true_and, Bool.false_and, Bool.false_and]
      have HV := Lib.hid hv; clear hv Hri
      have f1 : decide (1 ≤ t) = true := decide_eq_true g1
      have f2 : decide (t ≤ 1048576) = true := decide_eq_true g2
      have f3 : (m == 0) = false := by simpa using g3
      clear g1 g2 g3
      obtain ⟨w1, hw1⟩ : ∃ w1, w1 = w.alloc (.cells #[.int .i64 1, .int .i64 t, .int .u16 m, .int .u8 k0, .int .u8 k1, .int .u8 k2, .int .u8 k3, .bool ot, .int .i64 o, .bool nt, .int .i64 n] 63) := ⟨_, rfl⟩
      have b1 : Below w.heap.size w w1 := by rw [hw1]; exact (Below.refl _ _).alloc (Nat.le_refl _) _
      have x1 : w1.heap[w.heap.size]? = some (.cells #[.int .i64 1, .int .i64 t, .int .u16 m, .int .u8 k0, .int .u8 k1, .int .u8 k2, .int .u8 k3, .bool ot, .int .i64 o, .bool nt, .int .i64 n] 63 (0, 0)) := by rw [hw1]; exact heap_alloc_new w _
      obtain ⟨w2, hw2⟩ : ∃ w2, w2 = w1.alloc (.cells #[.int .i64 1, .int .i64 0, .int .u16 0, .int .u8 0, .int .u8 0, .int .u8 0, .int .u8 0, .bool false, .int .i64 0, .bool false, .int .i64 0] 63) := ⟨_, rfl⟩
      have bk : Below w1.heap.size w1 w2 := by rw [hw2]; exact (Below.refl _ _).alloc (Nat.le_refl _) _
      have XA := Lib.hid ((bk.block _ (Array.getElem?_eq_some_iff.1 x1).1).trans x1)
      have Hb := Lib.hid (b1.trans (bk.mono b1.size))
      have y0 := cells_at x1 0
      have y1 := cells_at x1 1
      have y2 := cells_at x1 2
      have y3 := cells_at x1 3
      have y4 := cells_at x1 4
      have y5 := cells_at x1 5
      have y6 := cells_at x1 6
      have y7 := cells_at x1 7
      have y8 := cells_at x1 8
      have y9 := cells_at x1 9
      have y10 := cells_at x1 10
      clear x1 b1 bk
      go_enter Tryz.func71, Tryz.ntmps71
      go_wp2_with fail
      rw [← hw1, ← hw2]
      clear hw1 hw2
      go_ret
      exact ⟨(congrArg (fun b => Ending.returned (Value.bool b)) HV.out).symm, Hb.out⟩
    by_cases g4 : valOk ot o
    case neg =>
      have hv : rightRc ⟨1, t, m, k0, k1, k2, k3, ot, o, nt, n⟩ = false := by rw [rr1, decide_eq_true g1, decide_eq_true g2, Bool.true_and, decide_eq_true g3, Bool.true_and, decide_eq_false g4, Bool.true_and, Bool.false_and]
      have HV := Lib.hid hv; clear hv Hri
      have f1 : decide (1 ≤ t) = true := decide_eq_true g1
      have f2 : decide (t ≤ 1048576) = true := decide_eq_true g2
      have f3 : (m == 0) = true := by simpa using g3
      rw [decide_eq_false g4] at V1
      clear g1 g2 g3 g4
      obtain ⟨w1, hw1⟩ : ∃ w1, w1 = w.alloc (.cells #[.int .i64 1, .int .i64 t, .int .u16 m, .int .u8 k0, .int .u8 k1, .int .u8 k2, .int .u8 k3, .bool ot, .int .i64 o, .bool nt, .int .i64 n] 63) := ⟨_, rfl⟩
      have b1 : Below w.heap.size w w1 := by rw [hw1]; exact (Below.refl _ _).alloc (Nat.le_refl _) _
      have x1 : w1.heap[w.heap.size]? = some (.cells #[.int .i64 1, .int .i64 t, .int .u16 m, .int .u8 k0, .int .u8 k1, .int .u8 k2, .int .u8 k3, .bool ot, .int .i64 o, .bool nt, .int .i64 n] 63 (0, 0)) := by rw [hw1]; exact heap_alloc_new w _
      obtain ⟨w2, hw2⟩ : ∃ w2, w2 = w1.alloc (.cells #[.int .i64 1, .int .i64 0, .int .u16 0, .int .u8 0, .int .u8 0, .int .u8 0, .int .u8 0, .bool false, .int .i64 0, .bool false, .int .i64 0] 63) := ⟨_, rfl⟩
      have bk : Below w1.heap.size w1 w2 := by rw [hw2]; exact (Below.refl _ _).alloc (Nat.le_refl _) _
      have XA := Lib.hid ((bk.block _ (Array.getElem?_eq_some_iff.1 x1).1).trans x1)
      have Hb := Lib.hid (b1.trans (bk.mono b1.size))
      have y0 := cells_at x1 0
      have y1 := cells_at x1 1
      have y2 := cells_at x1 2
      have y3 := cells_at x1 3
      have y4 := cells_at x1 4
      have y5 := cells_at x1 5
      have y6 := cells_at x1 6
      have y7 := cells_at x1 7
      have y8 := cells_at x1 8
      have y9 := cells_at x1 9
      have y10 := cells_at x1 10
      clear x1 b1 bk
      go_enter Tryz.func71, Tryz.ntmps71
      go_wp2_with fail
      rw [← hw1, ← hw2]
      clear hw1 hw2 y0 y1 y2 y3 y4 y5 y6 y7 y8 y9 y10
      refine (V1.out _).mono ?_
      rintro e v1w ⟨rfl, bk⟩
      have xa := (bk.block _ (Array.getElem?_eq_some_iff.1 XA.out).1).trans XA.out
      have hb := Hb.out.trans (bk.mono Hb.out.size)
      clear XA Hb bk
      have XA := Lib.hid xa; clear xa
      have Hb := Lib.hid hb; clear hb
      have y0 := cells_at XA.out 0
      have y1 := cells_at XA.out 1
      have y2 := cells_at XA.out 2
      have y3 := cells_at XA.out 3
      have y4 := cells_at XA.out 4
      have y5 := cells_at XA.out 5
      have y6 := cells_at XA.out 6
      have y7 := cells_at XA.out 7
      have y8 := cells_at XA.out 8
      have y9 := cells_at XA.out 9
      have y10 := cells_at XA.out 10
      go_wp2
      go_ret
      exact ⟨(congrArg (fun b => Ending.returned (Value.bool b)) HV.out).symm, Hb.out⟩
    by_cases g5 : valOk nt n
    case neg =>
      have hv : rightRc ⟨1, t, m, k0, k1, k2, k3, ot, o, nt, n⟩ = false := by rw [rr1, decide_eq_true g1, decide_eq_true g2, Bool.true_and, decide_eq_true g3, Bool.true_and, decide_eq_true g4, Bool.true_and, decide_eq_false g5, Bool.true_and]
      have HV := Lib.hid hv; clear hv Hri
      have f1 : decide (1 ≤ t) = true := decide_eq_true g1
      have f2 : decide (t ≤ 1048576) = true := decide_eq_true g2
      have f3 : (m == 0) = true := by simpa using g3
      rw [decide_eq_true g4] at V1
      rw [decide_eq_false g5] at V2
      clear g1 g2 g3 g4 g5
      obtain ⟨w1, hw1⟩ : ∃ w1, w1 = w.alloc (.cells #[.int .i64 1, .int .i64 t, .int .u16 m, .int .u8 k0, .int .u8 k1, .int .u8 k2, .int .u8 k3, .bool ot, .int .i64 o, .bool nt, .int .i64 n] 63) := ⟨_, rfl⟩
      have b1 : Below w.heap.size w w1 := by rw [hw1]; exact (Below.refl _ _).alloc (Nat.le_refl _) _
      have x1 : w1.heap[w.heap.size]? = some (.cells #[.int .i64 1, .int .i64 t, .int .u16 m, .int .u8 k0, .int .u8 k1, .int .u8 k2, .int .u8 k3, .bool ot, .int .i64 o, .bool nt, .int .i64 n] 63 (0, 0)) := by rw [hw1]; exact heap_alloc_new w _
      obtain ⟨w2, hw2⟩ : ∃ w2, w2 = w1.alloc (.cells #[.int .i64 1, .int .i64 0, .int .u16 0, .int .u8 0, .int .u8 0, .int .u8 0, .int .u8 0, .bool false, .int .i64 0, .bool false, .int .i64 0] 63) := ⟨_, rfl⟩
      have bk : Below w1.heap.size w1 w2 := by rw [hw2]; exact (Below.refl _ _).alloc (Nat.le_refl _) _
      have XA := Lib.hid ((bk.block _ (Array.getElem?_eq_some_iff.1 x1).1).trans x1)
      have Hb := Lib.hid (b1.trans (bk.mono b1.size))
      have y0 := cells_at x1 0
      have y1 := cells_at x1 1
      have y2 := cells_at x1 2
      have y3 := cells_at x1 3
      have y4 := cells_at x1 4
      have y5 := cells_at x1 5
      have y6 := cells_at x1 6
      have y7 := cells_at x1 7
      have y8 := cells_at x1 8
      have y9 := cells_at x1 9
      have y10 := cells_at x1 10
      clear x1 b1 bk
      go_enter Tryz.func71, Tryz.ntmps71
      go_wp2_with fail
      rw [← hw1, ← hw2]
      clear hw1 hw2 y0 y1 y2 y3 y4 y5 y6 y7 y8 y9 y10
      refine (V1.out _).mono ?_
      rintro e v1w ⟨rfl, bk⟩
      have xa := (bk.block _ (Array.getElem?_eq_some_iff.1 XA.out).1).trans XA.out
      have hb := Hb.out.trans (bk.mono Hb.out.size)
      clear XA Hb bk
      have XA := Lib.hid xa; clear xa
      have Hb := Lib.hid hb; clear hb
      have y0 := cells_at XA.out 0
      have y1 := cells_at XA.out 1
      have y2 := cells_at XA.out 2
      have y3 := cells_at XA.out 3
      have y4 := cells_at XA.out 4
      have y5 := cells_at XA.out 5
      have y6 := cells_at XA.out 6
      have y7 := cells_at XA.out 7
      have y8 := cells_at XA.out 8
      have y9 := cells_at XA.out 9
      have y10 := cells_at XA.out 10
      go_wp2_with fail
      clear y0 y1 y2 y3 y4 y5 y6 y7 y8 y9 y10
      refine (V2.out _).mono ?_
      rintro e v2w ⟨rfl, bk⟩
      have xa := (bk.block _ (Array.getElem?_eq_some_iff.1 XA.out).1).trans XA.out
      have hb := Hb.out.trans (bk.mono Hb.out.size)
      clear XA Hb bk
      have XA := Lib.hid xa; clear xa
      have Hb := Lib.hid hb; clear hb
      have y0 := cells_at XA.out 0
      have y1 := cells_at XA.out 1
      have y2 := cells_at XA.out 2
      have y3 := cells_at XA.out 3
      have y4 := cells_at XA.out 4
      have y5 := cells_at XA.out 5
      have y6 := cells_at XA.out 6
      have y7 := cells_at XA.out 7
      have y8 := cells_at XA.out 8
      have y9 := cells_at XA.out 9
      have y10 := cells_at XA.out 10
      go_wp2
      go_ret
      exact ⟨(congrArg (fun b => Ending.returned (Value.bool b)) HV.out).symm, Hb.out⟩
    have hv : rightRc ⟨1, t, m, k0, k1, k2, k3, ot, o, nt, n⟩ = true := by rw [rr1, decide_eq_true g1, decide_eq_true g2, Bool.true_and, decide_eq_true g3, Bool.true_and, decide_eq_true g4, Bool.true_and, decide_eq_true g5, Bool.true_and]
    have HV := Lib.hid hv; clear hv Hri
    have f1 : decide (1 ≤ t) = true := decide_eq_true g1
    have f2 : decide (t ≤ 1048576) = true := decide_eq_true g2
    have f3 : (m == 0) = true := by simpa using g3
    rw [decide_eq_true g4] at V1
    rw [decide_eq_true g5] at V2
    clear g1 g2 g3 g4 g5
    obtain ⟨w1, hw1⟩ : ∃ w1, w1 = w.alloc (.cells #[.int .i64 1, .int .i64 t, .int .u16 m, .int .u8 k0, .int .u8 k1, .int .u8 k2, .int .u8 k3, .bool ot, .int .i64 o, .bool nt, .int .i64 n] 63) := ⟨_, rfl⟩
    have b1 : Below w.heap.size w w1 := by rw [hw1]; exact (Below.refl _ _).alloc (Nat.le_refl _) _
    have x1 : w1.heap[w.heap.size]? = some (.cells #[.int .i64 1, .int .i64 t, .int .u16 m, .int .u8 k0, .int .u8 k1, .int .u8 k2, .int .u8 k3, .bool ot, .int .i64 o, .bool nt, .int .i64 n] 63 (0, 0)) := by rw [hw1]; exact heap_alloc_new w _
    obtain ⟨w2, hw2⟩ : ∃ w2, w2 = w1.alloc (.cells #[.int .i64 1, .int .i64 0, .int .u16 0, .int .u8 0, .int .u8 0, .int .u8 0, .int .u8 0, .bool false, .int .i64 0, .bool false, .int .i64 0] 63) := ⟨_, rfl⟩
    have bk : Below w1.heap.size w1 w2 := by rw [hw2]; exact (Below.refl _ _).alloc (Nat.le_refl _) _
    have XA := Lib.hid ((bk.block _ (Array.getElem?_eq_some_iff.1 x1).1).trans x1)
    have Hb := Lib.hid (b1.trans (bk.mono b1.size))
    have y0 := cells_at x1 0
    have y1 := cells_at x1 1
    have y2 := cells_at x1 2
    have y3 := cells_at x1 3
    have y4 := cells_at x1 4
    have y5 := cells_at x1 5
    have y6 := cells_at x1 6
    have y7 := cells_at x1 7
    have y8 := cells_at x1 8
    have y9 := cells_at x1 9
    have y10 := cells_at x1 10
    clear x1 b1 bk
    go_enter Tryz.func71, Tryz.ntmps71
    go_wp2_with fail
    rw [← hw1, ← hw2]
    clear hw1 hw2 y0 y1 y2 y3 y4 y5 y6 y7 y8 y9 y10
    refine (V1.out _).mono ?_
    rintro e v1w ⟨rfl, bk⟩
    have xa := (bk.block _ (Array.getElem?_eq_some_iff.1 XA.out).1).trans XA.out
    have hb := Hb.out.trans (bk.mono Hb.out.size)
    clear XA Hb bk
    have XA := Lib.hid xa; clear xa
    have Hb := Lib.hid hb; clear hb
    have y0 := cells_at XA.out 0
    have y1 := cells_at XA.out 1
    have y2 := cells_at XA.out 2
    have y3 := cells_at XA.out 3
    have y4 := cells_at XA.out 4
    have y5 := cells_at XA.out 5
    have y6 := cells_at XA.out 6
    have y7 := cells_at XA.out 7
    have y8 := cells_at XA.out 8
    have y9 := cells_at XA.out 9
    have y10 := cells_at XA.out 10
    go_wp2_with fail
    clear y0 y1 y2 y3 y4 y5 y6 y7 y8 y9 y10
    refine (V2.out _).mono ?_
    rintro e v2w ⟨rfl, bk⟩
    have xa := (bk.block _ (Array.getElem?_eq_some_iff.1 XA.out).1).trans XA.out
    have hb := Hb.out.trans (bk.mono Hb.out.size)
    clear XA Hb bk
    have XA := Lib.hid xa; clear xa
    have Hb := Lib.hid hb; clear hb
    have y0 := cells_at XA.out 0
    have y1 := cells_at XA.out 1
    have y2 := cells_at XA.out 2
    have y3 := cells_at XA.out 3
    have y4 := cells_at XA.out 4
    have y5 := cells_at XA.out 5
    have y6 := cells_at XA.out 6
    have y7 := cells_at XA.out 7
    have y8 := cells_at XA.out 8
    have y9 := cells_at XA.out 9
    have y10 := cells_at XA.out 10
    go_wp2
    go_ret
    exact ⟨(congrArg (fun b => Ending.returned (Value.bool b)) HV.out).symm, Hb.out⟩
  by_cases c2 : k = 2
  case pos =>
    subst c2
    by_cases ge : (⟨2, t, m, k0, k1, k2, k3, ot, o, nt, n⟩ : Rc) = ⟨2, t, m, 0, 0, 0, 0, false, 0, false, 0⟩
    case neg =>
      have hv : rightRc ⟨2, t, m, k0, k1, k2, k3, ot, o, nt, n⟩ = false := by rw [rr2, decide_eq_false ge, Bool.false_and, Bool.false_and, Bool.false_and]
      have HV := Lib.hid hv; clear hv Hri
      have hq := fun w => rc_eql w ⟨2, t, m, k0, k1, k2, k3, ot, o, nt, n⟩ ⟨2, t, m, 0, 0, 0, 0, false, 0, false, 0⟩
      have hg := fun x y w => rc_guard .eql x y ⟨2, t, m, k0, k1, k2, k3, ot, o, nt, n⟩ ⟨2, t, m, 0, 0, 0, 0, false, 0, false, 0⟩ w
      rw [decide_eq_false ge] at hq
      simp only [Rc.cells] at hq hg
      clear ge
      obtain ⟨w1, hw1⟩ : ∃ w1, w1 = w.alloc (.cells #[.int .i64 2, .int .i64 t, .int .u16 m, .int .u8 k0, .int .u8 k1, .int .u8 k2, .int .u8 k3, .bool ot, .int .i64 o, .bool nt, .int .i64 n] 63) := ⟨_, rfl⟩
      have b1 : Below w.heap.size w w1 := by rw [hw1]; exact (Below.refl _ _).alloc (Nat.le_refl _) _
      have x1 : w1.heap[w.heap.size]? = some (.cells #[.int .i64 2, .int .i64 t, .int .u16 m, .int .u8 k0, .int .u8 k1, .int .u8 k2, .int .u8 k3, .bool ot, .int .i64 o, .bool nt, .int .i64 n] 63 (0, 0)) := by rw [hw1]; exact heap_alloc_new w _
      obtain ⟨w2, hw2⟩ : ∃ w2, w2 = w1.alloc (.cells #[.int .i64 2, .int .i64 t, .int .u16 m, .int .u8 0, .int .u8 0, .int .u8 0, .int .u8 0, .bool false, .int .i64 0, .bool false, .int .i64 0] 63) := ⟨_, rfl⟩
      have bk : Below w1.heap.size w1 w2 := by rw [hw2]; exact (Below.refl _ _).alloc (Nat.le_refl _) _
      have XA := Lib.hid ((bk.block _ (Array.getElem?_eq_some_iff.1 x1).1).trans x1)
      have Hb := Lib.hid (b1.trans (bk.mono b1.size))
      have y0 := cells_at x1 0
      have y1 := cells_at x1 1
      have y2 := cells_at x1 2
      have y3 := cells_at x1 3
      have y4 := cells_at x1 4
      have y5 := cells_at x1 5
      have y6 := cells_at x1 6
      have y7 := cells_at x1 7
      have y8 := cells_at x1 8
      have y9 := cells_at x1 9
      have y10 := cells_at x1 10
      clear x1 b1 bk
      go_enter Tryz.func71, Tryz.ntmps71
      go_wp2_with fail
      rw [← hw1, ← hw2]
      clear hw1 hw2
      go_ret
      exact ⟨(congrArg (fun b => Ending.returned (Value.bool b)) HV.out).symm, Hb.out⟩
    by_cases g1 : 1 ≤ t
    case neg =>
      have hv : rightRc ⟨2, t, m, k0, k1, k2, k3, ot, o, nt, n⟩ = false := by rw [rr2, decide_eq_true ge, decide_eq_false g1, Bool.true_and, Bool.false_and, Bool.false_and]
      have HV := Lib.hid hv; clear hv Hri
      have hq := fun w => rc_eql w ⟨2, t, m, k0, k1, k2, k3, ot, o, nt, n⟩ ⟨2, t, m, 0, 0, 0, 0, false, 0, false, 0⟩
      have hg := fun x y w => rc_guard .eql x y ⟨2, t, m, k0, k1, k2, k3, ot, o, nt, n⟩ ⟨2, t, m, 0, 0, 0, 0, false, 0, false, 0⟩ w
      rw [decide_eq_true ge] at hq
      simp only [Rc.cells] at hq hg
      have f1 : decide (1 ≤ t) = false := decide_eq_false g1
      clear ge g1
      obtain ⟨w1, hw1⟩ : ∃ w1, w1 = w.alloc (.cells #[.int .i64 2, .int .i64 t, .int .u16 m, .int .u8 k0, .int .u8 k1, .int .u8 k2, .int .u8 k3, .bool ot, .int .i64 o, .bool nt, .int .i64 n] 63) := ⟨_, rfl⟩
      have b1 : Below w.heap.size w w1 := by rw [hw1]; exact (Below.refl _ _).alloc (Nat.le_refl _) _
      have x1 : w1.heap[w.heap.size]? = some (.cells #[.int .i64 2, .int .i64 t, .int .u16 m, .int .u8 k0, .int .u8 k1, .int .u8 k2, .int .u8 k3, .bool ot, .int .i64 o, .bool nt, .int .i64 n] 63 (0, 0)) := by rw [hw1]; exact heap_alloc_new w _
      obtain ⟨w2, hw2⟩ : ∃ w2, w2 = w1.alloc (.cells #[.int .i64 2, .int .i64 t, .int .u16 m, .int .u8 0, .int .u8 0, .int .u8 0, .int .u8 0, .bool false, .int .i64 0, .bool false, .int .i64 0] 63) := ⟨_, rfl⟩
      have bk : Below w1.heap.size w1 w2 := by rw [hw2]; exact (Below.refl _ _).alloc (Nat.le_refl _) _
      have XA := Lib.hid ((bk.block _ (Array.getElem?_eq_some_iff.1 x1).1).trans x1)
      have Hb := Lib.hid (b1.trans (bk.mono b1.size))
      have y0 := cells_at x1 0
      have y1 := cells_at x1 1
      have y2 := cells_at x1 2
      have y3 := cells_at x1 3
      have y4 := cells_at x1 4
      have y5 := cells_at x1 5
      have y6 := cells_at x1 6
      have y7 := cells_at x1 7
      have y8 := cells_at x1 8
      have y9 := cells_at x1 9
      have y10 := cells_at x1 10
      clear x1 b1 bk
      go_enter Tryz.func71, Tryz.ntmps71
      go_wp2_with fail
      rw [← hw1, ← hw2]
      clear hw1 hw2
      go_ret
      exact ⟨(congrArg (fun b => Ending.returned (Value.bool b)) HV.out).symm, Hb.out⟩
    by_cases g2 : t ≤ 1048576
    case neg =>
      have hv : rightRc ⟨2, t, m, k0, k1, k2, k3, ot, o, nt, n⟩ = false := by rw [rr2, decide_eq_true ge, decide_eq_true g1, Bool.true_and, decide_eq_false g2, Bool.true_and, Bool.false_and]
      have HV := Lib.hid hv; clear hv Hri
      have hq := fun w => rc_eql w ⟨2, t, m, k0, k1, k2, k3, ot, o, nt, n⟩ ⟨2, t, m, 0, 0, 0, 0, false, 0, false, 0⟩
      have hg := fun x y w => rc_guard .eql x y ⟨2, t, m, k0, k1, k2, k3, ot, o, nt, n⟩ ⟨2, t, m, 0, 0, 0, 0, false, 0, false, 0⟩ w
      rw [decide_eq_true ge] at hq
      simp only [Rc.cells] at hq hg
      have f1 : decide (1 ≤ t) = true := decide_eq_true g1
      have f2 : decide (t ≤ 1048576) = false := decide_eq_false g2
      clear ge g1 g2
      obtain ⟨w1, hw1⟩ : ∃ w1, w1 = w.alloc (.cells #[.int .i64 2, .int .i64 t, .int .u16 m, .int .u8 k0, .int .u8 k1, .int .u8 k2, .int .u8 k3, .bool ot, .int .i64 o, .bool nt, .int .i64 n] 63) := ⟨_, rfl⟩
      have b1 : Below w.heap.size w w1 := by rw [hw1]; exact (Below.refl _ _).alloc (Nat.le_refl _) _
      have x1 : w1.heap[w.heap.size]? = some (.cells #[.int .i64 2, .int .i64 t, .int .u16 m, .int .u8 k0, .int .u8 k1, .int .u8 k2, .int .u8 k3, .bool ot, .int .i64 o, .bool nt, .int .i64 n] 63 (0, 0)) := by rw [hw1]; exact heap_alloc_new w _
      obtain ⟨w2, hw2⟩ : ∃ w2, w2 = w1.alloc (.cells #[.int .i64 2, .int .i64 t, .int .u16 m, .int .u8 0, .int .u8 0, .int .u8 0, .int .u8 0, .bool false, .int .i64 0, .bool false, .int .i64 0] 63) := ⟨_, rfl⟩
      have bk : Below w1.heap.size w1 w2 := by rw [hw2]; exact (Below.refl _ _).alloc (Nat.le_refl _) _
      have XA := Lib.hid ((bk.block _ (Array.getElem?_eq_some_iff.1 x1).1).trans x1)
      have Hb := Lib.hid (b1.trans (bk.mono b1.size))
      have y0 := cells_at x1 0
      have y1 := cells_at x1 1
      have y2 := cells_at x1 2
      have y3 := cells_at x1 3
      have y4 := cells_at x1 4
      have y5 := cells_at x1 5
      have y6 := cells_at x1 6
      have y7 := cells_at x1 7
      have y8 := cells_at x1 8
      have y9 := cells_at x1 9
      have y10 := cells_at x1 10
      clear x1 b1 bk
      go_enter Tryz.func71, Tryz.ntmps71
      go_wp2_with fail
      rw [← hw1, ← hw2]
      clear hw1 hw2
      go_ret
      exact ⟨(congrArg (fun b => Ending.returned (Value.bool b)) HV.out).symm, Hb.out⟩
    by_cases g3 : m ≠ 0
    case neg =>
      have hv : rightRc ⟨2, t, m, k0, k1, k2, k3, ot, o, nt, n⟩ = false := by rw [rr2, decide_eq_true ge, decide_eq_true g1, Bool.true_and, decide_eq_true g2, Bool.true_and, decide_eq_false g3, Bool.true_and]
      have HV := Lib.hid hv; clear hv Hri
      have hq := fun w => rc_eql w ⟨2, t, m, k0, k1, k2, k3, ot, o, nt, n⟩ ⟨2, t, m, 0, 0, 0, 0, false, 0, false, 0⟩
      have hg := fun x y w => rc_guard .eql x y ⟨2, t, m, k0, k1, k2, k3, ot, o, nt, n⟩ ⟨2, t, m, 0, 0, 0, 0, false, 0, false, 0⟩ w
      rw [decide_eq_true ge] at hq
      simp only [Rc.cells] at hq hg
      have f1 : decide (1 ≤ t) = true := decide_eq_true g1
      have f2 : decide (t ≤ 1048576) = true := decide_eq_true g2
      have f3 : (m != 0) = false := by simpa using g3
      clear ge g1 g2 g3
      obtain ⟨w1, hw1⟩ : ∃ w1, w1 = w.alloc (.cells #[.int .i64 2, .int .i64 t, .int .u16 m, .int .u8 k0, .int .u8 k1, .int .u8 k2, .int .u8 k3, .bool ot, .int .i64 o, .bool nt, .int .i64 n] 63) := ⟨_, rfl⟩
      have b1 : Below w.heap.size w w1 := by rw [hw1]; exact (Below.refl _ _).alloc (Nat.le_refl _) _
      have x1 : w1.heap[w.heap.size]? = some (.cells #[.int .i64 2, .int .i64 t, .int .u16 m, .int .u8 k0, .int .u8 k1, .int .u8 k2, .int .u8 k3, .bool ot, .int .i64 o, .bool nt, .int .i64 n] 63 (0, 0)) := by rw [hw1]; exact heap_alloc_new w _
      obtain ⟨w2, hw2⟩ : ∃ w2, w2 = w1.alloc (.cells #[.int .i64 2, .int .i64 t, .int .u16 m, .int .u8 0, .int .u8 0, .int .u8 0, .int .u8 0, .bool false, .int .i64 0, .bool false, .int .i64 0] 63) := ⟨_, rfl⟩
      have bk : Below w1.heap.size w1 w2 := by rw [hw2]; exact (Below.refl _ _).alloc (Nat.le_refl _) _
      have XA := Lib.hid ((bk.block _ (Array.getElem?_eq_some_iff.1 x1).1).trans x1)
      have Hb := Lib.hid (b1.trans (bk.mono b1.size))
      have y0 := cells_at x1 0
      have y1 := cells_at x1 1
      have y2 := cells_at x1 2
      have y3 := cells_at x1 3
      have y4 := cells_at x1 4
      have y5 := cells_at x1 5
      have y6 := cells_at x1 6
      have y7 := cells_at x1 7
      have y8 := cells_at x1 8
      have y9 := cells_at x1 9
      have y10 := cells_at x1 10
      clear x1 b1 bk
      go_enter Tryz.func71, Tryz.ntmps71
      go_wp2_with fail
      rw [← hw1, ← hw2]
      clear hw1 hw2
      go_ret
      exact ⟨(congrArg (fun b => Ending.returned (Value.bool b)) HV.out).symm, Hb.out⟩
    have hv : rightRc ⟨2, t, m, k0, k1, k2, k3, ot, o, nt, n⟩ = true := by rw [rr2, decide_eq_true ge, decide_eq_true g1, Bool.true_and, decide_eq_true g2, Bool.true_and, decide_eq_true g3, Bool.true_and]
    have HV := Lib.hid hv; clear hv Hri
    have hq := fun w => rc_eql w ⟨2, t, m, k0, k1, k2, k3, ot, o, nt, n⟩ ⟨2, t, m, 0, 0, 0, 0, false, 0, false, 0⟩
    have hg := fun x y w => rc_guard .eql x y ⟨2, t, m, k0, k1, k2, k3, ot, o, nt, n⟩ ⟨2, t, m, 0, 0, 0, 0, false, 0, false, 0⟩ w
    rw [decide_eq_true ge] at hq
    simp only [Rc.cells] at hq hg
    have f1 : decide (1 ≤ t) = true := decide_eq_true g1
    have f2 : decide (t ≤ 1048576) = true := decide_eq_true g2
    have f3 : (m != 0) = true := by simpa using g3
    clear ge g1 g2 g3
    obtain ⟨w1, hw1⟩ : ∃ w1, w1 = w.alloc (.cells #[.int .i64 2, .int .i64 t, .int .u16 m, .int .u8 k0, .int .u8 k1, .int .u8 k2, .int .u8 k3, .bool ot, .int .i64 o, .bool nt, .int .i64 n] 63) := ⟨_, rfl⟩
    have b1 : Below w.heap.size w w1 := by rw [hw1]; exact (Below.refl _ _).alloc (Nat.le_refl _) _
    have x1 : w1.heap[w.heap.size]? = some (.cells #[.int .i64 2, .int .i64 t, .int .u16 m, .int .u8 k0, .int .u8 k1, .int .u8 k2, .int .u8 k3, .bool ot, .int .i64 o, .bool nt, .int .i64 n] 63 (0, 0)) := by rw [hw1]; exact heap_alloc_new w _
    obtain ⟨w2, hw2⟩ : ∃ w2, w2 = w1.alloc (.cells #[.int .i64 2, .int .i64 t, .int .u16 m, .int .u8 0, .int .u8 0, .int .u8 0, .int .u8 0, .bool false, .int .i64 0, .bool false, .int .i64 0] 63) := ⟨_, rfl⟩
    have bk : Below w1.heap.size w1 w2 := by rw [hw2]; exact (Below.refl _ _).alloc (Nat.le_refl _) _
    have XA := Lib.hid ((bk.block _ (Array.getElem?_eq_some_iff.1 x1).1).trans x1)
    have Hb := Lib.hid (b1.trans (bk.mono b1.size))
    have y0 := cells_at x1 0
    have y1 := cells_at x1 1
    have y2 := cells_at x1 2
    have y3 := cells_at x1 3
    have y4 := cells_at x1 4
    have y5 := cells_at x1 5
    have y6 := cells_at x1 6
    have y7 := cells_at x1 7
    have y8 := cells_at x1 8
    have y9 := cells_at x1 9
    have y10 := cells_at x1 10
    clear x1 b1 bk
    go_enter Tryz.func71, Tryz.ntmps71
    go_wp2_with fail
    rw [← hw1, ← hw2]
    clear hw1 hw2
    go_ret
    exact ⟨(congrArg (fun b => Ending.returned (Value.bool b)) HV.out).symm, Hb.out⟩
  by_cases c3 : k = 3
  case pos =>
    subst c3
    by_cases ge : (⟨3, t, m, k0, k1, k2, k3, ot, o, nt, n⟩ : Rc) = ⟨3, t, 0, 0, 0, 0, 0, false, 0, false, 0⟩
    case neg =>
      have hv : rightRc ⟨3, t, m, k0, k1, k2, k3, ot, o, nt, n⟩ = false := by rw [rr3, decide_eq_false ge, Bool.false_and, Bool.false_and]
      have HV := Lib.hid hv; clear hv Hri
      have hq := fun w => rc_eql w ⟨3, t, m, k0, k1, k2, k3, ot, o, nt, n⟩ ⟨3, t, 0, 0, 0, 0, 0, false, 0, false, 0⟩
      have hg := fun x y w => rc_guard .eql x y ⟨3, t, m, k0, k1, k2, k3, ot, o, nt, n⟩ ⟨3, t, 0, 0, 0, 0, 0, false, 0, false, 0⟩ w
      rw [decide_eq_false ge] at hq
      simp only [Rc.cells] at hq hg
      clear ge
      obtain ⟨w1, hw1⟩ : ∃ w1, w1 = w.alloc (.cells #[.int .i64 3, .int .i64 t, .int .u16 m, .int .u8 k0, .int .u8 k1, .int .u8 k2, .int .u8 k3, .bool ot, .int .i64 o, .bool nt, .int .i64 n] 63) := ⟨_, rfl⟩
      have b1 : Below w.heap.size w w1 := by rw [hw1]; exact (Below.refl _ _).alloc (Nat.le_refl _) _
      have x1 : w1.heap[w.heap.size]? = some (.cells #[.int .i64 3, .int .i64 t, .int .u16 m, .int .u8 k0, .int .u8 k1, .int .u8 k2, .int .u8 k3, .bool ot, .int .i64 o, .bool nt, .int .i64 n] 63 (0, 0)) := by rw [hw1]; exact heap_alloc_new w _
      obtain ⟨w2, hw2⟩ : ∃ w2, w2 = w1.alloc (.cells #[.int .i64 3, .int .i64 t, .int .u16 0, .int .u8 0, .int .u8 0, .int .u8 0, .int .u8 0, .bool false, .int .i64 0, .bool false, .int .i64 0] 63) := ⟨_, rfl⟩
      have bk : Below w1.heap.size w1 w2 := by rw [hw2]; exact (Below.refl _ _).alloc (Nat.le_refl _) _
      have XA := Lib.hid ((bk.block _ (Array.getElem?_eq_some_iff.1 x1).1).trans x1)
      have Hb := Lib.hid (b1.trans (bk.mono b1.size))
      have y0 := cells_at x1 0
      have y1 := cells_at x1 1
      have y2 := cells_at x1 2
      have y3 := cells_at x1 3
      have y4 := cells_at x1 4
      have y5 := cells_at x1 5
      have y6 := cells_at x1 6
      have y7 := cells_at x1 7
      have y8 := cells_at x1 8
      have y9 := cells_at x1 9
      have y10 := cells_at x1 10
      clear x1 b1 bk
      go_enter Tryz.func71, Tryz.ntmps71
      go_wp2_with fail
      rw [← hw1, ← hw2]
      clear hw1 hw2
      go_ret
      exact ⟨(congrArg (fun b => Ending.returned (Value.bool b)) HV.out).symm, Hb.out⟩
    by_cases g1 : 1 ≤ t
    case neg =>
      have hv : rightRc ⟨3, t, m, k0, k1, k2, k3, ot, o, nt, n⟩ = false := by rw [rr3, decide_eq_true ge, decide_eq_false g1, Bool.true_and, Bool.false_and]
      have HV := Lib.hid hv; clear hv Hri
      have hq := fun w => rc_eql w ⟨3, t, m, k0, k1, k2, k3, ot, o, nt, n⟩ ⟨3, t, 0, 0, 0, 0, 0, false, 0, false, 0⟩
      have hg := fun x y w => rc_guard .eql x y ⟨3, t, m, k0, k1, k2, k3, ot, o, nt, n⟩ ⟨3, t, 0, 0, 0, 0, 0, false, 0, false, 0⟩ w
      rw [decide_eq_true ge] at hq
      simp only [Rc.cells] at hq hg
      have f1 : decide (1 ≤ t) = false := decide_eq_false g1
      clear ge g1
      obtain ⟨w1, hw1⟩ : ∃ w1, w1 = w.alloc (.cells #[.int .i64 3, .int .i64 t, .int .u16 m, .int .u8 k0, .int .u8 k1, .int .u8 k2, .int .u8 k3, .bool ot, .int .i64 o, .bool nt, .int .i64 n] 63) := ⟨_, rfl⟩
      have b1 : Below w.heap.size w w1 := by rw [hw1]; exact (Below.refl _ _).alloc (Nat.le_refl _) _
      have x1 : w1.heap[w.heap.size]? = some (.cells #[.int .i64 3, .int .i64 t, .int .u16 m, .int .u8 k0, .int .u8 k1, .int .u8 k2, .int .u8 k3, .bool ot, .int .i64 o, .bool nt, .int .i64 n] 63 (0, 0)) := by rw [hw1]; exact heap_alloc_new w _
      obtain ⟨w2, hw2⟩ : ∃ w2, w2 = w1.alloc (.cells #[.int .i64 3, .int .i64 t, .int .u16 0, .int .u8 0, .int .u8 0, .int .u8 0, .int .u8 0, .bool false, .int .i64 0, .bool false, .int .i64 0] 63) := ⟨_, rfl⟩
      have bk : Below w1.heap.size w1 w2 := by rw [hw2]; exact (Below.refl _ _).alloc (Nat.le_refl _) _
      have XA := Lib.hid ((bk.block _ (Array.getElem?_eq_some_iff.1 x1).1).trans x1)
      have Hb := Lib.hid (b1.trans (bk.mono b1.size))
      have y0 := cells_at x1 0
      have y1 := cells_at x1 1
      have y2 := cells_at x1 2
      have y3 := cells_at x1 3
      have y4 := cells_at x1 4
      have y5 := cells_at x1 5
      have y6 := cells_at x1 6
      have y7 := cells_at x1 7
      have y8 := cells_at x1 8
      have y9 := cells_at x1 9
      have y10 := cells_at x1 10
      clear x1 b1 bk
      go_enter Tryz.func71, Tryz.ntmps71
      go_wp2_with fail
      rw [← hw1, ← hw2]
      clear hw1 hw2
      go_ret
      exact ⟨(congrArg (fun b => Ending.returned (Value.bool b)) HV.out).symm, Hb.out⟩
    by_cases g2 : t ≤ 1048576
    case neg =>
      have hv : rightRc ⟨3, t, m, k0, k1, k2, k3, ot, o, nt, n⟩ = false := by rw [rr3, decide_eq_true ge, decide_eq_true g1, Bool.true_and, decide_eq_false g2, Bool.true_and]
      have HV := Lib.hid hv; clear hv Hri
      have hq := fun w => rc_eql w ⟨3, t, m, k0, k1, k2, k3, ot, o, nt, n⟩ ⟨3, t, 0, 0, 0, 0, 0, false, 0, false, 0⟩
      have hg := fun x y w => rc_guard .eql x y ⟨3, t, m, k0, k1, k2, k3, ot, o, nt, n⟩ ⟨3, t, 0, 0, 0, 0, 0, false, 0, false, 0⟩ w
      rw [decide_eq_true ge] at hq
      simp only [Rc.cells] at hq hg
      have f1 : decide (1 ≤ t) = true := decide_eq_true g1
      have f2 : decide (t ≤ 1048576) = false := decide_eq_false g2
      clear ge g1 g2
      obtain ⟨w1, hw1⟩ : ∃ w1, w1 = w.alloc (.cells #[.int .i64 3, .int .i64 t, .int .u16 m, .int .u8 k0, .int .u8 k1, .int .u8 k2, .int .u8 k3, .bool ot, .int .i64 o, .bool nt, .int .i64 n] 63) := ⟨_, rfl⟩
      have b1 : Below w.heap.size w w1 := by rw [hw1]; exact (Below.refl _ _).alloc (Nat.le_refl _) _
      have x1 : w1.heap[w.heap.size]? = some (.cells #[.int .i64 3, .int .i64 t, .int .u16 m, .int .u8 k0, .int .u8 k1, .int .u8 k2, .int .u8 k3, .bool ot, .int .i64 o, .bool nt, .int .i64 n] 63 (0, 0)) := by rw [hw1]; exact heap_alloc_new w _
      obtain ⟨w2, hw2⟩ : ∃ w2, w2 = w1.alloc (.cells #[.int .i64 3, .int .i64 t, .int .u16 0, .int .u8 0, .int .u8 0, .int .u8 0, .int .u8 0, .bool false, .int .i64 0, .bool false, .int .i64 0] 63) := ⟨_, rfl⟩
      have bk : Below w1.heap.size w1 w2 := by rw [hw2]; exact (Below.refl _ _).alloc (Nat.le_refl _) _
      have XA := Lib.hid ((bk.block _ (Array.getElem?_eq_some_iff.1 x1).1).trans x1)
      have Hb := Lib.hid (b1.trans (bk.mono b1.size))
      have y0 := cells_at x1 0
      have y1 := cells_at x1 1
      have y2 := cells_at x1 2
      have y3 := cells_at x1 3
      have y4 := cells_at x1 4
      have y5 := cells_at x1 5
      have y6 := cells_at x1 6
      have y7 := cells_at x1 7
      have y8 := cells_at x1 8
      have y9 := cells_at x1 9
      have y10 := cells_at x1 10
      clear x1 b1 bk
      go_enter Tryz.func71, Tryz.ntmps71
      go_wp2_with fail
      rw [← hw1, ← hw2]
      clear hw1 hw2
      go_ret
      exact ⟨(congrArg (fun b => Ending.returned (Value.bool b)) HV.out).symm, Hb.out⟩
    have hv : rightRc ⟨3, t, m, k0, k1, k2, k3, ot, o, nt, n⟩ = true := by rw [rr3, decide_eq_true ge, decide_eq_true g1, Bool.true_and, decide_eq_true g2, Bool.true_and]
    have HV := Lib.hid hv; clear hv Hri
    have hq := fun w => rc_eql w ⟨3, t, m, k0, k1, k2, k3, ot, o, nt, n⟩ ⟨3, t, 0, 0, 0, 0, 0, false, 0, false, 0⟩
    have hg := fun x y w => rc_guard .eql x y ⟨3, t, m, k0, k1, k2, k3, ot, o, nt, n⟩ ⟨3, t, 0, 0, 0, 0, 0, false, 0, false, 0⟩ w
    rw [decide_eq_true ge] at hq
    simp only [Rc.cells] at hq hg
    have f1 : decide (1 ≤ t) = true := decide_eq_true g1
    have f2 : decide (t ≤ 1048576) = true := decide_eq_true g2
    clear ge g1 g2
    obtain ⟨w1, hw1⟩ : ∃ w1, w1 = w.alloc (.cells #[.int .i64 3, .int .i64 t, .int .u16 m, .int .u8 k0, .int .u8 k1, .int .u8 k2, .int .u8 k3, .bool ot, .int .i64 o, .bool nt, .int .i64 n] 63) := ⟨_, rfl⟩
    have b1 : Below w.heap.size w w1 := by rw [hw1]; exact (Below.refl _ _).alloc (Nat.le_refl _) _
    have x1 : w1.heap[w.heap.size]? = some (.cells #[.int .i64 3, .int .i64 t, .int .u16 m, .int .u8 k0, .int .u8 k1, .int .u8 k2, .int .u8 k3, .bool ot, .int .i64 o, .bool nt, .int .i64 n] 63 (0, 0)) := by rw [hw1]; exact heap_alloc_new w _
    obtain ⟨w2, hw2⟩ : ∃ w2, w2 = w1.alloc (.cells #[.int .i64 3, .int .i64 t, .int .u16 0, .int .u8 0, .int .u8 0, .int .u8 0, .int .u8 0, .bool false, .int .i64 0, .bool false, .int .i64 0] 63) := ⟨_, rfl⟩
    have bk : Below w1.heap.size w1 w2 := by rw [hw2]; exact (Below.refl _ _).alloc (Nat.le_refl _) _
    have XA := Lib.hid ((bk.block _ (Array.getElem?_eq_some_iff.1 x1).1).trans x1)
    have Hb := Lib.hid (b1.trans (bk.mono b1.size))
    have y0 := cells_at x1 0
    have y1 := cells_at x1 1
    have y2 := cells_at x1 2
    have y3 := cells_at x1 3
    have y4 := cells_at x1 4
    have y5 := cells_at x1 5
    have y6 := cells_at x1 6
    have y7 := cells_at x1 7
    have y8 := cells_at x1 8
    have y9 := cells_at x1 9
    have y10 := cells_at x1 10
    clear x1 b1 bk
    go_enter Tryz.func71, Tryz.ntmps71
    go_wp2_with fail
    rw [← hw1, ← hw2]
    clear hw1 hw2
    go_ret
    exact ⟨(congrArg (fun b => Ending.returned (Value.bool b)) HV.out).symm, Hb.out⟩
  by_cases c4 : k = 4
  case pos =>
    subst c4
    by_cases ge : (⟨4, t, m, k0, k1, k2, k3, ot, o, nt, n⟩ : Rc) = ⟨4, t, 0, 0, 0, 0, 0, false, 0, false, 0⟩
    case neg =>
      have hv : rightRc ⟨4, t, m, k0, k1, k2, k3, ot, o, nt, n⟩ = false := by rw [rr4, decide_eq_false ge, Bool.false_and, Bool.false_and]
      have HV := Lib.hid hv; clear hv Hri
      have hq := fun w => rc_eql w ⟨4, t, m, k0, k1, k2, k3, ot, o, nt, n⟩ ⟨4, t, 0, 0, 0, 0, 0, false, 0, false, 0⟩
      have hg := fun x y w => rc_guard .eql x y ⟨4, t, m, k0, k1, k2, k3, ot, o, nt, n⟩ ⟨4, t, 0, 0, 0, 0, 0, false, 0, false, 0⟩ w
      rw [decide_eq_false ge] at hq
      simp only [Rc.cells] at hq hg
      clear ge
      obtain ⟨w1, hw1⟩ : ∃ w1, w1 = w.alloc (.cells #[.int .i64 4, .int .i64 t, .int .u16 m, .int .u8 k0, .int .u8 k1, .int .u8 k2, .int .u8 k3, .bool ot, .int .i64 o, .bool nt, .int .i64 n] 63) := ⟨_, rfl⟩
      have b1 : Below w.heap.size w w1 := by rw [hw1]; exact (Below.refl _ _).alloc (Nat.le_refl _) _
      have x1 : w1.heap[w.heap.size]? = some (.cells #[.int .i64 4, .int .i64 t, .int .u16 m, .int .u8 k0, .int .u8 k1, .int .u8 k2, .int .u8 k3, .bool ot, .int .i64 o, .bool nt, .int .i64 n] 63 (0, 0)) := by rw [hw1]; exact heap_alloc_new w _
      obtain ⟨w2, hw2⟩ : ∃ w2, w2 = w1.alloc (.cells #[.int .i64 4, .int .i64 t, .int .u16 0, .int .u8 0, .int .u8 0, .int .u8 0, .int .u8 0, .bool false, .int .i64 0, .bool false, .int .i64 0] 63) := ⟨_, rfl⟩
      have bk : Below w1.heap.size w1 w2 := by rw [hw2]; exact (Below.refl _ _).alloc (Nat.le_refl _) _
      have XA := Lib.hid ((bk.block _ (Array.getElem?_eq_some_iff.1 x1).1).trans x1)
      have Hb := Lib.hid (b1.trans (bk.mono b1.size))
      have y0 := cells_at x1 0
      have y1 := cells_at x1 1
      have y2 := cells_at x1 2
      have y3 := cells_at x1 3
      have y4 := cells_at x1 4
      have y5 := cells_at x1 5
      have y6 := cells_at x1 6
      have y7 := cells_at x1 7
      have y8 := cells_at x1 8
      have y9 := cells_at x1 9
      have y10 := cells_at x1 10
      clear x1 b1 bk
      go_enter Tryz.func71, Tryz.ntmps71
      go_wp2_with fail
      rw [← hw1, ← hw2]
      clear hw1 hw2
      go_ret
      exact ⟨(congrArg (fun b => Ending.returned (Value.bool b)) HV.out).symm, Hb.out⟩
    by_cases g1 : 1 ≤ t
    case neg =>
      have hv : rightRc ⟨4, t, m, k0, k1, k2, k3, ot, o, nt, n⟩ = false := by rw [rr4, decide_eq_true ge, decide_eq_false g1, Bool.true_and, Bool.false_and]
      have HV := Lib.hid hv; clear hv Hri
      have hq := fun w => rc_eql w ⟨4, t, m, k0, k1, k2, k3, ot, o, nt, n⟩ ⟨4, t, 0, 0, 0, 0, 0, false, 0, false, 0⟩
      have hg := fun x y w => rc_guard .eql x y ⟨4, t, m, k0, k1, k2, k3, ot, o, nt, n⟩ ⟨4, t, 0, 0, 0, 0, 0, false, 0, false, 0⟩ w
      rw [decide_eq_true ge] at hq
      simp only [Rc.cells] at hq hg
      have f1 : decide (1 ≤ t) = false := decide_eq_false g1
      clear ge g1
      obtain ⟨w1, hw1⟩ : ∃ w1, w1 = w.alloc (.cells #[.int .i64 4, .int .i64 t, .int .u16 m, .int .u8 k0, .int .u8 k1, .int .u8 k2, .int .u8 k3, .bool ot, .int .i64 o, .bool nt, .int .i64 n] 63) := ⟨_, rfl⟩
      have b1 : Below w.heap.size w w1 := by rw [hw1]; exact (Below.refl _ _).alloc (Nat.le_refl _) _
      have x1 : w1.heap[w.heap.size]? = some (.cells #[.int .i64 4, .int .i64 t, .int .u16 m, .int .u8 k0, .int .u8 k1, .int .u8 k2, .int .u8 k3, .bool ot, .int .i64 o, .bool nt, .int .i64 n] 63 (0, 0)) := by rw [hw1]; exact heap_alloc_new w _
      obtain ⟨w2, hw2⟩ : ∃ w2, w2 = w1.alloc (.cells #[.int .i64 4, .int .i64 t, .int .u16 0, .int .u8 0, .int .u8 0, .int .u8 0, .int .u8 0, .bool false, .int .i64 0, .bool false, .int .i64 0] 63) := ⟨_, rfl⟩
      have bk : Below w1.heap.size w1 w2 := by rw [hw2]; exact (Below.refl _ _).alloc (Nat.le_refl _) _
      have XA := Lib.hid ((bk.block _ (Array.getElem?_eq_some_iff.1 x1).1).trans x1)
      have Hb := Lib.hid (b1.trans (bk.mono b1.size))
      have y0 := cells_at x1 0
      have y1 := cells_at x1 1
      have y2 := cells_at x1 2
      have y3 := cells_at x1 3
      have y4 := cells_at x1 4
      have y5 := cells_at x1 5
      have y6 := cells_at x1 6
      have y7 := cells_at x1 7
      have y8 := cells_at x1 8
      have y9 := cells_at x1 9
      have y10 := cells_at x1 10
      clear x1 b1 bk
      go_enter Tryz.func71, Tryz.ntmps71
      go_wp2_with fail
      rw [← hw1, ← hw2]
      clear hw1 hw2
      go_ret
      exact ⟨(congrArg (fun b => Ending.returned (Value.bool b)) HV.out).symm, Hb.out⟩
    by_cases g2 : t ≤ 1048576
    case neg =>
      have hv : rightRc ⟨4, t, m, k0, k1, k2, k3, ot, o, nt, n⟩ = false := by rw [rr4, decide_eq_true ge, decide_eq_true g1, Bool.true_and, decide_eq_false g2, Bool.true_and]
      have HV := Lib.hid hv; clear hv Hri
      have hq := fun w => rc_eql w ⟨4, t, m, k0, k1, k2, k3, ot, o, nt, n⟩ ⟨4, t, 0, 0, 0, 0, 0, false, 0, false, 0⟩
      have hg := fun x y w => rc_guard .eql x y ⟨4, t, m, k0, k1, k2, k3, ot, o, nt, n⟩ ⟨4, t, 0, 0, 0, 0, 0, false, 0, false, 0⟩ w
      rw [decide_eq_true ge] at hq
      simp only [Rc.cells] at hq hg
      have f1 : decide (1 ≤ t) = true := decide_eq_true g1
      have f2 : decide (t ≤ 1048576) = false := decide_eq_false g2
      clear ge g1 g2
      obtain ⟨w1, hw1⟩ : ∃ w1, w1 = w.alloc (.cells #[.int .i64 4, .int .i64 t, .int .u16 m, .int .u8 k0, .int .u8 k1, .int .u8 k2, .int .u8 k3, .bool ot, .int .i64 o, .bool nt, .int .i64 n] 63) := ⟨_, rfl⟩
      have b1 : Below w.heap.size w w1 := by rw [hw1]; exact (Below.refl _ _).alloc (Nat.le_refl _) _
      have x1 : w1.heap[w.heap.size]? = some (.cells #[.int .i64 4, .int .i64 t, .int .u16 m, .int .u8 k0, .int .u8 k1, .int .u8 k2, .int .u8 k3, .bool ot, .int .i64 o, .bool nt, .int .i64 n] 63 (0, 0)) := by rw [hw1]; exact heap_alloc_new w _
      obtain ⟨w2, hw2⟩ : ∃ w2, w2 = w1.alloc (.cells #[.int .i64 4, .int .i64 t, .int .u16 0, .int .u8 0, .int .u8 0, .int .u8 0, .int .u8 0, .bool false, .int .i64 0, .bool false, .int .i64 0] 63) := ⟨_, rfl⟩
      have bk : Below w1.heap.size w1 w2 := by rw [hw2]; exact (Below.refl _ _).alloc (Nat.le_refl _) _
      have XA := Lib.hid ((bk.block _ (Array.getElem?_eq_some_iff.1 x1).1).trans x1)
      have Hb := Lib.hid (b1.trans (bk.mono b1.size))
      have y0 := cells_at x1 0
      have y1 := cells_at x1 1
      have y2 := cells_at x1 2
      have y3 := cells_at x1 3
      have y4 := cells_at x1 4
      have y5 := cells_at x1 5
      have y6 := cells_at x1 6
      have y7 := cells_at x1 7
      have y8 := cells_at x1 8
      have y9 := cells_at x1 9
      have y10 := cells_at x1 10
      clear x1 b1 bk
      go_enter Tryz.func71, Tryz.ntmps71
      go_wp2_with fail
      rw [← hw1, ← hw2]
      clear hw1 hw2
      go_ret
      exact ⟨(congrArg (fun b => Ending.returned (Value.bool b)) HV.out).symm, Hb.out⟩
    have hv : rightRc ⟨4, t, m, k0, k1, k2, k3, ot, o, nt, n⟩ = true := by rw [rr4, decide_eq_true ge, decide_eq_true g1, Bool.true_and, decide_eq_true g2, Bool.true_and]
    have HV := Lib.hid hv; clear hv Hri
    have hq := fun w => rc_eql w ⟨4, t, m, k0, k1, k2, k3, ot, o, nt, n⟩ ⟨4, t, 0, 0, 0, 0, 0, false, 0, false, 0⟩
    have hg := fun x y w => rc_guard .eql x y ⟨4, t, m, k0, k1, k2, k3, ot, o, nt, n⟩ ⟨4, t, 0, 0, 0, 0, 0, false, 0, false, 0⟩ w
    rw [decide_eq_true ge] at hq
    simp only [Rc.cells] at hq hg
    have f1 : decide (1 ≤ t) = true := decide_eq_true g1
    have f2 : decide (t ≤ 1048576) = true := decide_eq_true g2
    clear ge g1 g2
    obtain ⟨w1, hw1⟩ : ∃ w1, w1 = w.alloc (.cells #[.int .i64 4, .int .i64 t, .int .u16 m, .int .u8 k0, .int .u8 k1, .int .u8 k2, .int .u8 k3, .bool ot, .int .i64 o, .bool nt, .int .i64 n] 63) := ⟨_, rfl⟩
    have b1 : Below w.heap.size w w1 := by rw [hw1]; exact (Below.refl _ _).alloc (Nat.le_refl _) _
    have x1 : w1.heap[w.heap.size]? = some (.cells #[.int .i64 4, .int .i64 t, .int .u16 m, .int .u8 k0, .int .u8 k1, .int .u8 k2, .int .u8 k3, .bool ot, .int .i64 o, .bool nt, .int .i64 n] 63 (0, 0)) := by rw [hw1]; exact heap_alloc_new w _
    obtain ⟨w2, hw2⟩ : ∃ w2, w2 = w1.alloc (.cells #[.int .i64 4, .int .i64 t, .int .u16 0, .int .u8 0, .int .u8 0, .int .u8 0, .int .u8 0, .bool false, .int .i64 0, .bool false, .int .i64 0] 63) := ⟨_, rfl⟩
    have bk : Below w1.heap.size w1 w2 := by rw [hw2]; exact (Below.refl _ _).alloc (Nat.le_refl _) _
    have XA := Lib.hid ((bk.block _ (Array.getElem?_eq_some_iff.1 x1).1).trans x1)
    have Hb := Lib.hid (b1.trans (bk.mono b1.size))
    have y0 := cells_at x1 0
    have y1 := cells_at x1 1
    have y2 := cells_at x1 2
    have y3 := cells_at x1 3
    have y4 := cells_at x1 4
    have y5 := cells_at x1 5
    have y6 := cells_at x1 6
    have y7 := cells_at x1 7
    have y8 := cells_at x1 8
    have y9 := cells_at x1 9
    have y10 := cells_at x1 10
    clear x1 b1 bk
    go_enter Tryz.func71, Tryz.ntmps71
    go_wp2_with fail
    rw [← hw1, ← hw2]
    clear hw1 hw2
    go_ret
    exact ⟨(congrArg (fun b => Ending.returned (Value.bool b)) HV.out).symm, Hb.out⟩
  by_cases c5 : k = 5
  case pos =>
    subst c5
    by_cases ge : (⟨5, t, m, k0, k1, k2, k3, ot, o, nt, n⟩ : Rc) = ⟨5, t, 0, 0, 0, 0, 0, false, 0, false, 0⟩
    case neg =>
      have hv : rightRc ⟨5, t, m, k0, k1, k2, k3, ot, o, nt, n⟩ = false := by rw [rr5, decide_eq_false ge, Bool.false_and, Bool.false_and]
      have HV := Lib.hid hv; clear hv Hri
      have hq := fun w => rc_eql w ⟨5, t, m, k0, k1, k2, k3, ot, o, nt, n⟩ ⟨5, t, 0, 0, 0, 0, 0, false, 0, false, 0⟩
      have hg := fun x y w => rc_guard .eql x y ⟨5, t, m, k0, k1, k2, k3, ot, o, nt, n⟩ ⟨5, t, 0, 0, 0, 0, 0, false, 0, false, 0⟩ w
      rw [decide_eq_false ge] at hq
      simp only [Rc.cells] at hq hg
      clear ge
      obtain ⟨w1, hw1⟩ : ∃ w1, w1 = w.alloc (.cells #[.int .i64 5, .int .i64 t, .int .u16 m, .int .u8 k0, .int .u8 k1, .int .u8 k2, .int .u8 k3, .bool ot, .int .i64 o, .bool nt, .int .i64 n] 63) := ⟨_, rfl⟩
      have b1 : Below w.heap.size w w1 := by rw [hw1]; exact (Below.refl _ _).alloc (Nat.le_refl _) _
      have x1 : w1.heap[w.heap.size]? = some (.cells #[.int .i64 5, .int .i64 t, .int .u16 m, .int .u8 k0, .int .u8 k1, .int .u8 k2, .int .u8 k3, .bool ot, .int .i64 o, .bool nt, .int .i64 n] 63 (0, 0)) := by rw [hw1]; exact heap_alloc_new w _
      obtain ⟨w2, hw2⟩ : ∃ w2, w2 = w1.alloc (.cells #[.int .i64 5, .int .i64 t, .int .u16 0, .int .u8 0, .int .u8 0, .int .u8 0, .int .u8 0, .bool false, .int .i64 0, .bool false, .int .i64 0] 63) := ⟨_, rfl⟩
      have bk : Below w1.heap.size w1 w2 := by rw [hw2]; exact (Below.refl _ _).alloc (Nat.le_refl _) _
      have XA := Lib.hid ((bk.block _ (Array.getElem?_eq_some_iff.1 x1).1).trans x1)
      have Hb := Lib.hid (b1.trans (bk.mono b1.size))
      have y0 := cells_at x1 0
      have y1 := cells_at x1 1
      have y2 := cells_at x1 2
      have y3 := cells_at x1 3
      have y4 := cells_at x1 4
      have y5 := cells_at x1 5
      have y6 := cells_at x1 6
      have y7 := cells_at x1 7
      have y8 := cells_at x1 8
      have y9 := cells_at x1 9
      have y10 := cells_at x1 10
      clear x1 b1 bk
      go_enter Tryz.func71, Tryz.ntmps71
      go_wp2_with fail
      rw [← hw1, ← hw2]
      clear hw1 hw2
      go_ret
      exact ⟨(congrArg (fun b => Ending.returned (Value.bool b)) HV.out).symm, Hb.out⟩
    by_cases g1 : 1 ≤ t
    case neg =>
      have hv : rightRc ⟨5, t, m, k0, k1, k2, k3, ot, o, nt, n⟩ = false := by rw [rr5, decide_eq_true ge, decide_eq_false g1, Bool.true_and, Bool.false_and]
      have HV := Lib.hid hv; clear hv Hri
      have hq := fun w => rc_eql w ⟨5, t, m, k0, k1, k2, k3, ot, o, nt, n⟩ ⟨5, t, 0, 0, 0, 0, 0, false, 0, false, 0⟩
      have hg := fun x y w => rc_guard .eql x y ⟨5, t, m, k0, k1, k2, k3, ot, o, nt, n⟩ ⟨5, t, 0, 0, 0, 0, 0, false, 0, false, 0⟩ w
      rw [decide_eq_true ge] at hq
      simp only [Rc.cells] at hq hg
      have f1 : decide (1 ≤ t) = false := decide_eq_false g1
      clear ge g1
      obtain ⟨w1, hw1⟩ : ∃ w1, w1 = w.alloc (.cells #[.int .i64 5, .int .i64 t, .int .u16 m, .int .u8 k0, .int .u8 k1, .int .u8 k2, .int .u8 k3, .bool ot, .int .i64 o, .bool nt, .int .i64 n] 63) := ⟨_, rfl⟩
      have b1 : Below w.heap.size w w1 := by rw [hw1]; exact (Below.refl _ _).alloc (Nat.le_refl _) _
      have x1 : w1.heap[w.heap.size]? = some (.cells #[.int .i64 5, .int .i64 t, .int .u16 m, .int .u8 k0, .int .u8 k1, .int .u8 k2, .int .u8 k3, .bool ot, .int .i64 o, .bool nt, .int .i64 n] 63 (0, 0)) := by rw [hw1]; exact heap_alloc_new w _
      obtain ⟨w2, hw2⟩ : ∃ w2, w2 = w1.alloc (.cells #[.int .i64 5, .int .i64 t, .int .u16 0, .int .u8 0, .int .u8 0, .int .u8 0, .int .u8 0, .bool false, .int .i64 0, .bool false, .int .i64 0] 63) := ⟨_, rfl⟩
      have bk : Below w1.heap.size w1 w2 := by rw [hw2]; exact (Below.refl _ _).alloc (Nat.le_refl _) _
      have XA := Lib.hid ((bk.block _ (Array.getElem?_eq_some_iff.1 x1).1).trans x1)
      have Hb := Lib.hid (b1.trans (bk.mono b1.size))
      have y0 := cells_at x1 0
      have y1 := cells_at x1 1
      have y2 := cells_at x1 2
      have y3 := cells_at x1 3
      have y4 := cells_at x1 4
      have y5 := cells_at x1 5
      have y6 := cells_at x1 6
      have y7 := cells_at x1 7
      have y8 := cells_at x1 8
      have y9 := cells_at x1 9
      have y10 := cells_at x1 10
      clear x1 b1 bk
      go_enter Tryz.func71, Tryz.ntmps71
      go_wp2_with fail
      rw [← hw1, ← hw2]
      clear hw1 hw2
      go_ret
      exact ⟨(congrArg (fun b => Ending.returned (Value.bool b)) HV.out).symm, Hb.out⟩
    by_cases g2 : t ≤ 1048576
    case neg =>
      have hv : rightRc ⟨5, t, m, k0, k1, k2, k3, ot, o, nt, n⟩ = false := by rw [rr5, decide_eq_true ge, decide_eq_true g1, Bool.true_and, decide_eq_false g2, Bool.true_and]
      have HV := Lib.hid hv; clear hv Hri
      have hq := fun w => rc_eql w ⟨5, t, m, k0, k1, k2, k3, ot, o, nt, n⟩ ⟨5, t, 0, 0, 0, 0, 0, false, 0, false, 0⟩
      have hg := fun x y w => rc_guard .eql x y ⟨5, t, m, k0, k1, k2, k3, ot, o, nt, n⟩ ⟨5, t, 0, 0, 0, 0, 0, false, 0, false, 0⟩ w
      rw [decide_eq_true ge] at hq
      simp only [Rc.cells] at hq hg
      have f1 : decide (1 ≤ t) = true := decide_eq_true g1
      have f2 : decide (t ≤ 1048576) = false := decide_eq_false g2
      clear ge g1 g2
      obtain ⟨w1, hw1⟩ : ∃ w1, w1 = w.alloc (.cells #[.int .i64 5, .int .i64 t, .int .u16 m, .int .u8 k0, .int .u8 k1, .int .u8 k2, .int .u8 k3, .bool ot, .int .i64 o, .bool nt, .int .i64 n] 63) := ⟨_, rfl⟩
      have b1 : Below w.heap.size w w1 := by rw [hw1]; exact (Below.refl _ _).alloc (Nat.le_refl _) _
      have x1 : w1.heap[w.heap.size]? = some (.cells #[.int .i64 5, .int .i64 t, .int .u16 m, .int .u8 k0, .int .u8 k1, .int .u8 k2, .int .u8 k3, .bool ot, .int .i64 o, .bool nt, .int .i64 n] 63 (0, 0)) := by rw [hw1]; exact heap_alloc_new w _
      obtain ⟨w2, hw2⟩ : ∃ w2, w2 = w1.alloc (.cells #[.int .i64 5, .int .i64 t, .int .u16 0, .int .u8 0, .int .u8 0, .int .u8 0, .int .u8 0, .bool false, .int .i64 0, .bool false, .int .i64 0] 63) := ⟨_, rfl⟩
      have bk : Below w1.heap.size w1 w2 := by rw [hw2]; exact (Below.refl _ _).alloc (Nat.le_refl _) _
      have XA := Lib.hid ((bk.block _ (Array.getElem?_eq_some_iff.1 x1).1).trans x1)
      have Hb := Lib.hid (b1.trans (bk.mono b1.size))
      have y0 := cells_at x1 0
      have y1 := cells_at x1 1
      have y2 := cells_at x1 2
      have y3 := cells_at x1 3
      have y4 := cells_at x1 4
      have y5 := cells_at x1 5
      have y6 := cells_at x1 6
      have y7 := cells_at x1 7
      have y8 := cells_at x1 8
      have y9 := cells_at x1 9
      have y10 := cells_at x1 10
      clear x1 b1 bk
      go_enter Tryz.func71, Tryz.ntmps71
      go_wp2_with fail
      rw [← hw1, ← hw2]
      clear hw1 hw2
      go_ret
      exact ⟨(congrArg (fun b => Ending.returned (Value.bool b)) HV.out).symm, Hb.out⟩
    have hv : rightRc ⟨5, t, m, k0, k1, k2, k3, ot, o, nt, n⟩ = true := by rw [rr5, decide_eq_true ge, decide_eq_true g1, Bool.true_and, decide_eq_true g2, Bool.true_and]
    have HV := Lib.hid hv; clear hv Hri
    have hq := fun w => rc_eql w ⟨5, t, m, k0, k1, k2, k3, ot, o, nt, n⟩ ⟨5, t, 0, 0, 0, 0, 0, false, 0, false, 0⟩
    have hg := fun x y w => rc_guard .eql x y ⟨5, t, m, k0, k1, k2, k3, ot, o, nt, n⟩ ⟨5, t, 0, 0, 0, 0, 0, false, 0, false, 0⟩ w
    rw [decide_eq_true ge] at hq
    simp only [Rc.cells] at hq hg
    have f1 : decide (1 ≤ t) = true := decide_eq_true g1
    have f2 : decide (t ≤ 1048576) = true := decide_eq_true g2
    clear ge g1 g2
    obtain ⟨w1, hw1⟩ : ∃ w1, w1 = w.alloc (.cells #[.int .i64 5, .int .i64 t, .int .u16 m, .int .u8 k0, .int .u8 k1, .int .u8 k2, .int .u8 k3, .bool ot, .int .i64 o, .bool nt, .int .i64 n] 63) := ⟨_, rfl⟩
    have b1 : Below w.heap.size w w1 := by rw [hw1]; exact (Below.refl _ _).alloc (Nat.le_refl _) _
    have x1 : w1.heap[w.heap.size]? = some (.cells #[.int .i64 5, .int .i64 t, .int .u16 m, .int .u8 k0, .int .u8 k1, .int .u8 k2, .int .u8 k3, .bool ot, .int .i64 o, .bool nt, .int .i64 n] 63 (0, 0)) := by rw [hw1]; exact heap_alloc_new w _
    obtain ⟨w2, hw2⟩ : ∃ w2, w2 = w1.alloc (.cells #[.int .i64 5, .int .i64 t, .int .u16 0, .int .u8 0, .int .u8 0, .int .u8 0, .int .u8 0, .bool false, .int .i64 0, .bool false, .int .i64 0] 63) := ⟨_, rfl⟩
    have bk : Below w1.heap.size w1 w2 := by rw [hw2]; exact (Below.refl _ _).alloc (Nat.le_refl _) _
    have XA := Lib.hid ((bk.block _ (Array.getElem?_eq_some_iff.1 x1).1).trans x1)
    have Hb := Lib.hid (b1.trans (bk.mono b1.size))
    have y0 := cells_at x1 0
    have y1 := cells_at x1 1
    have y2 := cells_at x1 2
    have y3 := cells_at x1 3
    have y4 := cells_at x1 4
    have y5 := cells_at x1 5
    have y6 := cells_at x1 6
    have y7 := cells_at x1 7
    have y8 := cells_at x1 8
    have y9 := cells_at x1 9
    have y10 := cells_at x1 10
    clear x1 b1 bk
    go_enter Tryz.func71, Tryz.ntmps71
    go_wp2_with fail
    rw [← hw1, ← hw2]
    clear hw1 hw2
    go_ret
    exact ⟨(congrArg (fun b => Ending.returned (Value.bool b)) HV.out).symm, Hb.out⟩
  by_cases c6 : k = 6
  case pos =>
    subst c6
    by_cases ge : (⟨6, t, m, k0, k1, k2, k3, ot, o, nt, n⟩ : Rc) = ⟨6, t, 0, 0, 0, 0, 0, false, 0, false, 0⟩
    case neg =>
      have hv : rightRc ⟨6, t, m, k0, k1, k2, k3, ot, o, nt, n⟩ = false := by rw [rr6, decide_eq_false ge, Bool.false_and, Bool.false_and]
      have HV := Lib.hid hv; clear hv Hri
      have hq := fun w => rc_eql w ⟨6, t, m, k0, k1, k2, k3, ot, o, nt, n⟩ ⟨6, t, 0, 0, 0, 0, 0, false, 0, false, 0⟩
      have hg := fun x y w => rc_guard .eql x y ⟨6, t, m, k0, k1, k2, k3, ot, o, nt, n⟩ ⟨6, t, 0, 0, 0, 0, 0, false, 0, false, 0⟩ w
      rw [decide_eq_false ge] at hq
      simp only [Rc.cells] at hq hg
      clear ge
      obtain ⟨w1, hw1⟩ : ∃ w1, w1 = w.alloc (.cells #[.int .i64 6, .int .i64 t, .int .u16 m, .int .u8 k0, .int .u8 k1, .int .u8 k2, .int .u8 k3, .bool ot, .int .i64 o, .bool nt, .int .i64 n] 63) := ⟨_, rfl⟩
      have b1 : Below w.heap.size w w1 := by rw [hw1]; exact (Below.refl _ _).alloc (Nat.le_refl _) _
      have x1 : w1.heap[w.heap.size]? = some (.cells #[.int .i64 6, .int .i64 t, .int .u16 m, .int .u8 k0, .int .u8 k1, .int .u8 k2, .int .u8 k3, .bool ot, .int .i64 o, .bool nt, .int .i64 n] 63 (0, 0)) := by rw [hw1]; exact heap_alloc_new w _
      obtain ⟨w2, hw2⟩ : ∃ w2, w2 = w1.alloc (.cells #[.int .i64 6, .int .i64 t, .int .u16 0, .int .u8 0, .int .u8 0, .int .u8 0, .int .u8 0, .bool false, .int .i64 0, .bool false, .int .i64 0] 63) := ⟨_, rfl⟩
      have bk : Below w1.heap.size w1 w2 := by rw [hw2]; exact (Below.refl _ _).alloc (Nat.le_refl _) _
      have XA := Lib.hid ((bk.block _ (Array.getElem?_eq_some_iff.1 x1).1).trans x1)
      have Hb := Lib.hid (b1.trans (bk.mono b1.size))
      have y0 := cells_at x1 0
      have y1 := cells_at x1 1
      have y2 := cells_at x1 2
      have y3 := cells_at x1 3
      have y4 := cells_at x1 4
      have y5 := cells_at x1 5
      have y6 := cells_at x1 6
      have y7 := cells_at x1 7
      have y8 := cells_at x1 8
      have y9 := cells_at x1 9
      have y10 := cells_at x1 10
      clear x1 b1 bk
      go_enter Tryz.func71, Tryz.ntmps71
      go_wp2_with fail
      rw [← hw1, ← hw2]
      clear hw1 hw2
      go_ret
      exact ⟨(congrArg (fun b => Ending.returned (Value.bool b)) HV.out).symm, Hb.out⟩
    by_cases g1 : 1 ≤ t
    case neg =>
      have hv : rightRc ⟨6, t, m, k0, k1, k2, k3, ot, o, nt, n⟩ = false := by rw [rr6, decide_eq_true ge, decide_eq_false g1, Bool.true_and, Bool.false_and]
      have HV := Lib.hid hv; clear hv Hri
      have hq := fun w => rc_eql w ⟨6, t, m, k0, k1, k2, k3, ot, o, nt, n⟩ ⟨6, t, 0, 0, 0, 0, 0, false, 0, false, 0⟩
      have hg := fun x y w => rc_guard .eql x y ⟨6, t, m, k0, k1, k2, k3, ot, o, nt, n⟩ ⟨6, t, 0, 0, 0, 0, 0, false, 0, false, 0⟩ w
      rw [decide_eq_true ge] at hq
      simp only [Rc.cells] at hq hg
      have f1 : decide (1 ≤ t) = false := decide_eq_false g1
      clear ge g1
      obtain ⟨w1, hw1⟩ : ∃ w1, w1 = w.alloc (.cells #[.int .i64 6, .int .i64 t, .int .u16 m, .int .u8 k0, .int .u8 k1, .int .u8 k2, .int .u8 k3, .bool ot, .int .i64 o, .bool nt, .int .i64 n] 63) := ⟨_, rfl⟩
      have b1 : Below w.heap.size w w1 := by rw [hw1]; exact (Below.refl _ _).alloc (Nat.le_refl _) _
      have x1 : w1.heap[w.heap.size]? = some (.cells #[.int .i64 6, .int .i64 t, .int .u16 m, .int .u8 k0, .int .u8 k1, .int .u8 k2, .int .u8 k3, .bool ot, .int .i64 o, .bool nt, .int .i64 n] 63 (0, 0)) := by rw [hw1]; exact heap_alloc_new w _
      obtain ⟨w2, hw2⟩ : ∃ w2, w2 = w1.alloc (.cells #[.int .i64 6, .int .i64 t, .int .u16 0, .int .u8 0, .int .u8 0, .int .u8 0, .int .u8 0, .bool false, .int .i64 0, .bool false, .int .i64 0] 63) := ⟨_, rfl⟩
      have bk : Below w1.heap.size w1 w2 := by rw [hw2]; exact (Below.refl _ _).alloc (Nat.le_refl _) _
      have XA := Lib.hid ((bk.block _ (Array.getElem?_eq_some_iff.1 x1).1).trans x1)
      have Hb := Lib.hid (b1.trans (bk.mono b1.size))
      have y0 := cells_at x1 0
      have y1 := cells_at x1 1
      have y2 := cells_at x1 2
      have y3 := cells_at x1 3
      have y4 := cells_at x1 4
      have y5 := cells_at x1 5
      have y6 := cells_at x1 6
      have y7 := cells_at x1 7
      have y8 := cells_at x1 8
      have y9 := cells_at x1 9
      have y10 := cells_at x1 10
      clear x1 b1 bk
      go_enter Tryz.func71, Tryz.ntmps71
      go_wp2_with fail
      rw [← hw1, ← hw2]
      clear hw1 hw2
      go_ret
      exact ⟨(congrArg (fun b => Ending.returned (Value.bool b)) HV.out).symm, Hb.out⟩
    by_cases g2 : t ≤ 1048576
    case neg =>
      have hv : rightRc ⟨6, t, m, k0, k1, k2, k3, ot, o, nt, n⟩ = false := by rw [rr6, decide_eq_true ge, decide_eq_true g1, Bool.true_and, decide_eq_false g2, Bool.true_and]
      have HV := Lib.hid hv; clear hv Hri
      have hq := fun w => rc_eql w ⟨6, t, m, k0, k1, k2, k3, ot, o, nt, n⟩ ⟨6, t, 0, 0, 0, 0, 0, false, 0, false, 0⟩
      have hg := fun x y w => rc_guard .eql x y ⟨6, t, m, k0, k1, k2, k3, ot, o, nt, n⟩ ⟨6, t, 0, 0, 0, 0, 0, false, 0, false, 0⟩ w
      rw [decide_eq_true ge] at hq
      simp only [Rc.cells] at hq hg
      have f1 : decide (1 ≤ t) = true := decide_eq_true g1
      have f2 : decide (t ≤ 1048576) = false := decide_eq_false g2
      clear ge g1 g2
      obtain ⟨w1, hw1⟩ : ∃ w1, w1 = w.alloc (.cells #[.int .i64 6, .int .i64 t, .int .u16 m, .int .u8 k0, .int .u8 k1, .int .u8 k2, .int .u8 k3, .bool ot, .int .i64 o, .bool nt, .int .i64 n] 63) := ⟨_, rfl⟩
      have b1 : Below w.heap.size w w1 := by rw [hw1]; exact (Below.refl _ _).alloc (Nat.le_refl _) _
      have x1 : w1.heap[w.heap.size]? = some (.cells #[.int .i64 6, .int .i64 t, .int .u16 m, .int .u8 k0, .int .u8 k1, .int .u8 k2, .int .u8 k3, .bool ot, .int .i64 o, .bool nt, .int .i64 n] 63 (0, 0)) := by rw [hw1]; exact heap_alloc_new w _
      obtain ⟨w2, hw2⟩ : ∃ w2, w2 = w1.alloc (.cells #[.int .i64 6, .int .i64 t, .int .u16 0, .int .u8 0, .int .u8 0, .int .u8 0, .int .u8 0, .bool false, .int .i64 0, .bool false, .int .i64 0] 63) := ⟨_, rfl⟩
      have bk : Below w1.heap.size w1 w2 := by rw [hw2]; exact (Below.refl _ _).alloc (Nat.le_refl _) _
      have XA := Lib.hid ((bk.block _ (Array.getElem?_eq_some_iff.1 x1).1).trans x1)
      have Hb := Lib.hid (b1.trans (bk.mono b1.size))
      have y0 := cells_at x1 0
      have y1 := cells_at x1 1
      have y2 := cells_at x1 2
      have y3 := cells_at x1 3
      have y4 := cells_at x1 4
      have y5 := cells_at x1 5
      have y6 := cells_at x1 6
      have y7 := cells_at x1 7
      have y8 := cells_at x1 8
      have y9 := cells_at x1 9
      have y10 := cells_at x1 10
      clear x1 b1 bk
      go_enter Tryz.func71, Tryz.ntmps71
      go_wp2_with fail
      rw [← hw1, ← hw2]
      clear hw1 hw2
      go_ret
      exact ⟨(congrArg (fun b => Ending.returned (Value.bool b)) HV.out).symm, Hb.out⟩
    have hv : rightRc ⟨6, t, m, k0, k1, k2, k3, ot, o, nt, n⟩ = true := by rw [rr6, decide_eq_true ge, decide_eq_true g1, Bool.true_and, decide_eq_true g2, Bool.true_and]
    have HV := Lib.hid hv; clear hv Hri
    have hq := fun w => rc_eql w ⟨6, t, m, k0, k1, k2, k3, ot, o, nt, n⟩ ⟨6, t, 0, 0, 0, 0, 0, false, 0, false, 0⟩
    have hg := fun x y w => rc_guard .eql x y ⟨6, t, m, k0, k1, k2, k3, ot, o, nt, n⟩ ⟨6, t, 0, 0, 0, 0, 0, false, 0, false, 0⟩ w
    rw [decide_eq_true ge] at hq
    simp only [Rc.cells] at hq hg
    have f1 : decide (1 ≤ t) = true := decide_eq_true g1
    have f2 : decide (t ≤ 1048576) = true := decide_eq_true g2
    clear ge g1 g2
    obtain ⟨w1, hw1⟩ : ∃ w1, w1 = w.alloc (.cells #[.int .i64 6, .int .i64 t, .int .u16 m, .int .u8 k0, .int .u8 k1, .int .u8 k2, .int .u8 k3, .bool ot, .int .i64 o, .bool nt, .int .i64 n] 63) := ⟨_, rfl⟩
    have b1 : Below w.heap.size w w1 := by rw [hw1]; exact (Below.refl _ _).alloc (Nat.le_refl _) _
    have x1 : w1.heap[w.heap.size]? = some (.cells #[.int .i64 6, .int .i64 t, .int .u16 m, .int .u8 k0, .int .u8 k1, .int .u8 k2, .int .u8 k3, .bool ot, .int .i64 o, .bool nt, .int .i64 n] 63 (0, 0)) := by rw [hw1]; exact heap_alloc_new w _
    obtain ⟨w2, hw2⟩ : ∃ w2, w2 = w1.alloc (.cells #[.int .i64 6, .int .i64 t, .int .u16 0, .int .u8 0, .int .u8 0, .int .u8 0, .int .u8 0, .bool false, .int .i64 0, .bool false, .int .i64 0] 63) := ⟨_, rfl⟩
    have bk : Below w1.heap.size w1 w2 := by rw [hw2]; exact (Below.refl _ _).alloc (Nat.le_refl _) _
    have XA := Lib.hid ((bk.block _ (Array.getElem?_eq_some_iff.1 x1).1).trans x1)
    have Hb := Lib.hid (b1.trans (bk.mono b1.size))
    have y0 := cells_at x1 0
    have y1 := cells_at x1 1
    have y2 := cells_at x1 2
    have y3 := cells_at x1 3
    have y4 := cells_at x1 4
    have y5 := cells_at x1 5
    have y6 := cells_at x1 6
    have y7 := cells_at x1 7
    have y8 := cells_at x1 8
    have y9 := cells_at x1 9
    have y10 := cells_at x1 10
    clear x1 b1 bk
    go_enter Tryz.func71, Tryz.ntmps71
    go_wp2_with fail
    rw [← hw1, ← hw2]
    clear hw1 hw2
    go_ret
    exact ⟨(congrArg (fun b => Ending.returned (Value.bool b)) HV.out).symm, Hb.out⟩
  by_cases c7 : k = 7
  case pos =>
    subst c7
    by_cases ge : (⟨7, t, m, k0, k1, k2, k3, ot, o, nt, n⟩ : Rc) = ⟨7, 0, 0, k0, k1, k2, k3, false, 0, nt, n⟩
    case neg =>
      have hv : rightRc ⟨7, t, m, k0, k1, k2, k3, ot, o, nt, n⟩ = false := by rw [rr7, decide_eq_false ge, Bool.false_and]
      have HV := Lib.hid hv; clear hv Hri
      have hq := fun w => rc_eql w ⟨7, t, m, k0, k1, k2, k3, ot, o, nt, n⟩ ⟨7, 0, 0, k0, k1, k2, k3, false, 0, nt, n⟩
      have hg := fun x y w => rc_guard .eql x y ⟨7, t, m, k0, k1, k2, k3, ot, o, nt, n⟩ ⟨7, 0, 0, k0, k1, k2, k3, false, 0, nt, n⟩ w
      rw [decide_eq_false ge] at hq
      simp only [Rc.cells] at hq hg
      clear ge
      obtain ⟨w1, hw1⟩ : ∃ w1, w1 = w.alloc (.cells #[.int .i64 7, .int .i64 t, .int .u16 m, .int .u8 k0, .int .u8 k1, .int .u8 k2, .int .u8 k3, .bool ot, .int .i64 o, .bool nt, .int .i64 n] 63) := ⟨_, rfl⟩
      have b1 : Below w.heap.size w w1 := by rw [hw1]; exact (Below.refl _ _).alloc (Nat.le_refl _) _
      have x1 : w1.heap[w.heap.size]? = some (.cells #[.int .i64 7, .int .i64 t, .int .u16 m, .int .u8 k0, .int .u8 k1, .int .u8 k2, .int .u8 k3, .bool ot, .int .i64 o, .bool nt, .int .i64 n] 63 (0, 0)) := by rw [hw1]; exact heap_alloc_new w _
      obtain ⟨w2, hw2⟩ : ∃ w2, w2 = w1.alloc (.cells #[.int .i64 7, .int .i64 0, .int .u16 0, .int .u8 k0, .int .u8 k1, .int .u8 k2, .int .u8 k3, .bool false, .int .i64 0, .bool nt, .int .i64 n] 63) := ⟨_, rfl⟩
      have bk : Below w1.heap.size w1 w2 := by rw [hw2]; exact (Below.refl _ _).alloc (Nat.le_refl _) _
      have XA := Lib.hid ((bk.block _ (Array.getElem?_eq_some_iff.1 x1).1).trans x1)
      have Hb := Lib.hid (b1.trans (bk.mono b1.size))
      have y0 := cells_at x1 0
      have y1 := cells_at x1 1
      have y2 := cells_at x1 2
      have y3 := cells_at x1 3
      have y4 := cells_at x1 4
      have y5 := cells_at x1 5
      have y6 := cells_at x1 6
      have y7 := cells_at x1 7
      have y8 := cells_at x1 8
      have y9 := cells_at x1 9
      have y10 := cells_at x1 10
      clear x1 b1 bk
      go_enter Tryz.func71, Tryz.ntmps71
      go_wp2_with fail
      rw [← hw1, ← hw2]
      clear hw1 hw2
      go_ret
      exact ⟨(congrArg (fun b => Ending.returned (Value.bool b)) HV.out).symm, Hb.out⟩
    have hv : rightRc ⟨7, t, m, k0, k1, k2, k3, ot, o, nt, n⟩ = nt := by rw [rr7, decide_eq_true ge, Bool.true_and]
    have HV := Lib.hid hv; clear hv Hri
    have hq := fun w => rc_eql w ⟨7, t, m, k0, k1, k2, k3, ot, o, nt, n⟩ ⟨7, 0, 0, k0, k1, k2, k3, false, 0, nt, n⟩
    have hg := fun x y w => rc_guard .eql x y ⟨7, t, m, k0, k1, k2, k3, ot, o, nt, n⟩ ⟨7, 0, 0, k0, k1, k2, k3, false, 0, nt, n⟩ w
    rw [decide_eq_true ge] at hq
    simp only [Rc.cells] at hq hg
    clear ge
    obtain ⟨w1, hw1⟩ : ∃ w1, w1 = w.alloc (.cells #[.int .i64 7, .int .i64 t, .int .u16 m, .int .u8 k0, .int .u8 k1, .int .u8 k2, .int .u8 k3, .bool ot, .int .i64 o, .bool nt, .int .i64 n] 63) := ⟨_, rfl⟩
    have b1 : Below w.heap.size w w1 := by rw [hw1]; exact (Below.refl _ _).alloc (Nat.le_refl _) _
    have x1 : w1.heap[w.heap.size]? = some (.cells #[.int .i64 7, .int .i64 t, .int .u16 m, .int .u8 k0, .int .u8 k1, .int .u8 k2, .int .u8 k3, .bool ot, .int .i64 o, .bool nt, .int .i64 n] 63 (0, 0)) := by rw [hw1]; exact heap_alloc_new w _
    obtain ⟨w2, hw2⟩ : ∃ w2, w2 = w1.alloc (.cells #[.int .i64 7, .int .i64 0, .int .u16 0, .int .u8 k0, .int .u8 k1, .int .u8 k2, .int .u8 k3, .bool false, .int .i64 0, .bool nt, .int .i64 n] 63) := ⟨_, rfl⟩
    have bk : Below w1.heap.size w1 w2 := by rw [hw2]; exact (Below.refl _ _).alloc (Nat.le_refl _) _
    have XA := Lib.hid ((bk.block _ (Array.getElem?_eq_some_iff.1 x1).1).trans x1)
    have Hb := Lib.hid (b1.trans (bk.mono b1.size))
    have y0 := cells_at x1 0
    have y1 := cells_at x1 1
    have y2 := cells_at x1 2
    have y3 := cells_at x1 3
    have y4 := cells_at x1 4
    have y5 := cells_at x1 5
    have y6 := cells_at x1 6
    have y7 := cells_at x1 7
    have y8 := cells_at x1 8
    have y9 := cells_at x1 9
    have y10 := cells_at x1 10
    clear x1 b1 bk
    go_enter Tryz.func71, Tryz.ntmps71
    go_wp2_with fail
    rw [← hw1, ← hw2]
    clear hw1 hw2
    go_ret
    exact ⟨(congrArg (fun b => Ending.returned (Value.bool b)) HV.out).symm, Hb.out⟩
  by_cases c8 : k = 8
  case pos =>
    subst c8
    by_cases ge : (⟨8, t, m, k0, k1, k2, k3, ot, o, nt, n⟩ : Rc) = ⟨8, 0, m, 0, 0, 0, 0, false, 0, false, 0⟩
    case neg =>
      have hv : rightRc ⟨8, t, m, k0, k1, k2, k3, ot, o, nt, n⟩ = false := by rw [rr8, decide_eq_false ge, Bool.false_and]
      have HV := Lib.hid hv; clear hv Hri
      have hq := fun w => rc_eql w ⟨8, t, m, k0, k1, k2, k3, ot, o, nt, n⟩ ⟨8, 0, m, 0, 0, 0, 0, false, 0, false, 0⟩
      have hg := fun x y w => rc_guard .eql x y ⟨8, t, m, k0, k1, k2, k3, ot, o, nt, n⟩ ⟨8, 0, m, 0, 0, 0, 0, false, 0, false, 0⟩ w
      rw [decide_eq_false ge] at hq
      simp only [Rc.cells] at hq hg
      clear ge
      obtain ⟨w1, hw1⟩ : ∃ w1, w1 = w.alloc (.cells #[.int .i64 8, .int .i64 t, .int .u16 m, .int .u8 k0, .int .u8 k1, .int .u8 k2, .int .u8 k3, .bool ot, .int .i64 o, .bool nt, .int .i64 n] 63) := ⟨_, rfl⟩
      have b1 : Below w.heap.size w w1 := by rw [hw1]; exact (Below.refl _ _).alloc (Nat.le_refl _) _
      have x1 : w1.heap[w.heap.size]? = some (.cells #[.int .i64 8, .int .i64 t, .int .u16 m, .int .u8 k0, .int .u8 k1, .int .u8 k2, .int .u8 k3, .bool ot, .int .i64 o, .bool nt, .int .i64 n] 63 (0, 0)) := by rw [hw1]; exact heap_alloc_new w _
      obtain ⟨w2, hw2⟩ : ∃ w2, w2 = w1.alloc (.cells #[.int .i64 8, .int .i64 0, .int .u16 m, .int .u8 0, .int .u8 0, .int .u8 0, .int .u8 0, .bool false, .int .i64 0, .bool false, .int .i64 0] 63) := ⟨_, rfl⟩
      have bk : Below w1.heap.size w1 w2 := by rw [hw2]; exact (Below.refl _ _).alloc (Nat.le_refl _) _
      have XA := Lib.hid ((bk.block _ (Array.getElem?_eq_some_iff.1 x1).1).trans x1)
      have Hb := Lib.hid (b1.trans (bk.mono b1.size))
      have y0 := cells_at x1 0
      have y1 := cells_at x1 1
      have y2 := cells_at x1 2
      have y3 := cells_at x1 3
      have y4 := cells_at x1 4
      have y5 := cells_at x1 5
      have y6 := cells_at x1 6
      have y7 := cells_at x1 7
      have y8 := cells_at x1 8
      have y9 := cells_at x1 9
      have y10 := cells_at x1 10
      clear x1 b1 bk
      go_enter Tryz.func71, Tryz.ntmps71
      go_wp2_with fail
      rw [← hw1, ← hw2]
      clear hw1 hw2
      go_ret
      exact ⟨(congrArg (fun b => Ending.returned (Value.bool b)) HV.out).symm, Hb.out⟩
    by_cases g5 : m ≤ 64
    case neg =>
      have hv : rightRc ⟨8, t, m, k0, k1, k2, k3, ot, o, nt, n⟩ = false := by rw [rr8, decide_eq_true ge, decide_eq_false g5, Bool.true_and]
      have HV := Lib.hid hv; clear hv Hri
      have hq := fun w => rc_eql w ⟨8, t, m, k0, k1, k2, k3, ot, o, nt, n⟩ ⟨8, 0, m, 0, 0, 0, 0, false, 0, false, 0⟩
      have hg := fun x y w => rc_guard .eql x y ⟨8, t, m, k0, k1, k2, k3, ot, o, nt, n⟩ ⟨8, 0, m, 0, 0, 0, 0, false, 0, false, 0⟩ w
      rw [decide_eq_true ge] at hq
      simp only [Rc.cells] at hq hg
      have f5 : decide (m ≤ 64) = false := decide_eq_false g5
      clear ge g5
      obtain ⟨w1, hw1⟩ : ∃ w1, w1 = w.alloc (.cells #[.int .i64 8, .int .i64 t, .int .u16 m, .int .u8 k0, .int .u8 k1, .int .u8 k2, .int .u8 k3, .bool ot, .int .i64 o, .bool nt, .int .i64 n] 63) := ⟨_, rfl⟩
      have b1 : Below w.heap.size w w1 := by rw [hw1]; exact (Below.refl _ _).alloc (Nat.le_refl _) _
      have x1 : w1.heap[w.heap.size]? = some (.cells #[.int .i64 8, .int .i64 t, .int .u16 m, .int .u8 k0, .int .u8 k1, .int .u8 k2, .int .u8 k3, .bool ot, .int .i64 o, .bool nt, .int .i64 n] 63 (0, 0)) := by rw [hw1]; exact heap_alloc_new w _
      obtain ⟨w2, hw2⟩ : ∃ w2, w2 = w1.alloc (.cells #[.int .i64 8, .int .i64 0, .int .u16 m, .int .u8 0, .int .u8 0, .int .u8 0, .int .u8 0, .bool false, .int .i64 0, .bool false, .int .i64 0] 63) := ⟨_, rfl⟩
      have bk : Below w1.heap.size w1 w2 := by rw [hw2]; exact (Below.refl _ _).alloc (Nat.le_refl _) _
      have XA := Lib.hid ((bk.block _ (Array.getElem?_eq_some_iff.1 x1).1).trans x1)
      have Hb := Lib.hid (b1.trans (bk.mono b1.size))
      have y0 := cells_at x1 0
      have y1 := cells_at x1 1
      have y2 := cells_at x1 2
      have y3 := cells_at x1 3
      have y4 := cells_at x1 4
      have y5 := cells_at x1 5
      have y6 := cells_at x1 6
      have y7 := cells_at x1 7
      have y8 := cells_at x1 8
      have y9 := cells_at x1 9
      have y10 := cells_at x1 10
      clear x1 b1 bk
      go_enter Tryz.func71, Tryz.ntmps71
      go_wp2_with fail
      rw [← hw1, ← hw2]
      clear hw1 hw2
      go_ret
      exact ⟨(congrArg (fun b => Ending.returned (Value.bool b)) HV.out).symm, Hb.out⟩
    have hv : rightRc ⟨8, t, m, k0, k1, k2, k3, ot, o, nt, n⟩ = true := by rw [rr8, decide_eq_true ge, decide_eq_true g5, Bool.true_and]
    have HV := Lib.hid hv; clear hv Hri
    have hq := fun w => rc_eql w ⟨8, t, m, k0, k1, k2, k3, ot, o, nt, n⟩ ⟨8, 0, m, 0, 0, 0, 0, false, 0, false, 0⟩
    have hg := fun x y w => rc_guard .eql x y ⟨8, t, m, k0, k1, k2, k3, ot, o, nt, n⟩ ⟨8, 0, m, 0, 0, 0, 0, false, 0, false, 0⟩ w
    rw [decide_eq_true ge] at hq
    simp only [Rc.cells] at hq hg
    have f5 : decide (m ≤ 64) = true := decide_eq_true g5
    clear ge g5
    obtain ⟨w1, hw1⟩ : ∃ w1, w1 = w.alloc (.cells #[.int .i64 8, .int .i64 t, .int .u16 m, .int .u8 k0, .int .u8 k1, .int .u8 k2, .int .u8 k3, .bool ot, .int .i64 o, .bool nt, .int .i64 n] 63) := ⟨_, rfl⟩
    have b1 : Below w.heap.size w w1 := by rw [hw1]; exact (Below.refl _ _).alloc (Nat.le_refl _) _
    have x1 : w1.heap[w.heap.size]? = some (.cells #[.int .i64 8, .int .i64 t, .int .u16 m, .int .u8 k0, .int .u8 k1, .int .u8 k2, .int .u8 k3, .bool ot, .int .i64 o, .bool nt, .int .i64 n] 63 (0, 0)) := by rw [hw1]; exact heap_alloc_new w _
    obtain ⟨w2, hw2⟩ : ∃ w2, w2 = w1.alloc (.cells #[.int .i64 8, .int .i64 0, .int .u16 m, .int .u8 0, .int .u8 0, .int .u8 0, .int .u8 0, .bool false, .int .i64 0, .bool false, .int .i64 0] 63) := ⟨_, rfl⟩
    have bk : Below w1.heap.size w1 w2 := by rw [hw2]; exact (Below.refl _ _).alloc (Nat.le_refl _) _
    have XA := Lib.hid ((bk.block _ (Array.getElem?_eq_some_iff.1 x1).1).trans x1)
    have Hb := Lib.hid (b1.trans (bk.mono b1.size))
    have y0 := cells_at x1 0
    have y1 := cells_at x1 1
    have y2 := cells_at x1 2
    have y3 := cells_at x1 3
    have y4 := cells_at x1 4
    have y5 := cells_at x1 5
    have y6 := cells_at x1 6
    have y7 := cells_at x1 7
    have y8 := cells_at x1 8
    have y9 := cells_at x1 9
    have y10 := cells_at x1 10
    clear x1 b1 bk
    go_enter Tryz.func71, Tryz.ntmps71
    go_wp2_with fail
    rw [← hw1, ← hw2]
    clear hw1 hw2
    go_ret
    exact ⟨(congrArg (fun b => Ending.returned (Value.bool b)) HV.out).symm, Hb.out⟩
  have hv : rightRc ⟨k, t, m, k0, k1, k2, k3, ot, o, nt, n⟩ = false := decide_eq_false (fun h => by have h3 := (Hri.out.1 h).1; omega)
  have HV := Lib.hid hv; clear hv Hri
  have d1 : (k == 1) = false := by simpa using c1
  have d2 : (k == 2) = false := by simpa using c2
  have d3 : (k == 3) = false := by simpa using c3
  have d4 : (k == 4) = false := by simpa using c4
  have d5 : (k == 5) = false := by simpa using c5
  have d6 : (k == 6) = false := by simpa using c6
  have d7 : (k == 7) = false := by simpa using c7
  have d8 : (k == 8) = false := by simpa using c8
  obtain ⟨w1, hw1⟩ : ∃ w1, w1 = w.alloc (.cells #[.int .i64 k, .int .i64 t, .int .u16 m, .int .u8 k0, .int .u8 k1, .int .u8 k2, .int .u8 k3, .bool ot, .int .i64 o, .bool nt, .int .i64 n] 63) := ⟨_, rfl⟩
  have b1 : Below w.heap.size w w1 := by rw [hw1]; exact (Below.refl _ _).alloc (Nat.le_refl _) _
  have x1 : w1.heap[w.heap.size]? = some (.cells #[.int .i64 k, .int .i64 t, .int .u16 m, .int .u8 k0, .int .u8 k1, .int .u8 k2, .int .u8 k3, .bool ot, .int .i64 o, .bool nt, .int .i64 n] 63 (0, 0)) := by rw [hw1]; exact heap_alloc_new w _
  obtain ⟨w2, hw2⟩ : ∃ w2, w2 = w1.alloc (.cells #[.int .i64 k, .int .i64 0, .int .u16 0, .int .u8 0, .int .u8 0, .int .u8 0, .int .u8 0, .bool false, .int .i64 0, .bool false, .int .i64 0] 63) := ⟨_, rfl⟩
  have bk : Below w1.heap.size w1 w2 := by rw [hw2]; exact (Below.refl _ _).alloc (Nat.le_refl _) _
  have XA := Lib.hid ((bk.block _ (Array.getElem?_eq_some_iff.1 x1).1).trans x1)
  have Hb := Lib.hid (b1.trans (bk.mono b1.size))
  have y0 := cells_at x1 0
  have y1 := cells_at x1 1
  have y2 := cells_at x1 2
  have y3 := cells_at x1 3
  have y4 := cells_at x1 4
  have y5 := cells_at x1 5
  have y6 := cells_at x1 6
  have y7 := cells_at x1 7
  have y8 := cells_at x1 8
  have y9 := cells_at x1 9
  have y10 := cells_at x1 10
  clear x1 b1 bk
  go_enter Tryz.func71, Tryz.ntmps71
  go_wp2_with fail
  rw [← hw1, ← hw2]
  clear hw1 hw2
  go_ret
  exact ⟨(congrArg (fun b => Ending.returned (Value.bool b)) HV.out).symm, Hb.out⟩
end Go.Proofs.YtgpedejeifmfdaaGreat
/- The document's number. -/
namespace Go.Proofs.YtgpedejeifmfdaaGreat
open Go.RowKit

set_option maxHeartbeats 2000000 in
theorem Rnumber_calls {w : World} {a : Option Addr} {L c : Nat} {zs : List Int} (hx : Ints w .u8 a L c zs) {p n : Nat} (hn : 1 ≤ n ∧ n ≤ 8) (hp : p + n ≤ L) : Calls Tryz.prog 69 #[.slice a L c, .int .i64 p, .int .i64 n] w fun e w' => e = .returned (.int .i64 (rvalAt (zs.drop p) n)) ∧ w' = w := by
  have hle := hx.le
  have hmx := hx.max
  have hfit : ∀ z ∈ zs, 0 ≤ z ∧ z ≤ 255 := fun z hz => wf_u8 (hx.fit z hz)
  obtain ⟨b, o, rfl, -⟩ := hx.cell (by omega)
  have hsl := (hx.dropAt p (by omega)).take n (by omega)
  have hfl : fromZ ((zs.drop p).take n) < 256 ^ n := by
    have h1 := fromZ_lt ((zs.drop p).take n) fun z hz => hfit z (List.mem_of_mem_drop (List.mem_of_mem_take hz))
    exact Nat.lt_of_lt_of_le h1 (Nat.pow_le_pow_right (by decide) (by simp; omega))
  have hf64 : fromZ ((zs.drop p).take n) < 18446744073709551616 := Nat.lt_of_lt_of_le hfl (Nat.le_trans (Nat.pow_le_pow_right (by decide) hn.2) (by decide))
  have hfr := RFrom_calls hsl (by omega)
  have hzg := RZag_calls (w := w) hf64
  have hrv : rvalAt (zs.drop p) n = zagS (fromZ ((zs.drop p).take n) : Nat) := if_neg (by omega)
  rw [hrv]
  have hs1 : ((p : Int) + (n : Int)) ≤ (c : Int) := by omega
  have hs2 : (p : Int) ≤ (p : Int) + (n : Int) := by omega
  have hcp : c ≠ p := by omega
  clear hfl hf64 hrv hfit
  generalize fromZ ((zs.drop p).take n) = U at *
  have Hfr := Lib.hid hfr; clear hfr
  have Hzg := Lib.hid hzg; clear hzg hsl hx
  go_enter Tryz.func69, Tryz.ntmps69
  go_wp2_with fail
  refine Hfr.out.mono ?_
  rintro e w1 ⟨rfl, rfl⟩
  go_wp2_with fail
  refine Hzg.out.mono ?_
  rintro e w2 ⟨rfl, rfl⟩
  go_wp2_with fail
  go_ret
  exact ⟨rfl, rfl⟩
end Go.Proofs.YtgpedejeifmfdaaGreat
/- The document's Encode. -/
namespace Go.Proofs.YtgpedejeifmfdaaGreat
open Go.RowKit

theorem head3 {k t : Int} (hk : 1 ≤ k ∧ k ≤ 8) (ht : 0 ≤ t ∧ t ≤ 1048576) : bytesZ 3 (k - 1 + 8 * t).toNat = [(k - 1 + 8 * t) % 256, (k - 1 + 8 * t) / 256 % 256, (k - 1 + 8 * t) / 65536] := by
  show [(((k - 1 + 8 * t).toNat % 256 : Nat) : Int), (((k - 1 + 8 * t).toNat / 256 % 256 : Nat) : Int), (((k - 1 + 8 * t).toNat / 256 / 256 % 256 : Nat) : Int)] = _
  rw [List.cons.injEq, List.cons.injEq, List.cons.injEq]
  refine ⟨by omega, by omega, by omega, rfl⟩
theorem two16 {m : Int} (hm : 0 ≤ m ∧ m ≤ 65535) : bytesZ 2 m.toNat = [m % 256, m / 256] := by
  show [((m.toNat % 256 : Nat) : Int), ((m.toNat / 256 % 256 : Nat) : Int)] = _
  rw [List.cons.injEq, List.cons.injEq]
  refine ⟨by omega, by omega, rfl⟩
theorem own_alloc {w : World} {B : Nat} {E : TypeId} {C : Array Value} (zs : List Int) (hC : C = (zs.map (Value.int .u8)).toArray) {n : Nat} (hn : zs.length = n) (hm : n < 1000) (hB : B ≤ w.heap.size) (hf : ∀ z ∈ zs, 0 ≤ z ∧ z ≤ 255) :
    Own (w.alloc (.cells C E)) B E .u8 (.slice (some ⟨w.heap.size, 0, none⟩) n n) zs := by
  subst hC hn
  refine ⟨⟨by rw [List.length_map, Nat.mul_one], .inr ⟨w.heap.size, zs.length, (zs.map (Value.int .u8)).toArray, rfl, hB, heap_alloc_new w _, by simp, by unfold maxLen; omega, by simp, by rw [List.take_of_length_le (by simp)]⟩⟩, fun z hz => wf_u8' (hf z hz)⟩
set_option maxHeartbeats 8000000 in
theorem REncode_calls {w : World} (r : Rc) (hok : r.ok) : Calls Tryz.prog 60 #[.agg r.cells.toArray] w fun e w' => ∃ v, e = .returned (.tuple #[v, .bool (rightRc r)]) ∧ Own w' w.heap.size 5 .u8 v (if rightRc r = true then enc r else []) ∧ Below w.heap.size w w' := by
  have hri := fun w : World => RRight_calls (w := w) r hok.2.2.1.1
  have hb := (Below.refl w.heap.size w).alloc (Nat.le_refl _) (.cells r.cells.toArray 63)
  have z := heap_alloc_new w (.cells r.cells.toArray 63)
  obtain ⟨w1, hw1⟩ : ∃ w1, w1 = w.alloc (.cells r.cells.toArray 63) := ⟨_, rfl⟩
  rw [← hw1] at hb z
  have hb1 := Below.refl w1.heap.size w1
  have B1 := Lib.hid hb; clear hb
  have hb := hb1; clear hb1
  obtain ⟨E, hE⟩ : ∃ E, E = if rightRc r = true then enc r else [] := ⟨_, rfl⟩
  rw [← hE]
  have Hb := Lib.hid hb; clear hb
  have Z1 := Lib.hid z
  have Z := Lib.hid z; clear z
  cases hr : rightRc r with
  | false =>
    rw [hr] at hri hE
    rw [if_neg (by decide)] at hE
    subst hE
    obtain ⟨k, t, m, k0, k1, k2, k3, ot, o, nt, n⟩ := r
    simp only [Rc.cells] at hri Z Z1 hw1 ⊢
    have Hri := Lib.hid hri; clear hri hr hok
    have y0 := cells_at Z.out 0
    have y1 := cells_at Z.out 1
    have y2 := cells_at Z.out 2
    have y3 := cells_at Z.out 3
    have y4 := cells_at Z.out 4
    have y5 := cells_at Z.out 5
    have y6 := cells_at Z.out 6
    have y7 := cells_at Z.out 7
    have y8 := cells_at Z.out 8
    have y9 := cells_at Z.out 9
    have y10 := cells_at Z.out 10
    go_enter Tryz.func60, Tryz.ntmps60
    go_wp2_with fail
    rw [← hw1]
    refine (Hri.out w1).mono ?_
    rintro e w2 ⟨rfl, bk⟩
    have hb := Hb.out.trans (bk.mono Hb.out.size)
    clear Hb bk
    have Hb := Lib.hid hb; clear hb
    go_wp2
    go_ret2
    exact ⟨_, rfl, own_nil _ _ _ _, B1.out.trans (Hb.out.mono B1.out.size)⟩
  | true =>
    rw [hr] at hri hE
    rw [if_pos rfl] at hE
    have hR : RightRc r := of_decide_eq_true hr
    obtain ⟨-, ht0, ht1⟩ := head_lt hR
    have hk := hR.1
    have hfl := (flags_parts r).1
    have hfd : flagsS r = bitN r.ot + 2 * bitN r.nt + 4 * ((smallS r.ot r.o).length - 1) + 32 * ((smallS r.nt r.n).length - 1) := rfl
    have hh := head3 hk ⟨ht0, ht1⟩
    have hE2 : E = bytesZ 3 (r.kind - 1 + 8 * r.tx).toNat ++ bodyS r := hE
    rw [hh] at hE2
    have hbody : bodyS r = if maskedK r.kind then bytesZ 2 r.mask.toNat else if keyedK r.kind then [r.k0, r.k1, r.k2, r.k3, (flagsS r : Int)] ++ smallS r.ot r.o ++ smallS r.nt r.n else [] := rfl
    rw [hbody] at hE2
    clear hE hbody hh hR hr
    generalize flagsS r = FL at *
    obtain ⟨-, -, ok3, ok4, ok5, ok6, ok7, ok8, ok9⟩ := hok
    obtain ⟨k, t, m, k0, k1, k2, k3, ot, o, nt, n⟩ := r
    simp only at hE2 hfd ok3 ok4 ok5 ok6 ok7 ok8 ok9 hk ht0 ht1
    simp only [Rc.cells] at hri Z Z1 hw1 ⊢
    have hs1 := fun w : World => Rsmall_calls (w := w) ok8.1 ok8.2
    have hs2 := fun w : World => Rsmall_calls (w := w) ok9.1 ok9.2
    have hl1 := small_len ot o
    have hl2 := small_len nt n
    have hp1 := small_pos o
    have hp2 := small_pos n
    have hu3 : ∀ z ∈ [(k - 1 + 8 * t) % 256, (k - 1 + 8 * t) / 256 % 256, (k - 1 + 8 * t) / 65536], 0 ≤ z ∧ z ≤ 255 := fun z hz => by
      simp only [List.mem_cons, List.not_mem_nil, or_false] at hz
      rcases hz with rfl | rfl | rfl <;> omega
    have hum : ∀ z ∈ [m % 256, m / 256], 0 ≤ z ∧ z ≤ 255 := fun z hz => by
      simp only [List.mem_cons, List.not_mem_nil, or_false] at hz
      rcases hz with rfl | rfl <;> omega
    have huk : ∀ z ∈ [k0, k1, k2, k3], 0 ≤ z ∧ z ≤ 255 := fun z hz => by
      simp only [List.mem_cons, List.not_mem_nil, or_false] at hz
      rcases hz with rfl | rfl | rfl | rfl <;> assumption
    have ho3 := fun w' (h : w1.heap.size ≤ w'.heap.size) => own_alloc (w := w') (n := 3) (B := w1.heap.size) (E := 5) (C := #[.int .u8 ((k - 1 + 8 * t) % 256), .int .u8 ((k - 1 + 8 * t) / 256 % 256), .int .u8 ((k - 1 + 8 * t) / 65536)]) [(k - 1 + 8 * t) % 256, (k - 1 + 8 * t) / 256 % 256, (k - 1 + 8 * t) / 65536] rfl rfl (by show 3 < 1000; omega) h hu3
    have him := fun w' => ints_alloc (w := w') (n := 2) (k := .u8) (E := 5) (C := #[.int .u8 (m % 256), .int .u8 (m / 256)]) [m % 256, m / 256] rfl rfl (by show 2 ≤ 1000; omega) fun z hz => wf_u8' (hum z hz)
    have hik := fun w' => ints_alloc (w := w') (n := 4) (k := .u8) (E := 5) (C := #[.int .u8 k0, .int .u8 k1, .int .u8 k2, .int .u8 k3]) [k0, k1, k2, k3] rfl rfl (by show 4 ≤ 1000; omega) fun z hz => wf_u8' (huk z hz)
    have h2m := two16 ok3
    have HE := Lib.hid hE2; clear hE2
    have Hfd := Lib.hid hfd; clear hfd
    have Hs1 := Lib.hid hs1; clear hs1
    have Hs2 := Lib.hid hs2; clear hs2
    have Ho3 := Lib.hid ho3; clear ho3
    have Him := Lib.hid him; clear him
    have Hik := Lib.hid hik; clear hik
    have H2m := Lib.hid h2m; clear h2m
    have Hfl := Lib.hid hfl; clear hfl
    have Hl1 := Lib.hid hl1; clear hl1
    have Hl2 := Lib.hid hl2; clear hl2
    have Hp1 := Lib.hid hp1; clear hp1
    have Hp2 := Lib.hid hp2; clear hp2
    have Hri := Lib.hid hri; clear hri hu3 hum huk
    clear ok4 ok5 ok6 ok7 ok8 ok9
    have y0 := cells_at Z.out 0
    have y1 := cells_at Z.out 1
    have y2 := cells_at Z.out 2
    have y3 := cells_at Z.out 3
    have y4 := cells_at Z.out 4
    have y5 := cells_at Z.out 5
    have y6 := cells_at Z.out 6
    have y7 := cells_at Z.out 7
    have y8 := cells_at Z.out 8
    have y9 := cells_at Z.out 9
    have y10 := cells_at Z.out 10
    go_enter Tryz.func60, Tryz.ntmps60
    go_wp2_with fail
    rw [← hw1]
    refine (Hri.out w1).mono ?_
    rintro e w2 ⟨rfl, bk⟩
    clear hw1 y0 y1 y2 y3 y4 y5 y6 y7 y8 y9 y10
    have hb := Hb.out.trans (bk.mono Hb.out.size)
    have z := (bk.block _ (Array.getElem?_eq_some_iff.1 Z.out).1).trans Z.out
    clear Hb bk Z
    have Hb := Lib.hid hb; clear hb
    have Z := Lib.hid z; clear z
    have y0 := cells_at Z.out 0
    have y1 := cells_at Z.out 1
    have y2 := cells_at Z.out 2
    have o3 := Ho3.out w2 Hb.out.size
    have b3 := (Below.refl w2.heap.size w2).alloc (Nat.le_refl _) (.cells #[.int .u8 ((k - 1 + 8 * t) % 256), .int .u8 ((k - 1 + 8 * t) / 256 % 256), .int .u8 ((k - 1 + 8 * t) / 65536)] 5)
    obtain ⟨w3, hw3⟩ : ∃ w3, w3 = w2.alloc (.cells #[.int .u8 ((k - 1 + 8 * t) % 256), .int .u8 ((k - 1 + 8 * t) / 256 % 256), .int .u8 ((k - 1 + 8 * t) / 65536)] 5) := ⟨_, rfl⟩
    have hs3 : w3.heap.size = w2.heap.size + 1 := by rw [hw3, World.size_alloc]
    have S3 := Lib.hid hs3; clear hs3
    rw [← hw3] at o3 b3
    have hb := Hb.out.trans (b3.mono Hb.out.size)
    have z := (b3.block _ (Array.getElem?_eq_some_iff.1 Z.out).1).trans Z.out
    clear Hb Z b3
    have Hb := Lib.hid hb; clear hb
    have Z := Lib.hid z; clear z
    have O3 := Lib.hid o3; clear o3
    have x0 := cells_at Z.out 0
    have x2 := cells_at Z.out 2
    rw [hw3] at x0 x2
    rcases (by omega : (k = 2 ∨ k = 8) ∨ (k = 1 ∨ k = 7) ∨ (3 ≤ k ∧ k ≤ 6)) with hm | hy | hp
    · rcases hm with hm | hm
      · have e2 : (k == 2) = true := by simpa using hm
        have hq16 : IntKind.u16.wrap (m.tdiv 256) = m / 256 := by rw [Int.tdiv_eq_ediv_of_nonneg ok3.1, IntKind.wrap_u16]; omega
        have hE := HE.out
        rw [if_pos (by unfold maskedK; omega), H2m.out] at hE
        clear HE hm
        have HE := Lib.hid hE; clear hE
        go_wp2_with (with_reducible refine stop_builtin .append ?_)
        refine unpark ?_
        rw [← hw3]
        clear hw3 x0 x2 y0 y1 y2 hq16
        have i4 := Him.out w3
        rw [S3.out] at i4
        have b4 := (Below.refl w3.heap.size w3).alloc (Nat.le_refl _) (.cells #[.int .u8 (m % 256), .int .u8 (m / 256)] 5)
        generalize w3.alloc (.cells #[.int .u8 (m % 256), .int .u8 (m / 256)] 5) = w4 at *
        have o4 := O3.out.below b4
        have hb := Hb.out.trans (b4.mono Hb.out.size)
        clear Hb O3 b4
        have Hb := Lib.hid hb; clear hb
        refine wpList_append_ints _ rfl _ _ 39 rfl .u8 w1.heap.size 5 (.int .u8 0) 1 Tryz.underlying39 Tryz.infoU8 rfl _ _ rfl o4 _ 2 _ _ rfl i4 (by simp) (by decide) Hb.out.size ?_
        intro v5 w5 o5 g5 _
        have hb := Hb.out.grown g5 Hb.out.size (fun k hk => (o4.block k hk).1)
        rw [← HE.out] at o5
        clear Hb g5 i4 o4
        have Hb := Lib.hid hb; clear hb
        have O5 := Lib.hid o5; clear o5
        go_wp2_with fail
        go_ret2
        exact ⟨_, rfl, O5.out.mono B1.out.size, B1.out.trans (Hb.out.mono B1.out.size)⟩
      · have e2 : (k == 2) = false := by simp; omega
        have e8 : (k == 8) = true := by simpa using hm
        have hq16 : IntKind.u16.wrap (m.tdiv 256) = m / 256 := by rw [Int.tdiv_eq_ediv_of_nonneg ok3.1, IntKind.wrap_u16]; omega
        have hE := HE.out
        rw [if_pos (by unfold maskedK; omega), H2m.out] at hE
        clear HE hm
        have HE := Lib.hid hE; clear hE
        go_wp2_with (with_reducible refine stop_builtin .append ?_)
        refine unpark ?_
        rw [← hw3]
        clear hw3 x0 x2 y0 y1 y2 hq16
        have i4 := Him.out w3
        rw [S3.out] at i4
        have b4 := (Below.refl w3.heap.size w3).alloc (Nat.le_refl _) (.cells #[.int .u8 (m % 256), .int .u8 (m / 256)] 5)
        generalize w3.alloc (.cells #[.int .u8 (m % 256), .int .u8 (m / 256)] 5) = w4 at *
        have o4 := O3.out.below b4
        have hb := Hb.out.trans (b4.mono Hb.out.size)
        clear Hb O3 b4
        have Hb := Lib.hid hb; clear hb
        refine wpList_append_ints _ rfl _ _ 39 rfl .u8 w1.heap.size 5 (.int .u8 0) 1 Tryz.underlying39 Tryz.infoU8 rfl _ _ rfl o4 _ 2 _ _ rfl i4 (by simp) (by decide) Hb.out.size ?_
        intro v5 w5 o5 g5 _
        have hb := Hb.out.grown g5 Hb.out.size (fun k hk => (o4.block k hk).1)
        rw [← HE.out] at o5
        clear Hb g5 i4 o4
        have Hb := Lib.hid hb; clear hb
        have O5 := Lib.hid o5; clear o5
        go_wp2_with fail
        go_ret2
        exact ⟨_, rfl, O5.out.mono B1.out.size, B1.out.trans (Hb.out.mono B1.out.size)⟩
    · rcases hy with hm | hm
      · cases ot with
        | false =>
          cases nt with
          | false =>
            rw [show smallS false o = [] from rfl] at Hfd HE
            rw [show smallS false n = [] from rfl] at Hfd HE
            have e2 : (k == 2) = false := by simp; omega
            have e8 : (k == 8) = false := by simp; omega
            have e1 : (k != 1) = false := by simpa using hm
            have hE := HE.out
            rw [if_neg (by unfold maskedK; omega), if_pos (by unfold keyedK; omega)] at hE
            clear HE hm
            have HE := Lib.hid hE; clear hE
            have x3 := cells_at Z.out 3
            have x4 := cells_at Z.out 4
            have x5 := cells_at Z.out 5
            have x6 := cells_at Z.out 6
            rw [hw3] at x3 x4 x5 x6
            go_wp2_with (with_reducible refine stop_builtin .append ?_)
            refine unpark ?_
            rw [← hw3]
            clear hw3 x0 x2 y0 y1 y2 x3 x4 x5 x6
            have i4 := Hik.out w3
            rw [S3.out] at i4
            have b4 := (Below.refl w3.heap.size w3).alloc (Nat.le_refl _) (.cells #[.int .u8 k0, .int .u8 k1, .int .u8 k2, .int .u8 k3] 5)
            generalize w3.alloc (.cells #[.int .u8 k0, .int .u8 k1, .int .u8 k2, .int .u8 k3] 5) = w4 at *
            have o4 := O3.out.below b4
            have hb := Hb.out.trans (b4.mono Hb.out.size)
            clear Hb O3 b4
            have Hb := Lib.hid hb; clear hb
            refine wpList_append_ints _ rfl _ _ 39 rfl .u8 w1.heap.size 5 (.int .u8 0) 1 Tryz.underlying39 Tryz.infoU8 rfl _ _ rfl o4 _ 4 _ _ rfl i4 (by simp) (by decide) Hb.out.size ?_
            intro v5 w5 o5 g5 _
            have hb := Hb.out.grown g5 Hb.out.size (fun k hk => (o4.block k hk).1)
            clear Hb g5 i4 o4
            have z := (hb.block _ (Array.getElem?_eq_some_iff.1 Z1.out).1).trans Z1.out
            clear Z
            have Z := Lib.hid z; clear z
            have Hb := Lib.hid hb; clear hb
            have t6 := own_empty w5 w5.heap.size 5 .u8 (Nat.le_refl _)
            have c6 := (Below.refl w5.heap.size w5).alloc (Nat.le_refl _) (.cells #[] 5)
            obtain ⟨w6, hw6⟩ : ∃ w6, w6 = w5.alloc (.cells #[] 5) := ⟨_, rfl⟩
            rw [← hw6] at t6 c6
            have s6 : w6.heap.size = w5.heap.size + 1 := by rw [hw6, World.size_alloc]
            have lt5 : ∀ k, v5.ownBlock = some k → k < w5.heap.size := fun k hk => (o5.block k hk).2
            have S6 := Lib.hid s6; clear s6
            have Lt5 := Lib.hid lt5; clear lt5
            have O5 := Lib.hid o5; clear o5
            have T := Lib.hid t6; clear t6
            have hz := (c6.block _ (Array.getElem?_eq_some_iff.1 Z.out).1).trans Z.out
            have x7 := cells_at hz 7
            have x8 := cells_at hz 8
            have x9 := cells_at hz 9
            have x10 := cells_at hz 10
            rw [hw6] at x7 x8 x9 x10
            clear hz
            have Hc := Lib.hid c6; clear c6

            go_wp2_with (with_reducible refine stop_builtin .append ?_)
            refine unpark ?_
            rw [← hw6]
            clear hw6
            clear x7 x8 x9 x10
            have hF : ((FL : Nat) : Int) = 0 := by
              have h : FL = 0 + 2 * 0 + 4 * (0 - 1) + 32 * (0 - 1) := Hfd.out
              omega
            have iF := ints_alloc (w := w6) (n := 1) (k := .u8) (E := 5) (C := #[.int .u8 (0)]) [0] rfl rfl (by decide) fun z hz => wf_u8' (by rw [List.mem_singleton] at hz; subst hz; omega)
            rw [S6.out] at iF
            have bF := (Below.refl w6.heap.size w6).alloc (Nat.le_refl _) (.cells #[.int .u8 (0)] 5)
            generalize w6.alloc (.cells #[.int .u8 (0)] 5) = wF at *
            have tF := T.out.below bF
            have cF := Hc.out.trans (bF.mono Hc.out.size)
            have oF := O5.out.below cF
            have dF := Hb.out.trans (cF.mono Hb.out.size)
            clear T Hc O5 Hb bF cF
            refine wpList_append_ints _ rfl _ _ 39 rfl .u8 w1.heap.size 5 (.int .u8 0) 1 Tryz.underlying39 Tryz.infoU8 rfl _ _ rfl oF _ 1 _ _ rfl iF (by simp) (by decide) dF.size ?_
            intro vA wA oA gA _
            have dA := dF.grown gA dF.size (fun k hk => (oF.block k hk).1)
            have tA := tF.keep fun g hg hl => gA.block g hl fun e => by
              have h1 := Lt5.out g e.symm
              have h2 := (tF.block g hg).1
              omega
            clear gA tF oF dF iF
            have OA := Lib.hid oA; clear oA
            have TA := Lib.hid tA; clear tA
            have DA := Lib.hid dA; clear dA
            have HF := Lib.hid hF; clear hF
            go_wp2_with (with_reducible refine stop_builtin .append ?_)
            refine unpark ?_
            have iT : Ints wA .u8 (some ⟨w5.heap.size, 0, none⟩) 0 0 [] := Ints.empty _ _ _ _ (by decide)
            refine wpList_append_ints _ rfl _ _ 39 rfl .u8 w1.heap.size 5 (.int .u8 0) 1 Tryz.underlying39 Tryz.infoU8 rfl _ _ rfl OA.out _ 0 _ _ rfl iT (by simp) (by decide) DA.out.size ?_
            intro vB wB oB gB _
            have dB := DA.out.grown gB DA.out.size (fun k hk => (OA.out.block k hk).1)
            have hEE := HE.out
            rw [HF.out] at hEE
            have hEq : [(k - 1 + 8 * t) % 256, (k - 1 + 8 * t) / 256 % 256, (k - 1 + 8 * t) / 65536] ++ [k0, k1, k2, k3] ++ [0] ++ (([] : List Int)) = E := by rw [hEE]; simp
            rw [hEq] at oB
            clear OA TA DA iT gB hEE hEq
            have OB := Lib.hid oB; clear oB
            have DB := Lib.hid dB; clear dB
            go_wp2_with fail
            go_ret2
            exact ⟨_, rfl, OB.out.mono B1.out.size, B1.out.trans (DB.out.mono B1.out.size)⟩
          | true =>
            rw [show smallS false o = [] from rfl] at Hfd HE
            obtain ⟨S2, hS2⟩ : ∃ S, S = smallS true n := ⟨_, rfl⟩
            rw [← hS2] at Hs2 Hfd HE Hl2 Hp2
            have HS2 := Lib.hid hS2; clear hS2
            have e2 : (k == 2) = false := by simp; omega
            have e8 : (k == 8) = false := by simp; omega
            have e1 : (k != 1) = false := by simpa using hm
            have hE := HE.out
            rw [if_neg (by unfold maskedK; omega), if_pos (by unfold keyedK; omega)] at hE
            clear HE hm
            have HE := Lib.hid hE; clear hE
            have x3 := cells_at Z.out 3
            have x4 := cells_at Z.out 4
            have x5 := cells_at Z.out 5
            have x6 := cells_at Z.out 6
            rw [hw3] at x3 x4 x5 x6
            go_wp2_with (with_reducible refine stop_builtin .append ?_)
            refine unpark ?_
            rw [← hw3]
            clear hw3 x0 x2 y0 y1 y2 x3 x4 x5 x6
            have i4 := Hik.out w3
            rw [S3.out] at i4
            have b4 := (Below.refl w3.heap.size w3).alloc (Nat.le_refl _) (.cells #[.int .u8 k0, .int .u8 k1, .int .u8 k2, .int .u8 k3] 5)
            generalize w3.alloc (.cells #[.int .u8 k0, .int .u8 k1, .int .u8 k2, .int .u8 k3] 5) = w4 at *
            have o4 := O3.out.below b4
            have hb := Hb.out.trans (b4.mono Hb.out.size)
            clear Hb O3 b4
            have Hb := Lib.hid hb; clear hb
            refine wpList_append_ints _ rfl _ _ 39 rfl .u8 w1.heap.size 5 (.int .u8 0) 1 Tryz.underlying39 Tryz.infoU8 rfl _ _ rfl o4 _ 4 _ _ rfl i4 (by simp) (by decide) Hb.out.size ?_
            intro v5 w5 o5 g5 _
            have hb := Hb.out.grown g5 Hb.out.size (fun k hk => (o4.block k hk).1)
            clear Hb g5 i4 o4
            have z := (hb.block _ (Array.getElem?_eq_some_iff.1 Z1.out).1).trans Z1.out
            clear Z
            have Z := Lib.hid z; clear z
            have Hb := Lib.hid hb; clear hb
            have t6 := own_empty w5 w5.heap.size 5 .u8 (Nat.le_refl _)
            have c6 := (Below.refl w5.heap.size w5).alloc (Nat.le_refl _) (.cells #[] 5)
            obtain ⟨w6, hw6⟩ : ∃ w6, w6 = w5.alloc (.cells #[] 5) := ⟨_, rfl⟩
            rw [← hw6] at t6 c6
            have s6 : w6.heap.size = w5.heap.size + 1 := by rw [hw6, World.size_alloc]
            have lt5 : ∀ k, v5.ownBlock = some k → k < w5.heap.size := fun k hk => (o5.block k hk).2
            have S6 := Lib.hid s6; clear s6
            have Lt5 := Lib.hid lt5; clear lt5
            have O5 := Lib.hid o5; clear o5
            have T := Lib.hid t6; clear t6
            have hz := (c6.block _ (Array.getElem?_eq_some_iff.1 Z.out).1).trans Z.out
            have x7 := cells_at hz 7
            have x8 := cells_at hz 8
            have x9 := cells_at hz 9
            have x10 := cells_at hz 10
            rw [hw6] at x7 x8 x9 x10
            clear hz
            have Hc := Lib.hid c6; clear c6

            go_wp2_with fail
            rw [← hw6]
            clear hw6
            clear x7 x8 x9 x10
            refine (Hs2.out w6).mono ?_
            rintro e w7 ⟨v7, rfl, s7, b7⟩
            have t7 := T.out.below b7
            have c7 := Hc.out.trans (b7.mono Hc.out.size)
            clear T Hc b7
            obtain ⟨a7, q7, rfl, i7, -⟩ := s7.ints
            clear s7
            obtain ⟨LS2, hLS2⟩ : ∃ L, L = S2.length := ⟨_, rfl⟩
            rw [← hLS2] at Hl2 Hp2 Hfd i7 ⊢
            have hlS2 := Hl2.out
            have hpS2 := Hp2.out
            have HLS2 := Lib.hid hLS2; clear hLS2
            go_wp2_with (with_reducible refine stop_builtin .append ?_)
            refine unpark ?_
            refine wpList_append_ints _ rfl _ _ 39 rfl .u8 w5.heap.size 5 (.int .u8 0) 1 Tryz.underlying39 Tryz.infoU8 rfl _ _ rfl t7 _ LS2 _ _ rfl i7 (by rw [List.length_nil]; omega) (by decide) c7.size ?_
            intro v8 w8 t8 g8 _
            have c8 := c7.grown g8 c7.size (fun k hk => (t7.block k hk).1)
            clear t7 c7 i7 g8
            have hz := (c8.block _ (Array.getElem?_eq_some_iff.1 Z.out).1).trans Z.out
            have x9 := cells_at hz 9
            have x10 := cells_at hz 10
            clear hz
            have T := Lib.hid t8; clear t8
            have Hc := Lib.hid c8; clear c8

            go_wp2_with (with_reducible refine stop_builtin .append ?_)
            refine unpark ?_
            have hF : ((FL : Nat) : Int) = 2 + 32 * ((LS2 : Int) - 1) := by
              have h : FL = 0 + 2 * 1 + 4 * (0 - 1) + 32 * (LS2 - 1) := Hfd.out
              omega
            have iF := ints_alloc (w := w8) (n := 1) (k := .u8) (E := 5) (C := #[.int .u8 (2 + 32 * ((LS2 : Int) - 1))]) [2 + 32 * ((LS2 : Int) - 1)] rfl rfl (by decide) fun z hz => wf_u8' (by rw [List.mem_singleton] at hz; subst hz; omega)
            have bF := (Below.refl w8.heap.size w8).alloc (Nat.le_refl _) (.cells #[.int .u8 (2 + 32 * ((LS2 : Int) - 1))] 5)
            generalize w8.alloc (.cells #[.int .u8 (2 + 32 * ((LS2 : Int) - 1))] 5) = wF at *
            have tF := T.out.below bF
            have cF := Hc.out.trans (bF.mono Hc.out.size)
            have oF := O5.out.below cF
            have dF := Hb.out.trans (cF.mono Hb.out.size)
            clear T Hc O5 Hb bF cF
            refine wpList_append_ints _ rfl _ _ 39 rfl .u8 w1.heap.size 5 (.int .u8 0) 1 Tryz.underlying39 Tryz.infoU8 rfl _ _ rfl oF _ 1 _ _ rfl iF (by simp) (by decide) dF.size ?_
            intro vA wA oA gA _
            have dA := dF.grown gA dF.size (fun k hk => (oF.block k hk).1)
            have tA := tF.keep fun g hg hl => gA.block g hl fun e => by
              have h1 := Lt5.out g e.symm
              have h2 := (tF.block g hg).1
              omega
            clear gA tF oF dF iF
            have OA := Lib.hid oA; clear oA
            have TA := Lib.hid tA; clear tA
            have DA := Lib.hid dA; clear dA
            have HF := Lib.hid hF; clear hF
            go_wp2_with (with_reducible refine stop_builtin .append ?_)
            refine unpark ?_
            obtain ⟨aT, cT, rfl, iT, -⟩ := TA.out.ints
            refine wpList_append_ints _ rfl _ _ 39 rfl .u8 w1.heap.size 5 (.int .u8 0) 1 Tryz.underlying39 Tryz.infoU8 rfl _ _ rfl OA.out _ ([] ++ S2).length _ _ rfl iT (by simp only [List.length_append, List.length_cons, List.length_nil]; have : ([] ++ S2).length ≤ 100 := (by rw [List.nil_append, ← HLS2.out]; omega); simp only [List.length_append, List.length_nil] at this; omega) (by decide) DA.out.size ?_
            intro vB wB oB gB _
            have dB := DA.out.grown gB DA.out.size (fun k hk => (OA.out.block k hk).1)
            have hEE := HE.out
            rw [HF.out] at hEE
            have hEq : [(k - 1 + 8 * t) % 256, (k - 1 + 8 * t) / 256 % 256, (k - 1 + 8 * t) / 65536] ++ [k0, k1, k2, k3] ++ [2 + 32 * ((LS2 : Int) - 1)] ++ ([] ++ S2) = E := by rw [hEE]; simp
            rw [hEq] at oB
            clear OA TA DA iT gB hEE hEq
            have OB := Lib.hid oB; clear oB
            have DB := Lib.hid dB; clear dB
            go_wp2_with fail
            go_ret2
            exact ⟨_, rfl, OB.out.mono B1.out.size, B1.out.trans (DB.out.mono B1.out.size)⟩
        | true =>
          obtain ⟨S1, hS1⟩ : ∃ S, S = smallS true o := ⟨_, rfl⟩
          rw [← hS1] at Hs1 Hfd HE Hl1 Hp1
          have HS1 := Lib.hid hS1; clear hS1
          cases nt with
          | false =>
            rw [show smallS false n = [] from rfl] at Hfd HE
            have e2 : (k == 2) = false := by simp; omega
            have e8 : (k == 8) = false := by simp; omega
            have e1 : (k != 1) = false := by simpa using hm
            have hE := HE.out
            rw [if_neg (by unfold maskedK; omega), if_pos (by unfold keyedK; omega)] at hE
            clear HE hm
            have HE := Lib.hid hE; clear hE
            have x3 := cells_at Z.out 3
            have x4 := cells_at Z.out 4
            have x5 := cells_at Z.out 5
            have x6 := cells_at Z.out 6
            rw [hw3] at x3 x4 x5 x6
            go_wp2_with (with_reducible refine stop_builtin .append ?_)
            refine unpark ?_
            rw [← hw3]
            clear hw3 x0 x2 y0 y1 y2 x3 x4 x5 x6
            have i4 := Hik.out w3
            rw [S3.out] at i4
            have b4 := (Below.refl w3.heap.size w3).alloc (Nat.le_refl _) (.cells #[.int .u8 k0, .int .u8 k1, .int .u8 k2, .int .u8 k3] 5)
            generalize w3.alloc (.cells #[.int .u8 k0, .int .u8 k1, .int .u8 k2, .int .u8 k3] 5) = w4 at *
            have o4 := O3.out.below b4
            have hb := Hb.out.trans (b4.mono Hb.out.size)
            clear Hb O3 b4
            have Hb := Lib.hid hb; clear hb
            refine wpList_append_ints _ rfl _ _ 39 rfl .u8 w1.heap.size 5 (.int .u8 0) 1 Tryz.underlying39 Tryz.infoU8 rfl _ _ rfl o4 _ 4 _ _ rfl i4 (by simp) (by decide) Hb.out.size ?_
            intro v5 w5 o5 g5 _
            have hb := Hb.out.grown g5 Hb.out.size (fun k hk => (o4.block k hk).1)
            clear Hb g5 i4 o4
            have z := (hb.block _ (Array.getElem?_eq_some_iff.1 Z1.out).1).trans Z1.out
            clear Z
            have Z := Lib.hid z; clear z
            have Hb := Lib.hid hb; clear hb
            have t6 := own_empty w5 w5.heap.size 5 .u8 (Nat.le_refl _)
            have c6 := (Below.refl w5.heap.size w5).alloc (Nat.le_refl _) (.cells #[] 5)
            obtain ⟨w6, hw6⟩ : ∃ w6, w6 = w5.alloc (.cells #[] 5) := ⟨_, rfl⟩
            rw [← hw6] at t6 c6
            have s6 : w6.heap.size = w5.heap.size + 1 := by rw [hw6, World.size_alloc]
            have lt5 : ∀ k, v5.ownBlock = some k → k < w5.heap.size := fun k hk => (o5.block k hk).2
            have S6 := Lib.hid s6; clear s6
            have Lt5 := Lib.hid lt5; clear lt5
            have O5 := Lib.hid o5; clear o5
            have T := Lib.hid t6; clear t6
            have hz := (c6.block _ (Array.getElem?_eq_some_iff.1 Z.out).1).trans Z.out
            have x7 := cells_at hz 7
            have x8 := cells_at hz 8
            have x9 := cells_at hz 9
            have x10 := cells_at hz 10
            rw [hw6] at x7 x8 x9 x10
            clear hz
            have Hc := Lib.hid c6; clear c6

            go_wp2_with fail
            rw [← hw6]
            clear hw6
            clear x7 x8 x9 x10
            refine (Hs1.out w6).mono ?_
            rintro e w7 ⟨v7, rfl, s7, b7⟩
            have t7 := T.out.below b7
            have c7 := Hc.out.trans (b7.mono Hc.out.size)
            clear T Hc b7
            obtain ⟨a7, q7, rfl, i7, -⟩ := s7.ints
            clear s7
            obtain ⟨LS1, hLS1⟩ : ∃ L, L = S1.length := ⟨_, rfl⟩
            rw [← hLS1] at Hl1 Hp1 Hfd i7 ⊢
            have hlS1 := Hl1.out
            have hpS1 := Hp1.out
            have HLS1 := Lib.hid hLS1; clear hLS1
            go_wp2_with (with_reducible refine stop_builtin .append ?_)
            refine unpark ?_
            refine wpList_append_ints _ rfl _ _ 39 rfl .u8 w5.heap.size 5 (.int .u8 0) 1 Tryz.underlying39 Tryz.infoU8 rfl _ _ rfl t7 _ LS1 _ _ rfl i7 (by rw [List.length_nil]; omega) (by decide) c7.size ?_
            intro v8 w8 t8 g8 _
            have c8 := c7.grown g8 c7.size (fun k hk => (t7.block k hk).1)
            clear t7 c7 i7 g8
            have hz := (c8.block _ (Array.getElem?_eq_some_iff.1 Z.out).1).trans Z.out
            have x9 := cells_at hz 9
            have x10 := cells_at hz 10
            clear hz
            have T := Lib.hid t8; clear t8
            have Hc := Lib.hid c8; clear c8

            go_wp2_with (with_reducible refine stop_builtin .append ?_)
            refine unpark ?_
            clear x9 x10
            have hF : ((FL : Nat) : Int) = 1 + 4 * ((LS1 : Int) - 1) := by
              have h : FL = 1 + 2 * 0 + 4 * (LS1 - 1) + 32 * (0 - 1) := Hfd.out
              omega
            have iF := ints_alloc (w := w8) (n := 1) (k := .u8) (E := 5) (C := #[.int .u8 (1 + 4 * ((LS1 : Int) - 1))]) [1 + 4 * ((LS1 : Int) - 1)] rfl rfl (by decide) fun z hz => wf_u8' (by rw [List.mem_singleton] at hz; subst hz; omega)
            have bF := (Below.refl w8.heap.size w8).alloc (Nat.le_refl _) (.cells #[.int .u8 (1 + 4 * ((LS1 : Int) - 1))] 5)
            generalize w8.alloc (.cells #[.int .u8 (1 + 4 * ((LS1 : Int) - 1))] 5) = wF at *
            have tF := T.out.below bF
            have cF := Hc.out.trans (bF.mono Hc.out.size)
            have oF := O5.out.below cF
            have dF := Hb.out.trans (cF.mono Hb.out.size)
            clear T Hc O5 Hb bF cF
            refine wpList_append_ints _ rfl _ _ 39 rfl .u8 w1.heap.size 5 (.int .u8 0) 1 Tryz.underlying39 Tryz.infoU8 rfl _ _ rfl oF _ 1 _ _ rfl iF (by simp) (by decide) dF.size ?_
            intro vA wA oA gA _
            have dA := dF.grown gA dF.size (fun k hk => (oF.block k hk).1)
            have tA := tF.keep fun g hg hl => gA.block g hl fun e => by
              have h1 := Lt5.out g e.symm
              have h2 := (tF.block g hg).1
              omega
            clear gA tF oF dF iF
            have OA := Lib.hid oA; clear oA
            have TA := Lib.hid tA; clear tA
            have DA := Lib.hid dA; clear dA
            have HF := Lib.hid hF; clear hF
            go_wp2_with (with_reducible refine stop_builtin .append ?_)
            refine unpark ?_
            obtain ⟨aT, cT, rfl, iT, -⟩ := TA.out.ints
            refine wpList_append_ints _ rfl _ _ 39 rfl .u8 w1.heap.size 5 (.int .u8 0) 1 Tryz.underlying39 Tryz.infoU8 rfl _ _ rfl OA.out _ ([] ++ S1).length _ _ rfl iT (by simp only [List.length_append, List.length_cons, List.length_nil]; have : ([] ++ S1).length ≤ 100 := (by rw [List.nil_append, ← HLS1.out]; omega); simp only [List.length_append, List.length_nil] at this; omega) (by decide) DA.out.size ?_
            intro vB wB oB gB _
            have dB := DA.out.grown gB DA.out.size (fun k hk => (OA.out.block k hk).1)
            have hEE := HE.out
            rw [HF.out] at hEE
            have hEq : [(k - 1 + 8 * t) % 256, (k - 1 + 8 * t) / 256 % 256, (k - 1 + 8 * t) / 65536] ++ [k0, k1, k2, k3] ++ [1 + 4 * ((LS1 : Int) - 1)] ++ ([] ++ S1) = E := by rw [hEE]; simp
            rw [hEq] at oB
            clear OA TA DA iT gB hEE hEq
            have OB := Lib.hid oB; clear oB
            have DB := Lib.hid dB; clear dB
            go_wp2_with fail
            go_ret2
            exact ⟨_, rfl, OB.out.mono B1.out.size, B1.out.trans (DB.out.mono B1.out.size)⟩
          | true =>
            obtain ⟨S2, hS2⟩ : ∃ S, S = smallS true n := ⟨_, rfl⟩
            rw [← hS2] at Hs2 Hfd HE Hl2 Hp2
            have HS2 := Lib.hid hS2; clear hS2
            have e2 : (k == 2) = false := by simp; omega
            have e8 : (k == 8) = false := by simp; omega
            have e1 : (k != 1) = false := by simpa using hm
            have hE := HE.out
            rw [if_neg (by unfold maskedK; omega), if_pos (by unfold keyedK; omega)] at hE
            clear HE hm
            have HE := Lib.hid hE; clear hE
            have x3 := cells_at Z.out 3
            have x4 := cells_at Z.out 4
            have x5 := cells_at Z.out 5
            have x6 := cells_at Z.out 6
            rw [hw3] at x3 x4 x5 x6
            go_wp2_with (with_reducible refine stop_builtin .append ?_)
            refine unpark ?_
            rw [← hw3]
            clear hw3 x0 x2 y0 y1 y2 x3 x4 x5 x6
            have i4 := Hik.out w3
            rw [S3.out] at i4
            have b4 := (Below.refl w3.heap.size w3).alloc (Nat.le_refl _) (.cells #[.int .u8 k0, .int .u8 k1, .int .u8 k2, .int .u8 k3] 5)
            generalize w3.alloc (.cells #[.int .u8 k0, .int .u8 k1, .int .u8 k2, .int .u8 k3] 5) = w4 at *
            have o4 := O3.out.below b4
            have hb := Hb.out.trans (b4.mono Hb.out.size)
            clear Hb O3 b4
            have Hb := Lib.hid hb; clear hb
            refine wpList_append_ints _ rfl _ _ 39 rfl .u8 w1.heap.size 5 (.int .u8 0) 1 Tryz.underlying39 Tryz.infoU8 rfl _ _ rfl o4 _ 4 _ _ rfl i4 (by simp) (by decide) Hb.out.size ?_
            intro v5 w5 o5 g5 _
            have hb := Hb.out.grown g5 Hb.out.size (fun k hk => (o4.block k hk).1)
            clear Hb g5 i4 o4
            have z := (hb.block _ (Array.getElem?_eq_some_iff.1 Z1.out).1).trans Z1.out
            clear Z
            have Z := Lib.hid z; clear z
            have Hb := Lib.hid hb; clear hb
            have t6 := own_empty w5 w5.heap.size 5 .u8 (Nat.le_refl _)
            have c6 := (Below.refl w5.heap.size w5).alloc (Nat.le_refl _) (.cells #[] 5)
            obtain ⟨w6, hw6⟩ : ∃ w6, w6 = w5.alloc (.cells #[] 5) := ⟨_, rfl⟩
            rw [← hw6] at t6 c6
            have s6 : w6.heap.size = w5.heap.size + 1 := by rw [hw6, World.size_alloc]
            have lt5 : ∀ k, v5.ownBlock = some k → k < w5.heap.size := fun k hk => (o5.block k hk).2
            have S6 := Lib.hid s6; clear s6
            have Lt5 := Lib.hid lt5; clear lt5
            have O5 := Lib.hid o5; clear o5
            have T := Lib.hid t6; clear t6
            have hz := (c6.block _ (Array.getElem?_eq_some_iff.1 Z.out).1).trans Z.out
            have x7 := cells_at hz 7
            have x8 := cells_at hz 8
            have x9 := cells_at hz 9
            have x10 := cells_at hz 10
            rw [hw6] at x7 x8 x9 x10
            clear hz
            have Hc := Lib.hid c6; clear c6

            go_wp2_with fail
            rw [← hw6]
            clear hw6
            clear x7 x8 x9 x10
            refine (Hs1.out w6).mono ?_
            rintro e w7 ⟨v7, rfl, s7, b7⟩
            have t7 := T.out.below b7
            have c7 := Hc.out.trans (b7.mono Hc.out.size)
            clear T Hc b7
            obtain ⟨a7, q7, rfl, i7, -⟩ := s7.ints
            clear s7
            obtain ⟨LS1, hLS1⟩ : ∃ L, L = S1.length := ⟨_, rfl⟩
            rw [← hLS1] at Hl1 Hp1 Hfd i7 ⊢
            have hlS1 := Hl1.out
            have hpS1 := Hp1.out
            have HLS1 := Lib.hid hLS1; clear hLS1
            go_wp2_with (with_reducible refine stop_builtin .append ?_)
            refine unpark ?_
            refine wpList_append_ints _ rfl _ _ 39 rfl .u8 w5.heap.size 5 (.int .u8 0) 1 Tryz.underlying39 Tryz.infoU8 rfl _ _ rfl t7 _ LS1 _ _ rfl i7 (by rw [List.length_nil]; omega) (by decide) c7.size ?_
            intro v8 w8 t8 g8 _
            have c8 := c7.grown g8 c7.size (fun k hk => (t7.block k hk).1)
            clear t7 c7 i7 g8
            have hz := (c8.block _ (Array.getElem?_eq_some_iff.1 Z.out).1).trans Z.out
            have x9 := cells_at hz 9
            have x10 := cells_at hz 10
            clear hz
            have T := Lib.hid t8; clear t8
            have Hc := Lib.hid c8; clear c8

            go_wp2_with fail
            clear x9 x10
            refine (Hs2.out w8).mono ?_
            rintro e w9 ⟨v9, rfl, s9, b9⟩
            have t9 := T.out.below b9
            have c9 := Hc.out.trans (b9.mono Hc.out.size)
            clear T Hc b9
            obtain ⟨a9, q9, rfl, i9, -⟩ := s9.ints
            clear s9
            obtain ⟨LS2, hLS2⟩ : ∃ L, L = S2.length := ⟨_, rfl⟩
            rw [← hLS2] at Hl2 Hp2 Hfd i9 ⊢
            have hlS2 := Hl2.out
            have hpS2 := Hp2.out
            have HLS2 := Lib.hid hLS2; clear hLS2
            go_wp2_with (with_reducible refine stop_builtin .append ?_)
            refine unpark ?_
            refine wpList_append_ints _ rfl _ _ 39 rfl .u8 w5.heap.size 5 (.int .u8 0) 1 Tryz.underlying39 Tryz.infoU8 rfl _ _ rfl t9 _ LS2 _ _ rfl i9 (by rw [List.nil_append, ← HLS1.out]; omega) (by decide) c9.size ?_
            intro v10 w10 t10 g10 _
            have c10 := c9.grown g10 c9.size (fun k hk => (t9.block k hk).1)
            clear t9 c9 i9 g10
            have hz := (c10.block _ (Array.getElem?_eq_some_iff.1 Z.out).1).trans Z.out
            clear hz
            have T := Lib.hid t10; clear t10
            have Hc := Lib.hid c10; clear c10

            go_wp2_with (with_reducible refine stop_builtin .append ?_)
            refine unpark ?_
            have hF : ((FL : Nat) : Int) = 1 + 4 * ((LS1 : Int) - 1) + (2 + 32 * ((LS2 : Int) - 1)) := by
              have h : FL = 1 + 2 * 1 + 4 * (LS1 - 1) + 32 * (LS2 - 1) := Hfd.out
              omega
            have iF := ints_alloc (w := w10) (n := 1) (k := .u8) (E := 5) (C := #[.int .u8 (1 + 4 * ((LS1 : Int) - 1) + (2 + 32 * ((LS2 : Int) - 1)))]) [1 + 4 * ((LS1 : Int) - 1) + (2 + 32 * ((LS2 : Int) - 1))] rfl rfl (by decide) fun z hz => wf_u8' (by rw [List.mem_singleton] at hz; subst hz; omega)
            have bF := (Below.refl w10.heap.size w10).alloc (Nat.le_refl _) (.cells #[.int .u8 (1 + 4 * ((LS1 : Int) - 1) + (2 + 32 * ((LS2 : Int) - 1)))] 5)
            generalize w10.alloc (.cells #[.int .u8 (1 + 4 * ((LS1 : Int) - 1) + (2 + 32 * ((LS2 : Int) - 1)))] 5) = wF at *
            have tF := T.out.below bF
            have cF := Hc.out.trans (bF.mono Hc.out.size)
            have oF := O5.out.below cF
            have dF := Hb.out.trans (cF.mono Hb.out.size)
            clear T Hc O5 Hb bF cF
            refine wpList_append_ints _ rfl _ _ 39 rfl .u8 w1.heap.size 5 (.int .u8 0) 1 Tryz.underlying39 Tryz.infoU8 rfl _ _ rfl oF _ 1 _ _ rfl iF (by simp) (by decide) dF.size ?_
            intro vA wA oA gA _
            have dA := dF.grown gA dF.size (fun k hk => (oF.block k hk).1)
            have tA := tF.keep fun g hg hl => gA.block g hl fun e => by
              have h1 := Lt5.out g e.symm
              have h2 := (tF.block g hg).1
              omega
            clear gA tF oF dF iF
            have OA := Lib.hid oA; clear oA
            have TA := Lib.hid tA; clear tA
            have DA := Lib.hid dA; clear dA
            have HF := Lib.hid hF; clear hF
            go_wp2_with (with_reducible refine stop_builtin .append ?_)
            refine unpark ?_
            obtain ⟨aT, cT, rfl, iT, -⟩ := TA.out.ints
            refine wpList_append_ints _ rfl _ _ 39 rfl .u8 w1.heap.size 5 (.int .u8 0) 1 Tryz.underlying39 Tryz.infoU8 rfl _ _ rfl OA.out _ ([] ++ S1 ++ S2).length _ _ rfl iT (by simp only [List.length_append, List.length_cons, List.length_nil]; have : ([] ++ S1 ++ S2).length ≤ 100 := (by rw [List.nil_append, List.length_append, ← HLS1.out, ← HLS2.out]; omega); simp only [List.length_append, List.length_nil] at this; omega) (by decide) DA.out.size ?_
            intro vB wB oB gB _
            have dB := DA.out.grown gB DA.out.size (fun k hk => (OA.out.block k hk).1)
            have hEE := HE.out
            rw [HF.out] at hEE
            have hEq : [(k - 1 + 8 * t) % 256, (k - 1 + 8 * t) / 256 % 256, (k - 1 + 8 * t) / 65536] ++ [k0, k1, k2, k3] ++ [1 + 4 * ((LS1 : Int) - 1) + (2 + 32 * ((LS2 : Int) - 1))] ++ ([] ++ S1 ++ S2) = E := by rw [hEE]; simp
            rw [hEq] at oB
            clear OA TA DA iT gB hEE hEq
            have OB := Lib.hid oB; clear oB
            have DB := Lib.hid dB; clear dB
            go_wp2_with fail
            go_ret2
            exact ⟨_, rfl, OB.out.mono B1.out.size, B1.out.trans (DB.out.mono B1.out.size)⟩
      · cases ot with
        | false =>
          cases nt with
          | false =>
            rw [show smallS false o = [] from rfl] at Hfd HE
            rw [show smallS false n = [] from rfl] at Hfd HE
            have e2 : (k == 2) = false := by simp; omega
            have e8 : (k == 8) = false := by simp; omega
            have e1 : (k != 1) = true := by simp; omega
            have e7 : (k != 7) = false := by simpa using hm
            have hE := HE.out
            rw [if_neg (by unfold maskedK; omega), if_pos (by unfold keyedK; omega)] at hE
            clear HE hm
            have HE := Lib.hid hE; clear hE
            have x3 := cells_at Z.out 3
            have x4 := cells_at Z.out 4
            have x5 := cells_at Z.out 5
            have x6 := cells_at Z.out 6
            rw [hw3] at x3 x4 x5 x6
            go_wp2_with (with_reducible refine stop_builtin .append ?_)
            refine unpark ?_
            rw [← hw3]
            clear hw3 x0 x2 y0 y1 y2 x3 x4 x5 x6
            have i4 := Hik.out w3
            rw [S3.out] at i4
            have b4 := (Below.refl w3.heap.size w3).alloc (Nat.le_refl _) (.cells #[.int .u8 k0, .int .u8 k1, .int .u8 k2, .int .u8 k3] 5)
            generalize w3.alloc (.cells #[.int .u8 k0, .int .u8 k1, .int .u8 k2, .int .u8 k3] 5) = w4 at *
            have o4 := O3.out.below b4
            have hb := Hb.out.trans (b4.mono Hb.out.size)
            clear Hb O3 b4
            have Hb := Lib.hid hb; clear hb
            refine wpList_append_ints _ rfl _ _ 39 rfl .u8 w1.heap.size 5 (.int .u8 0) 1 Tryz.underlying39 Tryz.infoU8 rfl _ _ rfl o4 _ 4 _ _ rfl i4 (by simp) (by decide) Hb.out.size ?_
            intro v5 w5 o5 g5 _
            have hb := Hb.out.grown g5 Hb.out.size (fun k hk => (o4.block k hk).1)
            clear Hb g5 i4 o4
            have z := (hb.block _ (Array.getElem?_eq_some_iff.1 Z1.out).1).trans Z1.out
            clear Z
            have Z := Lib.hid z; clear z
            have Hb := Lib.hid hb; clear hb
            have t6 := own_empty w5 w5.heap.size 5 .u8 (Nat.le_refl _)
            have c6 := (Below.refl w5.heap.size w5).alloc (Nat.le_refl _) (.cells #[] 5)
            obtain ⟨w6, hw6⟩ : ∃ w6, w6 = w5.alloc (.cells #[] 5) := ⟨_, rfl⟩
            rw [← hw6] at t6 c6
            have s6 : w6.heap.size = w5.heap.size + 1 := by rw [hw6, World.size_alloc]
            have lt5 : ∀ k, v5.ownBlock = some k → k < w5.heap.size := fun k hk => (o5.block k hk).2
            have S6 := Lib.hid s6; clear s6
            have Lt5 := Lib.hid lt5; clear lt5
            have O5 := Lib.hid o5; clear o5
            have T := Lib.hid t6; clear t6
            have hz := (c6.block _ (Array.getElem?_eq_some_iff.1 Z.out).1).trans Z.out
            have x7 := cells_at hz 7
            have x8 := cells_at hz 8
            have x9 := cells_at hz 9
            have x10 := cells_at hz 10
            rw [hw6] at x7 x8 x9 x10
            clear hz
            have Hc := Lib.hid c6; clear c6

            go_wp2_with (with_reducible refine stop_builtin .append ?_)
            refine unpark ?_
            rw [← hw6]
            clear hw6
            clear x7 x8 x9 x10
            have hF : ((FL : Nat) : Int) = 0 := by
              have h : FL = 0 + 2 * 0 + 4 * (0 - 1) + 32 * (0 - 1) := Hfd.out
              omega
            have iF := ints_alloc (w := w6) (n := 1) (k := .u8) (E := 5) (C := #[.int .u8 (0)]) [0] rfl rfl (by decide) fun z hz => wf_u8' (by rw [List.mem_singleton] at hz; subst hz; omega)
            rw [S6.out] at iF
            have bF := (Below.refl w6.heap.size w6).alloc (Nat.le_refl _) (.cells #[.int .u8 (0)] 5)
            generalize w6.alloc (.cells #[.int .u8 (0)] 5) = wF at *
            have tF := T.out.below bF
            have cF := Hc.out.trans (bF.mono Hc.out.size)
            have oF := O5.out.below cF
            have dF := Hb.out.trans (cF.mono Hb.out.size)
            clear T Hc O5 Hb bF cF
            refine wpList_append_ints _ rfl _ _ 39 rfl .u8 w1.heap.size 5 (.int .u8 0) 1 Tryz.underlying39 Tryz.infoU8 rfl _ _ rfl oF _ 1 _ _ rfl iF (by simp) (by decide) dF.size ?_
            intro vA wA oA gA _
            have dA := dF.grown gA dF.size (fun k hk => (oF.block k hk).1)
            have tA := tF.keep fun g hg hl => gA.block g hl fun e => by
              have h1 := Lt5.out g e.symm
              have h2 := (tF.block g hg).1
              omega
            clear gA tF oF dF iF
            have OA := Lib.hid oA; clear oA
            have TA := Lib.hid tA; clear tA
            have DA := Lib.hid dA; clear dA
            have HF := Lib.hid hF; clear hF
            go_wp2_with (with_reducible refine stop_builtin .append ?_)
            refine unpark ?_
            have iT : Ints wA .u8 (some ⟨w5.heap.size, 0, none⟩) 0 0 [] := Ints.empty _ _ _ _ (by decide)
            refine wpList_append_ints _ rfl _ _ 39 rfl .u8 w1.heap.size 5 (.int .u8 0) 1 Tryz.underlying39 Tryz.infoU8 rfl _ _ rfl OA.out _ 0 _ _ rfl iT (by simp) (by decide) DA.out.size ?_
            intro vB wB oB gB _
            have dB := DA.out.grown gB DA.out.size (fun k hk => (OA.out.block k hk).1)
            have hEE := HE.out
            rw [HF.out] at hEE
            have hEq : [(k - 1 + 8 * t) % 256, (k - 1 + 8 * t) / 256 % 256, (k - 1 + 8 * t) / 65536] ++ [k0, k1, k2, k3] ++ [0] ++ (([] : List Int)) = E := by rw [hEE]; simp
            rw [hEq] at oB
            clear OA TA DA iT gB hEE hEq
            have OB := Lib.hid oB; clear oB
            have DB := Lib.hid dB; clear dB
            go_wp2_with fail
            go_ret2
            exact ⟨_, rfl, OB.out.mono B1.out.size, B1.out.trans (DB.out.mono B1.out.size)⟩
          | true =>
            rw [show smallS false o = [] from rfl] at Hfd HE
            obtain ⟨S2, hS2⟩ : ∃ S, S = smallS true n := ⟨_, rfl⟩
            rw [← hS2] at Hs2 Hfd HE Hl2 Hp2
            have HS2 := Lib.hid hS2; clear hS2
            have e2 : (k == 2) = false := by simp; omega
            have e8 : (k == 8) = false := by simp; omega
            have e1 : (k != 1) = true := by simp; omega
            have e7 : (k != 7) = false := by simpa using hm
            have hE := HE.out
            rw [if_neg (by unfold maskedK; omega), if_pos (by unfold keyedK; omega)] at hE
            clear HE hm
            have HE := Lib.hid hE; clear hE
            have x3 := cells_at Z.out 3
            have x4 := cells_at Z.out 4
            have x5 := cells_at Z.out 5
            have x6 := cells_at Z.out 6
            rw [hw3] at x3 x4 x5 x6
            go_wp2_with (with_reducible refine stop_builtin .append ?_)
            refine unpark ?_
            rw [← hw3]
            clear hw3 x0 x2 y0 y1 y2 x3 x4 x5 x6
            have i4 := Hik.out w3
            rw [S3.out] at i4
            have b4 := (Below.refl w3.heap.size w3).alloc (Nat.le_refl _) (.cells #[.int .u8 k0, .int .u8 k1, .int .u8 k2, .int .u8 k3] 5)
            generalize w3.alloc (.cells #[.int .u8 k0, .int .u8 k1, .int .u8 k2, .int .u8 k3] 5) = w4 at *
            have o4 := O3.out.below b4
            have hb := Hb.out.trans (b4.mono Hb.out.size)
            clear Hb O3 b4
            have Hb := Lib.hid hb; clear hb
            refine wpList_append_ints _ rfl _ _ 39 rfl .u8 w1.heap.size 5 (.int .u8 0) 1 Tryz.underlying39 Tryz.infoU8 rfl _ _ rfl o4 _ 4 _ _ rfl i4 (by simp) (by decide) Hb.out.size ?_
            intro v5 w5 o5 g5 _
            have hb := Hb.out.grown g5 Hb.out.size (fun k hk => (o4.block k hk).1)
            clear Hb g5 i4 o4
            have z := (hb.block _ (Array.getElem?_eq_some_iff.1 Z1.out).1).trans Z1.out
            clear Z
            have Z := Lib.hid z; clear z
            have Hb := Lib.hid hb; clear hb
            have t6 := own_empty w5 w5.heap.size 5 .u8 (Nat.le_refl _)
            have c6 := (Below.refl w5.heap.size w5).alloc (Nat.le_refl _) (.cells #[] 5)
            obtain ⟨w6, hw6⟩ : ∃ w6, w6 = w5.alloc (.cells #[] 5) := ⟨_, rfl⟩
            rw [← hw6] at t6 c6
            have s6 : w6.heap.size = w5.heap.size + 1 := by rw [hw6, World.size_alloc]
            have lt5 : ∀ k, v5.ownBlock = some k → k < w5.heap.size := fun k hk => (o5.block k hk).2
            have S6 := Lib.hid s6; clear s6
            have Lt5 := Lib.hid lt5; clear lt5
            have O5 := Lib.hid o5; clear o5
            have T := Lib.hid t6; clear t6
            have hz := (c6.block _ (Array.getElem?_eq_some_iff.1 Z.out).1).trans Z.out
            have x7 := cells_at hz 7
            have x8 := cells_at hz 8
            have x9 := cells_at hz 9
            have x10 := cells_at hz 10
            rw [hw6] at x7 x8 x9 x10
            clear hz
            have Hc := Lib.hid c6; clear c6

            go_wp2_with fail
            rw [← hw6]
            clear hw6
            clear x7 x8 x9 x10
            refine (Hs2.out w6).mono ?_
            rintro e w7 ⟨v7, rfl, s7, b7⟩
            have t7 := T.out.below b7
            have c7 := Hc.out.trans (b7.mono Hc.out.size)
            clear T Hc b7
            obtain ⟨a7, q7, rfl, i7, -⟩ := s7.ints
            clear s7
            obtain ⟨LS2, hLS2⟩ : ∃ L, L = S2.length := ⟨_, rfl⟩
            rw [← hLS2] at Hl2 Hp2 Hfd i7 ⊢
            have hlS2 := Hl2.out
            have hpS2 := Hp2.out
            have HLS2 := Lib.hid hLS2; clear hLS2
            go_wp2_with (with_reducible refine stop_builtin .append ?_)
            refine unpark ?_
            refine wpList_append_ints _ rfl _ _ 39 rfl .u8 w5.heap.size 5 (.int .u8 0) 1 Tryz.underlying39 Tryz.infoU8 rfl _ _ rfl t7 _ LS2 _ _ rfl i7 (by rw [List.length_nil]; omega) (by decide) c7.size ?_
            intro v8 w8 t8 g8 _
            have c8 := c7.grown g8 c7.size (fun k hk => (t7.block k hk).1)
            clear t7 c7 i7 g8
            have hz := (c8.block _ (Array.getElem?_eq_some_iff.1 Z.out).1).trans Z.out
            have x9 := cells_at hz 9
            have x10 := cells_at hz 10
            clear hz
            have T := Lib.hid t8; clear t8
            have Hc := Lib.hid c8; clear c8

            go_wp2_with (with_reducible refine stop_builtin .append ?_)
            refine unpark ?_
            have hF : ((FL : Nat) : Int) = 2 + 32 * ((LS2 : Int) - 1) := by
              have h : FL = 0 + 2 * 1 + 4 * (0 - 1) + 32 * (LS2 - 1) := Hfd.out
              omega
            have iF := ints_alloc (w := w8) (n := 1) (k := .u8) (E := 5) (C := #[.int .u8 (2 + 32 * ((LS2 : Int) - 1))]) [2 + 32 * ((LS2 : Int) - 1)] rfl rfl (by decide) fun z hz => wf_u8' (by rw [List.mem_singleton] at hz; subst hz; omega)
            have bF := (Below.refl w8.heap.size w8).alloc (Nat.le_refl _) (.cells #[.int .u8 (2 + 32 * ((LS2 : Int) - 1))] 5)
            generalize w8.alloc (.cells #[.int .u8 (2 + 32 * ((LS2 : Int) - 1))] 5) = wF at *
            have tF := T.out.below bF
            have cF := Hc.out.trans (bF.mono Hc.out.size)
            have oF := O5.out.below cF
            have dF := Hb.out.trans (cF.mono Hb.out.size)
            clear T Hc O5 Hb bF cF
            refine wpList_append_ints _ rfl _ _ 39 rfl .u8 w1.heap.size 5 (.int .u8 0) 1 Tryz.underlying39 Tryz.infoU8 rfl _ _ rfl oF _ 1 _ _ rfl iF (by simp) (by decide) dF.size ?_
            intro vA wA oA gA _
            have dA := dF.grown gA dF.size (fun k hk => (oF.block k hk).1)
            have tA := tF.keep fun g hg hl => gA.block g hl fun e => by
              have h1 := Lt5.out g e.symm
              have h2 := (tF.block g hg).1
              omega
            clear gA tF oF dF iF
            have OA := Lib.hid oA; clear oA
            have TA := Lib.hid tA; clear tA
            have DA := Lib.hid dA; clear dA
            have HF := Lib.hid hF; clear hF
            go_wp2_with (with_reducible refine stop_builtin .append ?_)
            refine unpark ?_
            obtain ⟨aT, cT, rfl, iT, -⟩ := TA.out.ints
            refine wpList_append_ints _ rfl _ _ 39 rfl .u8 w1.heap.size 5 (.int .u8 0) 1 Tryz.underlying39 Tryz.infoU8 rfl _ _ rfl OA.out _ ([] ++ S2).length _ _ rfl iT (by simp only [List.length_append, List.length_cons, List.length_nil]; have : ([] ++ S2).length ≤ 100 := (by rw [List.nil_append, ← HLS2.out]; omega); simp only [List.length_append, List.length_nil] at this; omega) (by decide) DA.out.size ?_
            intro vB wB oB gB _
            have dB := DA.out.grown gB DA.out.size (fun k hk => (OA.out.block k hk).1)
            have hEE := HE.out
            rw [HF.out] at hEE
            have hEq : [(k - 1 + 8 * t) % 256, (k - 1 + 8 * t) / 256 % 256, (k - 1 + 8 * t) / 65536] ++ [k0, k1, k2, k3] ++ [2 + 32 * ((LS2 : Int) - 1)] ++ ([] ++ S2) = E := by rw [hEE]; simp
            rw [hEq] at oB
            clear OA TA DA iT gB hEE hEq
            have OB := Lib.hid oB; clear oB
            have DB := Lib.hid dB; clear dB
            go_wp2_with fail
            go_ret2
            exact ⟨_, rfl, OB.out.mono B1.out.size, B1.out.trans (DB.out.mono B1.out.size)⟩
        | true =>
          obtain ⟨S1, hS1⟩ : ∃ S, S = smallS true o := ⟨_, rfl⟩
          rw [← hS1] at Hs1 Hfd HE Hl1 Hp1
          have HS1 := Lib.hid hS1; clear hS1
          cases nt with
          | false =>
            rw [show smallS false n = [] from rfl] at Hfd HE
            have e2 : (k == 2) = false := by simp; omega
            have e8 : (k == 8) = false := by simp; omega
            have e1 : (k != 1) = true := by simp; omega
            have e7 : (k != 7) = false := by simpa using hm
            have hE := HE.out
            rw [if_neg (by unfold maskedK; omega), if_pos (by unfold keyedK; omega)] at hE
            clear HE hm
            have HE := Lib.hid hE; clear hE
            have x3 := cells_at Z.out 3
            have x4 := cells_at Z.out 4
            have x5 := cells_at Z.out 5
            have x6 := cells_at Z.out 6
            rw [hw3] at x3 x4 x5 x6
            go_wp2_with (with_reducible refine stop_builtin .append ?_)
            refine unpark ?_
            rw [← hw3]
            clear hw3 x0 x2 y0 y1 y2 x3 x4 x5 x6
            have i4 := Hik.out w3
            rw [S3.out] at i4
            have b4 := (Below.refl w3.heap.size w3).alloc (Nat.le_refl _) (.cells #[.int .u8 k0, .int .u8 k1, .int .u8 k2, .int .u8 k3] 5)
            generalize w3.alloc (.cells #[.int .u8 k0, .int .u8 k1, .int .u8 k2, .int .u8 k3] 5) = w4 at *
            have o4 := O3.out.below b4
            have hb := Hb.out.trans (b4.mono Hb.out.size)
            clear Hb O3 b4
            have Hb := Lib.hid hb; clear hb
            refine wpList_append_ints _ rfl _ _ 39 rfl .u8 w1.heap.size 5 (.int .u8 0) 1 Tryz.underlying39 Tryz.infoU8 rfl _ _ rfl o4 _ 4 _ _ rfl i4 (by simp) (by decide) Hb.out.size ?_
            intro v5 w5 o5 g5 _
            have hb := Hb.out.grown g5 Hb.out.size (fun k hk => (o4.block k hk).1)
            clear Hb g5 i4 o4
            have z := (hb.block _ (Array.getElem?_eq_some_iff.1 Z1.out).1).trans Z1.out
            clear Z
            have Z := Lib.hid z; clear z
            have Hb := Lib.hid hb; clear hb
            have t6 := own_empty w5 w5.heap.size 5 .u8 (Nat.le_refl _)
            have c6 := (Below.refl w5.heap.size w5).alloc (Nat.le_refl _) (.cells #[] 5)
            obtain ⟨w6, hw6⟩ : ∃ w6, w6 = w5.alloc (.cells #[] 5) := ⟨_, rfl⟩
            rw [← hw6] at t6 c6
            have s6 : w6.heap.size = w5.heap.size + 1 := by rw [hw6, World.size_alloc]
            have lt5 : ∀ k, v5.ownBlock = some k → k < w5.heap.size := fun k hk => (o5.block k hk).2
            have S6 := Lib.hid s6; clear s6
            have Lt5 := Lib.hid lt5; clear lt5
            have O5 := Lib.hid o5; clear o5
            have T := Lib.hid t6; clear t6
            have hz := (c6.block _ (Array.getElem?_eq_some_iff.1 Z.out).1).trans Z.out
            have x7 := cells_at hz 7
            have x8 := cells_at hz 8
            have x9 := cells_at hz 9
            have x10 := cells_at hz 10
            rw [hw6] at x7 x8 x9 x10
            clear hz
            have Hc := Lib.hid c6; clear c6

            go_wp2_with fail
            rw [← hw6]
            clear hw6
            clear x7 x8 x9 x10
            refine (Hs1.out w6).mono ?_
            rintro e w7 ⟨v7, rfl, s7, b7⟩
            have t7 := T.out.below b7
            have c7 := Hc.out.trans (b7.mono Hc.out.size)
            clear T Hc b7
            obtain ⟨a7, q7, rfl, i7, -⟩ := s7.ints
            clear s7
            obtain ⟨LS1, hLS1⟩ : ∃ L, L = S1.length := ⟨_, rfl⟩
            rw [← hLS1] at Hl1 Hp1 Hfd i7 ⊢
            have hlS1 := Hl1.out
            have hpS1 := Hp1.out
            have HLS1 := Lib.hid hLS1; clear hLS1
            go_wp2_with (with_reducible refine stop_builtin .append ?_)
            refine unpark ?_
            refine wpList_append_ints _ rfl _ _ 39 rfl .u8 w5.heap.size 5 (.int .u8 0) 1 Tryz.underlying39 Tryz.infoU8 rfl _ _ rfl t7 _ LS1 _ _ rfl i7 (by rw [List.length_nil]; omega) (by decide) c7.size ?_
            intro v8 w8 t8 g8 _
            have c8 := c7.grown g8 c7.size (fun k hk => (t7.block k hk).1)
            clear t7 c7 i7 g8
            have hz := (c8.block _ (Array.getElem?_eq_some_iff.1 Z.out).1).trans Z.out
            have x9 := cells_at hz 9
            have x10 := cells_at hz 10
            clear hz
            have T := Lib.hid t8; clear t8
            have Hc := Lib.hid c8; clear c8

            go_wp2_with (with_reducible refine stop_builtin .append ?_)
            refine unpark ?_
            clear x9 x10
            have hF : ((FL : Nat) : Int) = 1 + 4 * ((LS1 : Int) - 1) := by
              have h : FL = 1 + 2 * 0 + 4 * (LS1 - 1) + 32 * (0 - 1) := Hfd.out
              omega
            have iF := ints_alloc (w := w8) (n := 1) (k := .u8) (E := 5) (C := #[.int .u8 (1 + 4 * ((LS1 : Int) - 1))]) [1 + 4 * ((LS1 : Int) - 1)] rfl rfl (by decide) fun z hz => wf_u8' (by rw [List.mem_singleton] at hz; subst hz; omega)
            have bF := (Below.refl w8.heap.size w8).alloc (Nat.le_refl _) (.cells #[.int .u8 (1 + 4 * ((LS1 : Int) - 1))] 5)
            generalize w8.alloc (.cells #[.int .u8 (1 + 4 * ((LS1 : Int) - 1))] 5) = wF at *
            have tF := T.out.below bF
            have cF := Hc.out.trans (bF.mono Hc.out.size)
            have oF := O5.out.below cF
            have dF := Hb.out.trans (cF.mono Hb.out.size)
            clear T Hc O5 Hb bF cF
            refine wpList_append_ints _ rfl _ _ 39 rfl .u8 w1.heap.size 5 (.int .u8 0) 1 Tryz.underlying39 Tryz.infoU8 rfl _ _ rfl oF _ 1 _ _ rfl iF (by simp) (by decide) dF.size ?_
            intro vA wA oA gA _
            have dA := dF.grown gA dF.size (fun k hk => (oF.block k hk).1)
            have tA := tF.keep fun g hg hl => gA.block g hl fun e => by
              have h1 := Lt5.out g e.symm
              have h2 := (tF.block g hg).1
              omega
            clear gA tF oF dF iF
            have OA := Lib.hid oA; clear oA
            have TA := Lib.hid tA; clear tA
            have DA := Lib.hid dA; clear dA
            have HF := Lib.hid hF; clear hF
            go_wp2_with (with_reducible refine stop_builtin .append ?_)
            refine unpark ?_
            obtain ⟨aT, cT, rfl, iT, -⟩ := TA.out.ints
            refine wpList_append_ints _ rfl _ _ 39 rfl .u8 w1.heap.size 5 (.int .u8 0) 1 Tryz.underlying39 Tryz.infoU8 rfl _ _ rfl OA.out _ ([] ++ S1).length _ _ rfl iT (by simp only [List.length_append, List.length_cons, List.length_nil]; have : ([] ++ S1).length ≤ 100 := (by rw [List.nil_append, ← HLS1.out]; omega); simp only [List.length_append, List.length_nil] at this; omega) (by decide) DA.out.size ?_
            intro vB wB oB gB _
            have dB := DA.out.grown gB DA.out.size (fun k hk => (OA.out.block k hk).1)
            have hEE := HE.out
            rw [HF.out] at hEE
            have hEq : [(k - 1 + 8 * t) % 256, (k - 1 + 8 * t) / 256 % 256, (k - 1 + 8 * t) / 65536] ++ [k0, k1, k2, k3] ++ [1 + 4 * ((LS1 : Int) - 1)] ++ ([] ++ S1) = E := by rw [hEE]; simp
            rw [hEq] at oB
            clear OA TA DA iT gB hEE hEq
            have OB := Lib.hid oB; clear oB
            have DB := Lib.hid dB; clear dB
            go_wp2_with fail
            go_ret2
            exact ⟨_, rfl, OB.out.mono B1.out.size, B1.out.trans (DB.out.mono B1.out.size)⟩
          | true =>
            obtain ⟨S2, hS2⟩ : ∃ S, S = smallS true n := ⟨_, rfl⟩
            rw [← hS2] at Hs2 Hfd HE Hl2 Hp2
            have HS2 := Lib.hid hS2; clear hS2
            have e2 : (k == 2) = false := by simp; omega
            have e8 : (k == 8) = false := by simp; omega
            have e1 : (k != 1) = true := by simp; omega
            have e7 : (k != 7) = false := by simpa using hm
            have hE := HE.out
            rw [if_neg (by unfold maskedK; omega), if_pos (by unfold keyedK; omega)] at hE
            clear HE hm
            have HE := Lib.hid hE; clear hE
            have x3 := cells_at Z.out 3
            have x4 := cells_at Z.out 4
            have x5 := cells_at Z.out 5
            have x6 := cells_at Z.out 6
            rw [hw3] at x3 x4 x5 x6
            go_wp2_with (with_reducible refine stop_builtin .append ?_)
            refine unpark ?_
            rw [← hw3]
            clear hw3 x0 x2 y0 y1 y2 x3 x4 x5 x6
            have i4 := Hik.out w3
            rw [S3.out] at i4
            have b4 := (Below.refl w3.heap.size w3).alloc (Nat.le_refl _) (.cells #[.int .u8 k0, .int .u8 k1, .int .u8 k2, .int .u8 k3] 5)
            generalize w3.alloc (.cells #[.int .u8 k0, .int .u8 k1, .int .u8 k2, .int .u8 k3] 5) = w4 at *
            have o4 := O3.out.below b4
            have hb := Hb.out.trans (b4.mono Hb.out.size)
            clear Hb O3 b4
            have Hb := Lib.hid hb; clear hb
            refine wpList_append_ints _ rfl _ _ 39 rfl .u8 w1.heap.size 5 (.int .u8 0) 1 Tryz.underlying39 Tryz.infoU8 rfl _ _ rfl o4 _ 4 _ _ rfl i4 (by simp) (by decide) Hb.out.size ?_
            intro v5 w5 o5 g5 _
            have hb := Hb.out.grown g5 Hb.out.size (fun k hk => (o4.block k hk).1)
            clear Hb g5 i4 o4
            have z := (hb.block _ (Array.getElem?_eq_some_iff.1 Z1.out).1).trans Z1.out
            clear Z
            have Z := Lib.hid z; clear z
            have Hb := Lib.hid hb; clear hb
            have t6 := own_empty w5 w5.heap.size 5 .u8 (Nat.le_refl _)
            have c6 := (Below.refl w5.heap.size w5).alloc (Nat.le_refl _) (.cells #[] 5)
            obtain ⟨w6, hw6⟩ : ∃ w6, w6 = w5.alloc (.cells #[] 5) := ⟨_, rfl⟩
            rw [← hw6] at t6 c6
            have s6 : w6.heap.size = w5.heap.size + 1 := by rw [hw6, World.size_alloc]
            have lt5 : ∀ k, v5.ownBlock = some k → k < w5.heap.size := fun k hk => (o5.block k hk).2
            have S6 := Lib.hid s6; clear s6
            have Lt5 := Lib.hid lt5; clear lt5
            have O5 := Lib.hid o5; clear o5
            have T := Lib.hid t6; clear t6
            have hz := (c6.block _ (Array.getElem?_eq_some_iff.1 Z.out).1).trans Z.out
            have x7 := cells_at hz 7
            have x8 := cells_at hz 8
            have x9 := cells_at hz 9
            have x10 := cells_at hz 10
            rw [hw6] at x7 x8 x9 x10
            clear hz
            have Hc := Lib.hid c6; clear c6

            go_wp2_with fail
            rw [← hw6]
            clear hw6
            clear x7 x8 x9 x10
            refine (Hs1.out w6).mono ?_
            rintro e w7 ⟨v7, rfl, s7, b7⟩
            have t7 := T.out.below b7
            have c7 := Hc.out.trans (b7.mono Hc.out.size)
            clear T Hc b7
            obtain ⟨a7, q7, rfl, i7, -⟩ := s7.ints
            clear s7
            obtain ⟨LS1, hLS1⟩ : ∃ L, L = S1.length := ⟨_, rfl⟩
            rw [← hLS1] at Hl1 Hp1 Hfd i7 ⊢
            have hlS1 := Hl1.out
            have hpS1 := Hp1.out
            have HLS1 := Lib.hid hLS1; clear hLS1
            go_wp2_with (with_reducible refine stop_builtin .append ?_)
            refine unpark ?_
            refine wpList_append_ints _ rfl _ _ 39 rfl .u8 w5.heap.size 5 (.int .u8 0) 1 Tryz.underlying39 Tryz.infoU8 rfl _ _ rfl t7 _ LS1 _ _ rfl i7 (by rw [List.length_nil]; omega) (by decide) c7.size ?_
            intro v8 w8 t8 g8 _
            have c8 := c7.grown g8 c7.size (fun k hk => (t7.block k hk).1)
            clear t7 c7 i7 g8
            have hz := (c8.block _ (Array.getElem?_eq_some_iff.1 Z.out).1).trans Z.out
            have x9 := cells_at hz 9
            have x10 := cells_at hz 10
            clear hz
            have T := Lib.hid t8; clear t8
            have Hc := Lib.hid c8; clear c8

            go_wp2_with fail
            clear x9 x10
            refine (Hs2.out w8).mono ?_
            rintro e w9 ⟨v9, rfl, s9, b9⟩
            have t9 := T.out.below b9
            have c9 := Hc.out.trans (b9.mono Hc.out.size)
            clear T Hc b9
            obtain ⟨a9, q9, rfl, i9, -⟩ := s9.ints
            clear s9
            obtain ⟨LS2, hLS2⟩ : ∃ L, L = S2.length := ⟨_, rfl⟩
            rw [← hLS2] at Hl2 Hp2 Hfd i9 ⊢
            have hlS2 := Hl2.out
            have hpS2 := Hp2.out
            have HLS2 := Lib.hid hLS2; clear hLS2
            go_wp2_with (with_reducible refine stop_builtin .append ?_)
            refine unpark ?_
            refine wpList_append_ints _ rfl _ _ 39 rfl .u8 w5.heap.size 5 (.int .u8 0) 1 Tryz.underlying39 Tryz.infoU8 rfl _ _ rfl t9 _ LS2 _ _ rfl i9 (by rw [List.nil_append, ← HLS1.out]; omega) (by decide) c9.size ?_
            intro v10 w10 t10 g10 _
            have c10 := c9.grown g10 c9.size (fun k hk => (t9.block k hk).1)
            clear t9 c9 i9 g10
            have hz := (c10.block _ (Array.getElem?_eq_some_iff.1 Z.out).1).trans Z.out
            clear hz
            have T := Lib.hid t10; clear t10
            have Hc := Lib.hid c10; clear c10

            go_wp2_with (with_reducible refine stop_builtin .append ?_)
            refine unpark ?_
            have hF : ((FL : Nat) : Int) = 1 + 4 * ((LS1 : Int) - 1) + (2 + 32 * ((LS2 : Int) - 1)) := by
              have h : FL = 1 + 2 * 1 + 4 * (LS1 - 1) + 32 * (LS2 - 1) := Hfd.out
              omega
            have iF := ints_alloc (w := w10) (n := 1) (k := .u8) (E := 5) (C := #[.int .u8 (1 + 4 * ((LS1 : Int) - 1) + (2 + 32 * ((LS2 : Int) - 1)))]) [1 + 4 * ((LS1 : Int) - 1) + (2 + 32 * ((LS2 : Int) - 1))] rfl rfl (by decide) fun z hz => wf_u8' (by rw [List.mem_singleton] at hz; subst hz; omega)
            have bF := (Below.refl w10.heap.size w10).alloc (Nat.le_refl _) (.cells #[.int .u8 (1 + 4 * ((LS1 : Int) - 1) + (2 + 32 * ((LS2 : Int) - 1)))] 5)
            generalize w10.alloc (.cells #[.int .u8 (1 + 4 * ((LS1 : Int) - 1) + (2 + 32 * ((LS2 : Int) - 1)))] 5) = wF at *
            have tF := T.out.below bF
            have cF := Hc.out.trans (bF.mono Hc.out.size)
            have oF := O5.out.below cF
            have dF := Hb.out.trans (cF.mono Hb.out.size)
            clear T Hc O5 Hb bF cF
            refine wpList_append_ints _ rfl _ _ 39 rfl .u8 w1.heap.size 5 (.int .u8 0) 1 Tryz.underlying39 Tryz.infoU8 rfl _ _ rfl oF _ 1 _ _ rfl iF (by simp) (by decide) dF.size ?_
            intro vA wA oA gA _
            have dA := dF.grown gA dF.size (fun k hk => (oF.block k hk).1)
            have tA := tF.keep fun g hg hl => gA.block g hl fun e => by
              have h1 := Lt5.out g e.symm
              have h2 := (tF.block g hg).1
              omega
            clear gA tF oF dF iF
            have OA := Lib.hid oA; clear oA
            have TA := Lib.hid tA; clear tA
            have DA := Lib.hid dA; clear dA
            have HF := Lib.hid hF; clear hF
            go_wp2_with (with_reducible refine stop_builtin .append ?_)
            refine unpark ?_
            obtain ⟨aT, cT, rfl, iT, -⟩ := TA.out.ints
            refine wpList_append_ints _ rfl _ _ 39 rfl .u8 w1.heap.size 5 (.int .u8 0) 1 Tryz.underlying39 Tryz.infoU8 rfl _ _ rfl OA.out _ ([] ++ S1 ++ S2).length _ _ rfl iT (by simp only [List.length_append, List.length_cons, List.length_nil]; have : ([] ++ S1 ++ S2).length ≤ 100 := (by rw [List.nil_append, List.length_append, ← HLS1.out, ← HLS2.out]; omega); simp only [List.length_append, List.length_nil] at this; omega) (by decide) DA.out.size ?_
            intro vB wB oB gB _
            have dB := DA.out.grown gB DA.out.size (fun k hk => (OA.out.block k hk).1)
            have hEE := HE.out
            rw [HF.out] at hEE
            have hEq : [(k - 1 + 8 * t) % 256, (k - 1 + 8 * t) / 256 % 256, (k - 1 + 8 * t) / 65536] ++ [k0, k1, k2, k3] ++ [1 + 4 * ((LS1 : Int) - 1) + (2 + 32 * ((LS2 : Int) - 1))] ++ ([] ++ S1 ++ S2) = E := by rw [hEE]; simp
            rw [hEq] at oB
            clear OA TA DA iT gB hEE hEq
            have OB := Lib.hid oB; clear oB
            have DB := Lib.hid dB; clear dB
            go_wp2_with fail
            go_ret2
            exact ⟨_, rfl, OB.out.mono B1.out.size, B1.out.trans (DB.out.mono B1.out.size)⟩
    · have e2 : (k == 2) = false := by simp; omega
      have e8 : (k == 8) = false := by simp; omega
      have e1 : (k != 1) = true := by simp; omega
      have e7 : (k != 7) = true := by simp; omega
      have hE := HE.out
      rw [if_neg (by unfold maskedK; omega), if_neg (by unfold keyedK; omega), List.append_nil] at hE
      clear HE hp
      have HE := Lib.hid hE; clear hE
      rw [← HE.out] at O3
      rw [hw3] at O3 Hb
      clear hw3 Z
      go_wp2_with fail
      go_ret2
      exact ⟨_, rfl, O3.out.mono B1.out.size, B1.out.trans (Hb.out.mono B1.out.size)⟩

end Go.Proofs.YtgpedejeifmfdaaGreat
/- The document's Decode. -/
namespace Go.Proofs.YtgpedejeifmfdaaGreat
open Go.RowKit

theorem threeR {b : List Int} (h : 3 ≤ b.length) : ∃ z0 z1 z2 r, b = z0 :: z1 :: z2 :: r := by
  match b, h with
  | z0 :: z1 :: z2 :: r, _ => exact ⟨z0, z1, z2, r, rfl⟩
theorem from3 {z0 z1 z2 : Int} {r : List Int} (h0 : 0 ≤ z0 ∧ z0 ≤ 255) (h1 : 0 ≤ z1 ∧ z1 ≤ 255) (h2 : 0 ≤ z2 ∧ z2 ≤ 255) : ((fromZ ((z0 :: z1 :: z2 :: r).take 3) : Nat) : Int) = z0 + 256 * z1 + 65536 * z2 := by
  show ((z0.toNat + 256 * (z1.toNat + 256 * (z2.toNat + 256 * 0)) : Nat) : Int) = _
  omega
/-- The world within Decode: the result's block holds noughts, the record's block a record. -/
structure DSt (w wx : World) (b g : Nat) (r : Rc) : Prop where
  z : wx.heap[b]? = some (.cells #[.int .i64 0, .int .i64 0, .int .u16 0, .int .u8 0, .int .u8 0, .int .u8 0, .int .u8 0, .bool false, .int .i64 0, .bool false, .int .i64 0] 63 (0, 0))
  r : wx.heap[g]? = some (.cells r.cells.toArray 63 (0, 0))
  bel : Below w.heap.size w wx
theorem DSt.lt {w wx : World} {b g : Nat} {r : Rc} (h : DSt w wx b g r) : b < wx.heap.size ∧ g < wx.heap.size := ⟨(Array.getElem?_eq_some_iff.1 h.z).1, (Array.getElem?_eq_some_iff.1 h.r).1⟩
theorem DSt.step {w wx wy : World} {b g : Nat} {r : Rc} (h : DSt w wx b g r) (hb : Below wx.heap.size wx wy) : DSt w wy b g r :=
  ⟨(hb.block b h.lt.1).trans h.z, (hb.block g h.lt.2).trans h.r, h.bel.trans (hb.mono h.bel.size)⟩
theorem DSt.row {w wx wy : World} {b g off : Nat} {r r' : Rc} {xs : List Value} (h : DSt w wx b g r) (hg : w.heap.size ≤ g) (hn : b ≠ g) (h1 : wy.heap[g]? = some (.cells (splice r.cells.toArray.toList off xs).toArray 63 (0, 0))) (h2 : wx.grownBy wy (some g)) (hr : (splice r.cells off xs).toArray = r'.cells.toArray) : DSt w wy b g r' :=
  ⟨(h2.block b h.lt.1 (by simpa using hn)).trans h.z, by rw [h1, ← hr], h.bel.grown h2 h.bel.size (fun k hk => by cases hk; exact hg)⟩
theorem Tryz.sizeRec : (Tryz.prog.info? 63).map (·.size) = some 11 := by kernel_rfl
theorem Tryz.sizeU16 : (Tryz.prog.info? 57).map (·.size) = some 1 := by kernel_rfl
theorem Tryz.sizeKey : (Tryz.prog.info? 59).map (·.size) = some 4 := by kernel_rfl
theorem Tryz.sizeVal : (Tryz.prog.info? 61).map (·.size) = some 2 := by kernel_rfl
theorem parse_ok {zs : List Int} (hz : ∀ z ∈ zs, 0 ≤ z ∧ z ≤ 255) {r : Rc} {n : Nat} (h : parse zs = some (r, n)) : r.ok := by
  rcases rec_parse hz with ⟨-, h'⟩ | ⟨-, -, h'⟩
  · rw [h] at h'; cases h'
  · rw [h] at h'
    cases h'
    exact rec_ok (s := ⟨zs, false⟩) hz
theorem from2 {zs : List Int} (h5 : 5 ≤ zs.length) (hz : ∀ z ∈ zs, 0 ≤ z ∧ z ≤ 255) : ((fromZ ((zs.drop 3).take 2) : Nat) : Int) = zs.getD 3 0 + 256 * zs.getD 4 0 ∧ (0 ≤ zs.getD 3 0 ∧ zs.getD 3 0 ≤ 255) ∧ (0 ≤ zs.getD 4 0 ∧ zs.getD 4 0 ≤ 255) := by
  match zs, h5 with
  | a :: b :: c :: d :: e :: t, _ =>
    have hd := hz d (by simp)
    have he := hz e (by simp)
    refine ⟨?_, hd, he⟩
    show ((d.toNat + 256 * (e.toNat + 256 * 0) : Nat) : Int) = d + 256 * e
    omega
set_option maxRecDepth 100000 in
set_option maxHeartbeats 8000000 in
theorem RDecode_calls {w : World} {a : Option Addr} {L c : Nat} {zs : List Int} (hx : Ints w .u8 a L c zs) : Calls Tryz.prog 58 #[.slice a L c] w fun e w' => e = .returned (.tuple #[.agg (dec zs).1.cells.toArray, .int .i64 ((dec zs).2 : Nat)]) ∧ Below w.heap.size w w' := by
  have hfit : ∀ z ∈ zs, 0 ≤ z ∧ z ≤ 255 := fun z hz => wf_u8 (hx.fit z hz)
  have hl := hx.len
  have hmx := hx.max
  have hle := hx.le
  have hdec : dec zs = match parse zs with | some (r, n) => if rightRc r = true ∧ enc r = zs.take n then (r, n) else (noRc, 0) | none => (noRc, 0) := rfl
  obtain ⟨D, hD⟩ : ∃ D, D = dec zs := ⟨_, rfl⟩
  rw [← hD] at hdec ⊢
  clear hD
  have HD := Lib.hid hdec; clear hdec
  have hb := (Below.refl w.heap.size w).alloc (Nat.le_refl _) (.cells #[.int .i64 0, .int .i64 0, .int .u16 0, .int .u8 0, .int .u8 0, .int .u8 0, .int .u8 0, .bool false, .int .i64 0, .bool false, .int .i64 0] 63)
  have z := heap_alloc_new w (.cells #[.int .i64 0, .int .i64 0, .int .u16 0, .int .u8 0, .int .u8 0, .int .u8 0, .int .u8 0, .bool false, .int .i64 0, .bool false, .int .i64 0] 63)
  obtain ⟨w1, hw1⟩ : ∃ w1, w1 = w.alloc (.cells #[.int .i64 0, .int .i64 0, .int .u16 0, .int .u8 0, .int .u8 0, .int .u8 0, .int .u8 0, .bool false, .int .i64 0, .bool false, .int .i64 0] 63) := ⟨_, rfl⟩
  have s1 : w1.heap.size = w.heap.size + 1 := by rw [hw1, World.size_alloc]
  rw [← hw1] at hb z
  have Hb := Lib.hid hb; clear hb
  have Z := Lib.hid z; clear z
  have S1 := Lib.hid s1; clear s1
  have Hx := Lib.hid hx; clear hx
  by_cases h3 : L < 3
  case pos =>
    have hp : parse zs = none := by unfold parse; rw [if_pos (by omega)]
    have hD := HD.out
    rw [hp] at hD
    clear HD
    have HD := Lib.hid hD; clear hD hp
    have d3 : decide ((L : Int) < 3) = true := decide_eq_true (by omega)
    clear h3
    rw [hw1] at Z Hb
    clear hw1
    go_enter Tryz.func58, Tryz.ntmps58
    go_wp2
    refine bodyPost_ret (results_row2 Tryz.results58 _ _ w.heap.size 63 _ _ _ rfl Z.out Tryz.underlying63 rfl (by kernel_rfl)) rfl ?_
    exact ⟨by rw [HD.out]; rfl, Hb.out⟩
  case neg =>
    have d3 : decide ((L : Int) < 3) = false := decide_eq_false (by omega)
    obtain ⟨z0, z1, z2, zr, hzs⟩ := threeR (b := zs) (by omega)
    have hz0 := hfit z0 (by rw [hzs]; simp)
    have hz1 := hfit z1 (by rw [hzs]; simp)
    have hz2 := hfit z2 (by rw [hzs]; simp)
    have hU := from3 (r := zr) hz0 hz1 hz2
    rw [← hzs] at hU
    obtain ⟨gb, go_, rfl, hcx⟩ := Hx.out.cell (by omega)
    have hcx1 := fun i hi => (Hb.out.cell (p := ⟨gb, go_ + i, none⟩) (World.block_lt_of_cell? w _ (hcx i hi))).trans (hcx i hi)
    have x0 := cell_regrown (hcx1 0 (by omega))
    have x1 := cell_regrown (hcx1 1 (by omega))
    have x2 := cell_regrown (hcx1 2 (by omega))
    rw [hzs] at x0 x1 x2
    simp only [List.getD_cons_zero, List.getD_cons_succ, Nat.add_zero] at x0 x1 x2
    obtain ⟨U, hUd⟩ : ∃ U, U = fromZ (zs.take 3) := ⟨_, rfl⟩
    rw [← hUd] at hU
    have hsum1 : IntKind.i64.wrap (256 * z1) = 256 * z1 := IntWalk.i64_in _ (by omega)
    have hsum2 : IntKind.i64.wrap (65536 * z2) = 65536 * z2 := IntWalk.i64_in _ (by omega)
    have hsum3 : IntKind.i64.wrap (z0 + 256 * z1) = z0 + 256 * z1 := IntWalk.i64_in _ (by omega)
    have hsum4 : IntKind.i64.wrap (z0 + 256 * z1 + 65536 * z2) = (U : Int) := by rw [hU]; exact IntWalk.i64_in _ (by omega)
    have hUl : U < 16777216 := by omega
    have j0 : 0 < L := by omega
    have j1 : (1 : Int) < (L : Int) := by omega
    have j2 : (2 : Int) < (L : Int) := by omega
    have j3 : 1 < L := by omega
    have j4 : 2 < L := by omega
    have j5 : (0 : Int) < (L : Int) := by omega
    have HU := Lib.hid hUd; clear hUd hU
    have Hfit := Lib.hid hfit; clear hfit
    have Hzs := Lib.hid hzs; clear hzs
    have Hcx := Lib.hid hcx; clear hcx hcx1
    clear h3
    go_enter Tryz.func58, Tryz.ntmps58
    go_wp2_with fail
    rw [← hw1]
    clear hw1
    refine wp_region_quiet_below (by kernel_rfl) (by kernel_rfl) ?_
    repeat (go_big_quiet_step (fail))
    refine wpQuiet_nil ?_
    intro wq hwq
    have bk : Below w1.heap.size w1 wq := by obtain ⟨q, rfl⟩ := hwq; exact below_regrown _ _ _
    clear hwq x0 x1 x2
    have hb := Hb.out.trans (bk.mono Hb.out.size)
    have z := (bk.block _ (Array.getElem?_eq_some_iff.1 Z.out).1).trans Z.out
    have hgt := bk.size
    rw [S1.out] at hgt
    clear Hb Z bk S1
    have b2 := (Below.refl wq.heap.size wq).alloc (Nat.le_refl _) (.cells #[.int .i64 ((U : Int) % 8 + 1), .int .i64 ((U : Int) / 8), .int .u16 0, .int .u8 0, .int .u8 0, .int .u8 0, .int .u8 0, .bool false, .int .i64 0, .bool false, .int .i64 0] 63)
    have r2 := heap_alloc_new wq (.cells #[.int .i64 ((U : Int) % 8 + 1), .int .i64 ((U : Int) / 8), .int .u16 0, .int .u8 0, .int .u8 0, .int .u8 0, .int .u8 0, .bool false, .int .i64 0, .bool false, .int .i64 0] 63)
    obtain ⟨w2, hw2⟩ : ∃ w2, w2 = wq.alloc (.cells #[.int .i64 ((U : Int) % 8 + 1), .int .i64 ((U : Int) / 8), .int .u16 0, .int .u8 0, .int .u8 0, .int .u8 0, .int .u8 0, .bool false, .int .i64 0, .bool false, .int .i64 0] 63) := ⟨_, rfl⟩
    rw [← hw2] at b2 r2
    have hb2 := hb.trans (b2.mono hb.size)
    have z2 := (b2.block _ (Array.getElem?_eq_some_iff.1 z).1).trans z
    clear hb z b2
    obtain ⟨K, hK⟩ : ∃ K : Int, K = (U : Int) % 8 + 1 := ⟨_, rfl⟩
    obtain ⟨T, hT⟩ : ∃ T : Int, T = (U : Int) / 8 := ⟨_, rfl⟩
    have hst : DSt w w2 w.heap.size wq.heap.size ⟨K, T, 0, 0, 0, 0, 0, false, 0, false, 0⟩ := ⟨z2, by rw [hK, hT]; exact r2, hb2⟩
    clear z2 r2 hb2
    have hpar : parse zs = if maskedK K then (if zs.length < 5 then none else some (⟨K, T, (fromZ ((zs.drop 3).take 2) : Nat), 0, 0, 0, 0, false, 0, false, 0⟩, 5))
      else if keyedK K then
        if zs.length < 8 then none else
        if zs.length < 8 + (if (zs.getD 7 0).toNat % 2 = 1 then (zs.getD 7 0).toNat / 4 % 8 + 1 else 0) + (if (zs.getD 7 0).toNat / 2 % 2 = 1 then (zs.getD 7 0).toNat / 32 + 1 else 0) then none else
        some (⟨K, T, 0, zs.getD 3 0, zs.getD 4 0, zs.getD 5 0, zs.getD 6 0, decide ((zs.getD 7 0).toNat % 2 = 1), rvalAt (zs.drop 8) (if (zs.getD 7 0).toNat % 2 = 1 then (zs.getD 7 0).toNat / 4 % 8 + 1 else 0), decide ((zs.getD 7 0).toNat / 2 % 2 = 1), rvalAt (zs.drop (8 + (if (zs.getD 7 0).toNat % 2 = 1 then (zs.getD 7 0).toNat / 4 % 8 + 1 else 0))) (if (zs.getD 7 0).toNat / 2 % 2 = 1 then (zs.getD 7 0).toNat / 32 + 1 else 0)⟩,
          8 + (if (zs.getD 7 0).toNat % 2 = 1 then (zs.getD 7 0).toNat / 4 % 8 + 1 else 0) + (if (zs.getD 7 0).toNat / 2 % 2 = 1 then (zs.getD 7 0).toNat / 32 + 1 else 0))
      else some (⟨K, T, 0, 0, 0, 0, 0, false, 0, false, 0⟩, 3) := by
        unfold parse
        rw [if_neg (by omega), ← HU.out]
        have e1 : ((U % 8 : Nat) : Int) + 1 = K := by omega
        have e2 : ((U / 8 : Nat) : Int) = T := by omega
        simp only [e1, e2]
    have Hpar := Lib.hid hpar; clear hpar
    have Hst := Lib.hid hst; clear hst
    have HK := Lib.hid hK; clear hK
    have HT := Lib.hid hT; clear hT
    clear HU Hzs hz0 hz1 hz2 hsum1 hsum2 hsum3 hsum4
    go_upto_region 6 with fail
    rw [← hw2]
    clear hw2
    generalize wq.heap.size = g at *
    have x0 : w2.cell? ⟨g, 0, none⟩ = some (.int .i64 K) := cells_at Hst.out.r 0
    clear hUl
    go_cut [45] from 38 (fun s wx => s = .bool (decide (maskedK K)) ∧ wx = w2)
    case first => as_aux_lemma =>
      by_cases k1 : K = 2
      · have e1 : (K == 2) = true := by simpa using k1
        have hd := Lib.hid (decide_eq_true (show maskedK K from .inl k1))
        clear k1
        go_wp2_with fail
        go_meet
        exact ⟨by rw [hd.out], rfl⟩
      · by_cases k2 : K = 8
        · have e1 : (K == 2) = false := by simpa using k1
          have e2 : (K == 8) = true := by simpa using k2
          have hd := Lib.hid (decide_eq_true (show maskedK K from .inr k2))
          clear k1 k2
          go_wp2_with fail
          go_meet
          exact ⟨by rw [hd.out], rfl⟩
        · have e1 : (K == 2) = false := by simpa using k1
          have e2 : (K == 8) = false := by simpa using k2
          have hd := Lib.hid (decide_eq_false (show ¬ maskedK K by unfold maskedK; omega))
          clear k1 k2
          go_wp2_with fail
          go_meet
          exact ⟨by rw [hd.out], rfl⟩
    case rest =>
      obtain ⟨rfl, hwc⟩ := hcut
      subst hwc
      obtain ⟨w3, rfl⟩ : ∃ w3, w3 = wc := ⟨_, rfl⟩
      clear x0
      go_upto_if 45 with fail
      go_cut [3, 6] from 45 (fun s3 s wx => ∃ (m : Int) (n : Nat), s3 = .int .i64 0 ∧ s = .int .i64 (n : Int) ∧ DSt w wx w.heap.size g ⟨K, T, m, 0, 0, 0, 0, false, 0, false, 0⟩ ∧ n ≤ L ∧ (maskedK K → parse zs = some (⟨K, T, m, 0, 0, 0, 0, false, 0, false, 0⟩, n)) ∧ (¬ maskedK K → n = 3 ∧ m = 0))
      case first => as_aux_lemma =>
        by_cases hm : maskedK K
        case pos =>
          rw [decide_eq_true hm]
          by_cases h5 : L < 5
          case pos =>
            have d5 : decide ((L : Int) < 5) = true := decide_eq_true (by omega)
            have hp : parse zs = none := by rw [Hpar.out, if_pos hm, if_pos (by omega)]
            have hD := HD.out
            rw [hp] at hD
            clear HD Hpar hp
            have HD := Lib.hid hD; clear hD
            go_wp2_with (with_reducible refine stop_store 63 ?_)
            refine unpark ?_
            refine wpList_store_at rfl _ _ _ rfl w.heap.size 0 rfl _ rfl [.int .i64 0, .int .i64 0, .int .u16 0, .int .u8 0, .int .u8 0, .int .u8 0, .int .u8 0, .bool false, .int .i64 0, .bool false, .int .i64 0] rfl _ _ Hst.out.z 11 rfl (by decide) (by simp [Value.oneCell']) Tryz.sizeRec ?_
            intro wz hz hg _
            have zf : wz.heap[w.heap.size]? = some (.cells #[.int .i64 0, .int .i64 0, .int .u16 0, .int .u8 0, .int .u8 0, .int .u8 0, .int .u8 0, .bool false, .int .i64 0, .bool false, .int .i64 0] 63 (0, 0)) := hz
            have hm := Hst.out.bel.grown hg Hst.out.bel.size (fun k hk => by cases hk; exact Nat.le_refl _)
            clear Hst hz hg
            have ZF := Lib.hid zf; clear zf
            have HM := Lib.hid hm; clear hm
            go_wp2
            refine bodyPost_ret (results_row2 Tryz.results58 _ _ w.heap.size 63 _ _ _ rfl ZF.out Tryz.underlying63 rfl (by kernel_rfl)) rfl ?_
            exact ⟨by rw [HD.out]; rfl, HM.out⟩
          case neg =>
            have d5 : decide ((L : Int) < 5) = false := decide_eq_false (by omega)
            obtain ⟨hf2, hz3, hz4⟩ := from2 (zs := zs) (by omega) Hfit.out
            have hpz : parse zs = some (⟨K, T, (fromZ ((zs.drop 3).take 2) : Nat), 0, 0, 0, 0, false, 0, false, 0⟩, 5) := by rw [Hpar.out, if_pos hm, if_neg (by omega)]
            rw [hf2] at hpz
            clear hf2
            have hcx : ∀ i, i < L → w3.cell? ⟨gb, go_ + i, none⟩ = some (.int .u8 (zs.getD i 0)) := fun i hi => (Hst.out.bel.cell (p := ⟨gb, go_ + i, none⟩) (World.block_lt_of_cell? w _ (Hcx.out i hi))).trans (Hcx.out i hi)
            have x3 := hcx 3 (by omega)
            have x4 := hcx 4 (by omega)
            generalize zs.getD 3 0 = z3 at *
            generalize zs.getD 4 0 = z4 at *
            have fz := frozen_of_row w3 g 2 _ _ Hst.out.r
            have x2 : w3.cell? ⟨g, 2, none⟩ = some (.int .u16 0) := cells_at Hst.out.r 2
            have j3' : (3 : Int) < (L : Int) := by omega
            have j4' : (4 : Int) < (L : Int) := by omega
            have Hpz := Lib.hid hpz; clear hpz hcx
            have Hm := Lib.hid hm; clear hm
            have hsA : IntKind.u16.wrap (256 * z4) = 256 * z4 := by rw [IntKind.wrap_u16]; omega
            have hsB : IntKind.u16.wrap (z3 + 256 * z4) = z3 + 256 * z4 := by rw [IntKind.wrap_u16]; omega
            have hsC : IntKind.u16.wrap z3 = z3 := by rw [IntKind.wrap_u16]; omega
            have hsD : IntKind.u16.wrap z4 = z4 := by rw [IntKind.wrap_u16]; omega
            go_wp2_with fail
            go_still_tail 11, (by kernel_rfl)
            change wpList _ _ _ _ _ w3.drew
            have hst := Hst.out.step (below_drew w3)
            clear Hst x3 x4 x2 fz hsA hsB hsC hsD
            generalize w3.drew = wd at hst ⊢
            refine wpList_store_at rfl _ _ _ rfl g 2 rfl _ rfl [.int .u16 (z3 + 256 * z4)] rfl _ _ hst.r 1 rfl (by simp [Rc.cells]) (by simp [Value.oneCell']) Tryz.sizeU16 ?_
            intro w4 hz hg _
            have hs4 : DSt w w4 w.heap.size g ⟨K, T, z3 + 256 * z4, 0, 0, 0, 0, false, 0, false, 0⟩ := hst.row (by omega) (by omega) hz hg rfl
            clear hst hz hg
            have Hs4 := Lib.hid hs4; clear hs4
            have h5' : 5 ≤ L := by omega
            clear hz3 hz4
            go_wp2_with fail
            go_meet
            exact ⟨_, 5, rfl, rfl, Hs4.out, h5', fun _ => Hpz.out, fun h => absurd Hm.out h⟩
        case neg =>
          rw [decide_eq_false hm]
          have HM := Lib.hid hm; clear hm
          go_wp2_with fail
          go_meet
          exact ⟨0, 3, rfl, rfl, Hst.out, by omega, fun h => absurd h HM.out, fun _ => ⟨rfl, rfl⟩⟩
      case rest =>
        obtain ⟨m, n1, rfl, rfl, hst, hn1, hmk, hnm⟩ := hcut
        obtain ⟨w4, rfl⟩ : ∃ w4, w4 = wc := ⟨_, rfl⟩
        clear Hst
        have x0 : w4.cell? ⟨g, 0, none⟩ = some (.int .i64 K) := cells_at hst.r 0
        have Hst := Lib.hid hst; clear hst
        have Hmk := Lib.hid hmk; clear hmk
        have Hnm := Lib.hid hnm; clear hnm
        go_upto_region 11 with fail
        go_cut [68] from 61 (fun s wx => s = .bool (decide (keyedK K)) ∧ wx = w4)
        case first => as_aux_lemma =>
          by_cases k1 : K = 1
          · have e1 : (K == 1) = true := by simpa using k1
            have hd := Lib.hid (decide_eq_true (show keyedK K from .inl k1))
            clear k1
            go_wp2_with fail
            go_meet
            exact ⟨by rw [hd.out], rfl⟩
          · by_cases k2 : K = 7
            · have e1 : (K == 1) = false := by simpa using k1
              have e2 : (K == 7) = true := by simpa using k2
              have hd := Lib.hid (decide_eq_true (show keyedK K from .inr k2))
              clear k1 k2
              go_wp2_with fail
              go_meet
              exact ⟨by rw [hd.out], rfl⟩
            · have e1 : (K == 1) = false := by simpa using k1
              have e2 : (K == 7) = false := by simpa using k2
              have hd := Lib.hid (decide_eq_false (show ¬ keyedK K by unfold keyedK; omega))
              clear k1 k2
              go_wp2_with fail
              go_meet
              exact ⟨by rw [hd.out], rfl⟩
        case rest =>
          obtain ⟨rfl, hwc⟩ := hcut
          subst hwc
          obtain ⟨w5, rfl⟩ : ∃ w5, w5 = wc := ⟨_, rfl⟩
          clear x0
          go_upto_if 68 with fail
          go_cut [3, 6, 7, 8, 9] from 68 (fun s3 s _ _ _ wx => ∃ (r : Rc) (n : Nat), s3 = .int .i64 0 ∧ s = .int .i64 (n : Int) ∧ DSt w wx w.heap.size g r ∧ n ≤ L ∧ parse zs = some (r, n))
          case first => as_aux_lemma =>
            by_cases hy : keyedK K
            case neg =>
              rw [decide_eq_false hy]
              have HY := Lib.hid hy; clear hy
              have hcx : ∀ (P : Prop), P → True := fun _ _ => trivial
              clear hcx
              by_cases hm : maskedK K
              · have hpz := Hmk.out hm
                have Hpz := Lib.hid hpz; clear hpz hm
                go_wp2_with fail
                go_meet
                exact ⟨_, n1, rfl, rfl, Hst.out, hn1, Hpz.out⟩
              · obtain ⟨e1, e2⟩ := Hnm.out hm
                have hpz : parse zs = some (⟨K, T, m, 0, 0, 0, 0, false, 0, false, 0⟩, n1) := by rw [Hpar.out, if_neg hm, if_neg HY.out, e1, e2]
                have Hpz := Lib.hid hpz; clear hpz hm e1 e2
                go_wp2_with fail
                go_meet
                exact ⟨_, n1, rfl, rfl, Hst.out, hn1, Hpz.out⟩
            case pos =>
              rw [decide_eq_true hy]
              have hm : ¬ maskedK K := by unfold maskedK; unfold keyedK at hy; omega
              obtain ⟨e1, e2⟩ := Hnm.out hm
              subst e1 e2
              have hp1 := Hpar.out
              rw [if_neg hm, if_pos hy] at hp1
              clear Hpar Hmk Hnm hm hy
              have Hpar := Lib.hid hp1; clear hp1
              by_cases h8 : L < 8
              case pos =>
                have d8 : decide ((L : Int) < 8) = true := decide_eq_true (by omega)
                have hp : parse zs = none := by rw [Hpar.out, if_pos (by omega)]
                have hD := HD.out
                rw [hp] at hD
                clear HD Hpar hp
                have HD := Lib.hid hD; clear hD
                go_wp2_with (with_reducible refine stop_store 63 ?_)
                refine unpark ?_
                refine wpList_store_at rfl _ _ _ rfl w.heap.size 0 rfl _ rfl [.int .i64 0, .int .i64 0, .int .u16 0, .int .u8 0, .int .u8 0, .int .u8 0, .int .u8 0, .bool false, .int .i64 0, .bool false, .int .i64 0] rfl _ _ Hst.out.z 11 rfl (by decide) (by simp [Value.oneCell']) Tryz.sizeRec ?_
                intro wz hz hg _
                have zf : wz.heap[w.heap.size]? = some (.cells #[.int .i64 0, .int .i64 0, .int .u16 0, .int .u8 0, .int .u8 0, .int .u8 0, .int .u8 0, .bool false, .int .i64 0, .bool false, .int .i64 0] 63 (0, 0)) := hz
                have hm := Hst.out.bel.grown hg Hst.out.bel.size (fun k hk => by cases hk; exact Nat.le_refl _)
                clear Hst hz hg
                have ZF := Lib.hid zf; clear zf
                have HM := Lib.hid hm; clear hm
                go_wp2
                refine bodyPost_ret (results_row2 Tryz.results58 _ _ w.heap.size 63 _ _ _ rfl ZF.out Tryz.underlying63 rfl (by kernel_rfl)) rfl ?_
                exact ⟨by rw [HD.out]; rfl, HM.out⟩
              case neg =>
                have d8 : decide ((L : Int) < 8) = false := decide_eq_false (by omega)
                have hp1 := Hpar.out
                rw [if_neg (by omega)] at hp1
                have hz := fun i (hi : i < L) => Hfit.out (zs.getD i 0) (by rw [List.getD_eq_getElem?_getD, List.getElem?_eq_getElem (by omega)]; exact List.getElem_mem _)
                have hz3 := hz 3 (by omega)
                have hz4 := hz 4 (by omega)
                have hz5 := hz 5 (by omega)
                have hz6 := hz 6 (by omega)
                have hz7 := hz 7 (by omega)
                have hcx : ∀ i, i < L → w5.cell? ⟨gb, go_ + i, none⟩ = some (.int .u8 (zs.getD i 0)) := fun i hi => (Hst.out.bel.cell (p := ⟨gb, go_ + i, none⟩) (World.block_lt_of_cell? w _ (Hcx.out i hi))).trans (Hcx.out i hi)
                have x3 := hcx 3 (by omega)
                have x4 := hcx 4 (by omega)
                have x5 := hcx 5 (by omega)
                have x6 := hcx 6 (by omega)
                have x7 := Hcx.out 7 (by omega)
                clear hcx hz
                generalize zs.getD 3 0 = z3 at *
                generalize zs.getD 4 0 = z4 at *
                generalize zs.getD 5 0 = z5 at *
                generalize zs.getD 6 0 = z6 at *
                generalize zs.getD 7 0 = F at *
                clear Hpar
                have Hpar := Lib.hid hp1; clear hp1
                have Hx7 := Lib.hid x7; clear x7
                have J3 : (3 : Int) < (L : Int) := by omega
                have J4 : (4 : Int) < (L : Int) := by omega
                have J5 : (5 : Int) < (L : Int) := by omega
                have J6 : (6 : Int) < (L : Int) := by omega
                have J7 : (7 : Int) < (L : Int) := by omega
                go_wp2_with fail
                refine wp_region_free [0, 1, 2, 3, 4, 5, 6, 7, 8, 9, 10, 11, 12, 13, 14] (by kernel_rfl) (by kernel_rfl) rfl (by kernel_rfl) (fun _ _ _ h => by obtain ⟨_, h, _⟩ := h; cases h) (fun _ _ h => by obtain ⟨h, _⟩ := h; cases h) ?_
                have hbk := below_drew w5
                have hst := Hst.out.step hbk
                generalize w5.drew = wd at hst hbk ⊢
                have X3 := (hbk.cell (World.block_lt_of_cell? _ _ x3)).trans x3
                have X4 := (hbk.cell (World.block_lt_of_cell? _ _ x4)).trans x4
                have X5 := (hbk.cell (World.block_lt_of_cell? _ _ x5)).trans x5
                have X6 := (hbk.cell (World.block_lt_of_cell? _ _ x6)).trans x6
                clear Hst x3 x4 x5 x6 hbk
                have Hst := Lib.hid hst; clear hst
                simp only [List.map_cons, List.map_nil, List.getD_cons_zero, List.getD_cons_succ]
                go_wp2_with (with_reducible refine stop_store 59 ?_)
                refine unpark ?_
                have hst := Hst.out
                clear Hst X3 X4 X5 X6
                refine wpList_store_at rfl _ _ _ rfl g 3 rfl _ rfl [.int .u8 z3, .int .u8 z4, .int .u8 z5, .int .u8 z6] rfl _ _ hst.r 4 rfl (by simp [Rc.cells]) (by simp [Value.oneCell']) Tryz.sizeKey ?_
                intro w6 hz hg _
                have hs6 : DSt w w6 w.heap.size g ⟨K, T, 0, z3, z4, z5, z6, false, 0, false, 0⟩ := hst.row (by omega) (by omega) hz hg rfl
                clear hst hz hg hz3 hz4 hz5 hz6
                have x7 := (hs6.bel.cell (p := ⟨gb, go_ + 7, none⟩) (World.block_lt_of_cell? w _ Hx7.out)).trans Hx7.out
                have Hs6 := Lib.hid hs6; clear hs6 Hx7
                go_upto_region 17 with fail
                clear x7
                by_cases o1 : F % 2 = 1
                case pos =>
                  have e1 : (F % 2 == 1) = true := by simpa using o1
                  have f1 : F.toNat % 2 = 1 := by omega
                  obtain ⟨la, hla⟩ : ∃ la : Nat, F / 4 % 8 + 1 = (la : Int) := ⟨(F / 4 % 8 + 1).toNat, by omega⟩
                  have f2 : F.toNat / 4 % 8 + 1 = la := by omega
                  have hp2 := Hpar.out
                  simp only [if_pos f1, f2, decide_eq_true f1] at hp2
                  clear Hpar f1 f2
                  have hla8 : 1 ≤ la ∧ la ≤ 8 := by omega
                  have Hpar := Lib.hid hp2; clear hp2 o1
                  by_cases l1 : L < 8 + la
                  case pos =>
                    have d1 : decide ((L : Int) < 8 + (la : Int)) = true := decide_eq_true (by omega)
                    have hp : parse zs = none := by rw [Hpar.out, if_pos (by omega)]
                    have hD := HD.out
                    rw [hp] at hD
                    clear HD Hpar hp
                    have HD := Lib.hid hD; clear hD
                    go_wp2_with (with_reducible refine stop_store 63 ?_)
                    refine unpark ?_
                    refine wpList_store_at rfl _ _ _ rfl w.heap.size 0 rfl _ rfl [.int .i64 0, .int .i64 0, .int .u16 0, .int .u8 0, .int .u8 0, .int .u8 0, .int .u8 0, .bool false, .int .i64 0, .bool false, .int .i64 0] rfl _ _ Hs6.out.z 11 rfl (by decide) (by simp [Value.oneCell']) Tryz.sizeRec ?_
                    intro wz hz hg _
                    have zf : wz.heap[w.heap.size]? = some (.cells #[.int .i64 0, .int .i64 0, .int .u16 0, .int .u8 0, .int .u8 0, .int .u8 0, .int .u8 0, .bool false, .int .i64 0, .bool false, .int .i64 0] 63 (0, 0)) := hz
                    have hm := Hs6.out.bel.grown hg Hs6.out.bel.size (fun k hk => by cases hk; exact Nat.le_refl _)
                    clear Hs6 hz hg
                    have ZF := Lib.hid zf; clear zf
                    have HM := Lib.hid hm; clear hm
                    go_wp2
                    refine bodyPost_ret (results_row2 Tryz.results58 _ _ w.heap.size 63 _ _ _ rfl ZF.out Tryz.underlying63 rfl (by kernel_rfl)) rfl ?_
                    exact ⟨by rw [HD.out]; rfl, HM.out⟩
                  case neg =>
                    have d1 : decide ((L : Int) < 8 + (la : Int)) = false := decide_eq_false (by omega)
                    have hpp := Hpar.out
                    clear Hpar

                    have hnum := Rnumber_calls (Hx.out.keep (Hs6.out.bel)) (p := 8) (n := la) ⟨by omega, by omega⟩ (by omega)
                    generalize rvalAt (zs.drop (8)) la = v1 at *
                    have hnum' : Calls Tryz.prog 69 #[.slice (some ⟨gb, go_, none⟩) L c, .int .i64 (8), .int .i64 (la : Int)] w6 fun e w' => e = .returned (.int .i64 v1) ∧ w' = w6 := hnum
                    clear hnum
                    have Hnum := Lib.hid hnum'; clear hnum'
                    go_wp2_with fail
                    refine Hnum.out.mono ?_
                    rintro e wn ⟨rfl, rfl⟩
                    clear Hnum
                    go_wp2_with (with_reducible refine stop_store 61 ?_)
                    refine unpark ?_
                    refine wpList_store_at rfl _ _ _ rfl g 7 rfl _ rfl [.bool true, .int .i64 v1] rfl _ _ Hs6.out.r 2 rfl (by simp [Rc.cells]) (by simp [Value.oneCell']) Tryz.sizeVal ?_
                    intro w7 hz hg _
                    have hs : DSt w w7 w.heap.size g ⟨K, T, 0, z3, z4, z5, z6, true, v1, false, 0⟩ := Hs6.out.row (by omega) (by omega) hz hg rfl
                    clear hz hg Hs6
                    have Hs7 := Lib.hid hs; clear hs
                    have Hpar := Lib.hid hpp; clear hpp
                    go_upto_region 23 with fail
                    clear hla d1 e1
                    by_cases o2 : F / 2 % 2 = 1
                    case pos =>
                      have e2 : (F / 2 % 2 == 1) = true := by simpa using o2
                      have f2 : F.toNat / 2 % 2 = 1 := by omega
                      obtain ⟨lb, hlb⟩ : ∃ lb : Nat, F / 32 + 1 = (lb : Int) := ⟨(F / 32 + 1).toNat, by omega⟩
                      have f3 : F.toNat / 32 + 1 = lb := by omega
                      have hp2 := Hpar.out
                      simp only [if_pos f2, f3, decide_eq_true f2] at hp2
                      clear Hpar f2 f3
                      have hlb8 : 1 ≤ lb ∧ lb ≤ 8 := by omega
                      have Hpar := Lib.hid hp2; clear hp2 o2
                      by_cases l2 : L < 8 + la + lb
                      case pos =>
                        have d2 : decide ((L : Int) < 8 + (la : Int) + (lb : Int)) = true := decide_eq_true (by omega)
                        have hp : parse zs = none := by rw [Hpar.out, if_pos (by omega)]
                        have hD := HD.out
                        rw [hp] at hD
                        clear HD Hpar hp
                        have HD := Lib.hid hD; clear hD
                        go_wp2_with (with_reducible refine stop_store 63 ?_)
                        refine unpark ?_
                        refine wpList_store_at rfl _ _ _ rfl w.heap.size 0 rfl _ rfl [.int .i64 0, .int .i64 0, .int .u16 0, .int .u8 0, .int .u8 0, .int .u8 0, .int .u8 0, .bool false, .int .i64 0, .bool false, .int .i64 0] rfl _ _ Hs7.out.z 11 rfl (by decide) (by simp [Value.oneCell']) Tryz.sizeRec ?_
                        intro wz hz hg _
                        have zf : wz.heap[w.heap.size]? = some (.cells #[.int .i64 0, .int .i64 0, .int .u16 0, .int .u8 0, .int .u8 0, .int .u8 0, .int .u8 0, .bool false, .int .i64 0, .bool false, .int .i64 0] 63 (0, 0)) := hz
                        have hm := Hs7.out.bel.grown hg Hs7.out.bel.size (fun k hk => by cases hk; exact Nat.le_refl _)
                        clear Hs7 hz hg
                        have ZF := Lib.hid zf; clear zf
                        have HM := Lib.hid hm; clear hm
                        go_wp2
                        refine bodyPost_ret (results_row2 Tryz.results58 _ _ w.heap.size 63 _ _ _ rfl ZF.out Tryz.underlying63 rfl (by kernel_rfl)) rfl ?_
                        exact ⟨by rw [HD.out]; rfl, HM.out⟩
                      case neg =>
                        have d2 : decide ((L : Int) < 8 + (la : Int) + (lb : Int)) = false := decide_eq_false (by omega)
                        have hpz := Hpar.out
                        rw [if_neg (by omega)] at hpz
                        clear Hpar

                        have hnum := Rnumber_calls (Hx.out.keep (Hs7.out.bel)) (p := 8 + la) (n := lb) ⟨by omega, by omega⟩ (by omega)
                        generalize rvalAt (zs.drop (8 + la)) lb = v2 at *
                        have hnum' : Calls Tryz.prog 69 #[.slice (some ⟨gb, go_, none⟩) L c, .int .i64 (8 + (la : Int)), .int .i64 (lb : Int)] w7 fun e w' => e = .returned (.int .i64 v2) ∧ w' = w7 := hnum
                        clear hnum
                        have Hnum := Lib.hid hnum'; clear hnum'
                        go_wp2_with fail
                        refine Hnum.out.mono ?_
                        rintro e wn ⟨rfl, rfl⟩
                        clear Hnum
                        go_wp2_with (with_reducible refine stop_store 61 ?_)
                        refine unpark ?_
                        refine wpList_store_at rfl _ _ _ rfl g 9 rfl _ rfl [.bool true, .int .i64 v2] rfl _ _ Hs7.out.r 2 rfl (by simp [Rc.cells]) (by simp [Value.oneCell']) Tryz.sizeVal ?_
                        intro w8 hz hg _
                        have hs : DSt w w8 w.heap.size g ⟨K, T, 0, z3, z4, z5, z6, true, v1, true, v2⟩ := Hs7.out.row (by omega) (by omega) hz hg rfl
                        clear hz hg Hs7
                        have Hs8 := Lib.hid hs; clear hs
                        have Hpz := Lib.hid hpz; clear hpz
                        have hfin : 8 + la + lb ≤ L := by omega
                        go_wp2_with fail
                        go_meet
                        exact ⟨_, 8 + la + lb, rfl, rfl, Hs8.out, hfin, Hpz.out⟩
                    case neg =>
                      have e2 : (F / 2 % 2 == 1) = false := by simpa using o2
                      have f2 : ¬ F.toNat / 2 % 2 = 1 := by omega
                      have hp2 := Hpar.out
                      simp only [if_neg f2, decide_eq_false f2] at hp2
                      rw [if_neg (by omega)] at hp2
                      clear Hpar f2
                      have Hpz := Lib.hid hp2; clear hp2 o2
                      have hfin : 8 + la ≤ L := by omega
                      go_wp2_with fail
                      go_meet
                      exact ⟨_, 8 + la, rfl, rfl, Hs7.out, hfin, Hpz.out⟩
                case neg =>
                  have e1 : (F % 2 == 1) = false := by simpa using o1
                  have f1 : ¬ F.toNat % 2 = 1 := by omega
                  have hp2 := Hpar.out
                  simp only [if_neg f1, decide_eq_false f1, Nat.add_zero] at hp2
                  rw [show rvalAt (zs.drop 8) 0 = 0 from rfl] at hp2
                  clear Hpar f1
                  have Hpar := Lib.hid hp2; clear hp2 o1
                  go_upto_region 23 with fail
                  clear e1
                  by_cases o2 : F / 2 % 2 = 1
                  case pos =>
                    have e2 : (F / 2 % 2 == 1) = true := by simpa using o2
                    have f2 : F.toNat / 2 % 2 = 1 := by omega
                    obtain ⟨lb, hlb⟩ : ∃ lb : Nat, F / 32 + 1 = (lb : Int) := ⟨(F / 32 + 1).toNat, by omega⟩
                    have f3 : F.toNat / 32 + 1 = lb := by omega
                    have hp2 := Hpar.out
                    simp only [if_pos f2, f3, decide_eq_true f2] at hp2
                    clear Hpar f2 f3
                    have hlb8 : 1 ≤ lb ∧ lb ≤ 8 := by omega
                    have Hpar := Lib.hid hp2; clear hp2 o2
                    by_cases l2 : L < 8 + lb
                    case pos =>
                      have d2 : decide ((L : Int) < 8 + (lb : Int)) = true := decide_eq_true (by omega)
                      have hp : parse zs = none := by rw [Hpar.out, if_pos (by omega)]
                      have hD := HD.out
                      rw [hp] at hD
                      clear HD Hpar hp
                      have HD := Lib.hid hD; clear hD
                      go_wp2_with (with_reducible refine stop_store 63 ?_)
                      refine unpark ?_
                      refine wpList_store_at rfl _ _ _ rfl w.heap.size 0 rfl _ rfl [.int .i64 0, .int .i64 0, .int .u16 0, .int .u8 0, .int .u8 0, .int .u8 0, .int .u8 0, .bool false, .int .i64 0, .bool false, .int .i64 0] rfl _ _ Hs6.out.z 11 rfl (by decide) (by simp [Value.oneCell']) Tryz.sizeRec ?_
                      intro wz hz hg _
                      have zf : wz.heap[w.heap.size]? = some (.cells #[.int .i64 0, .int .i64 0, .int .u16 0, .int .u8 0, .int .u8 0, .int .u8 0, .int .u8 0, .bool false, .int .i64 0, .bool false, .int .i64 0] 63 (0, 0)) := hz
                      have hm := Hs6.out.bel.grown hg Hs6.out.bel.size (fun k hk => by cases hk; exact Nat.le_refl _)
                      clear Hs6 hz hg
                      have ZF := Lib.hid zf; clear zf
                      have HM := Lib.hid hm; clear hm
                      go_wp2
                      refine bodyPost_ret (results_row2 Tryz.results58 _ _ w.heap.size 63 _ _ _ rfl ZF.out Tryz.underlying63 rfl (by kernel_rfl)) rfl ?_
                      exact ⟨by rw [HD.out]; rfl, HM.out⟩
                    case neg =>
                      have d2 : decide ((L : Int) < 8 + (lb : Int)) = false := decide_eq_false (by omega)
                      have hpz := Hpar.out
                      rw [if_neg (by omega)] at hpz
                      clear Hpar

                      have hnum := Rnumber_calls (Hx.out.keep (Hs6.out.bel)) (p := 8) (n := lb) ⟨by omega, by omega⟩ (by omega)
                      generalize rvalAt (zs.drop (8)) lb = v2 at *
                      have hnum' : Calls Tryz.prog 69 #[.slice (some ⟨gb, go_, none⟩) L c, .int .i64 (8), .int .i64 (lb : Int)] w6 fun e w' => e = .returned (.int .i64 v2) ∧ w' = w6 := hnum
                      clear hnum
                      have Hnum := Lib.hid hnum'; clear hnum'
                      go_wp2_with fail
                      refine Hnum.out.mono ?_
                      rintro e wn ⟨rfl, rfl⟩
                      clear Hnum
                      go_wp2_with (with_reducible refine stop_store 61 ?_)
                      refine unpark ?_
                      refine wpList_store_at rfl _ _ _ rfl g 9 rfl _ rfl [.bool true, .int .i64 v2] rfl _ _ Hs6.out.r 2 rfl (by simp [Rc.cells]) (by simp [Value.oneCell']) Tryz.sizeVal ?_
                      intro w8 hz hg _
                      have hs : DSt w w8 w.heap.size g ⟨K, T, 0, z3, z4, z5, z6, false, 0, true, v2⟩ := Hs6.out.row (by omega) (by omega) hz hg rfl
                      clear hz hg Hs6
                      have Hs8 := Lib.hid hs; clear hs
                      have Hpz := Lib.hid hpz; clear hpz
                      have hfin : 8 + lb ≤ L := by omega
                      go_wp2_with fail
                      go_meet
                      exact ⟨_, 8 + lb, rfl, rfl, Hs8.out, hfin, Hpz.out⟩
                  case neg =>
                    have e2 : (F / 2 % 2 == 1) = false := by simpa using o2
                    have f2 : ¬ F.toNat / 2 % 2 = 1 := by omega
                    have hp2 := Hpar.out
                    simp only [if_neg f2, decide_eq_false f2] at hp2
                    rw [if_neg (by omega)] at hp2
                    clear Hpar f2
                    have Hpz := Lib.hid hp2; clear hp2 o2
                    have hfin : 8 ≤ L := by omega
                    go_wp2_with fail
                    go_meet
                    exact ⟨_, 8, rfl, rfl, Hs6.out, hfin, Hpz.out⟩
          case rest =>
            obtain ⟨r, n, rfl, rfl, hst, hn, hpz⟩ := hcut
            obtain ⟨w6, rfl⟩ : ∃ w6, w6 = wc := ⟨_, rfl⟩
            have hok := parse_ok Hfit.out hpz
            have hD := HD.out
            rw [hpz] at hD
            clear HD Hpar Hmk Hnm Hst hpz Hfit
            have hD : D = if rightRc r = true ∧ enc r = zs.take n then (r, n) else (noRc, 0) := hD
            have hen := fun w : World => REncode_calls (w := w) r hok
            obtain ⟨k, t, m, k0, k1, k2, k3, ot, o, nt, n_⟩ := r
            simp only [Rc.cells] at hen
            clear hok
            have q0 : w6.cell? ⟨g, 0, none⟩ = some (.int .i64 k) := cells_at hst.r 0
            have q1 : w6.cell? ⟨g, 1, none⟩ = some (.int .i64 t) := cells_at hst.r 1
            have q2 : w6.cell? ⟨g, 2, none⟩ = some (.int .u16 m) := cells_at hst.r 2
            have q3 : w6.cell? ⟨g, 3, none⟩ = some (.int .u8 k0) := cells_at hst.r 3
            have q4 : w6.cell? ⟨g, 4, none⟩ = some (.int .u8 k1) := cells_at hst.r 4
            have q5 : w6.cell? ⟨g, 5, none⟩ = some (.int .u8 k2) := cells_at hst.r 5
            have q6 : w6.cell? ⟨g, 6, none⟩ = some (.int .u8 k3) := cells_at hst.r 6
            have q7 : w6.cell? ⟨g, 7, none⟩ = some (.bool ot) := cells_at hst.r 7
            have q8 : w6.cell? ⟨g, 8, none⟩ = some (.int .i64 o) := cells_at hst.r 8
            have q9 : w6.cell? ⟨g, 9, none⟩ = some (.bool nt) := cells_at hst.r 9
            have q10 : w6.cell? ⟨g, 10, none⟩ = some (.int .i64 n_) := cells_at hst.r 10
            have Hst := Lib.hid hst; clear hst
            have Hen := Lib.hid hen; clear hen
            have HD := Lib.hid hD; clear hD
            go_wp2_with fail
            clear q0 q1 q2 q3 q4 q5 q6 q7 q8 q9 q10
            refine (Hen.out _).mono ?_
            rintro e w7 ⟨v, rfl, own, bk⟩
            have hst := Hst.out.step bk
            clear Hst Hen bk
            have hx7 := Hx.out.keep hst.bel
            cases hr : rightRc ⟨k, t, m, k0, k1, k2, k3, ot, o, nt, n_⟩ with
            | false =>
              have hD := HD.out
              rw [hr, if_neg (by rintro ⟨h, -⟩; cases h)] at hD
              clear HD own hx7 hr
              have HD := Lib.hid hD; clear hD
              have Hst := Lib.hid hst; clear hst
              go_wp2_with (with_reducible refine stop_store 63 ?_)
              refine unpark ?_
              refine wpList_store_at rfl _ _ _ rfl w.heap.size 0 rfl _ rfl [.int .i64 0, .int .i64 0, .int .u16 0, .int .u8 0, .int .u8 0, .int .u8 0, .int .u8 0, .bool false, .int .i64 0, .bool false, .int .i64 0] rfl _ _ Hst.out.z 11 rfl (by decide) (by simp [Value.oneCell']) Tryz.sizeRec ?_
              intro wz hz hg _
              have zf : wz.heap[w.heap.size]? = some (.cells #[.int .i64 0, .int .i64 0, .int .u16 0, .int .u8 0, .int .u8 0, .int .u8 0, .int .u8 0, .bool false, .int .i64 0, .bool false, .int .i64 0] 63 (0, 0)) := hz
              have hm := Hst.out.bel.grown hg Hst.out.bel.size (fun k hk => by cases hk; exact Nat.le_refl _)
              clear Hst hz hg
              have ZF := Lib.hid zf; clear zf
              have HM := Lib.hid hm; clear hm
              go_wp2
              refine bodyPost_ret (results_row2 Tryz.results58 _ _ w.heap.size 63 _ _ _ rfl ZF.out Tryz.underlying63 rfl (by kernel_rfl)) rfl ?_
              exact ⟨by rw [HD.out]; rfl, HM.out⟩
            | true =>
              rw [hr] at own
              rw [if_pos rfl] at own
              obtain ⟨va, vc, rfl, vi, -⟩ := own.ints
              have heq := SameBytes_calls vi (hx7.take n hn)
              have hD := HD.out
              have hnc : (n : Int) ≤ (c : Int) := by omega
              have hn0 : (0 : Int) ≤ (n : Int) := by omega
              have Hst := Lib.hid hst; clear hst
              clear HD own hx7
              by_cases hq : enc ⟨k, t, m, k0, k1, k2, k3, ot, o, nt, n_⟩ = zs.take n
              · rw [if_pos ⟨hr, hq⟩] at hD
                rw [decide_eq_true hq] at heq
                have HD := Lib.hid hD; clear hD
                have Heq := Lib.hid heq; clear heq vi hq hr
                go_wp2_with fail
                refine Heq.out.mono ?_
                rintro e w8 ⟨rfl, nd, hw8⟩
                have hst := Hst.out.step (by rw [hw8]; exact below_drawn w7 nd : Below w7.heap.size w7 w8)
                clear Hst Heq hw8
                have q0 : w8.cell? ⟨g, 0, none⟩ = some (.int .i64 k) := cells_at hst.r 0
                have q1 : w8.cell? ⟨g, 1, none⟩ = some (.int .i64 t) := cells_at hst.r 1
                have q2 : w8.cell? ⟨g, 2, none⟩ = some (.int .u16 m) := cells_at hst.r 2
                have q3 : w8.cell? ⟨g, 3, none⟩ = some (.int .u8 k0) := cells_at hst.r 3
                have q4 : w8.cell? ⟨g, 4, none⟩ = some (.int .u8 k1) := cells_at hst.r 4
                have q5 : w8.cell? ⟨g, 5, none⟩ = some (.int .u8 k2) := cells_at hst.r 5
                have q6 : w8.cell? ⟨g, 6, none⟩ = some (.int .u8 k3) := cells_at hst.r 6
                have q7 : w8.cell? ⟨g, 7, none⟩ = some (.bool ot) := cells_at hst.r 7
                have q8 : w8.cell? ⟨g, 8, none⟩ = some (.int .i64 o) := cells_at hst.r 8
                have q9 : w8.cell? ⟨g, 9, none⟩ = some (.bool nt) := cells_at hst.r 9
                have q10 : w8.cell? ⟨g, 10, none⟩ = some (.int .i64 n_) := cells_at hst.r 10
                have Hst := Lib.hid hst; clear hst
                go_wp2_with (with_reducible refine stop_store 63 ?_)
                refine unpark ?_
                refine wpList_store_at rfl _ _ _ rfl w.heap.size 0 rfl _ rfl [.int .i64 k, .int .i64 t, .int .u16 m, .int .u8 k0, .int .u8 k1, .int .u8 k2, .int .u8 k3, .bool ot, .int .i64 o, .bool nt, .int .i64 n_] rfl _ _ Hst.out.z 11 rfl (by decide) (by simp [Value.oneCell']) Tryz.sizeRec ?_
                intro wz hz hg _
                have zf : wz.heap[w.heap.size]? = some (.cells #[.int .i64 k, .int .i64 t, .int .u16 m, .int .u8 k0, .int .u8 k1, .int .u8 k2, .int .u8 k3, .bool ot, .int .i64 o, .bool nt, .int .i64 n_] 63 (0, 0)) := hz
                have hm := Hst.out.bel.grown hg Hst.out.bel.size (fun k hk => by cases hk; exact Nat.le_refl _)
                clear Hst hz hg
                have ZF := Lib.hid zf; clear zf
                have HM := Lib.hid hm; clear hm
                go_wp2
                refine bodyPost_ret (results_row2 Tryz.results58 _ _ w.heap.size 63 _ _ _ rfl ZF.out Tryz.underlying63 rfl (by kernel_rfl)) rfl ?_
                exact ⟨by rw [HD.out]; rfl, HM.out⟩
              · rw [if_neg (fun h => hq h.2)] at hD
                rw [decide_eq_false hq] at heq
                have HD := Lib.hid hD; clear hD
                have Heq := Lib.hid heq; clear heq vi hq hr
                go_wp2_with fail
                refine Heq.out.mono ?_
                rintro e w8 ⟨rfl, nd, hw8⟩
                have hst := Hst.out.step (by rw [hw8]; exact below_drawn w7 nd : Below w7.heap.size w7 w8)
                clear Hst Heq hw8
                have Hst := Lib.hid hst; clear hst
                go_wp2_with (with_reducible refine stop_store 63 ?_)
                refine unpark ?_
                refine wpList_store_at rfl _ _ _ rfl w.heap.size 0 rfl _ rfl [.int .i64 0, .int .i64 0, .int .u16 0, .int .u8 0, .int .u8 0, .int .u8 0, .int .u8 0, .bool false, .int .i64 0, .bool false, .int .i64 0] rfl _ _ Hst.out.z 11 rfl (by decide) (by simp [Value.oneCell']) Tryz.sizeRec ?_
                intro wz hz hg _
                have zf : wz.heap[w.heap.size]? = some (.cells #[.int .i64 0, .int .i64 0, .int .u16 0, .int .u8 0, .int .u8 0, .int .u8 0, .int .u8 0, .bool false, .int .i64 0, .bool false, .int .i64 0] 63 (0, 0)) := hz
                have hm := Hst.out.bel.grown hg Hst.out.bel.size (fun k hk => by cases hk; exact Nat.le_refl _)
                clear Hst hz hg
                have ZF := Lib.hid zf; clear zf
                have HM := Lib.hid hm; clear hm
                go_wp2
                refine bodyPost_ret (results_row2 Tryz.results58 _ _ w.heap.size 63 _ _ _ rfl ZF.out Tryz.underlying63 rfl (by kernel_rfl)) rfl ?_
                exact ⟨by rw [HD.out]; rfl, HM.out⟩
end Go.Proofs.YtgpedejeifmfdaaGreat
/- The document's All. -/
namespace Go.Proofs.YtgpedejeifmfdaaGreat
open Go.RowKit

theorem all_empty : allR [] = ([], 0) := all_none rfl
theorem RDecode_nil {w : World} {a : Option Addr} {c : Nat} (hc : c ≤ 9223372036854775807) : Calls Tryz.prog 58 #[.slice a 0 c] w fun e w' => e = .returned (.tuple #[.agg #[.int .i64 0, .int .i64 0, .int .u16 0, .int .u8 0, .int .u8 0, .int .u8 0, .int .u8 0, .bool false, .int .i64 0, .bool false, .int .i64 0], .int .i64 0]) ∧ Below w.heap.size w w' :=
  (RDecode_calls (Ints.empty w .u8 a c hc)).mono fun _ _ h => h
set_option maxHeartbeats 8000000 in
theorem RAll_calls {w : World} {gb go_ L c : Nat} {zs : List Int} (hx : Ints w .u8 (some ⟨gb, go_, none⟩) L c zs) (hL : L ≤ 900000) : Calls Tryz.prog 38 #[.slice (some ⟨gb, go_, none⟩) L c] w fun e w' =>
    ∃ v, e = .returned (.tuple #[v, .int .i64 ((allR zs).2 : Nat)]) ∧ RcOwn w' w.heap.size v (allR zs).1 ∧ Below w.heap.size w w' := by
  obtain ⟨AL, hAL⟩ : ∃ A, A = allR zs := ⟨_, rfl⟩
  rw [← hAL]
  have HAL := Lib.hid hAL; clear hAL
  have hzl := hx.len
  have hle := hx.le
  have hmx := hx.max
  have Hx := Lib.hid hx; clear hx
  have Hzl := Lib.hid hzl; clear hzl
  have o1 := ROwn.made (F := rcF) (E := rcE) w
  have b1 := (Below.refl w.heap.size w).alloc (Nat.le_refl _) (.cells #[] 63)
  have O1 := Lib.hid o1; clear o1
  have B1 := Lib.hid b1; clear b1
  go_enter Tryz.func38, Tryz.ntmps38
  go_wp2_with fail
  go_loopw [4, 5] (fun u r wr => ∃ (out : List Rc) (k : Nat), RcOwn wr w.heap.size u out ∧ r = .int .i64 k ∧ k ≤ L ∧ AL = (out ++ (allR (zs.drop k)).1, k + (allR (zs.drop k)).2) ∧ out.length ≤ k ∧ Below w.heap.size w wr) (fun _ r _ => L - (intOf r).toNat)
  case atStart => exact ⟨[], 0, O1.out, rfl, Nat.zero_le _, by rw [HAL.out, List.drop_zero, List.nil_append, Nat.zero_add], Nat.le_refl _, B1.out⟩
  case round =>
    clear O1 B1
    obtain ⟨out, k, hout, rfl, hk, hAL, hlen, hb⟩ := hrel
    obtain ⟨wo, rfl⟩ : ∃ wo, wo = wr := ⟨_, rfl⟩
    by_cases hck : c = k
    · obtain rfl : L = k := by omega
      subst hck
      have e0 : zs.drop c = [] := List.drop_eq_nil_of_le (by rw [Hzl.out]; exact Nat.le_refl _)
      rw [e0, all_empty, List.append_nil, Nat.add_zero] at hAL
      have hde := RDecode_nil (w := wo) (a := some ⟨gb, go_, none⟩) (c := 0) (by decide)
      have Hde := Lib.hid hde; clear hde
      have HA := Lib.hid hAL; clear hAL
      have Hout := Lib.hid hout; clear hout
      have Hb := Lib.hid hb; clear hb e0
      go_wp2_with fail
      refine Hde.out.mono ?_
      rintro e w5 ⟨rfl, bk⟩
      have o5 := Hout.out.below bk
      have b5 := Hb.out.trans (bk.mono Hb.out.size)
      have b56 := (Below.refl w5.heap.size w5).alloc (Nat.le_refl _) (.cells #[.int .i64 0, .int .i64 0, .int .u16 0, .int .u8 0, .int .u8 0, .int .u8 0, .int .u8 0, .bool false, .int .i64 0, .bool false, .int .i64 0] 63)
      have o6 := o5.below b56
      have b6 := b5.trans (b56.mono b5.size)
      clear o5 b5 b56 bk Hout Hb
      have O6 := Lib.hid o6; clear o6
      have B6 := Lib.hid b6; clear b6
      go_wp2_with fail
      go_ret2
      exact ⟨_, by rw [HA.out]; rfl, by rw [HA.out]; exact O6.out, B6.out⟩
    · have hr := Hx.out.dropAt k hk
      have hde := RDecode_calls (hr.keep hb)
      have hdl := dec_le (zs.drop k)
      have hd0 : (dec (zs.drop k)).2 = 0 → allR (zs.drop k) = ([], 0) := all_none
      have hd1 : (dec (zs.drop k)).2 ≠ 0 → allR (zs.drop k) = ((dec (zs.drop k)).1 :: (allR (zs.drop (k + (dec (zs.drop k)).2))).1, (dec (zs.drop k)).2 + (allR (zs.drop (k + (dec (zs.drop k)).2))).2) := fun h => by
        rw [all_more h, List.drop_drop]
      rw [List.length_drop, Hzl.out] at hdl
      obtain ⟨D, hD⟩ : ∃ D, D = dec (zs.drop k) := ⟨_, rfl⟩
      rw [← hD] at hde hdl hd0 hd1
      clear hD
      obtain ⟨⟨kd, t, m, k0, k1, k2, k3, ot, o, nt, n⟩, N⟩ := D
      simp only [Rc.cells] at hde
      simp only at hdl hd0 hd1
      obtain ⟨va, vc, rfl⟩ := hout.shape
      have Hout := Lib.hid hout; clear hout
      have Hr := Lib.hid hr; clear hr
      have HA := Lib.hid hAL; clear hAL
      have Hb := Lib.hid hb; clear hb
      have Hde := Lib.hid hde; clear hde
      have Hd0 := Lib.hid hd0; clear hd0
      have Hd1 := Lib.hid hd1; clear hd1
      go_wp2_with fail
      refine Hde.out.mono ?_
      rintro e w5 ⟨rfl, bk⟩
      have o5 := Hout.out.below bk
      have b5 := Hb.out.trans (bk.mono Hb.out.size)
      clear Hout Hb bk Hde
      obtain ⟨w6, hw6⟩ : ∃ w6, w6 = w5.alloc (.cells #[.int .i64 kd, .int .i64 t, .int .u16 m, .int .u8 k0, .int .u8 k1, .int .u8 k2, .int .u8 k3, .bool ot, .int .i64 o, .bool nt, .int .i64 n] 63) := ⟨_, rfl⟩
      have b56 : Below w5.heap.size w5 w6 := by rw [hw6]; exact (Below.refl _ _).alloc (Nat.le_refl _) _
      have z6 : w6.heap[w5.heap.size]? = some (.cells #[.int .i64 kd, .int .i64 t, .int .u16 m, .int .u8 k0, .int .u8 k1, .int .u8 k2, .int .u8 k3, .bool ot, .int .i64 o, .bool nt, .int .i64 n] 63 (0, 0)) := by rw [hw6]; exact heap_alloc_new w5 _
      have o6 := o5.below b56
      have b6 := b5.trans (b56.mono b5.size)
      have s6 : w6.heap.size = w5.heap.size + 1 := by rw [hw6, World.size_alloc]
      clear o5 b5 b56
      have O6 := Lib.hid o6; clear o6
      have B6 := Lib.hid b6; clear b6
      have Z6 := Lib.hid z6; clear z6
      have S6 := Lib.hid s6; clear s6
      by_cases hN : N = 0
      · subst hN
        have hA := HA.out
        rw [Hd0.out rfl, List.append_nil, Nat.add_zero] at hA
        have HA2 := Lib.hid hA; clear hA HA Hd1
        go_wp2_with fail
        rw [← hw6]
        clear hw6
        go_ret2
        exact ⟨_, by rw [HA2.out]; rfl, by rw [HA2.out]; exact O6.out, B6.out⟩
      · have d0 : ((N : Int) == 0) = false := by simpa using hN
        have hA := HA.out
        rw [Hd1.out hN] at hA
        have hN1 : 1 ≤ N := by omega
        have HA2 := Lib.hid hA; clear hA HA Hd0 Hd1 hN
        have hNl : N ≤ L - k := by omega
        have Z7 := Z6
        have y0 := cells_at Z6.out 0
        have y1 := cells_at Z6.out 1
        have y2 := cells_at Z6.out 2
        have y3 := cells_at Z6.out 3
        have y4 := cells_at Z6.out 4
        have y5 := cells_at Z6.out 5
        have y6 := cells_at Z6.out 6
        have y7 := cells_at Z6.out 7
        have y8 := cells_at Z6.out 8
        have y9 := cells_at Z6.out 9
        have y10 := cells_at Z6.out 10
        go_wp2_with (with_reducible refine stop_load 63 ?_)
        refine unpark ?_
        rw [← hw6]
        clear hw6
        go_wp2_with (with_reducible refine stop_builtin .append ?_)
        refine unpark ?_
        clear y0 y1 y2 y3 y4 y5 y6 y7 y8 y9 y10
        have b67 := (Below.refl w6.heap.size w6).alloc (Nat.le_refl _) (.cells #[.int .i64 kd, .int .i64 t, .int .u16 m, .int .u8 k0, .int .u8 k1, .int .u8 k2, .int .u8 k3, .bool ot, .int .i64 o, .bool nt, .int .i64 n] 63)
        have z7 := heap_alloc_new w6 (.cells #[.int .i64 kd, .int .i64 t, .int .u16 m, .int .u8 k0, .int .u8 k1, .int .u8 k2, .int .u8 k3, .bool ot, .int .i64 o, .bool nt, .int .i64 n] 63)
        have o7 := O6.out.below b67
        have b7 := B6.out.trans (b67.mono B6.out.size)
        generalize w6.alloc (.cells #[.int .i64 kd, .int .i64 t, .int .u16 m, .int .u8 k0, .int .u8 k1, .int .u8 k2, .int .u8 k3, .bool ot, .int .i64 o, .bool nt, .int .i64 n] 63) = w7 at *
        refine wpList_append_rec1 rcElem _ rfl _ _ rfl w.heap.size (.slice va out.length vc) out rfl o7 w6.heap.size 1 (by decide) (by decide) ⟨kd, t, m, k0, k1, k2, k3, ot, o, nt, n⟩ rfl z7 (fun j u hu => by rw [List.getElem?_toArray]; exact hu) (by omega) b7.size ?_
        intro v' w8 own8 g8 _
        have b8 := b7.grown g8 b7.size (fun k hk => (o7.lt k hk).1)
        obtain ⟨v8, c8, rfl⟩ := own8.shape
        have Own8 := Lib.hid own8; clear own8 o7
        have B8 := Lib.hid b8; clear b8 b7 b67 z7 g8
        have hA2 := HA2.out
        have hA3 : AL = ((out ++ [⟨kd, t, m, k0, k1, k2, k3, ot, o, nt, n⟩]) ++ (allR (zs.drop (k + N))).1, (k + N) + (allR (zs.drop (k + N))).2) := by rw [hA2, List.append_assoc, Nat.add_assoc]; rfl
        have HA3 := Lib.hid hA3; clear hA3 hA2 HA2
        have hlen2 : (out ++ [(⟨kd, t, m, k0, k1, k2, k3, ot, o, nt, n⟩ : Rc)]).length ≤ k + N := by simp; omega
        clear O6 B6 Z6 Z7 S6
        generalize (out ++ [(⟨kd, t, m, k0, k1, k2, k3, ot, o, nt, n⟩ : Rc)]) = out2 at *
        go_wp2
        go_roundw
        case rel => exact ⟨out2, k + N, Own8.out, rfl, by omega, HA3.out, hlen2, B8.out⟩
        case measure => simp [intOf]; omega
end Go.Proofs.YtgpedejeifmfdaaGreat
/- The document's Join. -/
namespace Go.Proofs.YtgpedejeifmfdaaGreat
open Go.RowKit

set_option maxHeartbeats 4000000 in
theorem RJoin_calls {w : World} {a : Option Addr} {L c : Nat} {l : List Rc} (hx : Recs rcF w a L c l) (hok : ∀ r ∈ l, r.ok) (hL : L ≤ 100000) : Calls Tryz.prog 42 #[.slice a L c] w fun e w' =>
    ∃ v, e = .returned (.tuple #[v, .bool (rightAll l)]) ∧ Own w' w.heap.size 5 .u8 v (if rightAll l = true then encs l else []) ∧ Below w.heap.size w w' := by
  have hl := hx.len
  obtain ⟨Z, hZ⟩ : ∃ Z, Z = if rightAll l = true then encs l else [] := ⟨_, rfl⟩
  obtain ⟨R, hR⟩ : ∃ R, R = rightAll l := ⟨_, rfl⟩
  rw [← hZ, ← hR]
  have HZ := Lib.hid hZ; clear hZ
  have HR := Lib.hid hR; clear hR
  have Hx := Lib.hid hx; clear hx
  have Hl := Lib.hid hl; clear hl
  have Hok := Lib.hid hok; clear hok
  have hl0 := Hx.out.le
  have hl1 := Hx.out.max
  have O1 := Lib.hid (own_empty w w.heap.size 5 .u8 (Nat.le_refl _))
  have B1 := Lib.hid ((Below.refl w.heap.size w).alloc (Nat.le_refl _) (.cells #[] 5))
  go_enter Tryz.func42, Tryz.ntmps42
  go_wp2_with fail
  go_loopw [4, 5] (fun u v wr => ∃ j : Nat, j ≤ L ∧ v = .int .i64 j ∧ Own wr w.heap.size 5 .u8 u (encs (l.take j)) ∧ (l.take j).all rightRc = true ∧ Below w.heap.size w wr) (fun _ v _ => L - (intOf v).toNat)
  case atStart => exact ⟨0, Nat.zero_le _, rfl, O1.out, rfl, B1.out⟩
  case round =>
    clear O1 B1
    obtain ⟨j, hj, rfl, hown, hall, hb⟩ := hrel
    obtain ⟨wo, rfl⟩ : ∃ wo, wo = wr := ⟨_, rfl⟩
    by_cases hlt : j < L
    · have hjl : j < l.length := by rw [Hl.out]; exact hlt
      have hx2 := Hx.out.keep hb
      obtain ⟨ga, oa, rfl⟩ := hx2.addr (by omega)
      have hcx := hx2.at hjl
      have hrok := Hok.out _ (List.getElem_mem hjl)
      have het := encs_take hjl
      have hat : (l.take (j + 1)).all rightRc = ((l.take j).all rightRc && rightRc l[j]) := by rw [List.take_succ_eq_append_getElem hjl, List.all_append]; simp
      have hall2 : rightRc l[j] = false → rightAll l = false := fun h => by
        unfold rightAll
        rw [List.all_eq_false]
        exact ⟨_, List.getElem_mem hjl, by rw [h]; decide⟩
      obtain ⟨r, hr⟩ : ∃ r, r = l[j] := ⟨_, rfl⟩
      rw [← hr] at hcx hrok het hat hall2
      clear hr
      have hen := fun w : World => REncode_calls (w := w) r hrok
      have hel := enc_len24 r
      have hsl := encs_len (l.take j)
      rw [List.length_take, show min j l.length = j by omega] at hsl
      have x0 := hcx 0 _ rfl
      have x1 := hcx 1 _ rfl
      have x2 := hcx 2 _ rfl
      have x3 := hcx 3 _ rfl
      have x4 := hcx 4 _ rfl
      have x5 := hcx 5 _ rfl
      have x6 := hcx 6 _ rfl
      have x7 := hcx 7 _ rfl
      have x8 := hcx 8 _ rfl
      have x9 := hcx 9 _ rfl
      have x10 := hcx 10 _ rfl
      simp only [rcF, Nat.add_zero] at x0 x1 x2 x3 x4 x5 x6 x7 x8 x9 x10
      clear hcx hx2
      have i1 : (0 : Int) ≤ (j : Int) := by omega
      have i2 : (j : Int) < (L : Int) := by omega
      obtain ⟨va, vc, rfl, -⟩ := hown.ints
      have Hown := Lib.hid hown; clear hown
      have Hen := Lib.hid hen; clear hen
      have Hat := Lib.hid hat; clear hat
      have Het := Lib.hid het; clear het
      have Hall := Lib.hid hall; clear hall
      have Hall2 := Lib.hid hall2; clear hall2
      have Hb := Lib.hid hb; clear hb hrok
      obtain ⟨B, hB⟩ : ∃ B, B = rightRc r := ⟨_, rfl⟩
      have hen := Hen.out
      have hat := Hat.out
      have hall2 := Hall2.out
      rw [← hB] at hen hat hall2
      have het := Het.out
      obtain ⟨E, hE⟩ : ∃ E, E = enc r := ⟨_, rfl⟩
      rw [← hE] at hen het hel
      clear hB hE Hen Hat Hall2 Het
      have Hat := Lib.hid hat; clear hat
      have Hall2 := Lib.hid hall2; clear hall2
      have Het := Lib.hid het; clear het
      obtain ⟨kd, t, m, k0, k1, k2, k3, ot, o, nt, n⟩ := r
      simp only [Rc.cells] at hen
      simp only at x0 x1 x2 x3 x4 x5 x6 x7 x8 x9 x10
      have Hen := Lib.hid hen; clear hen
      have Own4 := Lib.hid Hown.out; clear Hown
      have B04 := Lib.hid Hb.out; clear Hb
      cases B with
      | false =>
        have hR := HR.out
        have hZ := HZ.out
        rw [Hall2.out rfl] at hR hZ
        rw [if_neg (by decide)] at hZ
        have HR2 := Lib.hid hR; clear hR HR
        have HZ2 := Lib.hid hZ; clear hZ HZ
        go_wp2_with fail
        refine (Hen.out _).mono ?_
        rintro e w5 ⟨v, rfl, own5, b5⟩
        have b05 := B04.out.trans (b5.mono B04.out.size)
        clear own5 b5
        have B05 := Lib.hid b05; clear b05
        go_wp2_with fail
        go_ret2
        exact ⟨_, by rw [HR2.out]; rfl, by rw [HZ2.out]; exact own_nil _ _ _ _, B05.out⟩
      | true =>
        go_wp2_with fail
        clear x0 x1 x2 x3 x4 x5 x6 x7 x8 x9 x10
        refine (Hen.out _).mono ?_
        rintro e w5 ⟨v, rfl, own5, b5⟩
        rw [if_pos trivial] at own5
        have b05 := B04.out.trans (b5.mono B04.out.size)
        have own45 := Own4.out.below b5
        obtain ⟨ea, ec, rfl, ei, -⟩ := own5.ints
        clear own5 b5 Own4
        have Own5 := Lib.hid own45; clear own45
        have B05 := Lib.hid b05; clear b05
        have Ei := Lib.hid ei; clear ei
        go_wp2_with (with_reducible refine stop_builtin .append ?_)
        refine unpark ?_
        refine wpList_append_ints _ rfl _ _ 39 rfl .u8 w.heap.size 5 (.int .u8 0) 1 Tryz.underlying39 Tryz.infoU8 rfl _ _ rfl Own5.out _ E.length ec _ rfl Ei.out (by omega) (by decide) B05.out.size ?_
        intro v' w6 own6 g6 _
        have b06 := B05.out.grown g6 B05.out.size (fun k hk => (Own5.out.block k hk).1)
        rw [← Het.out] at own6
        have hal : (l.take (j + 1)).all rightRc = true := by rw [Hat.out, Hall.out]; rfl
        clear Own5 B05 Ei g6 Hen Het Hall Hat Hall2
        have B06 := Lib.hid b06; clear b06
        have Own6 := Lib.hid own6; clear own6
        have Hal := Lib.hid hal; clear hal
        go_wp2_with fail
        go_roundw
        case rel => exact ⟨j + 1, by omega, by go_num, Own6.out, Hal.out, B06.out⟩
        case measure => simp [intOf]; omega
    · obtain rfl : j = L := by omega
      have e : l.take j = l := by rw [← Hl.out, List.take_length]
      rw [e] at hown hall
      have hR := HR.out
      have hZ := HZ.out
      rw [show rightAll l = true from hall] at hR hZ
      rw [if_pos rfl] at hZ
      have HR2 := Lib.hid hR; clear hR HR
      have HZ2 := Lib.hid hZ; clear hZ HZ
      have Hown := Lib.hid hown; clear hown hall e
      have Hb := Lib.hid hb; clear hb
      go_wp2_with fail
      go_ret2
      exact ⟨_, by rw [HR2.out]; rfl, by rw [HZ2.out]; exact Hown.out, Hb.out⟩
end Go.Proofs.YtgpedejeifmfdaaGreat
