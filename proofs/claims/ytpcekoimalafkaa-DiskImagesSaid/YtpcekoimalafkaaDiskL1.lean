/- DiskImages: the walk of the law. -/
import Derived.Test.YtpcekoimalafkaaDiskB
import Derived.Test.YtpcekoimalafkaaDiskP
import Derived.Test.YtpcekoimalafkaaDiskO
namespace Go.Proofs.Ytpcekoimalafkaa
open Go.RowKit

set_option maxHeartbeats 2000000 in
theorem lawDiskImages {w : World} {n : Int} (_hn : (Lit.int .i64 n).wf = true) {a : Option Addr} {m c : Nat} {xs : List CallV} (hr : CallRow w a m c xs) :
    Calls Try.prog 8 #[.int .i64 n, .slice a m c] w fun e w' => e = .returned (.bool true) ∧ Below w.heap.size w w' := by
  go_enter Try.func8, Try.ntmps8
  go_wp2_with fail
  refine alive_calls.mono ?_
  rintro e w1 ⟨rfl, b1⟩
  have hr1 := hr.keep b1
  have B1 := Lib.hid b1; clear b1
  go_wp2_with fail
  refine (great_calls hr1).mono ?_
  rintro e w2 ⟨rfl, rfl⟩
  cases hg : greatOf xs with
  | true =>
    go_wp2
    go_ret
    exact ⟨rfl, B1.out⟩
  | false =>
  by_cases h1 : n < 1
  · have hd : decide (n < 1) = true := decide_eq_true h1
    go_wp2
    go_ret
    exact ⟨rfl, B1.out⟩
  by_cases h2 : 40 < n
  · have hd1 : decide (n < 1) = false := decide_eq_false h1
    have hd : decide (40 < n) = true := decide_eq_true h2
    go_wp2
    go_ret
    exact ⟨rfl, B1.out⟩
  have hd1 : decide (n < 1) = false := decide_eq_false h1
  have hd2 : decide (40 < n) = false := decide_eq_false h2
  obtain ⟨N, rfl⟩ : ∃ N : Nat, n = N := ⟨n.toNat, by omega⟩
  have HG := Lib.hid hg; clear hg
  go_wp2_with fail
  refine (begin_dev (w0 := w) B1.out (by omega) (by omega) hr1 HG.out).mono ?_
  rintro e w3 ⟨b, F, rfl, d3, _, _⟩
  obtain ⟨s, hs⟩ : ∃ s, s = stepsOf (fresh N, []) xs := ⟨_, rfl⟩
  rw [← hs] at d3
  have hlen : s.1.length = N := by rw [hs, (stepsOf_len _ _).1]; simp [fresh]
  clear hs hr1 hd1 hd2
  have hF : ∀ k, F k → k < w3.heap.size := fun k hk => (d3.low k hk).2
  have hF2 := Lib.hid hF; clear hF
  have Hlen := Lib.hid hlen; clear hlen
  have hb3 := Lib.hid d3.bel
  go_wp2_with fail
  have d4 := d3.step (w' := w3.alloc (.cells #[] 5)) ((Below.refl _ _).alloc (Nat.le_refl _) _)
  have own0 : Own (w3.alloc (.cells #[] 5)) w3.heap.size 5 .u8 (.slice (some ⟨w3.heap.size, 0, none⟩) 0 0) [] :=
    ⟨World.ownsRow_made w3 #[] 0 (Nat.le_refl _) (by unfold maxLen; omega) rfl, fun _ h => by cases h⟩
  go_loopw [6, 7] (fun v i wr => ∃ j : Nat, j ≤ N ∧ i = .int .i64 j ∧ Dev w wr b F s ∧ Own wr w3.heap.size 5 .u8 v (firsts s j) ∧ w3.heap.size ≤ wr.heap.size) (fun _ i _ => N - (intOf i).toNat)
  case atStart => exact ⟨0, by omega, rfl, d4, own0, by simp⟩
  case round =>
    obtain ⟨j, hj, rfl, dr, hown, hle⟩ := hrel
    clear d3 d4 own0
    by_cases hlt : j < N
    · have hrd := Read_dev dr (j : Int)
      have i1 : (0 : Int) ≤ (j : Int) := by omega
      have i2 : (j : Int) < (N : Int) := by omega
      rw [show readErr s (j : Int) = 0 by unfold readErr; rw [Hlen.out, if_pos ⟨i1, i2⟩]] at hrd
      have hsec := dr.sector (k := (j : Int)) (by rw [Hlen.out]; exact ⟨i1, i2⟩)
      have hfl := firsts_len dr j (by rw [Hlen.out]; omega)
      have hfs := firsts_succ s j
      have Hfs := Lib.hid hfs; clear hfs
      have Hfl := Lib.hid hfl; clear hfl
      go_wp2_with fail
      refine hrd.mono ?_
      rintro e w5 ⟨v5, rfl, o5, b5, d5⟩
      obtain ⟨g5, c5, rfl, x5⟩ := o5.ofInts (n := 32) hsec.1 (by decide)
      have hown5 := hown.below b5
      have hle5 := Nat.le_trans hle b5.size
      clear hrd o5 b5 hown
      have Hd5 := Lib.hid d5; clear d5 dr
      have Hsec := Lib.hid hsec; clear hsec
      go_wp2_with (with_reducible refine stop_builtin .append ?_)
      refine unpark ?_
      refine wpList_append_ints _ rfl _ _ 32 rfl .u8 w3.heap.size 5 (.int .u8 0) 1 Try.underlying32 Try.infoU8 rfl _ (firsts s j) rfl hown5 _ 32 c5 _ rfl x5 (by rw [Hfl.out]; omega) (by decide) hle5 ?_
      intro v6 w6 own6 grown6 _
      have d6 := Hd5.out.aside (G := fun k => w3.heap.size ≤ k) (Mod.of_grown grown6 fun k hk => (hown5.block k hk).1) (fun k hk => by have := hF2.out k hk; omega) (fun k hk => Nat.le_trans hb3.out.size hk)
      have hle6 := Nat.le_trans hle5 grown6.size
      rw [← Hfs.out] at own6
      clear hown5 x5 grown6
      have Hd6 := Lib.hid d6; clear d6
      have Ho6 := Lib.hid own6; clear own6
      go_wp2_with fail
      go_roundw
      case rel => exact ⟨j + 1, by omega, by go_num, Hd6.out, Ho6.out, hle6⟩
      case measure => simp [intOf]; omega
    · obtain rfl : j = N := by omega
      go_wp2_with fail
      refine (Flush_dev dr).mono ?_
      rintro e w5 ⟨rfl, d5, m5⟩
      have own5 := m5.own hown fun g hg hFg => by have := hF2.out g hFg; have := (hown.block g hg).1; omega
      have hfl := firsts_len dr j (by rw [Hlen.out]; omega)
      have him := image_firsts s fun p hp => (dr.wrs p hp).2.1
      rw [Hlen.out] at him
      obtain ⟨a5, n5, c5, rfl, x5, _⟩ := own5.read
      have Him := Lib.hid him; clear him
      clear hown own5 dr m5
      go_wp2_with fail
      refine (Image_dev d5).mono ?_
      rintro e w6 ⟨v6, rfl, o6, b6, d6⟩
      obtain ⟨a6, n6, c6, rfl, x6, _⟩ := o6.read
      have x5' := x5.keep b6
      clear x5 o6 d5 b6
      go_wp2_with fail
      refine (SameBytes_yes x6 x5' Him.out).mono ?_
      rintro e w7 ⟨rfl, n7, rfl⟩
      have d7 := d6.step (w' := w6.drewN n7) ⟨rfl, rfl, rfl, Nat.le_refl _, fun _ _ => rfl⟩
      clear d6 x5' x6
      generalize w6.drewN n7 = w7 at *
      go_wp2_with fail
      refine (Loose_dev d7).mono ?_
      rintro e _ ⟨rfl, rfl⟩
      have Hb := Lib.hid d7.bel
      clear d7
      simp only [List.length_nil]
      go_wp2
      go_ret
      exact ⟨rfl, Hb.out⟩
end Go.Proofs.Ytpcekoimalafkaa
