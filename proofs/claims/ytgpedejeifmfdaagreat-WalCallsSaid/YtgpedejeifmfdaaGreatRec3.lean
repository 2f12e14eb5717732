/- rec.small. -/
import Derived.Test.YtgpedejeifmfdaaGreatRec1
namespace Go.Proofs.YtgpedejeifmfdaaGreat
open Go.RowKit

theorem shr_nat (u k : Nat) : (u : Int) / 2 ^ (8 * k) = ((u / 256 ^ k : Nat) : Int) := by
  have e : (u : Int) / 2 ^ (8 * k) = ((u / 2 ^ (8 * k) : Nat) : Int) := by push_cast; rfl
  rw [e, pow8]
set_option maxHeartbeats 2000000 in
theorem small_calls {w : World} (t : Bool) (n : Int) (h0 : -9223372036854775808 ≤ n) (h1 : n ≤ 9223372036854775807) : Calls Tryz.prog 83 #[.agg #[.bool t, .int .i64 n]] w fun e w' => ∃ v, e = .returned v ∧ Own w' w.heap.size 5 .u8 v (smallS t n) ∧ Below w.heap.size w w' := by
  have hb := (Below.refl w.heap.size w).alloc (Nat.le_refl _) (.cells #[.bool t, .int .i64 n] 61)
  have z := heap_alloc_new w (.cells #[.bool t, .int .i64 n] 61)
  cases t
  · have ho := own_nil (w.alloc (.cells #[.bool false, .int .i64 n] 61)) w.heap.size 5 .u8
    have Hb := Lib.hid hb; clear hb
    have Ho := Lib.hid ho; clear ho
    clear z h0 h1
    go_enter Tryz.func83, Tryz.ntmps83
    go_wp2
    go_ret
    exact ⟨_, rfl, Ho.out, Hb.out⟩
  · obtain ⟨w1, hw1⟩ : ∃ w1, w1 = w.alloc (.cells #[.bool true, .int .i64 n] 61) := ⟨_, rfl⟩
    rw [← hw1] at hb z
    have y0 := cells_at z 0
    have y1 := cells_at z 1
    have hz := fun w : World => Zig_calls (w := w) h0 h1
    rw [← zigN_eq] at hz
    have hu := zigN_lt h0 h1
    have hs : smallS true n = bytesZ (nb (zigN n)) (zigN n) := by unfold smallS; rw [if_pos rfl]
    rw [hs]
    clear hs h0 h1
    generalize zigN n = u at *
    have hnb := nb_le u
    have hlt := nb_lt hu
    have hge := fun k h1 h2 => nbF_ge 7 u k h1 h2
    have Hz := Lib.hid hz; clear hz
    have Hb := Lib.hid hb; clear hb
    have Hge := Lib.hid hge; clear hge
    have Hlt := Lib.hid hlt; clear hlt
    clear z
    go_enter Tryz.func83, Tryz.ntmps83
    go_wp2_with fail
    rw [← hw1]
    clear hw1
    have Hu := Lib.hid hu; clear hu
    refine (Hz.out _).mono ?_
    rintro e w2 ⟨rfl, rfl⟩
    go_wp2_with fail
    clear y0 y1
    go_loopw [4] (fun v wr => ∃ k : Nat, 1 ≤ k ∧ k ≤ nb u ∧ v = .int .i64 k ∧ wr = w2) (fun v _ => nb u - (intOf v).toNat)
    case atStart => exact ⟨1, Nat.le_refl _, nb_pos u, rfl, rfl⟩
    case round =>
      obtain ⟨k, hk1, hk, rfl, rfl⟩ := hrel
      have hsh := shr_nat u k
      have hmin : min (8 * k) 64 = 8 * k := by omega
      by_cases he : k = nb u
      · have h0 : u / 256 ^ k = 0 := by rw [he]; exact Nat.div_eq_of_lt Hlt.out
        have hq : ((u / 256 ^ k : Nat) : Int) = 0 := by rw [h0]; rfl
        rw [hq] at hsh
        have hby := fun w : World => Bytes_calls (w := w) (n := k) Hu.out (by omega) (by rw [pow8]; exact h0)
        have Hby := Lib.hid hby; clear hby
        have He := Lib.hid he; clear he
        clear h0 hq
        have k8 : k ≤ 8 := by omega
        go_wp2_with fail
        refine (Hby.out _).mono ?_
        rintro e w3 ⟨v, rfl, o3, b3⟩
        have o3 := o3.mono Hb.out.size
        have b3 := Hb.out.trans (b3.mono Hb.out.size)
        have O3 := Lib.hid o3; clear o3
        have B3 := Lib.hid b3; clear b3
        obtain ⟨a, c, rfl, -⟩ := O3.out.ints
        go_wp2
        go_ret
        exact ⟨_, rfl, by rw [← He.out]; exact O3.out, B3.out⟩
      · have hge := Hge.out k hk1 (by show k < nb u; omega)
        have h0 : (((u / 256 ^ k : Nat) : Int) != 0) = true := by
          have := Nat.div_pos hge (Nat.pow_pos (by decide))
          simp only [bne_iff_ne, ne_eq]
          omega
        rw [← hsh] at h0
        clear hsh hge
        have k8 : k < 8 := by omega
        go_wp2
        go_roundw
        case rel => exact ⟨k + 1, by omega, by omega, by go_num, trivial⟩
        case measure => simp [intOf]; omega
end Go.Proofs.YtgpedejeifmfdaaGreat
