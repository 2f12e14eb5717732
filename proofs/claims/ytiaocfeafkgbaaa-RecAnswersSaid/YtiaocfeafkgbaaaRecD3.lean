/- The document's number. -/
import Derived.Test.YtiaocfeafkgbaaaRecDP
import Derived.Test.YtiaocfeafkgbaaaPkF
namespace Go.Proofs.Ytiaocfeafkgbaaa
open Go.RowKit

set_option maxHeartbeats 2000000 in
theorem Rnumber_calls {w : World} {a : Option Addr} {L c : Nat} {zs : List Int} (hx : Ints w .u8 a L c zs) {p n : Nat} (hn : 1 ≤ n ∧ n ≤ 8) (hp : p + n ≤ L) : Calls Try.prog 35 #[.slice a L c, .int .i64 p, .int .i64 n] w fun e w' => e = .returned (.int .i64 (rvalAt (zs.drop p) n)) ∧ w' = w := by
  have hle := hx.le
  have hmx := hx.max
  have hfit : ∀ z ∈ zs, 0 ≤ z ∧ z ≤ 255 := fun z hz => wf_u8 (hx.fit z hz)
  obtain ⟨b, o, rfl, -⟩ := hx.cell (by omega)
  have hsl := (hx.dropAt p (by omega)).take n (by omega)
  have hfl : fromZ ((zs.drop p).take n) < 256 ^ n := by
    have h1 := fromZ_lt ((zs.drop p).take n) fun z hz => hfit z (List.mem_of_mem_drop (List.mem_of_mem_take hz))
    exact Nat.lt_of_lt_of_le h1 (Nat.pow_le_pow_right (by decide) (by simp; omega))
  have hf64 : fromZ ((zs.drop p).take n) < 18446744073709551616 := Nat.lt_of_lt_of_le hfl (Nat.le_trans (Nat.pow_le_pow_right (by decide) hn.2) (by decide))
  have hfr := RFrom_calls hsl (by omega)
  have hzg := RZag_calls (w := w) hf64
  have hrv : rvalAt (zs.drop p) n = zagS (fromZ ((zs.drop p).take n) : Nat) := if_neg (by omega)
  rw [hrv]
  have hs1 : ((p : Int) + (n : Int)) ≤ (c : Int) := by omega
  have hs2 : (p : Int) ≤ (p : Int) + (n : Int) := by omega
  have hcp : c ≠ p := by omega
  clear hfl hf64 hrv hfit
  generalize fromZ ((zs.drop p).take n) = U at *
  have Hfr := Lib.hid hfr; clear hfr
  have Hzg := Lib.hid hzg; clear hzg hsl hx
  go_enter Try.func35, Try.ntmps35
  go_wp2_with fail
  refine Hfr.out.mono ?_
  rintro e w1 ⟨rfl, rfl⟩
  go_wp2_with fail
  refine Hzg.out.mono ?_
  rintro e w2 ⟨rfl, rfl⟩
  go_wp2_with fail
  go_ret
  exact ⟨rfl, rfl⟩
end Go.Proofs.Ytiaocfeafkgbaaa
