/- A row of calls that came in; great. -/
import Derived.Test.YtpcekoimalafkaaDisk6
namespace Go.Proofs.Ytpcekoimalafkaa
open Go.RowKit

structure CallV where
  what : Int
  place : Int
  tear : Int
  da : Option Addr
  dn : Nat
  dc : Nat
  zs : List Int
def CallV.cells (x : CallV) : List Value := [.int .i64 x.what, .int .i64 x.place, .int .i64 x.tear, .slice x.da x.dn x.dc]
structure CallOk (w : World) (x : CallV) : Prop where
  data : Ints w .u8 x.da x.dn x.dc x.zs
  what : (Lit.int .i64 x.what).wf = true
  place : (Lit.int .i64 x.place).wf = true
  tear : (Lit.int .i64 x.tear).wf = true
structure CallRow (w : World) (a : Option Addr) (n c : Nat) (xs : List CallV) : Prop where
  len : xs.length = n
  le : n ≤ c
  max : c ≤ 9223372036854775807
  ok : ∀ x ∈ xs, CallOk w x
  cell : 0 < n → ∃ b o, a = some ⟨b, o, none⟩ ∧ ∀ j (hj : j < xs.length) k, k < 4 → w.cell? ⟨b, o + (j * 4 + k), none⟩ = xs[j].cells[k]?
theorem CallRow.keep {w w' : World} {a : Option Addr} {n c : Nat} {xs : List CallV} (h : CallRow w a n c xs) (hb : Below w.heap.size w w') : CallRow w' a n c xs := by
  refine ⟨h.len, h.le, h.max, fun x hx => ⟨(h.ok x hx).data.keep hb, (h.ok x hx).what, (h.ok x hx).place, (h.ok x hx).tear⟩, fun hn => ?_⟩
  obtain ⟨b, o, rfl, hc⟩ := h.cell hn
  have hl := h.len
  have h0 : w.cell? ⟨b, o + (0 * 4 + 0), none⟩ = _ := hc 0 (by omega) 0 (by decide)
  have hlt := World.block_lt_of_cell? w _ h0
  exact ⟨b, o, rfl, fun j hj k hk => (World.cell?_of_block (hb.block b hlt)).trans (hc j hj k hk)⟩

def greatOf (xs : List CallV) : Bool := decide (80 < xs.length) || xs.any fun x => decide (100 < x.dn)

set_option maxHeartbeats 1000000 in
theorem great_calls {w : World} {a : Option Addr} {n c : Nat} {xs : List CallV} (h : CallRow w a n c xs) :
    Calls Try.prog 10 #[.slice a n c] w fun e w' => e = .returned (.bool (greatOf xs)) ∧ w' = w := by
  have hl := h.len
  by_cases hn : 80 < n
  · have hd : decide ((80 : Int) < (n : Int)) = true := decide_eq_true (by omega)
    have hg : greatOf xs = true := by unfold greatOf; rw [decide_eq_true (by omega)]; rfl
    rw [hg]
    clear hg
    go_enter Try.func10, Try.ntmps10
    go_wp2
    go_ret
    exact ⟨rfl, rfl⟩
  · have hd : decide ((80 : Int) < (n : Int)) = false := decide_eq_false (by omega)
    have hg : greatOf xs = xs.any fun x => decide (100 < x.dn) := by unfold greatOf; rw [decide_eq_false (by omega)]; rfl
    rw [hg]
    clear hg
    have Hl := Lib.hid hl; clear hl
    go_enter Try.func10, Try.ntmps10
    go_wp2_with fail
    go_loopw [3] (fun i wr' => ∃ j : Nat, j ≤ n ∧ i = .int .i64 j ∧ (xs.take j).any (fun x => decide (100 < x.dn)) = false ∧ wr' = w) (fun i _ => n - (intOf i).toNat)
    case atStart => exact ⟨0, by omega, rfl, by simp, rfl⟩
    case round =>
      obtain ⟨j, hj, rfl, hany, rfl⟩ := hrel
      by_cases hlt : j < n
      · obtain ⟨b, o, rfl, hc⟩ := h.cell (by omega)
        have hjx : j < xs.length := by rw [Hl.out]; exact hlt
        have hcell : wr.cell? ⟨b, o + (j * 4 + 3), none⟩ = some (.slice xs[j].da xs[j].dn xs[j].dc) := hc j hjx 3 (by decide)
        have hcell2 : wr.cell? ⟨b, o + j * 4 + 3, none⟩ = some (.slice xs[j].da xs[j].dn xs[j].dc) := by rw [Nat.add_assoc]; exact hcell
        have htk : xs.take (j + 1) = xs.take j ++ [xs[j]] := List.take_succ_eq_append_getElem hjx
        have hin : xs[j] ∈ xs := List.getElem_mem _
        obtain ⟨x, hx⟩ : ∃ x, x = xs[j] := ⟨_, rfl⟩
        rw [← hx] at hcell hcell2 htk hin
        clear hx hc hcell
        have Htk := Lib.hid htk; clear htk
        have Hin := Lib.hid hin; clear hin
        have Hany := Lib.hid hany; clear hany
        have i1 : (0 : Int) ≤ (j : Int) := by omega
        have i2 : (j : Int) < (n : Int) := by omega
        by_cases hb : 100 < x.dn
        · have hbi : decide ((100 : Int) < (x.dn : Int)) = true := decide_eq_true (by omega)
          have Hb := Lib.hid hb; clear hb
          go_wp2
          go_ret
          refine ⟨?_, rfl⟩
          have : (xs.any fun x => decide (100 < x.dn)) = true := List.any_eq_true.2 ⟨x, Hin.out, decide_eq_true Hb.out⟩
          rw [this]
          rfl
        · have hbi : decide ((100 : Int) < (x.dn : Int)) = false := decide_eq_false (by omega)
          have Hb := Lib.hid hb; clear hb
          go_wp2
          go_roundw
          case rel => exact ⟨j + 1, by omega, by go_num, by rw [Htk.out, List.any_append, Hany.out]; simpa using Hb.out, by first | trivial | rfl⟩
          case measure => simp [intOf]; omega
      · obtain rfl : j = n := by omega
        have Hany := Lib.hid hany; clear hany
        go_wp2
        go_ret
        refine ⟨?_, rfl⟩
        have := Hany.out
        rw [List.take_of_length_le (by rw [Hl.out]; exact Nat.le_refl _)] at this
        rw [this]
        rfl
end Go.Proofs.Ytpcekoimalafkaa
