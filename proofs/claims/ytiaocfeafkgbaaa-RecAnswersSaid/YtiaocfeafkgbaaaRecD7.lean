/- The document's Join. -/
import Derived.Test.YtiaocfeafkgbaaaRecD4
namespace Go.Proofs.Ytiaocfeafkgbaaa
open Go.RowKit

set_option maxHeartbeats 4000000 in
theorem RJoin_calls {w : World} {a : Option Addr} {L c : Nat} {l : List Rc} (hx : Recs rcF w a L c l) (hok : ∀ r ∈ l, r.ok) (hL : L ≤ 100000) : Calls Try.prog 19 #[.slice a L c] w fun e w' =>
    ∃ v, e = .returned (.tuple #[v, .bool (rightAll l)]) ∧ Own w' w.heap.size 5 .u8 v (if rightAll l = true then encs l else []) ∧ Below w.heap.size w w' := by
  have hl := hx.len
  obtain ⟨Z, hZ⟩ : ∃ Z, Z = if rightAll l = true then encs l else [] := ⟨_, rfl⟩
  obtain ⟨R, hR⟩ : ∃ R, R = rightAll l := ⟨_, rfl⟩
  rw [← hZ, ← hR]
  have HZ := Lib.hid hZ; clear hZ
  have HR := Lib.hid hR; clear hR
  have Hx := Lib.hid hx; clear hx
  have Hl := Lib.hid hl; clear hl
  have Hok := Lib.hid hok; clear hok
  have hl0 := Hx.out.le
  have hl1 := Hx.out.max
  have O1 := Lib.hid (own_empty w w.heap.size 5 .u8 (Nat.le_refl _))
  have B1 := Lib.hid ((Below.refl w.heap.size w).alloc (Nat.le_refl _) (.cells #[] 5))
  go_enter Try.func19, Try.ntmps19
  go_wp2_with fail
  go_loopw [4, 5] (fun u v wr => ∃ j : Nat, j ≤ L ∧ v = .int .i64 j ∧ Own wr w.heap.size 5 .u8 u (encs (l.take j)) ∧ (l.take j).all rightRc = true ∧ Below w.heap.size w wr) (fun _ v _ => L - (intOf v).toNat)
  case atStart => exact ⟨0, Nat.zero_le _, rfl, O1.out, rfl, B1.out⟩
  case round =>
    clear O1 B1
    obtain ⟨j, hj, rfl, hown, hall, hb⟩ := hrel
    obtain ⟨wo, rfl⟩ : ∃ wo, wo = wr := ⟨_, rfl⟩
    by_cases hlt : j < L
    · have hjl : j < l.length := by rw [Hl.out]; exact hlt
      have hx2 := Hx.out.keep hb
      obtain ⟨ga, oa, rfl⟩ := hx2.addr (by omega)
      have hcx := hx2.at hjl
      have hrok := Hok.out _ (List.getElem_mem hjl)
      have het := encs_take hjl
      have hat : (l.take (j + 1)).all rightRc = ((l.take j).all rightRc && rightRc l[j]) := by rw [List.take_succ_eq_append_getElem hjl, List.all_append]; simp
      have hall2 : rightRc l[j] = false → rightAll l = false := fun h => by
        unfold rightAll
        rw [List.all_eq_false]
        exact ⟨_, List.getElem_mem hjl, by rw [h]; decide⟩
      obtain ⟨r, hr⟩ : ∃ r, r = l[j] := ⟨_, rfl⟩
      rw [← hr] at hcx hrok het hat hall2
      clear hr
      have hen := fun w : World => REncode_calls (w := w) r hrok
      have hel := enc_len24 r
      have hsl := encs_len (l.take j)
      rw [List.length_take, show min j l.length = j by omega] at hsl
      have x0 := hcx 0 _ rfl
      have x1 := hcx 1 _ rfl
      have x2 := hcx 2 _ rfl
      have x3 := hcx 3 _ rfl
      have x4 := hcx 4 _ rfl
      have x5 := hcx 5 _ rfl
      have x6 := hcx 6 _ rfl
      have x7 := hcx 7 _ rfl
      have x8 := hcx 8 _ rfl
      have x9 := hcx 9 _ rfl
      have x10 := hcx 10 _ rfl
      simp only [rcF, Nat.add_zero] at x0 x1 x2 x3 x4 x5 x6 x7 x8 x9 x10
      clear hcx hx2
      have i1 : (0 : Int) ≤ (j : Int) := by omega
      have i2 : (j : Int) < (L : Int) := by omega
      obtain ⟨va, vc, rfl, -⟩ := hown.ints
      have Hown := Lib.hid hown; clear hown
      have Hen := Lib.hid hen; clear hen
      have Hat := Lib.hid hat; clear hat
      have Het := Lib.hid het; clear het
      have Hall := Lib.hid hall; clear hall
      have Hall2 := Lib.hid hall2; clear hall2
      have Hb := Lib.hid hb; clear hb hrok
      obtain ⟨B, hB⟩ : ∃ B, B = rightRc r := ⟨_, rfl⟩
      have hen := Hen.out
      have hat := Hat.out
      have hall2 := Hall2.out
      rw [← hB] at hen hat hall2
      have het := Het.out
      obtain ⟨E, hE⟩ : ∃ E, E = enc r := ⟨_, rfl⟩
      rw [← hE] at hen het hel
      clear hB hE Hen Hat Hall2 Het
      have Hat := Lib.hid hat; clear hat
      have Hall2 := Lib.hid hall2; clear hall2
      have Het := Lib.hid het; clear het
      obtain ⟨kd, t, m, k0, k1, k2, k3, ot, o, nt, n⟩ := r
      simp only [Rc.cells] at hen
      simp only at x0 x1 x2 x3 x4 x5 x6 x7 x8 x9 x10
      have Hen := Lib.hid hen; clear hen
      have Own4 := Lib.hid Hown.out; clear Hown
      have B04 := Lib.hid Hb.out; clear Hb
      cases B with
      | false =>
        have hR := HR.out
        have hZ := HZ.out
        rw [Hall2.out rfl] at hR hZ
        rw [if_neg (by decide)] at hZ
        have HR2 := Lib.hid hR; clear hR HR
        have HZ2 := Lib.hid hZ; clear hZ HZ
        go_wp2_with fail
        refine (Hen.out _).mono ?_
        rintro e w5 ⟨v, rfl, own5, b5⟩
        have b05 := B04.out.trans (b5.mono B04.out.size)
        clear own5 b5
        have B05 := Lib.hid b05; clear b05
        go_wp2_with fail
        go_ret2
        exact ⟨_, by rw [HR2.out]; rfl, by rw [HZ2.out]; exact own_nil _ _ _ _, B05.out⟩
      | true =>
        go_wp2_with fail
        clear x0 x1 x2 x3 x4 x5 x6 x7 x8 x9 x10
        refine (Hen.out _).mono ?_
        rintro e w5 ⟨v, rfl, own5, b5⟩
        rw [if_pos trivial] at own5
        have b05 := B04.out.trans (b5.mono B04.out.size)
        have own45 := Own4.out.below b5
        obtain ⟨ea, ec, rfl, ei, -⟩ := own5.ints
        clear own5 b5 Own4
        have Own5 := Lib.hid own45; clear own45
        have B05 := Lib.hid b05; clear b05
        have Ei := Lib.hid ei; clear ei
        go_wp2_with (with_reducible refine stop_builtin .append ?_)
        refine unpark ?_
        refine wpList_append_ints _ rfl _ _ 25 rfl .u8 w.heap.size 5 (.int .u8 0) 1 Try.underlying25 Try.infoU8 rfl _ _ rfl Own5.out _ E.length ec _ rfl Ei.out (by omega) (by decide) B05.out.size ?_
        intro v' w6 own6 g6 _
        have b06 := B05.out.grown g6 B05.out.size (fun k hk => (Own5.out.block k hk).1)
        rw [← Het.out] at own6
        have hal : (l.take (j + 1)).all rightRc = true := by rw [Hat.out, Hall.out]; rfl
        clear Own5 B05 Ei g6 Hen Het Hall Hat Hall2
        have B06 := Lib.hid b06; clear b06
        have Own6 := Lib.hid own6; clear own6
        have Hal := Lib.hid hal; clear hal
        go_wp2_with fail
        go_roundw
        case rel => exact ⟨j + 1, by omega, by go_num, Own6.out, Hal.out, B06.out⟩
        case measure => simp [intOf]; omega
    · obtain rfl : j = L := by omega
      have e : l.take j = l := by rw [← Hl.out, List.take_length]
      rw [e] at hown hall
      have hR := HR.out
      have hZ := HZ.out
      rw [show rightAll l = true from hall] at hR hZ
      rw [if_pos rfl] at hZ
      have HR2 := Lib.hid hR; clear hR HR
      have HZ2 := Lib.hid hZ; clear hZ HZ
      have Hown := Lib.hid hown; clear hown hall e
      have Hb := Lib.hid hb; clear hb
      go_wp2_with fail
      go_ret2
      exact ⟨_, by rw [HR2.out]; rfl, by rw [HZ2.out]; exact Hown.out, Hb.out⟩
end Go.Proofs.Ytiaocfeafkgbaaa
