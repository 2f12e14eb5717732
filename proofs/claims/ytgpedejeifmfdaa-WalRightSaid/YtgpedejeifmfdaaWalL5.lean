/- WalRight: the walk of the law. -/
import Derived.Test.YtgpedejeifmfdaaWalK
import Derived.Test.YtgpedejeifmfdaaRecD2
namespace Go.Proofs.Ytgpedejeifmfdaa
open Go.RowKit Go.Sort

theorem fit_form {N : Nat} {l : Lg} {list : List Rc} {more : Nat} {spare : Int} : (fitE N l list more spare == 10) = !rightAll list := by
  unfold fitE
  cases rightAll list
  · simp
  · simp
    split
    · decide
    · split <;> decide
set_option maxHeartbeats 8000000 in
set_option maxRecDepth 100000 in
theorem lawWalRight {w : World} {n : Int} (_hn : (Lit.int .i64 n).wf = true) {a : Option Addr} {m c : Nat} {list : List Rc} (hx : RRow w a m c list) {spare : Int} (hs : (Lit.int .i64 spare).wf = true) :
    Calls Try.prog 7 #[.int .i64 n, .slice a m c, .int .i64 spare] w fun e w' => e = .returned (.bool true) ∧ Below w.heap.size w w' := by
  have hsp := wf_i64 hs
  have hlen := hx.recs.len
  have hle := hx.recs.le
  have hmx := hx.recs.max
  have HX := Lib.hid hx; clear hx
  have HLen := Lib.hid hlen; clear hlen
  have HSp := Lib.hid hsp; clear hsp
  go_enter Try.func7, Try.ntmps7
  go_wp2_with fail
  refine alive_wal.mono ?_
  rintro e w1 ⟨rfl, b1⟩
  have B1 := Lib.hid b1; clear b1
  by_cases h1 : n < 1
  · have d1 : decide (n < 1) = true := decide_eq_true h1
    go_wp2
    go_ret
    exact ⟨rfl, B1.out⟩
  have d1 : decide (n < 1) = false := decide_eq_false h1
  by_cases h2 : 200 < n
  · have d2 : decide (n > 200) = true := decide_eq_true h2
    have d2' : decide (200 < n) = true := decide_eq_true h2
    go_wp2
    go_ret
    exact ⟨rfl, B1.out⟩
  have d2 : decide (n > 200) = false := decide_eq_false h2
  have d2' : decide (200 < n) = false := decide_eq_false h2
  by_cases h5 : 60 < m
  · have d5 : decide ((m : Int) > 60) = true := decide_eq_true (by omega)
    have d5' : decide (60 < m) = true := decide_eq_true h5
    go_wp2
    go_ret
    exact ⟨rfl, B1.out⟩
  have d5 : decide ((m : Int) > 60) = false := decide_eq_false (by omega)
  have d5' : decide (60 < m) = false := decide_eq_false h5
  obtain ⟨N, rfl⟩ : ∃ N : Nat, n = N := ⟨n.toNat, by omega⟩
  have hN1 : 1 ≤ N := by omega
  have hN2 : N ≤ 200 := by omega
  have hbg := begin_wl (N := N) B1.out (by omega) (by omega)
  have Hbg := Lib.hid hbg; clear hbg
  go_wp2_with fail
  refine Hbg.out.mono ?_
  rintro e w2 ⟨b, lb, F, rfl, h6, -, -⟩
  clear Hbg d1 d2 d2' d5 d5' h1 h2
  have H6 := Lib.hid h6; clear h6
  go_wp2_with fail
  go_loopw [9, 10] (fun r i wr => ∃ j : Nat, j ≤ m ∧ i = .int .i64 j ∧ r = .bool ((list.take j).all rightRc) ∧ Wl w wr lb b F (fresh N, []) ⟨1, 1, 1⟩) (fun _ i _ => m - (intOf i).toNat)
  case atStart => exact ⟨0, Nat.zero_le _, rfl, rfl, H6.out⟩
  case round =>
    clear H6
    obtain ⟨j, hj, rfl, rfl, h7⟩ := hrel
    obtain ⟨wo, rfl⟩ : ∃ wo, wo = wr := ⟨_, rfl⟩
    by_cases hlt : j < m
    · have hjx : j < list.length := by rw [HLen.out]; exact hlt
      have hat : (list.take (j + 1)).all rightRc = ((list.take j).all rightRc && rightRc list[j]) := by rw [List.take_succ_eq_append_getElem hjx, List.all_append]; simp
      have hx7 := HX.out.keep h7.dev.bel
      obtain ⟨ga, oa, rfl⟩ := hx7.recs.addr (by omega)
      have hc := hx7.recs.at hjx
      have hok := hx7.ok _ (List.getElem_mem hjx)
      obtain ⟨r, hr⟩ : ∃ r, r = list[j] := ⟨_, rfl⟩
      rw [← hr] at hc hat hok
      clear hr hx7
      obtain ⟨A, hA⟩ : ∃ A, A = (list.take j).all rightRc := ⟨_, rfl⟩
      rw [← hA] at hat ⊢
      clear hA
      have i1 : (0 : Int) ≤ (j : Int) := by omega
      have i2 : (j : Int) < (m : Int) := by omega
      have H7 := Lib.hid h7; clear h7
      cases A with
      | false =>
        rw [Bool.false_and] at hat
        clear hc hok
        have HAt := Lib.hid hat; clear hat
        go_wp2_with fail
        go_roundw
        case rel => exact ⟨j + 1, by omega, by go_num, by rw [HAt.out], H7.out⟩
        case measure => simp [intOf]; omega
      | true =>
        rw [Bool.true_and] at hat
        have hri := fun w : World => RRight_calls (w := w) r hok.2.2.1.1
        obtain ⟨RR, hRR⟩ : ∃ R, R = rightRc r := ⟨_, rfl⟩
        rw [← hRR] at hat hri
        clear hRR hok
        have x0 := hc 0 _ rfl
        have x1 := hc 1 _ rfl
        have x2 := hc 2 _ rfl
        have x3 := hc 3 _ rfl
        have x4 := hc 4 _ rfl
        have x5 := hc 5 _ rfl
        have x6 := hc 6 _ rfl
        have x7 := hc 7 _ rfl
        have x8 := hc 8 _ rfl
        have x9 := hc 9 _ rfl
        have x10 := hc 10 _ rfl
        clear hc
        obtain ⟨kd, t, mk, k0, k1, k2, k3, ot, o, nt, nn⟩ := r
        simp only [rcF, Nat.add_zero] at x0 x1 x2 x3 x4 x5 x6 x7 x8 x9 x10
        simp only [Rc.cells] at hri
        have HAt := Lib.hid hat; clear hat
        have HRi := Lib.hid hri; clear hri
        go_wp2_with fail
        refine (HRi.out _).mono ?_
        rintro e w8 ⟨rfl, b8⟩
        have h8 := H7.out.step b8
        clear H7 HRi b8 x0 x1 x2 x3 x4 x5 x6 x7 x8 x9 x10
        have H8 := Lib.hid h8; clear h8
        go_wp2_with fail
        go_roundw
        case rel => exact ⟨j + 1, by omega, by go_num, by rw [HAt.out], H8.out⟩
        case measure => simp [intOf]; omega
    · obtain rfl : j = m := by omega
      have htk : (list.take j).all rightRc = rightAll list := by rw [List.take_of_length_le (by rw [HLen.out]; exact Nat.le_refl _)]; rfl
      rw [htk]
      have hx7 := HX.out.keep h7.dev.bel
      have hap := Append_wl h7 hx7.recs hx7.ok (by omega) (show ([] : List (Int × List Int)).length ≤ 990000 by decide) HSp.out
      have hfl : (fresh N).length = N := by simp [fresh]
      have hz := fit_zero (l := ⟨1, 1, 1⟩) (N := N) (list := list) (more := 0) (spare := spare)
      have hfo := fit_form (N := N) (l := ⟨1, 1, 1⟩) (list := list) (more := 0) (spare := spare)
      unfold appS at hap
      simp only [hfl] at hap
      obtain ⟨R, hR⟩ : ∃ R, R = rightAll list := ⟨_, rfl⟩
      rw [← hR] at hfo ⊢
      generalize fitE N ⟨1, 1, 1⟩ list 0 spare = E at hap hz hfo
      clear h7 htk
      have Hap := Lib.hid hap; clear hap
      have hf2 : (!R == R) = false := by cases R <;> rfl
      by_cases hE : E = 0
      · subst hE
        obtain ⟨z1, z2, z3, z4⟩ := hz rfl
        have hR1 := right_all z1 hx7.ok
        rw [z1] at hR
        subst hR
        have hnum : Nums ([] : List Sc).length (chunks 1 1 (encs list)) := nums_chunks (encs_fit hR1) (by simpa using z4) (by decide)
        have z3' : spare ≤ (N : Int) - ((1 : Nat) : Int) + ((1 : Nat) : Int) - ((needZ (encs list) + 0 : Nat) : Int) := z3
        have hle : ([] : List Sc).length + (chunks 1 1 (encs list)).length ≤ N := by
          rw [chunks_len, List.length_nil]
          omega
        have hhi := (hist_fresh N).lays hle hnum
        have hcl : (layS (fresh N, []) (chunks 1 1 (encs list))).2.length = needZ (encs list) := by rw [hhi.cache]; simp [chunks_len]
        have hlN : (layS (fresh N, []) (chunks 1 1 (encs list))).1.length = N := hfl
        have hse := fun (w' : World) (hb : Below w.heap.size w w') => Sectors_log ((HX.out.keep hb).recs) (HX.out.ok) (by omega)
        have hss : sectorsS list = (needZ (encs list) : Int) := by unfold sectorsS; rw [if_pos z1]
        rw [hss] at hse
        obtain ⟨K, hK⟩ : ∃ K, K = needZ (encs list) := ⟨_, rfl⟩
        have hap := Hap.out
        rw [if_pos rfl] at hap
        simp only at hap
        rw [← hK] at hcl hap hse z3'
        generalize layS (fresh N, []) (chunks 1 1 (encs list)) = s1 at hap hcl hlN
        have z5 : spare ≤ (N : Int) - (K : Int) := by omega
        have hKN : K ≤ N := by rw [chunks_len, List.length_nil, ← hK] at hle; omega
        clear hK hhi hle hnum hR1 z1 z2 z3 z4 z3' hss hx7 hz hfo hfl Hap hf2
        have Hap := Lib.hid hap; clear hap
        have Hse := Lib.hid hse; clear hse
        have Hcl := Lib.hid hcl; clear hcl
        have HlN := Lib.hid hlN; clear hlN
        go_wp2_with fail
        refine Hap.out.mono ?_
        rintro e w8 ⟨rfl, h8, -⟩
        clear Hap
        generalize grownF F wo w8 = G at h8
        have hlo := Loose_dev h8.dev
        rw [Hcl.out] at hlo
        have Hlo := Lib.hid hlo; clear hlo
        have H8 := Lib.hid h8; clear h8
        go_wp2_with fail
        refine Hlo.out.mono ?_
        rintro e w9 ⟨rfl, hw⟩
        obtain rfl := hw
        have hse := Hse.out _ H8.out.dev.bel
        have Hse2 := Lib.hid hse; clear hse Hse
        go_wp2_with fail
        refine Hse2.out.mono ?_
        rintro e w9 ⟨rfl, b9⟩
        have h9 := H8.out.step b9
        have hfr := Free_wl h9 (v := (N : Int) - (K : Int)) (by rw [HlN.out]; simp only; omega)
        clear H8 b9 Hse2 Hlo
        have Hfr := Lib.hid hfr; clear hfr
        have H9 := Lib.hid h9; clear h9
        go_wp2_with fail
        refine Hfr.out.mono ?_
        rintro e w10 ⟨rfl, b10⟩
        have h10 := H9.out.step b10
        have hlo := Loose_dev h10.dev
        rw [Hcl.out] at hlo
        have Hlo := Lib.hid hlo; clear hlo b10 H9 Hfr
        have H10 := Lib.hid h10; clear h10
        go_wp2_with fail
        refine Hlo.out.mono ?_
        rintro e w11 ⟨rfl, hw⟩
        obtain rfl := hw
        have hfr := Free_wl H10.out (v := (N : Int) - (K : Int)) (by rw [HlN.out]; simp only; omega)
        clear Hlo
        have Hfr := Lib.hid hfr; clear hfr
        have heq : ((N : Int) - (K : Int) == (N : Int) - (K : Int)) = true := by simp
        have hge : decide ((N : Int) - (K : Int) ≥ spare) = true := decide_eq_true z5
        have hge' : decide (spare ≤ (N : Int) - (K : Int)) = true := decide_eq_true z5
        go_wp2_with fail
        refine Hfr.out.mono ?_
        rintro e w12 ⟨rfl, b12⟩
        have hb := H10.out.dev.bel.trans (b12.mono H10.out.dev.bel.size)
        have HB := Lib.hid hb; clear hb b12 H10 Hfr
        go_wp2
        go_ret
        exact ⟨rfl, HB.out⟩
      · have hap := Hap.out
        rw [if_neg hE] at hap
        simp only at hap
        have hE1 : (E != 0) = true := by simpa using hE
        clear Hap hz hx7 hR
        have Hap := Lib.hid hap; clear hap
        have Hfl := Lib.hid hfl; clear hfl
        go_wp2_with fail
        refine Hap.out.mono ?_
        rintro e w8 ⟨rfl, h8, -⟩
        clear Hap
        generalize grownF F wo w8 = G at h8
        have hlo := Loose_dev h8.dev
        have Hlo := Lib.hid hlo; clear hlo
        have H8 := Lib.hid h8; clear h8
        go_wp2_with fail
        refine Hlo.out.mono ?_
        rintro e w9 ⟨rfl, hw⟩
        obtain rfl := hw
        have hnx := Next_calls H8.out.log
        clear Hlo
        have Hnx := Lib.hid hnx; clear hnx
        simp only [List.length_nil]
        go_wp2_with fail
        refine Hnx.out.mono ?_
        rintro e w9 ⟨rfl, hw⟩
        obtain rfl := hw
        have hfr := Free_wl H8.out (v := (N : Int)) (by rw [Hfl.out]; simp only; omega)
        clear Hnx
        have Hfr := Lib.hid hfr; clear hfr
        go_wp2_with fail
        refine Hfr.out.mono ?_
        rintro e w10 ⟨rfl, b10⟩
        have hb := H8.out.dev.bel.trans (b10.mono H8.out.dev.bel.size)
        have HB := Lib.hid hb; clear hb b10 H8 Hfr
        have heq : ((N : Int) == (N : Int)) = true := by simp
        go_wp2
        go_ret
        exact ⟨rfl, HB.out⟩
end Go.Proofs.Ytgpedejeifmfdaa
