/- WalTwice: the walk of the law. -/
import Derived.Test.YtgpedejeifmfdaaWalK
namespace Go.Proofs.Ytgpedejeifmfdaa
open Go.RowKit Go.Sort

set_option maxHeartbeats 8000000 in
set_option maxRecDepth 100000 in
theorem lawWalTwice {w : World} {n : Int} (_hn : (Lit.int .i64 n).wf = true) {a : Option Addr} {m c : Nat} {xs : List (SlC × List Rc)} (hx : RRows w a m c xs)
    {keep : Int} (_hk : (Lit.int .i64 keep).wf = true) {tear : Int} (_ht : (Lit.int .i64 tear).wf = true) {ma : Option Addr} {mn mc : Nat} {more : List Rc} (hm : RRow w ma mn mc more) :
    Calls Try.prog 4 #[.int .i64 n, .slice a m c, .int .i64 keep, .int .i64 tear, .slice ma mn mc] w fun e w' => e = .returned (.bool true) ∧ Below w.heap.size w w' := by
  have hlen := hx.len
  have hle := hx.recs.le
  have hmx := hx.recs.max
  have hmn := hm.recs.len
  have HX := Lib.hid hx; clear hx
  have HLen := Lib.hid hlen; clear hlen
  have HM := Lib.hid hm; clear hm
  have HMn := Lib.hid hmn; clear hmn
  go_enter Try.func4, Try.ntmps4
  go_wp2_with fail
  refine alive_wal.mono ?_
  rintro e w1 ⟨rfl, b1⟩
  have B1 := Lib.hid b1; clear b1
  by_cases h1 : n < 1
  · have d1 : decide (n < 1) = true := decide_eq_true h1
    go_wp2
    go_ret
    exact ⟨rfl, B1.out⟩
  have d1 : decide (n < 1) = false := decide_eq_false h1
  by_cases h2 : 200 < n
  · have d2 : decide (n > 200) = true := decide_eq_true h2
    have d2' : decide (200 < n) = true := decide_eq_true h2
    go_wp2
    go_ret
    exact ⟨rfl, B1.out⟩
  have d2 : decide (n > 200) = false := decide_eq_false h2
  have d2' : decide (200 < n) = false := decide_eq_false h2
  by_cases h3 : 30 < m
  · have d3 : decide ((m : Int) > 30) = true := decide_eq_true (by omega)
    have d3' : decide (30 < m) = true := decide_eq_true h3
    go_wp2
    go_ret
    exact ⟨rfl, B1.out⟩
  have d3 : decide ((m : Int) > 30) = false := decide_eq_false (by omega)
  have d3' : decide (30 < m) = false := decide_eq_false h3
  by_cases h4 : 20 < mn
  · have d4 : decide ((mn : Int) > 20) = true := decide_eq_true (by omega)
    have d4' : decide (20 < mn) = true := decide_eq_true h4
    go_wp2
    go_ret
    exact ⟨rfl, B1.out⟩
  have d4 : decide ((mn : Int) > 20) = false := decide_eq_false (by omega)
  have d4' : decide (20 < mn) = false := decide_eq_false h4
  obtain ⟨N, rfl⟩ : ∃ N : Nat, n = N := ⟨n.toNat, by omega⟩
  have hbg := begin_ls (N := N) B1.out (by omega) (by omega)
  have Hbg := Lib.hid hbg; clear hbg
  have hN1 : 1 ≤ N := by omega
  have hN2 : N ≤ 200 := by omega
  go_wp2_with fail
  refine Hbg.out.mono ?_
  rintro e w2 ⟨b, lb, F, rfl, h5, -, -⟩
  clear Hbg d1 d2 d2' d3 d3' d4 d4' h1 h2
  have H5 := Lib.hid h5; clear h5
  go_wp2_with fail
  go_loopw [13] (fun i wr => ∃ j : Nat, j ≤ m ∧ i = .int .i64 j ∧ ∃ (all : List Rc) (F : Nat → Prop), LS w wr lb b F N all 0 ∧ all.length ≤ 20 * j) (fun i _ => m - (intOf i).toNat)
  case atStart => exact ⟨0, Nat.zero_le _, rfl, [], F, H5.out, Nat.le_refl _⟩
  case round =>
    clear H5
    obtain ⟨j, hj, rfl, all, F, h6, hal⟩ := hrel
    obtain ⟨wo, rfl⟩ : ∃ wo, wo = wr := ⟨_, rfl⟩
    by_cases hlt : j < m
    · have hjx : j < xs.length := by rw [HLen.out]; exact hlt
      have hx6 := HX.out.keep h6.bel
      obtain ⟨ga, oa, rfl⟩ := hx6.recs.addr (by omega)
      have hc := hx6.at hjx
      have hro := hx6.row _ (List.getElem_mem hjx)
      obtain ⟨X, hX⟩ : ∃ X, X = xs[j] := ⟨_, rfl⟩
      rw [← hX] at hc hro
      clear hX hx6
      obtain ⟨⟨xa, xn, xc⟩, row⟩ := X
      simp only at hc hro
      have hxn := hro.recs.len
      have i1 : (0 : Int) ≤ (j : Int) := by omega
      have i2 : (j : Int) < (m : Int) := by omega
      by_cases h20 : 20 < xn
      · have d1 : decide ((xn : Int) > 20) = true := decide_eq_true (by omega)
        have d1' : decide (20 < xn) = true := decide_eq_true h20
        have hbel := h6.bel
        clear h6 hro hxn
        have HB := Lib.hid hbel; clear hbel
        go_wp2
        go_ret
        exact ⟨rfl, HB.out⟩
      have d1 : decide ((xn : Int) > 20) = false := decide_eq_false (by omega)
      have d1' : decide (20 < xn) = false := decide_eq_false h20
      have hap := append_ls h6 hro (by omega) (spare := 0) (by decide)
      have Hap := Lib.hid hap; clear hap h6 hro
      have HXn := Lib.hid hxn; clear hxn
      go_wp2_with fail
      refine Hap.out.mono ?_
      rintro e w7 ⟨E, rfl, h7, m7⟩
      clear Hap m7 hc
      generalize grownF F wo w7 = G at h7
      obtain ⟨al, hale⟩ : ∃ al, al = (if E = 0 then all ++ row else all) := ⟨_, rfl⟩
      rw [← hale] at h7
      have hall : al.length ≤ 20 * (j + 1) := by
        rw [hale]
        split
        · rw [List.length_append, HXn.out]; omega
        · omega
      clear hale HXn
      have H7 := Lib.hid h7; clear h7
      go_wp2_with fail
      go_roundw
      case rel => exact ⟨j + 1, by omega, by go_num, al, G, H7.out, hall⟩
      case measure => simp [intOf]; omega
    · obtain rfl : j = m := by omega
      have hcr := crash_ls h6 keep tear
      have Hcr := Lib.hid hcr; clear hcr h6
      go_wp2_with fail
      refine Hcr.out.mono ?_
      rintro e w7 ⟨rfl, ⟨S, T, q, d7, hSN, hse, hgo, hTN, hfi, hte, hq1, -, hop⟩, -⟩
      have ho := Open_wl d7 hop
      have hlow7 : ∀ k, F k → k < w7.heap.size := fun k hk => (d7.low k hk).2
      clear Hcr d7
      have Ho := Lib.hid ho; clear ho
      have HSee := Lib.hid (And.intro hSN (And.intro hse (And.intro hgo (And.intro hTN (And.intro hfi hte))))); clear hSN hse hgo hTN hfi hte
      have HOp := Lib.hid hop; clear hop
      have HLow7 := Lib.hid hlow7; clear hlow7
      have hqa : (all.take q).length ≤ 20 * j := by rw [List.length_take]; omega
      generalize all.take q = rs at Ho HSee HOp hqa
      clear hq1 hal
      obtain ⟨BL, hBL⟩ : ∃ L, L = rs.length := ⟨_, rfl⟩
      rw [← hBL] at hqa
      have HBL0 := Lib.hid hBL; clear hBL
      go_wp2_with fail
      refine Ho.out.mono ?_
      rintro e w8 ⟨v8, rfl, h8, r8, b8⟩
      have hcr := Crash_dev h8.dev tear keep
      have hl8 := h8.lt
      have hA8 : ∀ g, v8.ownBlock = some g → ¬ F g := fun g hg hf => by have := HLow7.out g hf; have := (r8.lt g hg).1; omega
      obtain ⟨aa, ac, rfl⟩ := r8.shape
      clear Ho h8 b8 HLow7
      rw [crashed_none] at hcr
      have Hcr := Lib.hid hcr; clear hcr
      have R8 := Lib.hid r8; clear r8
      have HA8 := Lib.hid hA8; clear hA8
      rw [← HBL0.out] at R8 HA8 ⊢
      go_wp2_with fail
      refine Hcr.out.mono ?_
      rintro e w9 ⟨rfl, d9, m9⟩
      have r9 := R8.out.grown m9 (fun g hg => HA8.out g hg)
      have ho := Open_wl d9 HOp.out
      have hlow9 : ∀ k, F k → k < w9.heap.size := fun k hk => (d9.low k hk).2
      clear Hcr R8 HA8 m9 d9 hl8
      have Ho := Lib.hid ho; clear ho
      have R9 := Lib.hid r9; clear r9
      have HLow9 := Lib.hid hlow9; clear hlow9
      go_wp2_with fail
      refine Ho.out.mono ?_
      rintro e w10 ⟨v10, rfl, h10, r10, b10⟩
      have q10 := R9.out.below b10
      have hw9 : w.heap.size ≤ w9.heap.size + 1 := by have := h10.dev.bel.size; have := h10.lo; omega
      obtain ⟨hSN, hse, hgo, hTN, hfi, hte⟩ := HSee.out
      have hlr : LR w w10 w9.heap.size b F N rs := ⟨⟨_, T, h10, hSN, hse, hgo, hTN, hfi, hte, Nat.zero_le _⟩, by omega, by omega⟩
      have hb10 := fun g hg => (r10.lt g hg).1
      replace r10 := r10.mono hw9
      obtain ⟨ba, bc, rfl, hrb, hbb⟩ := r10.recs
      obtain ⟨aa2, ac2, e2, hra, -⟩ := q10.recs
      injection e2 with e21 e22 e23
      subst e21 e23
      have hsr := SameRecs_calls hra hrb rfl
      rw [← HBL0.out] at hsr r10 hb10 ⊢
      have hA10 : ∀ g, (Value.slice ba BL bc).ownBlock = some g → ¬ (F g ∨ g = w9.heap.size) := fun g hg => by
        have := hb10 g hg
        rintro (h | h)
        · have := HLow9.out g h; omega
        · omega
      clear hb10 hw9
      clear Ho R9 HSee HOp HLow9 h10 b10 q10 hrb hbb hra e22 hSN hse hgo hTN hfi hte
      generalize w9.heap.size = lc at hlr r10 hA10 ⊢
      have Hsr := Lib.hid hsr; clear hsr
      have HR := Lib.hid hlr; clear hlr
      have R10 := Lib.hid r10; clear r10
      have HA10 := Lib.hid hA10; clear hA10
      go_wp2_with fail
      refine Hsr.out.mono ?_
      rintro e w11 ⟨rfl, nd, rfl⟩
      have hlr := HR.out.step (below_drawn w10 nd)
      have r11 := R10.out.below (below_drawn w10 nd)
      clear HR R10 Hsr
      generalize w10.drewN nd = w11 at hlr r11 ⊢
      have hmo := HM.out.keep hlr.bel
      have hap := append_lr hlr hmo (by omega) (spare := 0) (by decide)
      have hlow := hlr.low
      have Hap := Lib.hid hap; clear hap hlr hmo
      have R11 := Lib.hid r11; clear r11
      have HLo := Lib.hid hlow; clear hlow
      go_wp2_with fail
      refine Hap.out.mono ?_
      rintro e w12 ⟨E, rfl, h12, m12⟩
      have o12 := R11.out.grown m12 (fun g hg => HA10.out g hg)
      have hA12 : ∀ g, (Value.slice ba BL bc).ownBlock = some g → ¬ (grownF F w11 w12 g ∨ g = lc) := fun g hg => by
        have hlt := (R11.out.lt g hg).2
        rintro ((h | h) | h)
        · exact HA10.out g hg (.inl h)
        · omega
        · exact HA10.out g hg (.inr h)
      clear Hap R11 HA10 HLo m12
      generalize grownF F w11 w12 = G at h12 hA12
      by_cases hE : E = 0
      · subst hE
        rw [if_pos rfl] at h12
        have hmo12 := HM.out.keep h12.bel
        have hlow := h12.low
        have H12 := Lib.hid h12; clear h12
        have O12 := Lib.hid o12; clear o12
        have HA12 := Lib.hid hA12; clear hA12
        go_wp2_with (with_reducible refine stop_builtin .append ?_)
        refine unpark ?_
        refine wpList_append_recs rcElem w12 rfl _ _ rfl w.heap.size (.slice ba BL bc) rs rfl O12.out ma mn mc more rfl hmo12.recs (by rw [← HBL0.out]; omega) H12.out.bel.size ?_
        intro v13 w13 own13 g13 hv13
        have h13 := H12.out.aside (Mod.of_grown (F := fun k => (Value.slice ba BL bc).ownBlock = some k) g13 fun k e => e) (fun k hk e => HA12.out k e hk) (fun k e => (O12.out.lt k e).1)
        obtain ⟨ba8, bc8, rfl⟩ := own13.shape
        obtain ⟨BL8, hBL8⟩ : ∃ L, L = (rs ++ more).length := ⟨_, rfl⟩
        rw [← hBL8] at own13 hv13 ⊢
        have hA13 : ∀ g, (Value.slice ba8 BL8 bc8).ownBlock = some g → ¬ (G g ∨ g = lc) := fun g hg => by
          rcases hv13 with h | h
          · exact HA12.out g (by rw [← h]; exact hg)
          · rw [hg] at h
            injection h with h
            subst h
            rintro (h | h)
            · have := (hlow.1 _ h).2; omega
            · have := hlow.2.2; omega
        clear H12 O12 HA12 hmo12 g13 hv13 hlow
        have HR := Lib.hid h13; clear h13
        have HO := Lib.hid own13; clear own13
        have HA := Lib.hid hA13; clear hA13
        have HBL := Lib.hid hBL8; clear hBL8
        have hfc := force_lr HR.out
        have HFc := Lib.hid hfc; clear hfc
        go_wp2_with fail
        refine HFc.out.mono ?_
        rintro e w14 ⟨rfl, h14, m14⟩
        have o14 := HO.out.grown m14 (fun g hg => HA.out g hg)
        have hop := open_lr h14
        clear HFc HR HO HA m14 h14
        have Hop := Lib.hid hop; clear hop
        have O14 := Lib.hid o14; clear o14
        go_wp2_with fail
        refine Hop.out.mono ?_
        rintro e w15 ⟨v15, rfl, h15, r15, b15⟩
        have o15 := O14.out.below b15
        have hbel := h15.bel
        obtain ⟨ca, cc, rfl, hre, -⟩ := r15.recs
        obtain ⟨ta, tc, e9, hte, -⟩ := o15.recs
        injection e9 with e91 e92 e93
        subst e91 e93
        rw [← HBL.out] at hre hte ⊢
        have hsr := SameRecs_calls hre hte rfl
        clear Hop O14 h15 r15 b15 o15 hre hte e92
        have Hsr := Lib.hid hsr; clear hsr
        have HB := Lib.hid hbel; clear hbel
        go_wp2_with fail
        refine Hsr.out.mono ?_
        rintro e w16 ⟨rfl, nd, rfl⟩
        have hb := HB.out.trans ((below_drawn w15 nd).mono HB.out.size)
        generalize w15.drewN nd = w16 at hb ⊢
        have HB16 := Lib.hid hb; clear hb HB Hsr
        go_wp2
        go_ret
        exact ⟨rfl, HB16.out⟩
      · have hE0 : (E == 0) = false := by simpa using hE
        rw [if_neg hE] at h12
        have HR := Lib.hid h12; clear h12
        have HO := Lib.hid o12; clear o12
        have HA := Lib.hid hA12; clear hA12
        have HBL := HBL0
        have hfc := force_lr HR.out
        have HFc := Lib.hid hfc; clear hfc
        go_wp2_with fail
        refine HFc.out.mono ?_
        rintro e w14 ⟨rfl, h14, m14⟩
        have o14 := HO.out.grown m14 (fun g hg => HA.out g hg)
        have hop := open_lr h14
        clear HFc HR HO HA m14 h14
        have Hop := Lib.hid hop; clear hop
        have O14 := Lib.hid o14; clear o14
        go_wp2_with fail
        refine Hop.out.mono ?_
        rintro e w15 ⟨v15, rfl, h15, r15, b15⟩
        have o15 := O14.out.below b15
        have hbel := h15.bel
        obtain ⟨ca, cc, rfl, hre, -⟩ := r15.recs
        obtain ⟨ta, tc, e9, hte, -⟩ := o15.recs
        injection e9 with e91 e92 e93
        subst e91 e93
        rw [← HBL.out] at hre hte ⊢
        have hsr := SameRecs_calls hre hte rfl
        clear Hop O14 h15 r15 b15 o15 hre hte e92
        have Hsr := Lib.hid hsr; clear hsr
        have HB := Lib.hid hbel; clear hbel
        go_wp2_with fail
        refine Hsr.out.mono ?_
        rintro e w16 ⟨rfl, nd, rfl⟩
        have hb := HB.out.trans ((below_drawn w15 nd).mono HB.out.size)
        generalize w15.drewN nd = w16 at hb ⊢
        have HB16 := Lib.hid hb; clear hb HB Hsr
        go_wp2
        go_ret
        exact ⟨rfl, HB16.out⟩
end Go.Proofs.Ytgpedejeifmfdaa
