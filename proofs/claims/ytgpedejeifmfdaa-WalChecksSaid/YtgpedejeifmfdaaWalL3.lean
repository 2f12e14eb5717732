/- WalChecks: the walk of the law. -/
import Derived.Test.YtgpedejeifmfdaaWalC3
namespace Go.Proofs.Ytgpedejeifmfdaa
open Go.RowKit Go.Sort

section
variable {w0 w w' : World} {lb b N : Nat} {F : Nat → Prop} {old base more : List Rc}
theorem wc_lens (N : Nat) (old base more : List Rc) : (wc1 N old).1.length = N ∧ (wc2 N old).1.length = N ∧ (wc3 N old base).1.length = N ∧ (wc4 N old base more).1.length = N := by
  have h1 : (wc1 N old).1.length = N := by unfold wc1; simp [layS, fresh]
  have h2 : (wc2 N old).1.length = N := by show (settled _ _).length = N; rw [settled_len]; exact h1
  exact ⟨h1, h2, h2, h2⟩
theorem ck_app1 (h : Wl w0 w lb b F (fresh N, []) ⟨1, 1, 1⟩) {a : Option Addr} {L c : Nat} (hx : RRow w a L c old) (hL : L ≤ 1000) :
    Calls Try.prog 10 #[.pointer (some ⟨lb, 0, none⟩), .slice a L c, .int .i64 0] w fun e w' => e = .returned (.int .i64 (fitE N ⟨1, 1, 1⟩ old 0 0)) ∧ Below w0.heap.size w0 w' ∧ (fitE N ⟨1, 1, 1⟩ old 0 0 = 0 → Wl w0 w' lb b (grownF F w w') (wc1 N old) (lc1 old)) := by
  have hl : (fresh N).length = N := by simp [fresh]
  refine (Append_wl h hx.recs hx.ok hL (show ([] : List (Int × List Int)).length ≤ 990000 by decide) (spare := 0) (by decide)).mono ?_
  rintro e w' ⟨rfl, g1, g2⟩
  simp only [hl]
  refine ⟨by first | rfl | trivial, g1.dev.bel, fun hE => ?_⟩
  unfold appS at g1
  simp only [hl] at g1
  rw [if_pos hE] at g1
  exact g1
theorem ck_force1 (h : Wl w0 w lb b F (wc1 N old) (lc1 old)) :
    Calls Try.prog 11 #[.pointer (some ⟨lb, 0, none⟩)] w fun e w' => e = .returned (.tuple #[]) ∧ Wl w0 w' lb b F (wc2 N old) (lc1 old) := by
  refine (Force_wl h).mono ?_
  rintro e w' ⟨rfl, g1, g2⟩
  exact ⟨rfl, g1⟩
theorem ck_ck (h : Wl w0 w lb b F (wc2 N old) (lc1 old)) {a : Option Addr} {L c : Nat} (hx : RRow w a L c base) (hL : L ≤ 1000) :
    Calls Try.prog 15 #[.pointer (some ⟨lb, 0, none⟩), .slice a L c, .int .i64 0] w fun e w' => e = .returned (.int .i64 (fitE N (lc1 old) base 1 0)) ∧ Below w0.heap.size w0 w' ∧ (fitE N (lc1 old) base 1 0 = 0 → Wl w0 w' lb b (grownF F w w') (wc3 N old base) (lc3 old base)) := by
  have hl := (wc_lens N old [] []).2.1
  refine (Checkpoint_wl h hx.recs hx.ok hL (show ([] : List (Int × List Int)).length ≤ 990000 by decide) (spare := 0) (by decide)).mono ?_
  rintro e w' ⟨rfl, g1, g2⟩
  rw [hl]
  refine ⟨rfl, g1.dev.bel, fun hE => ?_⟩
  unfold ckS at g1
  rw [hl, if_pos hE] at g1
  exact g1
theorem ck_app2 (h : Wl w0 w lb b F (wc3 N old base) (lc3 old base)) (hb : base.length ≤ 20) {a : Option Addr} {L c : Nat} (hx : RRow w a L c more) (hL : L ≤ 1000) :
    Calls Try.prog 10 #[.pointer (some ⟨lb, 0, none⟩), .slice a L c, .int .i64 0] w fun e w' => e = .returned (.int .i64 (fitE N (lc3 old base) more 0 0)) ∧ Below w0.heap.size w0 w' ∧ (fitE N (lc3 old base) more 0 0 = 0 → Wl w0 w' lb b (grownF F w w') (wc4 N old base more) (lc4 old base more)) := by
  have hl := (wc_lens N old base []).2.2.1
  have hc : (wc3 N old base).2.length ≤ 990000 := by
    have h1 := layC_len (wc2 N old).1 (chunks (1 + needZ (encs old)) 1 (encs base)) []
    have h2 := layC_len (wc2 N old).1 [⟨1 + needZ (encs old) + needZ (encs base), 1 + needZ (encs old), true, []⟩] (layC (wc2 N old).1 [] (chunks (1 + needZ (encs old)) 1 (encs base)))
    have h3 := encs_len base
    rw [chunks_len] at h1
    show (layC (wc2 N old).1 (layC (wc2 N old).1 [] (chunks (1 + needZ (encs old)) 1 (encs base))) _).length ≤ 990000
    refine Nat.le_trans h2 ?_
    simp only [List.length_singleton, List.length_nil] at h1 ⊢
    unfold needZ at *
    omega
  refine (Append_wl h hx.recs hx.ok hL hc (spare := 0) (by decide)).mono ?_
  rintro e w' ⟨rfl, g1, g2⟩
  rw [hl]
  refine ⟨rfl, g1.dev.bel, fun hE => ?_⟩
  unfold appS at g1
  rw [hl, if_pos hE] at g1
  exact g1
theorem Force_bel {s : State} {l : Lg} (h : Wl w0 w lb b F s l) :
    Calls Try.prog 11 #[.pointer (some ⟨lb, 0, none⟩)] w fun e w' => e = .returned (.tuple #[]) ∧ Dev w0 w' b F (settled s.1 s.2, []) := by
  refine (Force_wl h).mono ?_
  rintro e w' ⟨rfl, g1, g2⟩
  exact ⟨rfl, g1.dev⟩
theorem Open_any {s : State} (h : Dev w0 w b F s) {l : Nat × Nat × Nat} {rs : List Rc} (ho : openS s = some (l, rs)) :
    Calls Try.prog 13 #[.pointer (some ⟨b, 0, none⟩)] w fun e w' => ∃ v, e = .returned (.tuple #[.pointer (some ⟨w.heap.size, 0, none⟩), v, .int .i64 0]) ∧ RcOwn w' (w.heap.size + 1) v rs ∧ Below w.heap.size w w' := by
  obtain ⟨n, f, sr⟩ := l
  refine (Open_wl h ho).mono ?_
  rintro e w' ⟨v, rfl, -, g2, g3⟩
  exact ⟨v, rfl, g2, g3⟩
end
set_option maxHeartbeats 16000000 in
set_option maxRecDepth 100000 in
theorem lawWalChecks {w : World} {n : Int} (_hn : (Lit.int .i64 n).wf = true) {oa : Option Addr} {on oc : Nat} {old : List Rc} (hxo : RRow w oa on oc old) {ba : Option Addr} {bn bc : Nat} {base : List Rc} (hxb : RRow w ba bn bc base) {ma : Option Addr} {mn mc : Nat} {more : List Rc} (hxm : RRow w ma mn mc more)
    {keep : Int} (_hk : (Lit.int .i64 keep).wf = true) {tear : Int} (_ht : (Lit.int .i64 tear).wf = true) :
    Calls Try.prog 5 #[.int .i64 n, .slice oa on oc, .slice ba bn bc, .slice ma mn mc, .int .i64 keep, .int .i64 tear] w fun e w' => e = .returned (.bool true) ∧ Below w.heap.size w w' := by
  have ol := hxo.recs.len
  have bl := hxb.recs.len
  have ml := hxm.recs.len
  have HXO := Lib.hid hxo; clear hxo
  have HXB := Lib.hid hxb; clear hxb
  have HXM := Lib.hid hxm; clear hxm
  have OLn := Lib.hid ol; clear ol
  have BLn := Lib.hid bl; clear bl
  have MLn := Lib.hid ml; clear ml
  go_enter Try.func5, Try.ntmps5
  go_wp2_with fail
  refine alive_wal.mono ?_
  rintro e w1 ⟨rfl, b1⟩
  have B1 := Lib.hid b1; clear b1
  by_cases h1 : n < 1
  · have d1 : decide (n < 1) = true := decide_eq_true h1
    go_wp2
    go_ret
    exact ⟨rfl, B1.out⟩
  have d1 : decide (n < 1) = false := decide_eq_false h1
  by_cases h2 : 200 < n
  · have d2 : decide (n > 200) = true := decide_eq_true h2
    have d2' : decide (200 < n) = true := decide_eq_true h2
    go_wp2
    go_ret
    exact ⟨rfl, B1.out⟩
  have d2 : decide (n > 200) = false := decide_eq_false h2
  have d2' : decide (200 < n) = false := decide_eq_false h2
  by_cases h3 : 20 < on
  · have d3 : decide ((on : Int) > 20) = true := decide_eq_true (by omega)
    have d3' : decide (20 < on) = true := decide_eq_true h3
    go_wp2
    go_ret
    exact ⟨rfl, B1.out⟩
  have d3 : decide ((on : Int) > 20) = false := decide_eq_false (by omega)
  have d3' : decide (20 < on) = false := decide_eq_false h3
  by_cases h4 : 20 < bn
  · have d4 : decide ((bn : Int) > 20) = true := decide_eq_true (by omega)
    have d4' : decide (20 < bn) = true := decide_eq_true h4
    go_wp2
    go_ret
    exact ⟨rfl, B1.out⟩
  have d4 : decide ((bn : Int) > 20) = false := decide_eq_false (by omega)
  have d4' : decide (20 < bn) = false := decide_eq_false h4
  by_cases h5 : 20 < mn
  · have d5 : decide ((mn : Int) > 20) = true := decide_eq_true (by omega)
    have d5' : decide (20 < mn) = true := decide_eq_true h5
    go_wp2
    go_ret
    exact ⟨rfl, B1.out⟩
  have d5 : decide ((mn : Int) > 20) = false := decide_eq_false (by omega)
  have d5' : decide (20 < mn) = false := decide_eq_false h5
  obtain ⟨N, rfl⟩ : ∃ N : Nat, n = N := ⟨n.toNat, by omega⟩
  have hN1 : 1 ≤ N := by omega
  have hN2 : N ≤ 200 := by omega
  have hbg := begin_wl (N := N) B1.out (by omega) (by omega)
  have Hbg := Lib.hid hbg; clear hbg
  go_wp2_with fail
  refine Hbg.out.mono ?_
  rintro e w2 ⟨b, lb, F, rfl, h6, -, -⟩
  clear Hbg h1 h2 d1 d2 d2' d3 d3' d4 d4' d5 d5'
  obtain ⟨E1, hE1⟩ : ∃ E, E = fitE N ⟨1, 1, 1⟩ old 0 0 := ⟨_, rfl⟩
  obtain ⟨E2, hE2⟩ : ∃ E, E = fitE N (lc1 old) base 1 0 := ⟨_, rfl⟩
  obtain ⟨E3, hE3⟩ : ∃ E, E = fitE N (lc3 old base) more 0 0 := ⟨_, rfl⟩
  have HE1 := Lib.hid hE1; clear hE1
  have HE2 := Lib.hid hE2; clear hE2
  have HE3 := Lib.hid hE3; clear hE3
  have hap := ck_app1 h6 (HXO.out.keep h6.dev.bel) (by omega)
  rw [← HE1.out] at hap
  clear h6
  have Hap := Lib.hid hap; clear hap
  go_wp2_with fail
  refine Hap.out.mono ?_
  rintro e w3 ⟨rfl, b3, h7⟩
  clear Hap
  by_cases z1 : E1 ≠ 0
  · have y1 : (E1 != 0) = true := by simpa using z1
    clear h7
    have B3 := Lib.hid b3; clear b3
    go_wp2
    go_ret
    exact ⟨rfl, B3.out⟩
  have z1 : E1 = 0 := Decidable.not_not.1 z1
  subst z1
  have h7 := h7 rfl
  generalize grownF F w2 w3 = F1 at h7
  have hfo := ck_force1 h7
  clear h7 b3
  have Hfo := Lib.hid hfo; clear hfo
  go_wp2_with fail
  refine Hfo.out.mono ?_
  rintro e w4 ⟨rfl, h8⟩
  clear Hfo
  have hck := ck_ck h8 (HXB.out.keep h8.dev.bel) (by omega)
  rw [← HE2.out] at hck
  clear h8
  have Hck := Lib.hid hck; clear hck
  go_wp2_with fail
  refine Hck.out.mono ?_
  rintro e w5 ⟨rfl, b5, h9⟩
  clear Hck
  by_cases z2 : E2 ≠ 0
  · have y1 : (E2 != 0) = true := by simpa using z2
    clear h9
    have B5 := Lib.hid b5; clear b5
    go_wp2
    go_ret
    exact ⟨rfl, B5.out⟩
  have z2 : E2 = 0 := Decidable.not_not.1 z2
  subst z2
  have h9 := h9 rfl
  generalize grownF F1 w4 w5 = F2 at h9
  have hap := ck_app2 h9 (by rw [BLn.out]; omega) (HXM.out.keep h9.dev.bel) (by omega)
  rw [← HE3.out] at hap
  clear h9 b5
  have Hap := Lib.hid hap; clear hap
  go_wp2_with fail
  refine Hap.out.mono ?_
  rintro e w6 ⟨rfl, b6, h10⟩
  clear Hap
  by_cases z3 : E3 ≠ 0
  · have y1 : (E3 != 0) = true := by simpa using z3
    clear h10
    have B6 := Lib.hid b6; clear b6
    go_wp2
    go_ret
    exact ⟨rfl, B6.out⟩
  have z3 : E3 = 0 := Decidable.not_not.1 z3
  subst z3
  have h10 := h10 rfl
  generalize grownF F2 w5 w6 = F3 at h10
  clear b6
  have hlow := h10.dev.low
  have hlbt := h10.lt
  have HLow := Lib.hid hlow; clear hlow
  have H10 := Lib.hid h10; clear h10
  have bx : Below w6.heap.size w6 (w6.alloc (.cells #[] rcE)) := (Below.refl _ _).alloc (Nat.le_refl _) _
  have ox : RcOwn (w6.alloc (.cells #[] rcE)) w6.heap.size (.slice (some ⟨w6.heap.size, 0, none⟩) 0 0) [] := ROwn.made w6
  go_wp2_with (with_reducible refine stop_builtin .append ?_)
  refine unpark ?_
  generalize w6.alloc (.cells #[] rcE) = wa at bx ox ⊢
  have hxb := (HXB.out.keep H10.out.dev.bel).keep bx
  refine wpList_append_recs rcElem wa rfl _ _ rfl w6.heap.size _ [] rfl ox ba bn bc base rfl hxb.recs (by simp; omega) bx.size ?_
  intro v1 wb own1 g1 _
  have bb := bx.grown g1 bx.size (fun k hk => (ox.lt k hk).1)
  rw [List.nil_append] at own1
  obtain ⟨y1a, y1c, rfl⟩ := own1.shape
  rw [BLn.out] at own1 ⊢
  clear bx ox g1 hxb
  have BB := Lib.hid bb; clear bb
  have O1 := Lib.hid own1; clear own1
  go_wp2_with (with_reducible refine stop_builtin .append ?_)
  refine unpark ?_
  have hxm := (HXM.out.keep H10.out.dev.bel).keep BB.out
  refine wpList_append_recs rcElem wb rfl _ _ rfl w6.heap.size (.slice y1a bn y1c) base rfl O1.out ma mn mc more rfl hxm.recs (by rw [BLn.out]; omega) BB.out.size ?_
  intro v2 wc own2 g2 _
  have bb := BB.out.grown g2 BB.out.size (fun k hk => (O1.out.lt k hk).1)
  obtain ⟨ya, yc, rfl⟩ := own2.shape
  obtain ⟨BL, hBL⟩ : ∃ L, L = (base ++ more).length := ⟨_, rfl⟩
  rw [← hBL] at own2 ⊢
  have hBLb : BL ≤ 40 := by rw [hBL, List.length_append, BLn.out, MLn.out]; omega
  have HBL := Lib.hid hBL; clear hBL
  clear BB O1 g2 hxm
  have h11 := H10.out.step bb
  have hAB : ∀ g, (Value.slice ya BL yc).ownBlock = some g → ¬ F3 g := fun g hg hf => by
    have := (own2.lt g hg).1
    have := (HLow.out g hf).2
    omega
  have hwc : w6.heap.size ≤ wc.heap.size := bb.size
  clear H10 bb
  have H11 := Lib.hid h11; clear h11
  have OB := Lib.hid own2; clear own2
  have HAB := Lib.hid hAB; clear hAB
  have bx : Below wc.heap.size wc (wc.alloc (.cells #[] rcE)) := (Below.refl _ _).alloc (Nat.le_refl _) _
  have ox : RcOwn (wc.alloc (.cells #[] rcE)) wc.heap.size (.slice (some ⟨wc.heap.size, 0, none⟩) 0 0) [] := ROwn.made wc
  go_wp2_with (with_reducible refine stop_builtin .append ?_)
  refine unpark ?_
  generalize wc.alloc (.cells #[] rcE) = wd at bx ox ⊢
  have hxo := (HXO.out.keep H11.out.dev.bel).keep bx
  refine wpList_append_recs rcElem wd rfl _ _ rfl wc.heap.size _ [] rfl ox oa on oc old rfl hxo.recs (by simp; omega) bx.size ?_
  intro v1 we own1 g1 _
  have bb := bx.grown g1 bx.size (fun k hk => (ox.lt k hk).1)
  rw [List.nil_append] at own1
  obtain ⟨z1a, z1c, rfl⟩ := own1.shape
  rw [OLn.out] at own1 ⊢
  clear bx ox g1 hxo
  have BB := Lib.hid bb; clear bb
  have O1 := Lib.hid own1; clear own1
  go_wp2_with (with_reducible refine stop_builtin .append ?_)
  refine unpark ?_
  have hob := OB.out.below BB.out
  obtain ⟨y2a, y2c, e2, hyr, -⟩ := hob.recs
  injection e2 with e21 e22 e23
  subst e21 e23
  rw [← HBL.out] at hyr
  refine wpList_append_recs rcElem we rfl _ _ rfl wc.heap.size (.slice z1a on z1c) old rfl O1.out ya BL yc (base ++ more) rfl hyr (by rw [OLn.out]; omega) BB.out.size ?_
  intro v2 w8 own2 g2 _
  have bb := BB.out.grown g2 BB.out.size (fun k hk => (O1.out.lt k hk).1)
  obtain ⟨za, zc, rfl⟩ := own2.shape
  obtain ⟨AL, hAL⟩ : ∃ L, L = (old ++ (base ++ more)).length := ⟨_, rfl⟩
  rw [← hAL] at own2 ⊢
  have HAL := Lib.hid hAL; clear hAL
  clear BB O1 g2 hob hyr e22
  have h12 := H11.out.step bb
  have ob12 := OB.out.below bb
  have hAA : ∀ g, (Value.slice za AL zc).ownBlock = some g → ¬ F3 g := fun g hg hf => by
    have := (own2.lt g hg).1
    have := (HLow.out g hf).2
    omega
  clear H11 OB bb
  have H8 := Lib.hid h12; clear h12
  have OA := Lib.hid own2; clear own2
  have HAA := Lib.hid hAA; clear hAA
  have OB := Lib.hid ob12; clear ob12
  go_wp2_with fail
  have hbg := begin_wl (w0 := w8) (N := N) (Below.refl _ _) (by omega) (by omega)
  have Hbg := Lib.hid hbg; clear hbg
  refine Hbg.out.mono ?_
  rintro e w9 ⟨b', lb', G, rfl, g1, -, -⟩
  clear Hbg
  have hap := ck_app1 g1 ((HXO.out.keep H8.out.dev.bel).keep g1.dev.bel) (by omega)
  rw [← HE1.out] at hap
  clear g1
  have Hap := Lib.hid hap; clear hap
  go_wp2_with fail
  refine Hap.out.mono ?_
  rintro e w10 ⟨rfl, -, g2⟩
  have g2 := g2 (by first | trivial | rfl)
  clear Hap
  generalize grownF G w9 w10 = G1 at g2
  have hfo := ck_force1 g2
  clear g2
  have Hfo := Lib.hid hfo; clear hfo
  go_wp2_with fail
  refine Hfo.out.mono ?_
  rintro e w11 ⟨rfl, g3⟩
  clear Hfo
  have hck := ck_ck g3 ((HXB.out.keep H8.out.dev.bel).keep g3.dev.bel) (by omega)
  rw [← HE2.out] at hck
  clear g3
  have Hck := Lib.hid hck; clear hck
  go_wp2_with fail
  refine Hck.out.mono ?_
  rintro e w12 ⟨rfl, -, g4⟩
  have g4 := g4 (by first | trivial | rfl)
  clear Hck
  generalize grownF G1 w11 w12 = G2 at g4
  have hap := ck_app2 g4 (by rw [BLn.out]; omega) ((HXM.out.keep H8.out.dev.bel).keep g4.dev.bel) (by omega)
  rw [← HE3.out] at hap
  clear g4
  have Hap := Lib.hid hap; clear hap
  go_wp2_with fail
  refine Hap.out.mono ?_
  rintro e w13 ⟨rfl, -, g5⟩
  have g5 := g5 (by first | trivial | rfl)
  clear Hap
  generalize grownF G2 w12 w13 = G3 at g5
  have hfo := Force_bel g5
  clear g5
  have Hfo := Lib.hid hfo; clear hfo
  go_wp2_with fail
  refine Hfo.out.mono ?_
  rintro e w14 ⟨rfl, g6⟩
  clear Hfo
  obtain ⟨hi1, hi2, hi3, hi4⟩ := wc_hist HXO.out.ok HXB.out.ok HXM.out.ok HE1.out.symm HE2.out.symm HE3.out.symm
  have hln := (wc_lens N old base more).2.2.2
  obtain ⟨l1, rs1, o1, o2⟩ := wc_open HXO.out.ok HXB.out.ok HXM.out.ok HE1.out.symm HE2.out.symm HE3.out.symm (s := (settled (wc4 N old base more).1 (wc4 N old base more).2, [])) (by simp only [settled_len]; exact hln) hN1 (j := (T4 old base more).length) (by omega) (Nat.le_refl _) (by rw [List.take_length]; exact hi2.flush (by omega) hi1.wrs)
  have o3 : rs1 = base ++ more := by
    rcases o2 with ⟨h, -⟩ | ⟨q, -, -, rfl, h⟩
    · omega
    · rw [h rfl, List.take_length]
  subst o3
  have hop := Open_any g6 o1
  have hcr := fun w' (hb : Below w8.heap.size w8 w') => Crash_dev (H8.out.step hb).dev keep tear
  have hwo := fun (j : Nat) => wc_open (j := j) HXO.out.ok HXB.out.ok HXM.out.ok HE1.out.symm HE2.out.symm HE3.out.symm (s := (crashed (wc4 N old base more).1 (wc4 N old base more).2 keep tear, [])) (by simp only [crashed_len]; exact hln) hN1
  have hcs := hi1.crash keep tear
  have hb14 := g6.bel
  clear o2 o1 hi1 hi2 hi3 hi4 hln g6
  have Hop := Lib.hid hop; clear hop
  have Hcr := Lib.hid hcr; clear hcr
  have Hwo := Lib.hid hwo; clear hwo
  have Hcs := Lib.hid hcs; clear hcs
  have HB14 := Lib.hid hb14; clear hb14
  go_wp2_with fail
  refine Hop.out.mono ?_
  rintro e w15 ⟨v15, rfl, r15, b15⟩
  have hb15 := HB14.out.trans (b15.mono HB14.out.size)
  have ob15 := OB.out.below hb15
  have oa15 := OA.out.below hb15
  obtain ⟨ra, rc, rfl, hre, -⟩ := r15.recs
  obtain ⟨ya2, yc2, e2, hyb, -⟩ := ob15.recs
  injection e2 with e21 e22 e23
  subst e21 e23
  rw [← HBL.out] at hre hyb ⊢
  have hsr := SameRecs_calls hre hyb rfl
  clear Hop HB14 r15 b15 OB OA hre hyb e22
  have Hsr := Lib.hid hsr; clear hsr
  have HB15 := Lib.hid hb15; clear hb15
  have OB := Lib.hid ob15; clear ob15
  have OA := Lib.hid oa15; clear oa15
  go_wp2_with fail
  refine Hsr.out.mono ?_
  rintro e w16 ⟨rfl, nd, rfl⟩
  have hb16 := HB15.out.trans ((below_drawn w15 nd).mono HB15.out.size)
  have ob16 := OB.out.below (below_drawn w15 nd)
  have oa16 := OA.out.below (below_drawn w15 nd)
  generalize w15.drewN nd = w16 at hb16 ob16 oa16 ⊢
  clear OB OA HB15 Hsr
  have hcr := Hcr.out w16 hb16
  clear Hcr
  have Hcr := Lib.hid hcr; clear hcr hb16
  have OB := Lib.hid ob16; clear ob16
  have OA := Lib.hid oa16; clear oa16
  go_wp2_with fail
  refine Hcr.out.mono ?_
  rintro e w17 ⟨rfl, d17, m17⟩
  have ob17 := OB.out.grown m17 (fun g hg => (HAB.out g hg))
  have oa17 := OA.out.grown m17 (fun g hg => (HAA.out g hg))
  obtain ⟨j, j1, j2, j3⟩ := Hcs.out
  obtain ⟨l2, rs, o1, o2⟩ := Hwo.out j j1 j2 j3
  have hop := Open_any d17 o1
  have hb17 := d17.bel
  clear Hcr OB OA HAB HAA Hcs Hwo m17 d17 o1 j1 j2 j3
  have Hop := Lib.hid hop; clear hop
  have OB := Lib.hid ob17; clear ob17
  have OA := Lib.hid oa17; clear oa17
  have HB17 := Lib.hid hb17; clear hb17
  go_wp2_with fail
  refine Hop.out.mono ?_
  rintro e w18 ⟨v18, rfl, r18, b18⟩
  have hbel := HB17.out.trans (b18.mono HB17.out.size)
  have ob18 := OB.out.below b18
  have oa18 := OA.out.below b18
  obtain ⟨ra2, rc2, rfl, hrr, -⟩ := r18.recs
  obtain ⟨ya2, yc2, e2, hbb, -⟩ := ob18.recs
  injection e2 with e21 e22 e23
  subst e21 e23
  obtain ⟨za2, zc2, e3, hba, -⟩ := oa18.recs
  injection e3 with e31 e32 e33
  subst e31 e33
  obtain ⟨RL, hRL⟩ : ∃ L, L = rs.length := ⟨_, rfl⟩
  rw [← HBL.out] at hbb
  rw [← HAL.out] at hba
  rw [← hRL] at hrr ⊢
  clear Hop HB17 r18 b18 OB OA ob18 oa18 e22 e32
  have HBA := Lib.hid hba; clear hba
  have HBB := Lib.hid hbb; clear hbb
  have HR := Lib.hid hrr; clear hrr
  have HBel := Lib.hid hbel; clear hbel
  have hBLl : BL = bn + mn := by rw [HBL.out, List.length_append, BLn.out, MLn.out]
  have hALl : AL = on + BL := by rw [HAL.out, List.length_append, OLn.out, HBL.out]
  have hbl1 : BL ≤ bn + mn := Nat.le_of_eq hBLl
  have hbl2 : bn + mn ≤ BL := Nat.le_of_eq hBLl.symm
  have hal1 : AL ≤ on + BL := Nat.le_of_eq hALl
  have hal2 : on + BL ≤ AL := Nat.le_of_eq hALl.symm
  clear hBLl hALl
  rcases o2 with ⟨-, q, q1, q2, q3⟩ | ⟨q, q1, q2, q3, -⟩
  · have hq : RL = q := by rw [hRL, q3, List.length_take]; omega
    have hEQ : rs = (old ++ (base ++ more)).take RL := by
      rw [hq, q3, ← List.append_assoc, List.take_append_of_le_length q2]
    rw [OLn.out, ← hq] at q1
    rw [List.length_append, OLn.out, BLn.out, ← hq] at q2
    clear hRL q3 hq
    have HEQ := Lib.hid hEQ; clear hEQ
    have p1 : decide ((RL : Int) ≥ (on : Int)) = true := decide_eq_true (by omega)
    have p1' : decide (on ≤ RL) = true := decide_eq_true (by omega)
    have p2 : decide ((RL : Int) ≤ (AL : Int)) = true := decide_eq_true (by omega)
    have p2' : decide (RL ≤ AL) = true := decide_eq_true (by omega)
    have j1 : (0 : Int) ≤ (RL : Int) := by omega
    have j2 : (RL : Int) ≤ (zc : Int) := by have := HBA.out.le; omega
    have hsr := SameRecs_calls HR.out (HBA.out.upto (i := RL) (by omega)) HEQ.out
    have Hsr := Lib.hid hsr; clear hsr
    go_wp2_with fail
    refine Hsr.out.mono ?_
    rintro e wq ⟨rfl, nd, rfl⟩
    clear Hsr
    have hba := HBA.out.keep (below_drawn _ nd)
    have hbb := HBB.out.keep (below_drawn _ nd)
    have hrr := HR.out.keep (below_drawn _ nd)
    have hbel := HBel.out.trans ((below_drawn _ nd).mono HBel.out.size)
    generalize World.drewN _ nd = wq at hba hbb hrr hbel ⊢
    clear HBA HBB HR HBel
    have HBA := Lib.hid hba; clear hba
    have HBB := Lib.hid hbb; clear hbb
    have HR := Lib.hid hrr; clear hrr
    have HBel := Lib.hid hbel; clear hbel
    by_cases q1 : bn ≤ RL
    · have p1 : decide ((RL : Int) ≥ (bn : Int)) = true := decide_eq_true (by omega)
      have p1' : decide (bn ≤ RL) = true := decide_eq_true q1
      by_cases q2 : RL ≤ BL
      · have p2 : decide ((RL : Int) ≤ (BL : Int)) = true := decide_eq_true (by omega)
        have p2' : decide (RL ≤ BL) = true := decide_eq_true q2
        have j1 : (0 : Int) ≤ (RL : Int) := by omega
        have j2 : (RL : Int) ≤ (yc : Int) := by have := HBB.out.le; omega
        have hsr := SameRecs_gen HR.out (HBB.out.upto (i := RL) q2)
        obtain ⟨DD, hDD⟩ : ∃ D, D = decide (rs = ((base ++ more)).take RL) := ⟨_, rfl⟩
        rw [← hDD] at hsr
        clear hDD
        have Hsr := Lib.hid hsr; clear hsr
        go_wp2_with fail
        refine Hsr.out.mono ?_
        rintro e wq ⟨rfl, nd, rfl⟩
        clear Hsr
        have hba := HBA.out.keep (below_drawn _ nd)
        have hbb := HBB.out.keep (below_drawn _ nd)
        have hrr := HR.out.keep (below_drawn _ nd)
        have hbel := HBel.out.trans ((below_drawn _ nd).mono HBel.out.size)
        generalize World.drewN _ nd = wq at hba hbb hrr hbel ⊢
        clear HBA HBB HR HBel
        have HBA := Lib.hid hba; clear hba
        have HBB := Lib.hid hbb; clear hbb
        have HR := Lib.hid hrr; clear hrr
        have HBel := Lib.hid hbel; clear hbel
        go_wp2
        go_ret
        exact ⟨rfl, HBel.out⟩
      · have p2 : decide ((RL : Int) ≤ (BL : Int)) = false := decide_eq_false (by omega)
        have p2' : decide (RL ≤ BL) = false := decide_eq_false q2
        go_wp2
        go_ret
        exact ⟨rfl, HBel.out⟩
    · have p1 : decide ((RL : Int) ≥ (bn : Int)) = false := decide_eq_false (by omega)
      have p1' : decide (bn ≤ RL) = false := decide_eq_false q1
      go_wp2
      go_ret
      exact ⟨rfl, HBel.out⟩
  · have hq : RL = q := by rw [hRL, q3, List.length_take]; omega
    have hEQ : rs = (base ++ more).take RL := by rw [hq, q3]
    rw [BLn.out, ← hq] at q1
    rw [List.length_append, BLn.out, MLn.out, ← hq] at q2
    clear hRL q3 hq
    have HEQ := Lib.hid hEQ; clear hEQ
    by_cases q1 : on ≤ RL
    · have p1 : decide ((RL : Int) ≥ (on : Int)) = true := decide_eq_true (by omega)
      have p1' : decide (on ≤ RL) = true := decide_eq_true q1
      by_cases q2 : RL ≤ AL
      · have p2 : decide ((RL : Int) ≤ (AL : Int)) = true := decide_eq_true (by omega)
        have p2' : decide (RL ≤ AL) = true := decide_eq_true q2
        have j1 : (0 : Int) ≤ (RL : Int) := by omega
        have j2 : (RL : Int) ≤ (zc : Int) := by have := HBA.out.le; omega
        have hsr := SameRecs_gen HR.out (HBA.out.upto (i := RL) q2)
        obtain ⟨DD, hDD⟩ : ∃ D, D = decide (rs = ((old ++ (base ++ more))).take RL) := ⟨_, rfl⟩
        rw [← hDD] at hsr
        clear hDD
        have Hsr := Lib.hid hsr; clear hsr
        go_wp2_with fail
        refine Hsr.out.mono ?_
        rintro e wq ⟨rfl, nd, rfl⟩
        clear Hsr
        have hba := HBA.out.keep (below_drawn _ nd)
        have hbb := HBB.out.keep (below_drawn _ nd)
        have hrr := HR.out.keep (below_drawn _ nd)
        have hbel := HBel.out.trans ((below_drawn _ nd).mono HBel.out.size)
        generalize World.drewN _ nd = wq at hba hbb hrr hbel ⊢
        clear HBA HBB HR HBel
        have HBA := Lib.hid hba; clear hba
        have HBB := Lib.hid hbb; clear hbb
        have HR := Lib.hid hrr; clear hrr
        have HBel := Lib.hid hbel; clear hbel
        have p1 : decide ((RL : Int) ≥ (bn : Int)) = true := decide_eq_true (by omega)
        have p1' : decide (bn ≤ RL) = true := decide_eq_true (by omega)
        have p2 : decide ((RL : Int) ≤ (BL : Int)) = true := decide_eq_true (by omega)
        have p2' : decide (RL ≤ BL) = true := decide_eq_true (by omega)
        have j1 : (0 : Int) ≤ (RL : Int) := by omega
        have j2 : (RL : Int) ≤ (yc : Int) := by have := HBB.out.le; omega
        have hsr := SameRecs_calls HR.out (HBB.out.upto (i := RL) (by omega)) HEQ.out
        have Hsr := Lib.hid hsr; clear hsr
        go_wp2_with fail
        refine Hsr.out.mono ?_
        rintro e wq ⟨rfl, nd, rfl⟩
        clear Hsr
        have hba := HBA.out.keep (below_drawn _ nd)
        have hbb := HBB.out.keep (below_drawn _ nd)
        have hrr := HR.out.keep (below_drawn _ nd)
        have hbel := HBel.out.trans ((below_drawn _ nd).mono HBel.out.size)
        generalize World.drewN _ nd = wq at hba hbb hrr hbel ⊢
        clear HBA HBB HR HBel
        have HBA := Lib.hid hba; clear hba
        have HBB := Lib.hid hbb; clear hbb
        have HR := Lib.hid hrr; clear hrr
        have HBel := Lib.hid hbel; clear hbel
        cases DD
        ·
          go_wp2
          go_ret
          exact ⟨rfl, HBel.out⟩
        ·
          go_wp2
          go_ret
          exact ⟨rfl, HBel.out⟩
      · have p2 : decide ((RL : Int) ≤ (AL : Int)) = false := decide_eq_false (by omega)
        have p2' : decide (RL ≤ AL) = false := decide_eq_false q2
        have p1 : decide ((RL : Int) ≥ (bn : Int)) = true := decide_eq_true (by omega)
        have p1' : decide (bn ≤ RL) = true := decide_eq_true (by omega)
        have p2 : decide ((RL : Int) ≤ (BL : Int)) = true := decide_eq_true (by omega)
        have p2' : decide (RL ≤ BL) = true := decide_eq_true (by omega)
        have j1 : (0 : Int) ≤ (RL : Int) := by omega
        have j2 : (RL : Int) ≤ (yc : Int) := by have := HBB.out.le; omega
        have hsr := SameRecs_calls HR.out (HBB.out.upto (i := RL) (by omega)) HEQ.out
        have Hsr := Lib.hid hsr; clear hsr
        go_wp2_with fail
        refine Hsr.out.mono ?_
        rintro e wq ⟨rfl, nd, rfl⟩
        clear Hsr
        have hba := HBA.out.keep (below_drawn _ nd)
        have hbb := HBB.out.keep (below_drawn _ nd)
        have hrr := HR.out.keep (below_drawn _ nd)
        have hbel := HBel.out.trans ((below_drawn _ nd).mono HBel.out.size)
        generalize World.drewN _ nd = wq at hba hbb hrr hbel ⊢
        clear HBA HBB HR HBel
        have HBA := Lib.hid hba; clear hba
        have HBB := Lib.hid hbb; clear hbb
        have HR := Lib.hid hrr; clear hrr
        have HBel := Lib.hid hbel; clear hbel
        go_wp2
        go_ret
        exact ⟨rfl, HBel.out⟩
    · have p1 : decide ((RL : Int) ≥ (on : Int)) = false := decide_eq_false (by omega)
      have p1' : decide (on ≤ RL) = false := decide_eq_false q1
      have p1 : decide ((RL : Int) ≥ (bn : Int)) = true := decide_eq_true (by omega)
      have p1' : decide (bn ≤ RL) = true := decide_eq_true (by omega)
      have p2 : decide ((RL : Int) ≤ (BL : Int)) = true := decide_eq_true (by omega)
      have p2' : decide (RL ≤ BL) = true := decide_eq_true (by omega)
      have j1 : (0 : Int) ≤ (RL : Int) := by omega
      have j2 : (RL : Int) ≤ (yc : Int) := by have := HBB.out.le; omega
      have hsr := SameRecs_calls HR.out (HBB.out.upto (i := RL) (by omega)) HEQ.out
      have Hsr := Lib.hid hsr; clear hsr
      go_wp2_with fail
      refine Hsr.out.mono ?_
      rintro e wq ⟨rfl, nd, rfl⟩
      clear Hsr
      have hba := HBA.out.keep (below_drawn _ nd)
      have hbb := HBB.out.keep (below_drawn _ nd)
      have hrr := HR.out.keep (below_drawn _ nd)
      have hbel := HBel.out.trans ((below_drawn _ nd).mono HBel.out.size)
      generalize World.drewN _ nd = wq at hba hbb hrr hbel ⊢
      clear HBA HBB HR HBel
      have HBA := Lib.hid hba; clear hba
      have HBB := Lib.hid hbb; clear hbb
      have HR := Lib.hid hrr; clear hrr
      have HBel := Lib.hid hbel; clear hbel
      go_wp2
      go_ret
      exact ⟨rfl, HBel.out⟩
end Go.Proofs.Ytgpedejeifmfdaa
