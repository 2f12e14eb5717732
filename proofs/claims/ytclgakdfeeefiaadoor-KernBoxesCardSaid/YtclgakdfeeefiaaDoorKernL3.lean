/- The law KernBoxes. -/
import Derived.Test.YtclgakdfeeefiaaDoorKernE
namespace Go.Proofs.YtclgakdfeeefiaaDoor
open Go.RowKit

abbrev pB : Pl := (2, 1, 2)
theorem pB_good : pB.good := by decide
/-- The box at the way's end holds W. -/
def Holds (e : End) (W : List Msg) (st : Sta) : Prop := (st e).2 = W
theorem carry_fit {st : Sta} {e : End} {W : List Msg} {m : Msg} (h : Holds e W st) (hi : Inside 2 e) (hf : fitsOf e m = true) : (carryK 2 st e m).1 = decide (W.length < 8) ∧ Holds e (carryOf W m) (carryK 2 st e m).2 := by
  unfold carryK
  rw [if_pos ⟨hi, hf⟩, h]
  refine ⟨rfl, ?_⟩
  show (updE st e _ e).2 = _
  rw [updE_same]
theorem carry_unfit {st : Sta} {e : End} {W : List Msg} {m : Msg} (h : Holds e W st) (hf : fitsOf e m = false) : (carryK 2 st e m).1 = false ∧ Holds e W (carryK 2 st e m).2 := by
  unfold carryK
  rw [if_neg (by rw [hf]; rintro ⟨-, h⟩; cases h)]
  exact ⟨rfl, h⟩
theorem fits_says {q : Int} {u : Bool} {k pa t x : Int} (hf : fitsOf (q, dirOf u) (k, pa, t, x) = true) : pa = q ∧ decide (k ≤ 3) = u := by
  unfold fitsOf at hf
  simp only [Bool.and_eq_true, decide_eq_true_eq, beq_iff_eq] at hf
  obtain ⟨⟨h1, h2⟩, h3⟩ := hf
  refine ⟨h2, ?_⟩
  unfold rightOf mostOf at h1
  have h1 := of_decide_eq_true h1
  simp only [Msg.kind, Msg.part, Msg.tx, Msg.what] at h1
  unfold upOf at h3
  simp only [Msg.kind] at h3
  cases u with
  | false =>
    have := of_decide_eq_false (h3.trans (show decide (dirOf false = 1) = false by decide))
    refine decide_eq_false ?_
    split at h1
    · omega
    · split at h1
      · omega
      · split at h1 <;> omega
  | true =>
    have := of_decide_eq_true (h3.trans (show decide (dirOf true = 1) = true by decide))
    exact decide_eq_true (by omega)
/-- What is taken first. -/
def headOf : List Msg → Msg × Int
  | [] => (noMsg, 12)
  | m :: _ => (m, 0)
/-- Who takes there. -/
def takerOf (q : Int) (u : Bool) : Int := if u = true then 2 else q
theorem labs_two : withOf (labOf 2 0) (labOf 2 0) 0 = true ∧ withOf (labOf 2 1) (labOf 2 1) 0 = true ∧ withOf (labOf 2 0) (labOf 2 2) 0 = true ∧ withOf (labOf 2 1) (labOf 2 2) 0 = true := by decide +kernel
theorem recv_two {st : Sta} {q : Int} {u : Bool} {W : List Msg} (hq : q = 0 ∨ q = 1) (h : Holds (q, dirOf u) W st) : (recvK 2 pB st (takerOf q u) q 0 (takerOf q u)).1 = headOf W ∧ Holds (q, dirOf u) W.tail (recvK 2 pB st (takerOf q u) q 0 (takerOf q u)).2 := by
  obtain ⟨l1, l2, l3, l4⟩ := labs_two
  have hd : dirOf (decide (takerOf q u = ((2 : Nat) : Int))) = dirOf u := by
    unfold takerOf
    cases u with
    | true => rfl
    | false => rcases hq with rfl | rfl <;> rfl
  have hth : thereB 2 (takerOf q u) = true := by
    unfold takerOf
    cases u with
    | true => rfl
    | false => rcases hq with rfl | rfl <;> rfl
  have hin : Inside 2 (q, dirOf u) := by
    unfold Inside
    refine ⟨show 0 ≤ q by omega, show q < ((2 : Nat) : Int) by omega, ?_⟩
    cases u with
    | true => exact .inr rfl
    | false => exact .inl rfl
  have how : ownOf pB (takerOf q u) = takerOf q u := by
    unfold takerOf
    cases u with
    | true => rfl
    | false => rcases hq with rfl | rfl <;> rfl
  have hwi : withOf (labOf 2 q) (labOf 2 (takerOf q u)) 0 = true := by
    unfold takerOf
    cases u with
    | true => rcases hq with rfl | rfl; exact l3; exact l4
    | false => rcases hq with rfl | rfl; exact l1; exact l2
  unfold recvK
  simp only [hd]
  rw [if_pos ⟨hth, hin⟩, if_pos how]
  unfold Holds at h ⊢
  rw [h]
  unfold takeOf
  rw [hwi]
  cases W with
  | nil => simp [updE_same, headOf]
  | cons m W => simp [updE_same, headOf]
set_option maxHeartbeats 16000000 in
set_option maxRecDepth 100000 in
theorem lawKernBoxes {w : World} {q : Int} {a : Option Addr} {n c : Nat} {xs : List Msg} {u : Bool} (hT : TabOk w) (_h : (Lit.int .i64 q).wf = true) (hx : Msgs w a n c xs) :
    Calls Tryd.prog 5 #[.int .i64 q, .slice a n c, .bool u] w fun e w' => e = .returned (.bool true) ∧ Below w.heap.size w w' := by
  have hl := hx.len
  have ha := alive_calls hT
  have h0 : 0 < w.heap.size := World.block_lt_of_cell? _ _ (hT 0 (by decide))
  have HA := Lib.hid ha; clear ha
  have HT := Lib.hid hT; clear hT
  have H0 := Lib.hid h0; clear h0
  have Hx := Lib.hid hx; clear hx _h
  have Hl := Lib.hid hl; clear hl
  go_enter Tryd.func5, Tryd.ntmps5
  go_wp2_with fail
  refine HA.out.mono ?_
  rintro e w1 ⟨rfl, b1⟩
  clear HA
  have Hb1 := Lib.hid b1; clear b1
  by_cases h1 : q < 0
  · have e1 : decide (q < 0) = true := decide_eq_true h1
    go_wp2
    go_ret
    exact ⟨rfl, Hb1.out⟩
  have e1 : decide (q < 0) = false := decide_eq_false h1
  by_cases h2 : 1 < q
  · have e2 : decide (1 < q) = true := decide_eq_true h2
    go_wp2
    go_ret
    exact ⟨rfl, Hb1.out⟩
  have e2 : decide (1 < q) = false := decide_eq_false h2
  by_cases h3 : 60 < n
  · have e0 : decide ((60 : Int) < (n : Int)) = true := decide_eq_true (by omega)
    go_wp2
    go_ret
    exact ⟨rfl, Hb1.out⟩
  have e0 : decide ((60 : Int) < (n : Int)) = false := decide_eq_false (by omega)
  have hq : q = 0 ∨ q = 1 := by omega
  have hin : Inside 2 (q, dirOf u) := by
    unfold Inside
    refine ⟨show 0 ≤ q by omega, show q < ((2 : Nat) : Int) by omega, ?_⟩
    cases u with
    | true => exact .inr rfl
    | false => exact .inl rfl
  have hn60 : n ≤ 60 := by omega
  have Hin := Lib.hid hin; clear hin
  have Hq := Lib.hid hq; clear hq
  clear h1 h2 h3
  have hn := New_kl (w0 := w) Hb1.out (HT.out.below Hb1.out) (Nat.lt_of_lt_of_le H0.out Hb1.out.size) pB pB_good (n := 2) rfl (L := []) (fun x hx => by cases hx)
  simp only [Pl.cells, Pl.parts, Pl.window, Pl.delay] at hn
  have Hn := Lib.hid hn; clear hn HT H0 Hb1
  go_wp2_with fail
  refine Hn.out.mono ?_
  rintro e w2 ⟨kb, rfl, hk, -⟩
  clear Hn e0 e1 e2
  have hv := hk.row
  have Hv := Lib.hid hv; clear hv hk
  go_wp2_with fail
  go_loopw [9, 10] (fun v i wr => ∃ (j : Nat) (st : Sta) (W : List Msg), j ≤ n ∧ i = .int .i64 j ∧ KnV w wr kb 2 pB st v W [] ∧ Holds (q, dirOf u) W st ∧ W.length ≤ 8) (fun _ i _ => n - (intOf i).toNat)
  case atStart => exact ⟨0, st0, [], by omega, rfl, Hv.out, rfl, by decide⟩
  case round =>
    clear Hv
    obtain ⟨j, st, W, hj, rfl, hv, hh, hW⟩ := hrel
    obtain ⟨va, vc, rfl, hvm⟩ := hv.msgs
    have Hv := Lib.hid hv; clear hv
    have Hh := Lib.hid hh; clear hh
    have HW := Lib.hid hW; clear hW
    by_cases hlt : j < n
    · clear hvm
      have hxr := Hx.out.keep Hv.out.bel
      obtain ⟨bx, ox, rfl⟩ := hxr.addr (by omega)
      have hqx : j < xs.length := by rw [Hl.out]; exact hlt
      have hcx := hxr.at hqx
      obtain ⟨m, hm⟩ : ∃ m, m = xs[j] := ⟨_, rfl⟩
      rw [← hm] at hcx
      clear hm hxr
      have x0 := hcx 0 _ rfl
      have x1 := hcx 1 _ rfl
      have x2 := hcx 2 _ rfl
      have x3 := hcx 3 _ rfl
      clear hcx
      obtain ⟨k1, k2, k3, k4⟩ := m
      simp only [Nat.add_zero, Msg.kind, Msg.part, Msg.tx, Msg.what] at x0 x1 x2 x3
      have i1 : (0 : Int) ≤ (j : Int) := by omega
      have i2 : (j : Int) < (n : Int) := by omega
      obtain ⟨w3, hw3⟩ : ∃ w3, w3 = wr.alloc (.cells #[.int .i64 k1, .int .i64 k2, .int .i64 k3, .int .i64 k4] 39) := ⟨_, rfl⟩
      have hv3 := Hv.out.made (.cells #[.int .i64 k1, .int .i64 k2, .int .i64 k3, .int .i64 k4] 39)
      rw [← hw3] at hv3
      clear Hv
      generalize hgm : wr.heap.size = gm at hv3
      have hc := hv3.call fun F h => Carry_kn h q u (k1, k2, k3, k4)
      obtain ⟨CK, hCK⟩ : ∃ CK, CK = carryK 2 st (q, dirOf u) (k1, k2, k3, k4) := ⟨_, rfl⟩
      rw [← hCK] at hc
      simp only [Msg.cells, Msg.kind, Msg.part, Msg.tx, Msg.what] at hc
      have Hc := Lib.hid hc; clear hc hv3
      have HCK := Lib.hid hCK; clear hCK
      cases hf : fitsOf (q, dirOf u) (k1, k2, k3, k4) with
      | false =>
        obtain ⟨h1, h2⟩ := carry_unfit Hh.out hf
        rw [← HCK.out] at h1 h2
        have e8 : decide ((8 : Int) < (W.length : Int)) = false := decide_eq_false (by have := HW.out; omega)
        have e8' : decide (8 < W.length) = false := decide_eq_false (by have := HW.out; omega)
        generalize hWL : W.length = WL at *
        clear hf HCK Hh
        have H2 := Lib.hid h2; clear h2
        have HWL := Lib.hid hWL; clear hWL
        have Hgm := Lib.hid hgm; clear hgm
        rw [h1] at Hc
        clear h1
        go_wp2_with fail
        rw [← hw3, Hgm.out]
        clear hw3 x0 x1 x2 x3
        refine Hc.out.mono ?_
        rintro e w4 ⟨rfl, hv4⟩
        have HV := Lib.hid hv4.drop; clear hv4 Hc Hgm
        go_wp2_with fail
        go_roundw
        case rel => exact ⟨j + 1, _, W, by omega, by go_num, HV.out, H2.out, by rw [HWL.out]; exact HW.out⟩
        case measure => simp [intOf]; omega
      | true =>
        obtain ⟨h1, h2⟩ := carry_fit Hh.out Hin.out hf
        obtain ⟨g1, g2⟩ := fits_says hf
        subst g1
        rw [← HCK.out] at h1 h2
        clear hf
        by_cases h8 : W.length < 8
        · rw [decide_eq_true h8] at h1
          have hco : carryOf W (k1, k2, k3, k4) = W ++ [(k1, k2, k3, k4)] := if_pos h8
          rw [hco] at h2
          have e8 : decide ((8 : Int) < ((W.length + 1 : Nat) : Int)) = false := decide_eq_false (by omega)
          have e8' : decide (8 < W.length + 1) = false := decide_eq_false (by omega)
          have e8'' : decide ((8 : Int) < (W.length : Int) + 1) = false := decide_eq_false (by omega)
          have n1 : (k2 != k2) = false := by simp
          have n2 : (u != u) = false := by simp
          have h9 : W.length + 1 ≤ 8 := by omega
          generalize hWL : W.length = WL at *
          clear hco h8 HCK Hh
          have H2 := Lib.hid h2; clear h2
          have HWL := Lib.hid hWL; clear hWL
          have Hgm := Lib.hid hgm; clear hgm
          have H9 := Lib.hid h9; clear h9
          rw [h1] at Hc
          clear h1
          go_wp2_with fail
          rw [← hw3, Hgm.out]
          clear hw3 x0 x1 x2 x3
          refine Hc.out.mono ?_
          rintro e w4 ⟨rfl, hv4⟩
          have zm := hv4.at (.head _)
          have y0 := cells_at zm 0
          have y1 := cells_at zm 1
          have y2 := cells_at zm 2
          have y3 := cells_at zm 3
          have HV := Lib.hid hv4; clear hv4 Hc Hgm zm
          go_wp2_with (with_reducible refine stop_builtin .append ?_)
          refine unpark ?_
          have x8 := heap_alloc_new w4 (.cells #[.int .i64 k1, .int .i64 k2, .int .i64 k3, .int .i64 k4] 39)
          have v8 := HV.out.step ((Below.refl w4.heap.size w4).alloc (Nat.le_refl _) (.cells #[.int .i64 k1, .int .i64 k2, .int .i64 k3, .int .i64 k4] 39))
          generalize w4.alloc (.cells #[.int .i64 k1, .int .i64 k2, .int .i64 k3, .int .i64 k4] 39) = w8 at x8 v8 ⊢
          generalize w4.heap.size = g8 at x8
          have v8o := v8
          obtain ⟨F8, kn8, own8, -⟩ := v8o
          refine wpList_append_msgs w8 rfl _ _ rfl w.heap.size (.slice va WL vc) W rfl own8 g8 0 1 1 [(k1, k2, k3, k4)] rfl rfl (by decide) (fun j' u' hu => by rw [Nat.zero_add, cells_at x8 j', List.getElem?_toArray]; exact hu) (by rw [HWL.out]; have := H9.out; omega) kn8.bel.size ?_
          intro v' w9 own9 g9 hv9
          have v9 := v8.more own9 g9 hv9
          clear own8 kn8 v8 x8 own9 g9 hv9 y0 y1 y2 y3 HV
          obtain ⟨va9, vc9, e9, -⟩ := v9.msgs
          rw [List.length_append, List.length_singleton, HWL.out] at e9
          subst e9
          have zm := v9.at (.head _)
          have y0 := cells_at zm 0
          have y1 := cells_at zm 1
          have y2 := cells_at zm 2
          have y3 := cells_at zm 3
          have HV := Lib.hid v9.drop; clear v9 zm
          go_wp2_with fail
          go_roundw
          case rel => exact ⟨j + 1, _, W ++ [(k1, k2, k3, k4)], by omega, by go_num, HV.out, H2.out, by rw [List.length_append, List.length_singleton, HWL.out]; exact H9.out⟩
          case measure => simp [intOf]; omega
        · rw [decide_eq_false h8] at h1
          have hco : carryOf W (k1, k2, k3, k4) = W := if_neg h8
          rw [hco] at h2
          have e8 : decide ((8 : Int) < (W.length : Int)) = false := decide_eq_false (by have := HW.out; omega)
          have e8' : decide (8 < W.length) = false := decide_eq_false (by have := HW.out; omega)
          generalize hWL : W.length = WL at *
          clear hco h8 HCK Hh
          have H2 := Lib.hid h2; clear h2
          have HWL := Lib.hid hWL; clear hWL
          have Hgm := Lib.hid hgm; clear hgm
          rw [h1] at Hc
          clear h1
          go_wp2_with fail
          rw [← hw3, Hgm.out]
          clear hw3 x0 x1 x2 x3
          refine Hc.out.mono ?_
          rintro e w4 ⟨rfl, hv4⟩
          have HV := Lib.hid hv4.drop; clear hv4 Hc Hgm
          go_wp2_with fail
          go_roundw
          case rel => exact ⟨j + 1, _, W, by omega, by go_num, HV.out, H2.out, by rw [HWL.out]; exact HW.out⟩
          case measure => simp [intOf]; omega
    · obtain rfl : j = n := by omega
      have hbx := Box_kl Hv.out.kl q u
      have hbk : boxK 2 st (q, dirOf u) = W := by unfold boxK; rw [if_pos Hin.out]; exact Hh.out
      rw [hbk] at hbx
      have Hbx := Lib.hid hbx; clear hbx hbk
      have Hvm := Lib.hid hvm; clear hvm
      go_wp2_with fail
      refine Hbx.out.mono ?_
      rintro e w3 ⟨v3, rfl, own3, b3⟩
      obtain ⟨a3, k3, c3, rfl, hm3, -⟩ := own3.msgs
      obtain rfl : W.length = k3 := hm3.len
      have hvm3 := Hvm.out.keep b3
      have hsm := SameMsgs_calls hm3 hvm3 rfl
      have HV := Lib.hid (Hv.out.step b3)
      have Hsm := Lib.hid hsm; clear hsm hm3 own3 Hvm Hbx b3
      have Hvm := Lib.hid hvm3; clear hvm3
      clear Hv
      go_wp2_with fail
      refine Hsm.out.mono ?_
      rintro e w4 ⟨rfl, nd, rfl⟩
      have hv4 := HV.out.step (below_drawn w3 nd)
      generalize w3.drewN nd = w4 at hv4 ⊢
      have HV2 := Lib.hid hv4; clear hv4 HV Hsm Hvm
      cases u with
      | false =>
        go_wp2_with fail
        obtain ⟨wo, hwo⟩ : ∃ wo : World, wo = wr := ⟨_, rfl⟩
        clear hwo
        go_loopw [14] (fun i wz => ∃ (k : Nat) (st2 : Sta), k ≤ W.length ∧ i = .int .i64 k ∧ KnV w wz kb 2 pB st2 (.slice va W.length vc) W [] ∧ Holds (q, dirOf false) (W.drop k) st2) (fun i _ => W.length - (intOf i).toNat)
        case atStart => exact ⟨0, st, Nat.zero_le _, rfl, HV2.out, Hh.out⟩
        case round =>
          clear HV2
          obtain ⟨k, st2, hk, rfl, hv, hh2⟩ := hrel
          obtain ⟨va', vc', ev, hvm⟩ := hv.msgs
          cases ev
          have hW8 := HW.out
          by_cases hlt2 : k < W.length
          · obtain ⟨r1, r2⟩ := recv_two Hq.out hh2
            rw [List.drop_eq_getElem_cons hlt2] at r1 r2
            obtain ⟨bv, ov, rfl⟩ := hvm.addr (by omega)
            have hm2 := List.getElem?_eq_getElem hlt2
            obtain ⟨m, hm⟩ : ∃ m, m = W[k] := ⟨_, rfl⟩
            rw [← hm] at r1 hm2
            clear hm
            have Hm := Lib.hid hm2; clear hm2
            simp only [List.tail_cons, headOf] at r1 r2
            have hrv := hv.call fun F h => Recv_kn h (q) q 0 (q)
            have ht : takerOf q false = q := rfl
            rw [ht] at r1 r2
            rw [r1] at hrv
            obtain ⟨k1, k2, k3, k4⟩ := m
            simp only [Msg.cells, Msg.kind, Msg.part, Msg.tx, Msg.what] at hrv
            generalize hWL : W.length = WL at *
            have HWL := Lib.hid hWL; clear hWL
            have Hrv := Lib.hid hrv; clear hrv r1 ht
            have Hvm := Lib.hid hvm; clear hvm
            clear hv
            have R2 := Lib.hid r2; clear r2 hh2
            go_wp2_with fail
            refine Hrv.out.mono ?_
            rintro e w5 ⟨rfl, hv5⟩
            have hv6 := hv5.made (.cells #[.int .i64 k1, .int .i64 k2, .int .i64 k3, .int .i64 k4] 39)
            obtain ⟨va5, vc5, ev, hvm5⟩ := hv5.msgs
            obtain ⟨w6, hw6⟩ : ∃ w6, w6 = w5.alloc (.cells #[.int .i64 k1, .int .i64 k2, .int .i64 k3, .int .i64 k4] 39) := ⟨_, rfl⟩
            rw [← hw6] at hv6
            generalize hg6 : w5.heap.size = g6 at hv6
            have z6 := hv6.at (.head _)
            have hv6 := hv6.drop
            have HV6 := Lib.hid hv6; clear hv5 hv6 hvm5 Hrv ev
            obtain ⟨va6, vc6, ev, hvm6⟩ := HV6.out.msgs
            rw [HWL.out] at ev
            cases ev
            have hcx6 : ∀ k' u, (Msg.cells (k1, k2, k3, k4))[k']? = some u → w6.cell? ⟨bv, ov + k * 4 + k', none⟩ = some u := fun k' u hu => by
              have hlk : k < W.length := by rw [HWL.out]; exact hlt2
              have h1 := hvm6.at hlk k' u
              have e := Hm.out
              rw [List.getElem?_eq_getElem hlk] at e
              rw [Option.some.inj e] at h1
              exact h1 hu
            have y0 := cell_regrown (cells_at z6 0)
            have y1 := cell_regrown (cells_at z6 1)
            have y2 := cell_regrown (cells_at z6 2)
            have y3 := cell_regrown (cells_at z6 3)
            have x0 := cell_regrown (hcx6 0 _ rfl)
            have x1 := cell_regrown (hcx6 1 _ rfl)
            have x2 := cell_regrown (hcx6 2 _ rfl)
            have x3 := cell_regrown (hcx6 3 _ rfl)
            simp only [Nat.add_zero, Msg.kind, Msg.part, Msg.tx, Msg.what] at x0 x1 x2 x3
            have lq := fun w => msg_neq w (k1, k2, k3, k4) (k1, k2, k3, k4)
            have lg := fun x y w => msg_guard .neq x y (k1, k2, k3, k4) (k1, k2, k3, k4) w
            simp only [Msg.cells, Msg.kind, Msg.part, Msg.tx, Msg.what, decide_true, Bool.not_true] at lq lg
            have Lq := Lib.hid lq; clear lq
            have Lg := Lib.hid lg; clear lg
            have i1 : (0 : Int) ≤ (k : Int) := by omega
            have i2 : (k : Int) < (WL : Int) := by omega
            clear z6 hcx6 Hvm hvm6 Hm
            have Hg6 := Lib.hid hg6; clear hg6
            go_wp2_with fail
            rw [← hw6, Hg6.out]
            clear hw6
            have lq := Lq.out
            have lg := Lg.out
            refine wp_region_quiet_below (by kernel_rfl) (by kernel_rfl) ?_
            repeat (go_big_quiet_step (fail))
            refine wpQuiet_nil ?_
            intro wq hwq
            have bk : Below w6.heap.size w6 wq := by obtain ⟨q, rfl⟩ := hwq; exact below_regrown _ _ _
            clear hwq y0 y1 y2 y3 x0 x1 x2 x3 lq lg Hg6
            have hv := HV6.out.step bk
            clear bk HV6
            have HV := Lib.hid hv; clear hv
            go_wp2_with fail
            go_roundw
            case rel => exact ⟨k + 1, _, by omega, by go_num, HV.out, R2.out⟩
            case measure => simp [intOf]; omega
          · obtain rfl : k = W.length := by omega
            obtain ⟨r1, -⟩ := recv_two Hq.out hh2
            rw [List.drop_length] at r1
            simp only [headOf] at r1
            have hrv := hv.call fun F h => Recv_kn h (q) q 0 (q)
            have ht : takerOf q false = q := rfl
            rw [ht] at r1
            rw [r1] at hrv
            simp only [Msg.cells, Msg.kind, Msg.part, Msg.tx, Msg.what, noMsg] at hrv
            generalize W.length = WL at *
            have Hrv := Lib.hid hrv; clear hrv r1 ht hv hvm hh2
            go_wp2_with fail
            refine Hrv.out.mono ?_
            rintro e w5 ⟨rfl, hv5⟩
            have HB := Lib.hid hv5.bel; clear hv5 Hrv
            go_wp2
            go_ret
            exact ⟨rfl, HB.out⟩
      | true =>
        go_wp2_with fail
        obtain ⟨wo, hwo⟩ : ∃ wo : World, wo = wr := ⟨_, rfl⟩
        clear hwo
        go_loopw [14] (fun i wz => ∃ (k : Nat) (st2 : Sta), k ≤ W.length ∧ i = .int .i64 k ∧ KnV w wz kb 2 pB st2 (.slice va W.length vc) W [] ∧ Holds (q, dirOf true) (W.drop k) st2) (fun i _ => W.length - (intOf i).toNat)
        case atStart => exact ⟨0, st, Nat.zero_le _, rfl, HV2.out, Hh.out⟩
        case round =>
          clear HV2
          obtain ⟨k, st2, hk, rfl, hv, hh2⟩ := hrel
          obtain ⟨va', vc', ev, hvm⟩ := hv.msgs
          cases ev
          have hW8 := HW.out
          by_cases hlt2 : k < W.length
          · obtain ⟨r1, r2⟩ := recv_two Hq.out hh2
            rw [List.drop_eq_getElem_cons hlt2] at r1 r2
            obtain ⟨bv, ov, rfl⟩ := hvm.addr (by omega)
            have hm2 := List.getElem?_eq_getElem hlt2
            obtain ⟨m, hm⟩ : ∃ m, m = W[k] := ⟨_, rfl⟩
            rw [← hm] at r1 hm2
            clear hm
            have Hm := Lib.hid hm2; clear hm2
            simp only [List.tail_cons, headOf] at r1 r2
            have hrv := hv.call fun F h => Recv_kn h (2) q 0 (2)
            have ht : takerOf q true = 2 := rfl
            rw [ht] at r1 r2
            rw [r1] at hrv
            obtain ⟨k1, k2, k3, k4⟩ := m
            simp only [Msg.cells, Msg.kind, Msg.part, Msg.tx, Msg.what] at hrv
            generalize hWL : W.length = WL at *
            have HWL := Lib.hid hWL; clear hWL
            have Hrv := Lib.hid hrv; clear hrv r1 ht
            have Hvm := Lib.hid hvm; clear hvm
            clear hv
            have R2 := Lib.hid r2; clear r2 hh2
            go_wp2_with fail
            refine Hrv.out.mono ?_
            rintro e w5 ⟨rfl, hv5⟩
            have hv6 := hv5.made (.cells #[.int .i64 k1, .int .i64 k2, .int .i64 k3, .int .i64 k4] 39)
            obtain ⟨va5, vc5, ev, hvm5⟩ := hv5.msgs
            obtain ⟨w6, hw6⟩ : ∃ w6, w6 = w5.alloc (.cells #[.int .i64 k1, .int .i64 k2, .int .i64 k3, .int .i64 k4] 39) := ⟨_, rfl⟩
            rw [← hw6] at hv6
            generalize hg6 : w5.heap.size = g6 at hv6
            have z6 := hv6.at (.head _)
            have hv6 := hv6.drop
            have HV6 := Lib.hid hv6; clear hv5 hv6 hvm5 Hrv ev
            obtain ⟨va6, vc6, ev, hvm6⟩ := HV6.out.msgs
            rw [HWL.out] at ev
            cases ev
            have hcx6 : ∀ k' u, (Msg.cells (k1, k2, k3, k4))[k']? = some u → w6.cell? ⟨bv, ov + k * 4 + k', none⟩ = some u := fun k' u hu => by
              have hlk : k < W.length := by rw [HWL.out]; exact hlt2
              have h1 := hvm6.at hlk k' u
              have e := Hm.out
              rw [List.getElem?_eq_getElem hlk] at e
              rw [Option.some.inj e] at h1
              exact h1 hu
            have y0 := cell_regrown (cells_at z6 0)
            have y1 := cell_regrown (cells_at z6 1)
            have y2 := cell_regrown (cells_at z6 2)
            have y3 := cell_regrown (cells_at z6 3)
            have x0 := cell_regrown (hcx6 0 _ rfl)
            have x1 := cell_regrown (hcx6 1 _ rfl)
            have x2 := cell_regrown (hcx6 2 _ rfl)
            have x3 := cell_regrown (hcx6 3 _ rfl)
            simp only [Nat.add_zero, Msg.kind, Msg.part, Msg.tx, Msg.what] at x0 x1 x2 x3
            have lq := fun w => msg_neq w (k1, k2, k3, k4) (k1, k2, k3, k4)
            have lg := fun x y w => msg_guard .neq x y (k1, k2, k3, k4) (k1, k2, k3, k4) w
            simp only [Msg.cells, Msg.kind, Msg.part, Msg.tx, Msg.what, decide_true, Bool.not_true] at lq lg
            have Lq := Lib.hid lq; clear lq
            have Lg := Lib.hid lg; clear lg
            have i1 : (0 : Int) ≤ (k : Int) := by omega
            have i2 : (k : Int) < (WL : Int) := by omega
            clear z6 hcx6 Hvm hvm6 Hm
            have Hg6 := Lib.hid hg6; clear hg6
            go_wp2_with fail
            rw [← hw6, Hg6.out]
            clear hw6
            have lq := Lq.out
            have lg := Lg.out
            refine wp_region_quiet_below (by kernel_rfl) (by kernel_rfl) ?_
            repeat (go_big_quiet_step (fail))
            refine wpQuiet_nil ?_
            intro wq hwq
            have bk : Below w6.heap.size w6 wq := by obtain ⟨q, rfl⟩ := hwq; exact below_regrown _ _ _
            clear hwq y0 y1 y2 y3 x0 x1 x2 x3 lq lg Hg6
            have hv := HV6.out.step bk
            clear bk HV6
            have HV := Lib.hid hv; clear hv
            go_wp2_with fail
            go_roundw
            case rel => exact ⟨k + 1, _, by omega, by go_num, HV.out, R2.out⟩
            case measure => simp [intOf]; omega
          · obtain rfl : k = W.length := by omega
            obtain ⟨r1, -⟩ := recv_two Hq.out hh2
            rw [List.drop_length] at r1
            simp only [headOf] at r1
            have hrv := hv.call fun F h => Recv_kn h (2) q 0 (2)
            have ht : takerOf q true = 2 := rfl
            rw [ht] at r1
            rw [r1] at hrv
            simp only [Msg.cells, Msg.kind, Msg.part, Msg.tx, Msg.what, noMsg] at hrv
            generalize W.length = WL at *
            have Hrv := Lib.hid hrv; clear hrv r1 ht hv hvm hh2
            go_wp2_with fail
            refine Hrv.out.mono ?_
            rintro e w5 ⟨rfl, hv5⟩
            have HB := Lib.hid hv5.bel; clear hv5 Hrv
            go_wp2
            go_ret
            exact ⟨rfl, HB.out⟩
end Go.Proofs.YtclgakdfeeefiaaDoor
