/- The law KernClears. -/
import Derived.Test.YtclgakdfeeefiaaDoorKernG
namespace Go.Proofs.YtclgakdfeeefiaaDoor
open Go.RowKit

/-- Ways as they are behind a Clear. -/
def Cleared (N : Nat) (S : Sta) (who : Int) (T : Sta) : Prop := ∀ e, T e = clearK N S who e
section
variable {N : Nat} {S T : Sta} {who : Int} {q : Int}
theorem clr_up_all (h : Cleared N S who T) (hw : who = (N : Int)) : boxK N T (q, dirOf true) = [] := by
  unfold boxK
  split
  · rw [h]; simp [clearK, clearE, endsB, dirOf, hw]
  · rfl
theorem clr_up_not (h : Cleared N S who T) (hw : ¬ who = (N : Int)) : boxK N T (q, dirOf true) = boxK N S (q, dirOf true) := by
  unfold boxK
  rw [h]; simp [clearK, clearE, endsB, dirOf, hw]
theorem clr_down_its (h : Cleared N S who T) (hw : who = q) : boxK N T (q, dirOf false) = [] := by
  unfold boxK
  split
  · rw [h]; simp [clearK, clearE, endsB, dirOf, hw]
  · rfl
theorem clr_down_not (h : Cleared N S who T) (hw : ¬ who = q) : boxK N T (q, dirOf false) = boxK N S (q, dirOf false) := by
  have hw' : ¬ q = who := fun h => hw h.symm
  unfold boxK
  rw [h]; simp [clearK, clearE, endsB, dirOf, hw']
theorem clr_out (h : Cleared N S who T) {e : End} (he : (T e).1 = []) : (outK N T e).1 = [] ∧ Cleared N S who (outK N T e).2 := by
  unfold outK
  by_cases hi : Inside N e
  · rw [if_pos hi]
    refine ⟨he, fun x => ?_⟩
    show updE T e ([], (T e).2) x = _
    by_cases hx : x = e
    · subst hx
      rw [updE_same, ← h x, ← he]
    · rw [updE_other _ _ hx]
      exact h x
  · rw [if_neg hi]
    exact ⟨rfl, h⟩
theorem clr_down_out (h : Cleared N S who T) (hw : who = (N : Int)) : (T (q, dirOf false)).1 = [] := by
  rw [h]; simp [clearK, clearE, beginsB, dirOf, hw]
theorem clr_up_out (h : Cleared N S who T) (hw : who = q) : (T (q, dirOf true)).1 = [] := by
  rw [h]; simp [clearK, clearE, beginsB, dirOf, hw]
end
/-- What the parts' boxes hold. -/
def boxesOf (N : Nat) (S : Sta) (u : Bool) (j : Nat) : List (List Msg) := (List.range j).map fun (i : Nat) => boxK N S ((i : Int), dirOf u)
theorem boxes_next (N : Nat) (S : Sta) (u : Bool) (j : Nat) : boxesOf N S u (j + 1) = boxesOf N S u j ++ [boxK N S ((j : Int), dirOf u)] := by
  unfold boxesOf; rw [List.range_succ, List.map_append]; rfl
theorem boxes_at (N : Nat) (S : Sta) (u : Bool) {i j : Nat} (h : i < j) : (boxesOf N S u j)[i]? = some (boxK N S ((i : Int), dirOf u)) := by
  unfold boxesOf; rw [List.getElem?_map, List.getElem?_range h]; rfl
theorem boxes_len (N : Nat) (S : Sta) (u : Bool) (j : Nat) : (boxesOf N S u j).length = j := by simp [boxesOf]
set_option maxHeartbeats 64000000 in
set_option maxRecDepth 100000 in
theorem lawKernClears {w : World} {P : Int} {a : Option Addr} {n c : Nat} {xs : List CallK} {who : Int} (hT : TabOk w) (_h : (Lit.int .i64 P).wf = true) (hx : KRow w a n c xs) (_h2 : (Lit.int .i64 who).wf = true) :
    Calls Tryd.prog 8 #[.int .i64 P, .slice a n c, .int .i64 who] w fun e w' => e = .returned (.bool true) ∧ Below w.heap.size w w' := by
  have hl := hx.len
  have ha := alive_calls hT
  have h0 : 0 < w.heap.size := World.block_lt_of_cell? _ _ (hT 0 (by decide))
  have HA := Lib.hid ha; clear ha
  have HT := Lib.hid hT; clear hT
  have H0 := Lib.hid h0; clear h0
  have Hx := Lib.hid hx; clear hx _h _h2
  have Hl := Lib.hid hl; clear hl
  go_enter Tryd.func8, Tryd.ntmps8
  go_wp2_with fail
  refine HA.out.mono ?_
  rintro e w1 ⟨rfl, b1⟩
  clear HA
  have Hb1 := Lib.hid b1; clear b1
  by_cases h1 : 100 < n
  · have e0 : decide ((100 : Int) < (n : Int)) = true := decide_eq_true (by omega)
    go_wp2
    go_ret
    exact ⟨rfl, Hb1.out⟩
  have e0 : decide ((100 : Int) < (n : Int)) = false := decide_eq_false (by omega)
  by_cases g0 : P < 1
  · have e1 : decide (P < 1) = true := decide_eq_true g0
    go_wp2
    go_ret
    exact ⟨rfl, Hb1.out⟩
  have e1 : decide (P < 1) = false := decide_eq_false g0
  by_cases g1 : 6 < P
  · have e2 : decide (6 < P) = true := decide_eq_true g1
    go_wp2
    go_ret
    exact ⟨rfl, Hb1.out⟩
  have e2 : decide (6 < P) = false := decide_eq_false g1
  obtain ⟨N, rfl⟩ : ∃ N : Nat, P = N := ⟨P.toNat, by omega⟩
  have hg : Pl.good ((N : Int), 1, 2) := ⟨by show 1 ≤ (N : Int); omega, by show (N : Int) ≤ 6; omega, (by decide : (1 : Int) ≤ 1 ∧ (1 : Int) ≤ 100 ∧ (1 : Int) < 2 ∧ (2 : Int) ≤ 200)⟩
  have hn6 : N ≤ 6 := by omega
  have hn100 : n ≤ 100 := by omega
  clear h1 g0 g1
  have hn := New_kl (w0 := w) Hb1.out (HT.out.below Hb1.out) (Nat.lt_of_lt_of_le H0.out Hb1.out.size) ((N : Int), 1, 2) hg (n := N) rfl (L := []) (fun x hx => by cases hx)
  simp only [Pl.cells, Pl.parts, Pl.window, Pl.delay] at hn
  have Hn := Lib.hid hn; clear hn hg HT H0 Hb1
  go_wp2_with fail
  refine Hn.out.mono ?_
  rintro e w3 ⟨kb, rfl, hk, -⟩
  clear Hn e0 e1 e2
  have HK := Lib.hid hk; clear hk
  go_wp2_with fail
  go_loopw [9] (fun i wr => ∃ (j : Nat) (st : Sta), j ≤ n ∧ i = .int .i64 j ∧ KnL w wr kb N ((N : Int), 1, 2) st [] ∧ Outs j st) (fun i _ => n - (intOf i).toNat)
  case atStart => exact ⟨0, st0, by omega, rfl, HK.out, outs0⟩
  case round =>
    clear HK
    obtain ⟨j, st, hj, rfl, hk, ho⟩ := hrel
    have HK := Lib.hid hk; clear hk
    have HO := Lib.hid ho; clear ho
    by_cases hlt : j < n
    · have hxr := Hx.out.keep HK.out.bel
      obtain ⟨bx, ox, rfl⟩ := hxr.addr (by omega)
      have hqx : j < xs.length := by rw [Hl.out]; exact hlt
      have hcx := hxr.at hqx
      obtain ⟨x, hx⟩ : ∃ x, x = xs[j] := ⟨_, rfl⟩
      rw [← hx] at hcx
      clear hx hxr
      have x0 := hcx 0 _ rfl
      have x1 := hcx 1 _ rfl
      have x2 := hcx 2 _ rfl
      have x3 := hcx 3 _ rfl
      have x4 := hcx 4 _ rfl
      have x5 := hcx 5 _ rfl
      have x6 := hcx 6 _ rfl
      have x7 := hcx 7 _ rfl
      have x8 := hcx 8 _ rfl
      have x9 := hcx 9 _ rfl
      clear hcx
      obtain ⟨what, wh, to, pos, now, up, m0, m1, m2, m3⟩ := x
      simp only [callKF, Nat.add_zero] at x0 x1 x2 x3 x4 x5 x6 x7 x8 x9
      have i1 : (0 : Int) ≤ (j : Int) := by omega
      have i2 : (j : Int) < (n : Int) := by omega
      have hj100 : j ≤ 100 := by omega
      obtain ⟨C, hC⟩ : ∃ C, C = Obj.cells #[.int .i64 what, .int .i64 wh, .int .i64 to, .int .i64 pos, .int .i64 now, .bool up, .int .i64 m0, .int .i64 m1, .int .i64 m2, .int .i64 m3] 54 (0, 0) := ⟨_, rfl⟩
      obtain ⟨w5, hw5⟩ : ∃ w5, w5 = wr.alloc (.cells #[.int .i64 what, .int .i64 wh, .int .i64 to, .int .i64 pos, .int .i64 now, .bool up, .int .i64 m0, .int .i64 m1, .int .i64 m2, .int .i64 m3] 54) := ⟨_, rfl⟩
      have hk5 := HK.out.made (.cells #[.int .i64 what, .int .i64 wh, .int .i64 to, .int .i64 pos, .int .i64 now, .bool up, .int .i64 m0, .int .i64 m1, .int .i64 m2, .int .i64 m3] 54)
      rw [← hw5] at hk5
      clear HK hC
      have hk5 : KnL w w5 kb N ((N : Int), 1, 2) st [] := by
        obtain ⟨F, h1, -⟩ := hk5
        exact ⟨F, h1, fun x hx => by cases hx⟩
      have HK := Lib.hid hk5; clear hk5
      by_cases q0 : what = 0
      · subst q0
        have hc := Send_kl HK.out HO.out (by omega) wh to (m0, m1, m2, m3) now
        simp only [Msg.cells, Msg.kind, Msg.part, Msg.tx, Msg.what] at hc
        have Hc := Lib.hid hc; clear hc
        go_wp2_with fail
        rw [← hw5]
        clear hw5 x0 x1 x2 x3 x4 x5 x6 x7 x8 x9
        refine Hc.out.mono ?_
        rintro e w6 ⟨rfl, hk6⟩
        have HK6 := Lib.hid hk6; clear hk6 Hc HK
        have HO6 := Lib.hid (HO.out.send (n := N) (p := ((N : Int), 1, 2)) wh to (m0, m1, m2, m3) now)
        go_wp2_with fail
        go_roundw
        case rel => exact ⟨j + 1, _, by omega, by go_num, HK6.out, HO6.out⟩
        case measure => simp [intOf]; omega
      · have n0 : (what == 0) = false := by simpa using q0
        by_cases q2 : what = 2
        · subst q2
          have hc := Carry_kl HK.out wh up (m0, m1, m2, m3)
          simp only [Msg.cells, Msg.kind, Msg.part, Msg.tx, Msg.what] at hc
          have Hc := Lib.hid hc; clear hc q0
          go_wp2_with fail
          rw [← hw5]
          clear hw5 x0 x1 x2 x3 x4 x5 x6 x7 x8 x9
          refine Hc.out.mono ?_
          rintro e w6 ⟨rfl, hk6⟩
          have HK6 := Lib.hid hk6; clear hk6 Hc HK
          have HO6 := Lib.hid ((HO.out.carry (n := N) (wh, dirOf up) (m0, m1, m2, m3)).mono (Nat.le_succ j))
          go_wp2_with fail
          go_roundw
          case rel => exact ⟨j + 1, _, by omega, by go_num, HK6.out, HO6.out⟩
          case measure => simp [intOf]; omega
        · have n2 : (what == 2) = false := by simpa using q2
          have HO6 := Lib.hid (HO.out.mono (Nat.le_succ j))
          clear q0 q2
          go_wp2_with fail
          rw [← hw5]
          clear hw5 x0 x1 x2 x3 x4 x5 x6 x7 x8 x9
          go_roundw
          case rel => exact ⟨j + 1, _, by omega, by go_num, HK.out, HO6.out⟩
          case measure => simp [intOf]; omega
    · obtain rfl : j = n := by omega
      have hud := HK.out.rows
      obtain ⟨w4, hw4⟩ : ∃ w4, w4 = (wr.alloc (.cells #[] 44)).alloc (.cells #[] 44) := ⟨_, rfl⟩
      rw [← hw4] at hud
      have hs4 : (wr.alloc (.cells #[] 44)).heap.size = wr.heap.size + 1 := World.size_alloc _ _
      have HU := Lib.hid hud; clear hud HK HO
      have Hs4 := Lib.hid hs4; clear hs4
      go_wp2_with fail
      rw [← hw4]
      try rw [Hs4.out]
      clear hw4 Hs4
      generalize wr.heap.size + 1 = g2 at *
      generalize wr.heap.size = g1 at *
      obtain ⟨wo, hwo⟩ : ∃ wo : World, wo = wr := ⟨_, rfl⟩
      clear hwo
      go_loopw [11, 12, 13] (fun u d i wz => ∃ (k : Nat) (us ds : List Slc), k ≤ N ∧ i = .int .i64 k ∧ KnUD w wz kb N ((N : Int), 1, 2) st u d us ds (boxesOf N st true k) (boxesOf N st false k)) (fun _ _ i _ => N - (intOf i).toNat)
      case atStart => exact ⟨0, [], [], by omega, rfl, HU.out⟩
      case round =>
        clear HU
        obtain ⟨k, us, ds, hk, rfl, hud⟩ := hrel
        obtain ⟨ua, uc, rfl, hul⟩ := hud.len
        obtain ⟨da, dc, rfl, hdl⟩ := hud.swap.len
        rw [boxes_len] at hul hdl
        have hul6 : us.length ≤ 6 := by omega
        have hdl6 : ds.length ≤ 6 := by omega
        have Hul := Lib.hid hul; clear hul
        have Hdl := Lib.hid hdl; clear hdl
        have HU := Lib.hid hud; clear hud
        obtain ⟨wo2, hwo2⟩ : ∃ wo2 : World, wo2 = wr := ⟨_, rfl⟩
        clear hwo2
        by_cases hlt2 : k < N
        · have hbx := HU.out.told (k : Int) true
          obtain ⟨B20, hB20⟩ : ∃ B, B = boxK N st ((k : Int), dirOf true) := ⟨_, rfl⟩
          rw [← hB20] at hbx
          have HB20 := Lib.hid hB20; clear hB20
          have Hbx := Lib.hid hbx; clear hbx
          go_wp2_with fail
          refine Hbx.out.mono ?_
          rintro e w20 ⟨ba, BL, bc, rfl, hb, hms, hfr⟩
          clear Hbx
          have HMs := Lib.hid (And.intro hb (And.intro hms hfr)); clear hb hms hfr
          go_wp2_with (with_reducible refine stop_builtin .append ?_)
          refine unpark ?_
          have x8 := heap_alloc_new w20 (.cells #[.slice ba BL bc] 44)
          have b8 : Below w20.heap.size w20 (w20.alloc (.cells #[.slice ba BL bc] 44)) := (Below.refl _ _).alloc (Nat.le_refl _) _
          generalize w20.alloc (.cells #[.slice ba BL bc] 44) = w8 at x8 b8 ⊢
          obtain ⟨hb, hms, hfr⟩ := HMs.out
          have hb8 := hb.trans (b8.mono hb.size)
          have hms8 := hms.keep b8
          refine wpList_append_rec1 slcElem _ rfl _ _ rfl w.heap.size (.slice ua us.length uc) us rfl (HU.out.own.below hb8) w20.heap.size 1 (by decide) (by decide) (ba, BL, bc) rfl x8 (fun j u hu => by rw [List.getElem?_toArray]; exact hu) (by omega) (Nat.le_trans HU.out.bel.size hb8.size) ?_
          intro v' w9 own9 g9 hv9
          have k9 := HU.out.push (s := (ba, BL, bc)) hb8 hms8 (fun b o hn e => ⟨(hfr b o hn e).1, Nat.lt_of_lt_of_le (hfr b o hn e).2 b8.size⟩) own9 g9 hv9
          rw [HB20.out, ← boxes_next] at k9
          clear x8 b8 hb hms hfr hb8 hms8 own9 g9 hv9 HMs HU
          obtain ⟨ua9, uc9, e9, -⟩ := k9.len
          rw [List.length_append, List.length_singleton] at e9
          subst e9
          have HU := Lib.hid k9; clear k9
          generalize w9 = w209 at *
          have hbx := HU.out.told (k : Int) false
          obtain ⟨B30, hB30⟩ : ∃ B, B = boxK N st ((k : Int), dirOf false) := ⟨_, rfl⟩
          rw [← hB30] at hbx
          have HB30 := Lib.hid hB30; clear hB30
          have Hbx := Lib.hid hbx; clear hbx
          go_wp2_with fail
          refine Hbx.out.mono ?_
          rintro e w30 ⟨ba, BL, bc, rfl, hb, hms, hfr⟩
          clear Hbx
          have HMs := Lib.hid (And.intro hb (And.intro hms hfr)); clear hb hms hfr
          go_wp2_with (with_reducible refine stop_builtin .append ?_)
          refine unpark ?_
          have x8 := heap_alloc_new w30 (.cells #[.slice ba BL bc] 44)
          have b8 : Below w30.heap.size w30 (w30.alloc (.cells #[.slice ba BL bc] 44)) := (Below.refl _ _).alloc (Nat.le_refl _) _
          generalize w30.alloc (.cells #[.slice ba BL bc] 44) = w8 at x8 b8 ⊢
          obtain ⟨hb, hms, hfr⟩ := HMs.out
          have hb8 := hb.trans (b8.mono hb.size)
          have hms8 := hms.keep b8
          refine wpList_append_rec1 slcElem _ rfl _ _ rfl w.heap.size (.slice da ds.length dc) ds rfl (HU.out.swap.own.below hb8) w30.heap.size 1 (by decide) (by decide) (ba, BL, bc) rfl x8 (fun j u hu => by rw [List.getElem?_toArray]; exact hu) (by omega) (Nat.le_trans HU.out.bel.size hb8.size) ?_
          intro v' w9 own9 g9 hv9
          have k9 := HU.out.swap.push (s := (ba, BL, bc)) hb8 hms8 (fun b o hn e => ⟨(hfr b o hn e).1, Nat.lt_of_lt_of_le (hfr b o hn e).2 b8.size⟩) own9 g9 hv9
          rw [HB30.out, ← boxes_next] at k9
          have k9 := k9.swap
          clear x8 b8 hb hms hfr hb8 hms8 own9 g9 hv9 HMs HU
          obtain ⟨da9, dc9, e9, -⟩ := k9.swap.len
          rw [List.length_append, List.length_singleton] at e9
          subst e9
          have HU := Lib.hid k9; clear k9
          generalize w9 = w309 at *
          go_wp2_with fail
          go_roundw
          case rel => exact ⟨k + 1, _, _, by omega, by go_num, HU.out⟩
          case measure => simp [intOf]; omega
        · obtain rfl : k = N := by omega
          have hcl := HU.out.call fun F h => Clear_kn h who
          have Hcl := Lib.hid hcl; clear hcl HU
          clear hul6 hdl6
          generalize us.length = UL at *
          generalize ds.length = DL at *
          go_wp2_with fail
          refine Hcl.out.mono ?_
          rintro e w5 ⟨rfl, hud⟩
          have HU := Lib.hid hud; clear hud Hcl
          go_wp2_with fail
          obtain ⟨wo3, hwo3⟩ : ∃ wo3 : World, wo3 = wr := ⟨_, rfl⟩
          clear hwo3
          go_loopw [14] (fun i wz => ∃ (q : Nat) (T : Sta), q ≤ k ∧ i = .int .i64 q ∧ KnUD w wz kb k ((k : Int), 1, 2) T (.slice ua UL uc) (.slice da DL dc) us ds (boxesOf k st true k) (boxesOf k st false k) ∧ Cleared k st who T) (fun i _ => k - (intOf i).toNat)
          case atStart => exact ⟨0, _, by omega, rfl, HU.out, fun _ => rfl⟩
          case round =>
            clear HU
            obtain ⟨q, T, hq, rfl, hud, hcl⟩ := hrel
            have HU := Lib.hid hud; clear hud
            have HCl := Lib.hid hcl; clear hcl
            by_cases hlt3 : q < k
            case neg =>
              obtain rfl : q = k := by omega
              have HB := Lib.hid HU.out.bel
              go_wp2
              go_ret
              exact ⟨rfl, HB.out⟩
            case pos =>
            have hub := boxes_at k st true hlt3
            have hdb := boxes_at k st false hlt3
            have hqk : (q : Int) < (k : Int) := by omega
            have i1 : (0 : Int) ≤ (q : Int) := by omega
            by_cases hw : who = (k : Int)
            · subst hw
              have hbx := HU.out.uk.box (q : Int) true
              rw [clr_up_all HCl.out rfl] at hbx
              simp only [List.length_nil] at hbx
              have Hbx := Lib.hid hbx; clear hbx
              go_wp2_with fail
              refine Hbx.out.mono ?_
              rintro e wa ⟨xa, xc, rfl, huk⟩
              clear Hbx HU
              have HUK := Lib.hid huk; clear huk
              have hbx := HUK.out.box (q : Int) false
              rw [clr_down_not HCl.out (by omega)] at hbx
              have Hbx := Lib.hid hbx; clear hbx
              obtain ⟨DB, hDB⟩ : ∃ B, B = boxK k st ((q : Int), dirOf false) := ⟨_, rfl⟩
              rw [← hDB] at Hbx hdb
              clear hDB
              go_wp2_with fail
              refine Hbx.out.mono ?_
              rintro e wb ⟨ya, yc, rfl, huk⟩
              clear Hbx HUK
              have HUK := Lib.hid huk; clear huk
              have e1 : ((k : Int) == (k : Int)) = true := by simp
              have e2 : ((k : Int) != (k : Int)) = false := by simp
              have e3 : ((k : Int) == (q : Int)) = false := by simp; omega
              have e4 : ((k : Int) != (q : Int)) = true := by simp; omega
              obtain ⟨ho1, ho2⟩ := clr_out (e := ((q : Int), dirOf false)) HCl.out (clr_down_out HCl.out rfl)
              have hoc := HUK.out.call (P := fun e => ∃ a c, e = .returned (.slice a 0 c)) fun F h => (Out_kn h (q : Int) false).mono fun e w' hh => by
                obtain ⟨v, rfl, hv, -, h1, h2⟩ := hh
                rw [ho1] at hv
                obtain ⟨a, N, c, rfl, hms, -⟩ := hv.msgs
                obtain rfl : 0 = N := hms.len
                exact ⟨⟨a, c, rfl⟩, h1, h2⟩
              have Hoc := Lib.hid hoc; clear hoc ho1
              go_wp2_with fail
              refine Hoc.out.mono ?_
              rintro e wc ⟨⟨oa, oc, rfl⟩, huk⟩
              clear Hoc HUK HCl
              have HUK := Lib.hid huk; clear huk
              have HCl := Lib.hid ho2; clear ho2
              obtain ⟨rb, ro, rc, rs, he2, -, hcell, hms⟩ := HUK.out.at2 hdb
              cases he2
              obtain ⟨rs1, rs2, rs3⟩ := rs
              simp only at hcell hms
              have hsm := SameMsgs_calls (HUK.out.msgs (.head _)) hms rfl
              have Hsm := Lib.hid hsm; clear hsm hms
              have i3 : (q : Int) < (ds.length : Int) := by have := HUK.out.lens.2; rw [boxes_len] at this; omega
              go_wp2_with fail
              clear hcell
              refine Hsm.out.mono ?_
              rintro e wd ⟨rfl, nd, rfl⟩
              obtain ⟨wd, hwd⟩ : ∃ wd, wd = wc.drewN nd := ⟨_, rfl⟩
              have huk := HUK.out.step (below_drawn wc nd)
              rw [← hwd] at huk ⊢
              clear hwd Hsm HUK
              have HUK := Lib.hid huk; clear huk
              have HU := Lib.hid HUK.out.ud; clear HUK
              go_wp2_with fail
              go_roundw
              case rel => exact ⟨q + 1, _, by omega, by go_num, HU.out, HCl.out⟩
              case measure => simp [intOf]; omega
            by_cases hw2 : who = (q : Int)
            · subst hw2
              have hbx := HU.out.uk.box (q : Int) true
              rw [clr_up_not HCl.out hw] at hbx
              have Hbx := Lib.hid hbx; clear hbx
              obtain ⟨UB, hUB⟩ : ∃ B, B = boxK k st ((q : Int), dirOf true) := ⟨_, rfl⟩
              rw [← hUB] at Hbx hub
              clear hUB
              go_wp2_with fail
              refine Hbx.out.mono ?_
              rintro e wa ⟨xa, xc, rfl, huk⟩
              clear Hbx HU
              have HUK := Lib.hid huk; clear huk
              have hbx := HUK.out.box (q : Int) false
              rw [clr_down_its HCl.out rfl] at hbx
              simp only [List.length_nil] at hbx
              have Hbx := Lib.hid hbx; clear hbx
              go_wp2_with fail
              refine Hbx.out.mono ?_
              rintro e wb ⟨ya, yc, rfl, huk⟩
              clear Hbx HUK
              have HUK := Lib.hid huk; clear huk
              have e1 : ((q : Int) == (k : Int)) = false := by simp; omega
              have e2 : ((q : Int) != (k : Int)) = true := by simp; omega
              have e3 : ((q : Int) == (q : Int)) = true := by simp
              have e4 : ((q : Int) != (q : Int)) = false := by simp
              obtain ⟨rb, ro, rc, rs, he1, -, hcell, hms⟩ := HUK.out.at hub
              cases he1
              obtain ⟨rs1, rs2, rs3⟩ := rs
              simp only at hcell hms
              have hsm := SameMsgs_calls (HUK.out.msgs (.tail _ (.head _))) hms rfl
              have Hsm := Lib.hid hsm; clear hsm hms
              have i2 : (q : Int) < (us.length : Int) := by have := HUK.out.lens.1; rw [boxes_len] at this; omega
              go_wp2_with fail
              clear hcell
              refine Hsm.out.mono ?_
              rintro e wd ⟨rfl, nd, rfl⟩
              obtain ⟨wd, hwd⟩ : ∃ wd, wd = wb.drewN nd := ⟨_, rfl⟩
              have huk := HUK.out.step (below_drawn wb nd)
              rw [← hwd] at huk ⊢
              clear hwd Hsm HUK
              have HUK := Lib.hid huk; clear huk
              obtain ⟨ho1, ho2⟩ := clr_out (e := ((q : Int), dirOf true)) HCl.out (clr_up_out HCl.out rfl)
              have hoc := HUK.out.call (P := fun e => ∃ a c, e = .returned (.slice a 0 c)) fun F h => (Out_kn h (q : Int) true).mono fun e w' hh => by
                obtain ⟨v, rfl, hv, -, h1, h2⟩ := hh
                rw [ho1] at hv
                obtain ⟨a, N, c, rfl, hms, -⟩ := hv.msgs
                obtain rfl : 0 = N := hms.len
                exact ⟨⟨a, c, rfl⟩, h1, h2⟩
              have Hoc := Lib.hid hoc; clear hoc ho1
              go_wp2_with fail
              refine Hoc.out.mono ?_
              rintro e wc ⟨⟨oa, oc, rfl⟩, huk⟩
              clear Hoc HUK HCl
              have HUK := Lib.hid huk; clear huk
              have HCl := Lib.hid ho2; clear ho2
              have HU := Lib.hid HUK.out.ud; clear HUK
              go_wp2_with fail
              go_roundw
              case rel => exact ⟨q + 1, _, by omega, by go_num, HU.out, HCl.out⟩
              case measure => simp [intOf]; omega
            have hbx := HU.out.uk.box (q : Int) true
            rw [clr_up_not HCl.out hw] at hbx
            have Hbx := Lib.hid hbx; clear hbx
            obtain ⟨UB, hUB⟩ : ∃ B, B = boxK k st ((q : Int), dirOf true) := ⟨_, rfl⟩
            rw [← hUB] at Hbx hub
            clear hUB
            go_wp2_with fail
            refine Hbx.out.mono ?_
            rintro e wa ⟨xa, xc, rfl, huk⟩
            clear Hbx HU
            have HUK := Lib.hid huk; clear huk
            have hbx := HUK.out.box (q : Int) false
            rw [clr_down_not HCl.out hw2] at hbx
            have Hbx := Lib.hid hbx; clear hbx
            obtain ⟨DB, hDB⟩ : ∃ B, B = boxK k st ((q : Int), dirOf false) := ⟨_, rfl⟩
            rw [← hDB] at Hbx hdb
            clear hDB
            go_wp2_with fail
            refine Hbx.out.mono ?_
            rintro e wb ⟨ya, yc, rfl, huk⟩
            clear Hbx HUK
            have HUK := Lib.hid huk; clear huk
            have e1 : (who == (k : Int)) = false := by simp; omega
            have e2 : (who != (k : Int)) = true := by simp; omega
            have e3 : (who == (q : Int)) = false := by simp; omega
            have e4 : (who != (q : Int)) = true := by simp; omega
            obtain ⟨rb, ro, rc, rs, he1, -, hcell, hms⟩ := HUK.out.at hub
            cases he1
            obtain ⟨rs1, rs2, rs3⟩ := rs
            simp only at hcell hms
            have hsm := SameMsgs_calls (HUK.out.msgs (.tail _ (.head _))) hms rfl
            have Hsm := Lib.hid hsm; clear hsm hms
            have i2 : (q : Int) < (us.length : Int) := by have := HUK.out.lens.1; rw [boxes_len] at this; omega
            go_wp2_with fail
            clear hcell
            refine Hsm.out.mono ?_
            rintro e wd1 ⟨rfl, nd, rfl⟩
            obtain ⟨wd1, hwd1⟩ : ∃ wd1, wd1 = wb.drewN nd := ⟨_, rfl⟩
            have huk := HUK.out.step (below_drawn wb nd)
            rw [← hwd1] at huk ⊢
            clear hwd1 Hsm HUK
            have HUK := Lib.hid huk; clear huk
            obtain ⟨rb, ro, rc, rs, he2, -, hcell, hms⟩ := HUK.out.at2 hdb
            cases he2
            obtain ⟨rs1, rs2, rs3⟩ := rs
            simp only at hcell hms
            have hsm := SameMsgs_calls (HUK.out.msgs (.head _)) hms rfl
            have Hsm := Lib.hid hsm; clear hsm hms
            have i3 : (q : Int) < (ds.length : Int) := by have := HUK.out.lens.2; rw [boxes_len] at this; omega
            go_wp2_with fail
            clear hcell
            refine Hsm.out.mono ?_
            rintro e wd ⟨rfl, nd, rfl⟩
            obtain ⟨wd, hwd⟩ : ∃ wd, wd = wd1.drewN nd := ⟨_, rfl⟩
            have huk := HUK.out.step (below_drawn wd1 nd)
            rw [← hwd] at huk ⊢
            clear hwd Hsm HUK
            have HUK := Lib.hid huk; clear huk
            have HU := Lib.hid HUK.out.ud; clear HUK
            go_wp2_with fail
            go_roundw
            case rel => exact ⟨q + 1, _, by omega, by go_num, HU.out, HCl.out⟩
            case measure => simp [intOf]; omega
end Go.Proofs.YtclgakdfeeefiaaDoor
