/- The law SlotDue. -/
import Derived.Test.YtfldohfopileeaaSlotC
namespace Go.Proofs.Ytfldohfopileeaa
open Go.RowKit

theorem due_filter {t : Int} : ∀ {xs : List Tm}, SortT xs → dueT xs t = xs.filter (leT t)
  | [], _ => rfl
  | x :: xs, h => by
    have hc := List.pairwise_cons.1 h
    have ih := due_filter (t := t) hc.2
    unfold dueT at ih ⊢
    cases hx : leT t x with
    | true => rw [List.takeWhile_cons_of_pos hx, List.filter_cons_of_pos hx, ih]
    | false =>
      rw [List.takeWhile_cons_of_neg (by rw [hx]; decide), List.filter_cons_of_neg (by rw [hx]; decide)]
      refine (List.filter_eq_nil_iff.2 fun y hy => ?_).symm
      have h1 := (ord_neg x y).1 (hc.1 y hy)
      have h2 := of_decide_eq_false hx
      simp only [leT, decide_eq_true_eq]
      omega
theorem rest_no (xs : List Tm) (t : Int) : dueT (restT xs t) t = [] ∧ restT (restT xs t) t = restT xs t ∧ ∀ y ∈ (restT xs t).head?, leT t y = false := by
  have h : ∀ y ∈ (restT xs t).head?, leT t y = false := fun y hy => by
    have := List.head?_dropWhile_not (leT t) xs
    unfold restT at hy
    cases hd : (xs.dropWhile (leT t)).head? with
    | none => rw [hd] at hy; cases hy
    | some z => rw [hd] at hy this; cases hy; simpa using this
  have := due_split (D := []) (ys := restT xs t) (t := t) rfl (fun d hd => by cases hd) h
  exact ⟨this.1, this.2, h⟩
theorem due_rest_len (xs : List Tm) (t : Int) : (dueT xs t).length + (restT xs t).length = xs.length := by
  unfold dueT restT
  rw [← List.length_append, List.takeWhile_append_dropWhile]
theorem cnt_set (p : Tm → Bool) (xs : List Tm) (t id : Int) : ((setT xs t id).filter p).length = ((xs.filter (kpT id)).filter p).length + if p (t, id) then 1 else 0 := by
  unfold setT
  generalize xs.filter (kpT id) = Y
  generalize posT Y (t, id) = k
  rw [List.filter_append, List.length_append]
  have e : (Y.filter p).length = ((Y.take k).filter p).length + ((Y.drop k).filter p).length := by rw [← List.length_append, ← List.filter_append, List.take_append_drop]
  rw [e]
  cases h : p (t, id) with
  | true => rw [List.filter_cons_of_pos h, List.length_cons]; simp; omega
  | false => rw [List.filter_cons_of_neg (by rw [h]; decide)]; simp
structure Inv (ts : List Int) (j : Nat) (xs : List Tm) : Prop where
  len : xs.length = j
  mem : ∀ x ∈ xs, ∃ q : Nat, q < j ∧ x.2 = (q : Int) ∧ x.1 = ts.getD q 0
theorem Inv.kp {ts : List Int} {j : Nat} {xs : List Tm} (h : Inv ts j xs) : xs.filter (kpT j) = xs := List.filter_eq_self.2 fun x hx => by
  obtain ⟨q, hq, e, -⟩ := h.mem x hx
  simp [kpT, e]
  omega
theorem Inv.set {ts : List Int} {j : Nat} {xs : List Tm} (h : Inv ts j xs) : Inv ts (j + 1) (setT xs (ts.getD j 0) j) := by
  refine ⟨by rw [setT_len, h.kp, h.len], fun x hx => ?_⟩
  rcases mem_setT.1 hx with rfl | ⟨hx, -⟩
  · exact ⟨j, by omega, rfl, rfl⟩
  · obtain ⟨q, hq, e⟩ := h.mem x hx
    exact ⟨q, by omega, e⟩
theorem due_step {ts : List Int} {j : Nat} {xs : List Tm} {now : Int} (h : Inv ts j xs) (hg : Good xs) (hw : (Lit.int .i64 (j : Int)).wf = true) :
    (dueT (setT xs (ts.getD j 0) j) now).length = (dueT xs now).length + if ts.getD j 0 ≤ now then 1 else 0 := by
  rw [due_filter (hg.set _ hw).sort, due_filter hg.sort, cnt_set, h.kp]
  congr 1
  by_cases hc : ts.getD j 0 ≤ now
  · rw [if_pos hc, if_pos (by exact decide_eq_true hc)]
  · rw [if_neg hc, if_neg (by simpa [leT] using hc)]
/-- What loop 2 asks of the numbers that are due. -/
theorem due_at {ts : List Int} {n : Nat} {xs : List Tm} {now : Int} (h : Inv ts n xs) {k : Nat} (hk : k < (dueT xs now).length) :
    ∃ q : Nat, q < n ∧ (idsT (dueT xs now)).getD k 0 = (q : Int) ∧ ts.getD q 0 ≤ now ∧ ts.getD q 0 = ((dueT xs now)[k]).1 := by
  have hm : (dueT xs now)[k] ∈ dueT xs now := List.getElem_mem _
  have hx : (dueT xs now)[k] ∈ xs := (List.takeWhile_sublist _).mem hm
  have hle : leT now (dueT xs now)[k] = true := List.all_eq_true.1 (List.all_takeWhile (l := xs) (p := leT now)) _ hm
  obtain ⟨q, hq, e1, e2⟩ := h.mem _ hx
  have hle' : ((dueT xs now)[k]).1 ≤ now := of_decide_eq_true hle
  refine ⟨q, hq, ?_, by rw [← e2]; exact hle', e2.symm⟩
  rw [idsT, List.getD_eq_getElem?_getD, List.getElem?_map, List.getElem?_eq_getElem hk]
  exact e1
theorem due_two {ts : List Int} {xs : List Tm} {now : Int} (hg : Good xs) {k : Nat} (hk : k + 1 < (dueT xs now).length) {q1 q2 : Nat} (h1 : (idsT (dueT xs now)).getD k 0 = (q1 : Int)) (h2 : (idsT (dueT xs now)).getD (k + 1) 0 = (q2 : Int)) (e1 : ts.getD q1 0 = ((dueT xs now)[k]'(by omega)).1) (e2 : ts.getD q2 0 = ((dueT xs now)[k + 1]).1) :
    ts.getD q1 0 < ts.getD q2 0 ∨ (ts.getD q1 0 = ts.getD q2 0 ∧ q1 < q2) := by
  have hs : SortT (dueT xs now) := hg.sort.sublist (List.takeWhile_sublist _)
  have := List.pairwise_iff_getElem.1 hs k (k + 1) (by omega) hk (by omega)
  rw [ord_neg] at this
  rw [e1, e2]
  rw [idsT, List.getD_eq_getElem?_getD, List.getElem?_map, List.getElem?_eq_getElem (by omega)] at h1
  rw [idsT, List.getD_eq_getElem?_getD, List.getElem?_map, List.getElem?_eq_getElem hk] at h2
  have h1' : ((dueT xs now)[k]'(by omega)).2 = (q1 : Int) := h1
  have h2' : ((dueT xs now)[k + 1]).2 = (q2 : Int) := h2
  rw [h1', h2'] at this
  omega
theorem nat_wf {j : Nat} (h : j ≤ 100) : (Lit.int .i64 (j : Int)).wf = true := by simp [Lit.wf, IntKind.min, IntKind.max, IntKind.signed, IntKind.bits]; omega
set_option maxHeartbeats 16000000 in
set_option maxRecDepth 100000 in
theorem lawSlotDue {w : World} {a : Option Addr} {n c : Nat} {ts : List Int} {now : Int} (hts : Ints w .i64 a n c ts) (_hnow : (Lit.int .i64 now).wf = true) : Calls Try.prog 7 #[.slice a n c, .int .i64 now] w fun e w' => e = .returned (.bool true) ∧ Below w.heap.size w w' := by
  clear _hnow
  have htl := hts.len
  have HI := Lib.hid hts; clear hts
  have Htl := Lib.hid htl; clear htl
  by_cases hn : 100 < n
  · have e0 : decide (100 < (n : Int)) = true := decide_eq_true (by omega)
    go_enter Try.func7, Try.ntmps7
    go_wp2_with fail
    refine alive_calls.mono ?_
    rintro e w1 ⟨rfl, b1⟩
    have Hb := Lib.hid b1; clear b1
    go_wp2
    go_ret
    exact ⟨rfl, Hb.out⟩
  have e0 : decide (100 < (n : Int)) = false := decide_eq_false (by omega)
  have hn2 : n ≤ 100 := by omega
  clear hn
  go_enter Try.func7, Try.ntmps7
  go_wp2_with fail
  refine alive_calls.mono ?_
  rintro e w1 ⟨rfl, b1⟩
  have hi1 := HI.out.keep b1
  have HB1 := Lib.hid b1; clear b1 HI
  have HI := Lib.hid hi1; clear hi1
  have t2 := tim_new w1
  obtain ⟨w2, hw2⟩ : ∃ w2, w2 = w1.alloc (.cells #[.slice none 0 0] 39) := ⟨_, rfl⟩
  rw [← hw2] at t2
  have T2 := Lib.hid t2; clear t2
  go_wp2_with fail
  rw [← hw2]
  clear hw2
  go_loopw [6, 7] (fun u v wr => ∃ (j : Nat) (F : Nat → Prop) (xs : List Tm), j ≤ n ∧ v = .int .i64 j ∧ u = .int .i64 (dueT xs now).length ∧ Inv ts j xs ∧ Tim w1 wr F w1.heap.size xs) (fun _ v _ => n - (intOf v).toNat)
  case atStart => exact ⟨0, _, [], by omega, rfl, rfl, ⟨rfl, fun x hx => by cases hx⟩, T2.out⟩
  case round =>
    clear T2 e0
    obtain ⟨j, F, xs, hj, rfl, rfl, hv, ht⟩ := hrel
    obtain ⟨w4, rfl⟩ : ∃ w4, w4 = wr := ⟨_, rfl⟩
    by_cases hlt : j < n
    · have hcw := HI.out.keep ht.bel
      obtain ⟨gx, ox, rfl, hcx⟩ := hcw.cell (by omega)
      have x0 := hcx j hlt
      have hw : (Lit.int .i64 (j : Int)).wf = true := nat_wf (by omega)
      have hds := due_step (now := now) hv ht.good hw
      have hv2 := hv.set
      have hx1000 : xs.length ≤ 1000 := by rw [hv.len]; omega
      have hdl : (dueT xs now).length ≤ 100 := by have := due_rest_len xs now; have := hv.len; omega
      have hst := tim_set ht hx1000 (ts.getD j 0) hw
      obtain ⟨tk, htk⟩ : ∃ tk, tk = ts.getD j 0 := ⟨_, rfl⟩
      rw [← htk] at x0 hds hv2 hst
      have Htk := Lib.hid htk; clear htk
      clear hcx hv hcw
      have i1 : (0 : Int) ≤ (j : Int) := by omega
      have i2 : (j : Int) < (n : Int) := by omega
      have Hst := Lib.hid hst; clear hst
      have Hv2 := Lib.hid hv2; clear hv2
      have Hbel := Lib.hid ht.bel; clear ht
      have Hds := Lib.hid hds; clear hds
      go_wp2_with fail
      refine Hst.out.mono ?_
      rintro e w6 ⟨rfl, t6, -⟩
      have hcw := HI.out.keep t6.bel
      obtain ⟨gx2, ox2, hge, hcx⟩ := hcw.cell (by omega)
      have x1 := hcx j hlt
      rw [← Htk.out] at x1
      cases hge
      clear hcx hcw x0
      by_cases hc : tk ≤ now
      · have e1 : decide (tk ≤ now) = true := decide_eq_true hc
        have e2 := Hds.out
        rw [if_pos hc] at e2
        have E2 := Lib.hid e2; clear e2
        have T6 := Lib.hid t6; clear t6
        go_wp2
        go_roundw
        case rel => exact ⟨j + 1, _, _, by omega, by go_num, by rw [E2.out]; go_num, Hv2.out, T6.out⟩
        case measure => simp [intOf]; omega
      · have e1 : decide (tk ≤ now) = false := decide_eq_false hc
        have e2 := Hds.out
        rw [if_neg hc] at e2
        have E2 := Lib.hid e2; clear e2
        have T6 := Lib.hid t6; clear t6
        go_wp2
        go_roundw
        case rel => exact ⟨j + 1, _, _, by omega, by go_num, by rw [E2.out]; rfl, Hv2.out, T6.out⟩
        case measure => simp [intOf]; omega
    · obtain rfl : n = j := by omega
      have hrl := due_rest_len xs now
      have hxl := hv.len
      have hdat := fun k hk => due_at (k := k) hv hk (now := now)
      have htwo := fun k hk => @due_two ts xs now ht.good k hk
      have hx1000 : xs.length ≤ 1000 := by omega
      have hdu := tim_due ht hx1000 now
      have hno := rest_no xs now
      have hdl : (dueT xs now).length ≤ 100 := by omega
      have hidl : (idsT (dueT xs now)).length = (dueT xs now).length := by simp [idsT]
      have hi4 := HI.out.keep ht.bel
      have HI4 := Lib.hid hi4; clear hi4
      have Hdu := Lib.hid hdu; clear hdu
      have Hno := Lib.hid hno; clear hno
      have Hrl := Lib.hid hrl; clear hrl
      have Hxl := Lib.hid hxl; clear hxl
      have Hdat := Lib.hid hdat; clear hdat
      have Htwo := Lib.hid htwo; clear htwo
      have Hidl := Lib.hid hidl; clear hidl
      have Hb4 := Lib.hid ht.bel; clear ht hv
      go_wp2_with fail
      refine Hdu.out.mono ?_
      rintro e w6 ⟨out, rfl, o6, t6, m6, -⟩
      obtain ⟨oa, oc, rfl, i7, -⟩ := o6.ints
      have hi6 := HI.out.keep t6.bel
      have hrd := Hno.out
      have hrl := Hrl.out
      rw [Hxl.out] at hrl
      obtain ⟨d, hd⟩ : ∃ d, d = (dueT xs now).length := ⟨_, rfl⟩
      have hdat := Hdat.out
      have htwo := Htwo.out
      have hidl := Hidl.out
      rw [hidl] at i7 ⊢
      rw [← hd] at i7 hrl hdl ⊢
      have HD := Lib.hid hd; clear hd
      have hrw : (restT xs now).length ≤ 1000 := by omega
      have hdu2 := fun w' (hb : Below w6.heap.size w6 w') => tim_due (t6.step hb) hrw now
      have hle2 := fun w' (hb : Below w6.heap.size w6 w') => tim_len (t6.step hb)
      have hfi2 := tim_first t6
      have T6 := Lib.hid t6; clear t6
      have hR := hrd.2.2
      have hdn := hrd.1
      have hrr := hrd.2.1
      clear hrd hrw
      generalize restT xs now = R at *
      have Hdu2 := Lib.hid hdu2; clear hdu2
      have Hle2 := Lib.hid hle2; clear hle2
      have Hfi2 := Lib.hid hfi2; clear hfi2
      have Hi6 := Lib.hid hi6; clear hi6
      have I7 := Lib.hid i7; clear i7
      have HR := Lib.hid hR; clear hR
      have Hdn := Lib.hid hdn; clear hdn
      have Hrr := Lib.hid hrr; clear hrr
      have Hda := Lib.hid hdat; clear hdat
      have Htw := Lib.hid htwo; clear htwo
      clear m6 o6 Hdu Hno Hrl Hxl Hdat Htwo Hidl hidl Hb4 HI4
      go_wp2_with fail
      go_loopw [9] (fun v wr => ∃ k : Nat, k ≤ d ∧ v = .int .i64 k ∧ Below w6.heap.size w6 wr) (fun v _ => d - (intOf v).toNat)
      case atStart => exact ⟨0, by omega, rfl, Below.refl _ _⟩
      case round =>
        obtain ⟨k, hk, rfl, hwr⟩ := hrel
        obtain ⟨w7, rfl⟩ : ∃ w7, w7 = wr := ⟨_, rfl⟩
        by_cases hlt : k < d
        · have hkd : k < (dueT xs now).length := by rw [← HD.out]; exact hlt
          obtain ⟨q, hq, e1, e2, e3⟩ := Hda.out k hkd
          obtain ⟨lb, lo, rfl, hlc⟩ := (I7.out.keep hwr).cell (by omega)
          have y0 := hlc k hlt
          rw [e1] at y0
          obtain ⟨gx, ox, rfl, hcx⟩ := (Hi6.out.keep hwr).cell (by omega)
          have y1 := hcx q hq
          obtain ⟨tq, htq⟩ : ∃ t, t = ts.getD q 0 := ⟨_, rfl⟩
          rw [← htq] at e2 e3 y1
          have j0 : (0 : Int) ≤ (k : Int) := by omega
          have j1 : (k : Int) < (d : Int) := by omega
          have j2 : (0 : Int) ≤ (q : Int) := by omega
          have j3 : (q : Int) < (n : Int) := by omega
          have d0 : decide ((q : Int) < 0) = false := decide_eq_false (by omega)
          have d1 : decide ((n : Int) ≤ (q : Int)) = false := decide_eq_false (by omega)
          have d1' : decide (n ≤ q) = false := decide_eq_false (by omega)
          have d2 : decide (now < tq) = false := decide_eq_false (by omega)
          have Hwr := Lib.hid hwr; clear hwr
          have z0 := cell_regrown y0
          have z1 := cell_regrown y1
          cases k with
          | zero =>
            have z0' : ∀ (m : Nat) (os : Array Obj), (Go.Sort.grow (redrawn w7 m) os).cell? ⟨lb, lo, none⟩ = some (.int .i64 (q : Int)) := by simpa using z0
            clear hlc hcx e1 e3 htq hkd z0
            go_wp2_with fail
            refine wp_region_quiet_below (by kernel_rfl) (by kernel_rfl) ?_
            dsimp only [List.append]
            repeat (go_big_quiet_step (fail))
            refine wpQuiet_nil ?_
            intro wq hwq
            have bk : Below w7.heap.size w7 wq := by obtain ⟨q, rfl⟩ := hwq; exact below_regrown _ _ _
            have bf := Hwr.out.trans (bk.mono Hwr.out.size)
            clear hwq z0' z1 y0 y1 bk
            have Bf := Lib.hid bf; clear bf
            go_wp2
            go_roundw
            case rel => exact ⟨1, by omega, by go_num, Bf.out⟩
            case measure => simp [intOf]; omega
          | succ k =>
            have hkd1 : k < (dueT xs now).length := by omega
            obtain ⟨q1, hq1, f1, f2, f3⟩ := Hda.out k hkd1
            have y2 := hlc k (by omega)
            rw [f1] at y2
            have y3 := hcx q1 hq1
            have h2 := Htw.out k hkd f1 e1 f3 (by rw [← htq]; exact e3)
            rw [← htq] at h2
            obtain ⟨t1, ht1⟩ : ∃ t, t = ts.getD q1 0 := ⟨_, rfl⟩
            rw [← ht1] at h2 y3
            have z2 := cell_regrown y2
            have z3 := cell_regrown y3
            have j4 : (0 : Int) ≤ (q1 : Int) := by omega
            have j5 : (q1 : Int) < (n : Int) := by omega
            have j6 : (k : Int) < (d : Int) := by omega
            have j7 : (0 : Int) < (k : Int) + 1 := by omega
            have j8 : decide ((0 : Int) < (k : Int) + 1) = true := decide_eq_true (by omega)
            have j9 : (0 : Int) ≤ (k : Int) := by omega
            have d3 : decide (tq < t1) = false := decide_eq_false (by omega)
            clear hlc hcx hkd1 e1 e3 f1 f2 f3 htq ht1 hkd
            by_cases he : t1 = tq
            · have d4 : (t1 == tq) = true := by simpa using he
              have d5 : decide ((q : Int) ≤ (q1 : Int)) = false := decide_eq_false (by omega)
              have d6 : decide (q ≤ q1) = false := decide_eq_false (by omega)
              clear h2 he
              go_wp2_with fail
              refine wp_region_quiet_below (by kernel_rfl) (by kernel_rfl) ?_
              dsimp only [List.append]
              repeat (go_big_quiet_step (fail))
              refine wpQuiet_nil ?_
              intro wq hwq
              have bk : Below w7.heap.size w7 wq := by obtain ⟨q, rfl⟩ := hwq; exact below_regrown _ _ _
              have bf := Hwr.out.trans (bk.mono Hwr.out.size)
              clear hwq z0 z1 z2 z3 y0 y1 y2 y3 bk
              have Bf := Lib.hid bf; clear bf
              go_wp2
              go_roundw
              case rel => exact ⟨k + 1 + 1, by omega, by go_num, Bf.out⟩
              case measure => simp [intOf]; omega
            · have d4 : (t1 == tq) = false := by simpa using he
              clear h2 he
              go_wp2_with fail
              refine wp_region_quiet_below (by kernel_rfl) (by kernel_rfl) ?_
              dsimp only [List.append]
              repeat (go_big_quiet_step (fail))
              refine wpQuiet_nil ?_
              intro wq hwq
              have bk : Below w7.heap.size w7 wq := by obtain ⟨q, rfl⟩ := hwq; exact below_regrown _ _ _
              have bf := Hwr.out.trans (bk.mono Hwr.out.size)
              clear hwq z0 z1 z2 z3 y0 y1 y2 y3 bk
              have Bf := Lib.hid bf; clear bf
              go_wp2
              go_roundw
              case rel => exact ⟨k + 1 + 1, by omega, by go_num, Bf.out⟩
              case measure => simp [intOf]; omega
        · obtain rfl : d = k := by omega
          have t7 := T6.out.step hwr
          have f7 := tim_first t7
          have u7 := tim_due t7 (by omega) now
          rw [Hdn.out, Hrr.out] at u7
          have hrl2 := hrl
          have Hrl2 := Lib.hid hrl2; clear hrl2
          have T7 := Lib.hid t7; clear t7
          have U7 := Lib.hid u7; clear u7
          have hR2 := HR.out
          have hwrap : wrap64 ((n : Int) - (d : Int)) = (n : Int) - (d : Int) := by unfold wrap64; omega
          clear T6 Hdu2 Hle2 Hfi2 Hi6 I7 HR Hdn Hrr Hda Htw HD
          go_wp2_with fail
          refine f7.mono ?_
          rintro e w8 ⟨rfl, rfl⟩
          clear f7
          cases R with
          | nil =>
            obtain rfl : d = n := by simp at hrl; omega
            clear hrl hR2
            go_wp2_with fail
            refine U7.out.mono ?_
            rintro e w9 ⟨out, rfl, o9, t9, m9, -⟩
            obtain ⟨pa, pc, rfl, i9, -⟩ := o9.ints
            have T9 := Lib.hid t9; clear t9
            have hl9 : (idsT []).length = 0 := rfl
            rw [hl9]
            clear i9 hl9
            go_wp2_with fail
            refine (tim_len T9.out).mono ?_
            rintro e wg ⟨rfl, rfl⟩
            have hl9 : (([] : List Tm).length : Int) = 0 := rfl
            have e8 : ((d : Int) - (d : Int)) = 0 := by omega
            rw [hl9]
            clear hl9
            go_wp2
            go_ret
            exact ⟨rfl, HB1.out.trans (T9.out.bel.mono HB1.out.size)⟩
          | cons y ys =>
            have hny : leT now y = false := hR2 y rfl
            have d3 : decide (now < y.1) = true := decide_eq_true (by have := of_decide_eq_false hny; omega)
            have hdn : d < n := by simp at hrl; omega
            have d4 : decide ((d : Int) < (n : Int)) = true := decide_eq_true (by omega)
            have d5 : decide (d < n) = true := decide_eq_true hdn
            have h0 : decide (0 < (y :: ys).length) = true := by simp
            have h1 : ((y :: ys).headD (0, 0)).1 = y.1 := rfl
            rw [h0, h1]
            clear h0 h1 hR2 hny
            go_wp2_with fail
            refine U7.out.mono ?_
            rintro e w9 ⟨out, rfl, o9, t9, m9, -⟩
            obtain ⟨pa, pc, rfl, i9, -⟩ := o9.ints
            have T9 := Lib.hid t9; clear t9
            have hl9 : (idsT []).length = 0 := rfl
            rw [hl9]
            clear i9 hl9
            go_wp2_with fail
            refine (tim_len T9.out).mono ?_
            rintro e wg ⟨rfl, rfl⟩
            have e8 : ((n : Int) - (d : Int)) = (((y :: ys).length : Nat) : Int) := by omega
            rw [e8] at hwrap
            generalize (((y :: ys).length : Nat) : Int) = M at *
            go_wp2
            go_ret
            exact ⟨rfl, HB1.out.trans (T9.out.bel.mono HB1.out.size)⟩
end Go.Proofs.Ytfldohfopileeaa
