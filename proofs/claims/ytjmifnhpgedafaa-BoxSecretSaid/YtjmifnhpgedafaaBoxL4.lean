/- The law BoxSecret. -/
import Derived.Test.YtjmifnhpgedafaaBoxC
namespace Go.Proofs.Ytjmifnhpgedafaa
open Go.RowKit

set_option maxHeartbeats 8000000 in
set_option maxRecDepth 100000 in
theorem lawBoxSecret {w : World} {l : Label} {r : Int} {a : Option Addr} {n c : Nat} {xs : List CallB} {a2 : Option Addr} {n2 c2 : Nat} {ys : List CallB} {a3 : Option Addr} {n3 c3 : Nat} {zs : List CallB}
    (hl : l.ok) (hr : (Lit.int .i64 r).wf = true) (hx : CRow w a n c xs) (hy : CRow w a2 n2 c2 ys) (hz : CRow w a3 n3 c3 zs) :
    Calls Try.prog 3 #[.agg l.cells.toArray, .int .i64 r, .slice a n c, .slice a2 n2 c2, .slice a3 n3 c3] w fun e w' => e = .returned (.bool true) ∧ Below w.heap.size w w' := by
  obtain ⟨l', hl'⟩ : ∃ l', l' = l := ⟨_, rfl⟩
  have hle := hx.le
  have hle2 := hy.le
  have hle3 := hz.le
  have hmx := hx.max
  have hmx2 := hy.max
  have hmx3 := hz.max
  have Hl := Lib.hid (show l'.ok from hl' ▸ hl)
  obtain ⟨l1, l2⟩ := l
  have hlc : l'.cells = [.int .u64 l1, .int .u64 l2] := by rw [hl']; rfl
  have Hlc := Lib.hid hlc; clear hlc hl hl'
  have Hx := Lib.hid hx; clear hx
  have Hy := Lib.hid hy; clear hy
  have Hz := Lib.hid hz; clear hz
  simp only [Label.cells]
  go_enter Try.func3, Try.ntmps3
  go_wp2_with fail
  have hxa := heap_alloc_new w (.cells #[.int .u64 l1, .int .u64 l2] 24)
  have ba : Below w.heap.size w (w.alloc (.cells #[.int .u64 l1, .int .u64 l2] 24)) := (Below.refl _ _).alloc (Nat.le_refl _) _
  have sa : (w.alloc (.cells #[.int .u64 l1, .int .u64 l2] 24)).heap.size = w.heap.size + 1 := by simp
  generalize w.alloc (.cells #[.int .u64 l1, .int .u64 l2] 24) = wc at hxa ba sa ⊢
  have hk : ∀ w', Below wc.heap.size wc w' → w'.cell? ⟨w.heap.size, 0, none⟩ = some (.int .u64 l1) ∧ w'.cell? ⟨w.heap.size, 1, none⟩ = some (.int .u64 l2) := fun w' hb => by
    have xa := (hb.block w.heap.size (by omega)).trans hxa
    exact ⟨cells_at xa 0, cells_at xa 1⟩
  have hfin : ∀ w', Below wc.heap.size wc w' → Below w.heap.size w w' := fun w' hb => ba.trans (hb.mono (by omega))
  have Hk := Lib.hid hk; clear hk
  have Hfin := Lib.hid hfin; clear hfin
  clear hxa ba sa
  refine alive_calls.mono ?_
  rintro e w1 ⟨rfl, b1⟩
  by_cases h0 : 60 < n
  · have e0 : decide ((60 : Int) < (n : Int)) = true := decide_eq_true (by omega)
    have Hb := Lib.hid (Hfin.out _ b1); clear b1
    go_wp2
    go_ret
    exact ⟨rfl, Hb.out⟩
  have e0 : decide ((60 : Int) < (n : Int)) = false := decide_eq_false (by omega)
  by_cases h1 : 60 < n2
  · have e1 : decide ((60 : Int) < (n2 : Int)) = true := decide_eq_true (by omega)
    have Hb := Lib.hid (Hfin.out _ b1); clear b1
    go_wp2
    go_ret
    exact ⟨rfl, Hb.out⟩
  have e1 : decide ((60 : Int) < (n2 : Int)) = false := decide_eq_false (by omega)
  by_cases h2 : 60 < n3
  · have e2 : decide ((60 : Int) < (n3 : Int)) = true := decide_eq_true (by omega)
    have Hb := Lib.hid (Hfin.out _ b1); clear b1
    go_wp2
    go_ret
    exact ⟨rfl, Hb.out⟩
  have e2 : decide ((60 : Int) < (n3 : Int)) = false := decide_eq_false (by omega)
  by_cases h3 : r < 1
  · have e3 : decide (r < 1) = true := decide_eq_true (by omega)
    have Hb := Lib.hid (Hfin.out _ b1); clear b1
    go_wp2
    go_ret
    exact ⟨rfl, Hb.out⟩
  have e3 : decide (r < 1) = false := decide_eq_false (by omega)
  by_cases h4 : 8 < r
  · have e4 : decide (8 < r) = true := decide_eq_true (by omega)
    have Hb := Lib.hid (Hfin.out _ b1); clear b1
    go_wp2
    go_ret
    exact ⟨rfl, Hb.out⟩
  have e4 : decide (8 < r) = false := decide_eq_false (by omega)
  obtain ⟨R, rfl⟩ : ∃ R : Nat, r = R := ⟨r.toNat, by omega⟩
  have hR1 : 1 ≤ R := by omega
  have hR8 : R ≤ 8 := by omega
  clear h0 h1 h2 h3 h4 hr
  have Hb1 := Lib.hid b1; clear b1
  have hn1 := New_bx Hb1.out l' hR1 hR8
  rw [Hlc.out] at hn1
  obtain ⟨k0, k1⟩ := Hk.out _ Hb1.out
  go_wp2_with fail
  refine hn1.mono ?_
  rintro e w2 ⟨bx, Fx, rfl, dx, -, -⟩
  clear hn1 Hb1 k0 k1 e0 e1 e2 e3 e4
  have hn2 := New_bx dx.bel l' hR1 hR8
  obtain ⟨k0, k1⟩ := Hk.out _ dx.bel
  rw [Hlc.out] at hn2
  go_wp2_with fail
  refine hn2.mono ?_
  rintro e w3 ⟨by_, Fy, rfl, dy, hfy, b3⟩
  have t3 : Two wc w3 bx Fx by_ Fy l' R [] [] := ⟨dx.step b3, dy, fun k h1 h2 => by have := (dx.low k h1).2; have := hfy k h2; omega⟩
  clear hn2 k0 k1 dx dy hfy b3
  have Ht := Lib.hid t3; clear t3
  go_wp2_with fail
  go_loopw [15] (fun i wr => ∃ (j : Nat) (F1 F2 : Nat → Prop) (ms : List Msg), j ≤ n ∧ i = .int .i64 j ∧ Two wc wr bx F1 by_ F2 l' R ms []) (fun i _ => n - (intOf i).toNat)
  case atStart => exact ⟨0, Fx, Fy, [], by omega, rfl, Ht.out⟩
  case round =>
    obtain ⟨j, F1, F2, ms, hj, rfl, ht⟩ := hrel
    clear Ht
    have hxr := Hx.out.keep (Hfin.out _ ht.x.bel)
    have Ht := Lib.hid ht; clear ht
    by_cases hlt : j < n
    · obtain ⟨ax, ox, rfl⟩ := hxr.addr (by omega)
      have hjx : j < xs.length := by rw [Hx.out.len]; exact hlt
      have hst := fun (w3 : World) (h3 : CRow w3 (some ⟨ax, ox, none⟩) n c xs) => h3.at hjx
      obtain ⟨m, hm⟩ : ∃ m, m = xs[j] := ⟨_, rfl⟩
      rw [← hm] at hst
      clear hm
      obtain ⟨mw, ma, mo, mu, mg⟩ := m
      have hmo : mo.cells = [.int .u64 mo.1, .int .u64 mo.2] := rfl
      have hmg : mg.cells = [.int .i64 mg.1, .int .i64 mg.2.1, .int .i64 mg.2.2.1, .int .i64 mg.2.2.2] := rfl
      simp only [CallB.cells] at hst
      clear hxr
      have i1 : (0 : Int) ≤ (j : Int) := by omega
      have i2 : (j : Int) < (n : Int) := by omega
      have Hst := Lib.hid hst; clear hst
      go_wp2_with fail
      refine wp_region_free [0, 1, 2, 3, 4, 5, 6, 7, 8, 9, 10, 11, 12, 13, 14, 15, 16] (by kernel_rfl) (by kernel_rfl) rfl (by kernel_rfl) (fun _ _ _ h => by obtain ⟨_, h, _⟩ := h; cases h) (fun _ _ h => by obtain ⟨h, _⟩ := h; cases h) ?_
      simp only [List.map_cons, List.map_nil, List.getD_cons_zero, List.getD_cons_succ]
      have tq := Ht.out.step (below_drew wr)
      generalize wr.drew = waq at tq ⊢
      clear Ht
      have hcx := Hst.out _ (Hx.out.keep (Hfin.out _ tq.x.bel))
      have x2 := hcx 2 _ rfl
      have x3 := hcx 3 _ rfl
      have x4 := hcx 4 _ rfl
      have x5 := hcx 5 _ rfl
      have x6 := hcx 6 _ rfl
      have x7 := hcx 7 _ rfl
      have x8 := hcx 8 _ rfl
      clear hcx
      have hp := Put_bx tq.x mo mu mg
      rw [hmo, hmg] at hp
      have Hp := Lib.hid hp; clear hp
      have Htq := Lib.hid tq; clear tq
      go_wp2_with fail
      refine Hp.out.mono ?_
      rintro e wa ⟨rfl, d, m⟩
      have t := Htq.out.left d m
      clear Htq d m Hp
      clear x2 x3 x4 x5 x6 x7 x8
      have Ht := Lib.hid t; clear t
      go_wp2_with fail
      refine wp_region_free [0, 1, 2, 3, 4, 5, 6, 7, 8, 9, 10, 11, 12, 13, 14, 15, 16] (by kernel_rfl) (by kernel_rfl) rfl (by kernel_rfl) (fun _ _ _ h => by obtain ⟨_, h, _⟩ := h; cases h) (fun _ _ h => by obtain ⟨h, _⟩ := h; cases h) ?_
      simp only [List.map_cons, List.map_nil, List.getD_cons_zero, List.getD_cons_succ]
      have tq := Ht.out.step (below_drew wa)
      generalize wa.drew = wbq at tq ⊢
      clear Ht
      have hcx := Hst.out _ (Hx.out.keep (Hfin.out _ tq.x.bel))
      have x2 := hcx 2 _ rfl
      have x3 := hcx 3 _ rfl
      have x4 := hcx 4 _ rfl
      have x1 := hcx 1 _ rfl
      clear hcx
      have hp := Take_bx tq.x mo mu ma
      rw [hmo] at hp
      have Hp := Lib.hid hp; clear hp
      have Htq := Lib.hid tq; clear tq
      go_wp2_with fail
      refine Hp.out.mono ?_
      rintro e wb ⟨rfl, d, m⟩
      have t := Htq.out.left d m
      clear Htq d m Hp
      clear x2 x3 x4 x1
      have Ht := Lib.hid t; clear t
      go_wp2_with fail
      refine wp_region_free [0, 1, 2, 3, 4, 5, 6, 7, 8, 9, 10, 11, 12, 13, 14, 15, 16] (by kernel_rfl) (by kernel_rfl) rfl (by kernel_rfl) (fun _ _ _ h => by obtain ⟨_, h, _⟩ := h; cases h) (fun _ _ h => by obtain ⟨h, _⟩ := h; cases h) ?_
      simp only [List.map_cons, List.map_nil, List.getD_cons_zero, List.getD_cons_succ]
      have tq := Ht.out.step (below_drew wb)
      generalize wb.drew = wdq at tq ⊢
      clear Ht
      have hcx := Hst.out _ (Hx.out.keep (Hfin.out _ tq.x.bel))
      have x2 := hcx 2 _ rfl
      have x3 := hcx 3 _ rfl
      have x4 := hcx 4 _ rfl
      have x5 := hcx 5 _ rfl
      have x6 := hcx 6 _ rfl
      have x7 := hcx 7 _ rfl
      have x8 := hcx 8 _ rfl
      clear hcx
      have hp := Put_bx tq.x mo mu mg
      rw [hmo, hmg] at hp
      have Hp := Lib.hid hp; clear hp
      have Htq := Lib.hid tq; clear tq
      go_wp2_with fail
      refine Hp.out.mono ?_
      rintro e wd ⟨rfl, d, m⟩
      have t := Htq.out.left d m
      clear Htq d m Hp
      clear x2 x3 x4 x5 x6 x7 x8
      have Ht := Lib.hid t; clear t
      go_wp2_with fail
      go_roundw
      case rel => exact ⟨j + 1, _, _, _, by omega, by go_num, Ht.out⟩
      case measure => simp [intOf]; omega
    · obtain rfl : j = n := by omega
      clear hxr
      go_wp2_with fail
      go_loopw [16] (fun i wr => ∃ (j : Nat) (F1 F2 : Nat → Prop) (ms2 : List Msg), j ≤ n2 ∧ i = .int .i64 j ∧ Two wc wr bx F1 by_ F2 l' R ms ms2) (fun i _ => n2 - (intOf i).toNat)
      case atStart => exact ⟨0, F1, F2, [], by omega, rfl, Ht.out⟩
      case round =>
        clear Ht
        obtain ⟨j, F1, F2, ms2, hj, rfl, ht⟩ := hrel
        have hxr := Hy.out.keep (Hfin.out _ ht.x.bel)
        have Ht := Lib.hid ht; clear ht
        by_cases hlt : j < n2
        · obtain ⟨ax, ox, rfl⟩ := hxr.addr (by omega)
          have hjx : j < ys.length := by rw [Hy.out.len]; exact hlt
          have hst := fun (w3 : World) (h3 : CRow w3 (some ⟨ax, ox, none⟩) n2 c2 ys) => h3.at hjx
          obtain ⟨m, hm⟩ : ∃ m, m = ys[j] := ⟨_, rfl⟩
          rw [← hm] at hst
          clear hm
          obtain ⟨mw, ma, mo, mu, mg⟩ := m
          have hmo : mo.cells = [.int .u64 mo.1, .int .u64 mo.2] := rfl
          have hmg : mg.cells = [.int .i64 mg.1, .int .i64 mg.2.1, .int .i64 mg.2.2.1, .int .i64 mg.2.2.2] := rfl
          simp only [CallB.cells] at hst
          clear hxr
          have i1 : (0 : Int) ≤ (j : Int) := by omega
          have i2 : (j : Int) < (n2 : Int) := by omega
          have Hst := Lib.hid hst; clear hst
          go_wp2_with fail
          refine wp_region_free [0, 1, 2, 3, 4, 5, 6, 7, 8, 9, 10, 11, 12, 13, 14, 15, 16] (by kernel_rfl) (by kernel_rfl) rfl (by kernel_rfl) (fun _ _ _ h => by obtain ⟨_, h, _⟩ := h; cases h) (fun _ _ h => by obtain ⟨h, _⟩ := h; cases h) ?_
          simp only [List.map_cons, List.map_nil, List.getD_cons_zero, List.getD_cons_succ]
          have tq := Ht.out.step (below_drew wr)
          generalize wr.drew = waq at tq ⊢
          clear Ht
          have hcx := Hst.out _ (Hy.out.keep (Hfin.out _ tq.x.bel))
          have x2 := hcx 2 _ rfl
          have x3 := hcx 3 _ rfl
          have x4 := hcx 4 _ rfl
          have x5 := hcx 5 _ rfl
          have x6 := hcx 6 _ rfl
          have x7 := hcx 7 _ rfl
          have x8 := hcx 8 _ rfl
          clear hcx
          have hp := Put_bx tq.y mo mu mg
          rw [hmo, hmg] at hp
          have Hp := Lib.hid hp; clear hp
          have Htq := Lib.hid tq; clear tq
          go_wp2_with fail
          refine Hp.out.mono ?_
          rintro e wa ⟨rfl, d, m⟩
          have t := Htq.out.right d m
          clear Htq d m Hp
          clear x2 x3 x4 x5 x6 x7 x8
          have Ht := Lib.hid t; clear t
          go_wp2_with fail
          go_roundw
          case rel => exact ⟨j + 1, _, _, _, by omega, by go_num, Ht.out⟩
          case measure => simp [intOf]; omega
        · obtain rfl : j = n2 := by omega
          clear hxr
          go_wp2_with fail
          go_loopw [17] (fun i wr => ∃ (j : Nat) (F1 F2 : Nat → Prop) (ms ms2 : List Msg), j ≤ n3 ∧ i = .int .i64 j ∧ Two wc wr bx F1 by_ F2 l' R ms ms2) (fun i _ => n3 - (intOf i).toNat)
          case atStart => exact ⟨0, F1, F2, _, _, by omega, rfl, Ht.out⟩
          case round =>
            clear Ht
            obtain ⟨j, F1, F2, ms, ms2, hj, rfl, ht⟩ := hrel
            have hxr := Hz.out.keep (Hfin.out _ ht.x.bel)
            have Ht := Lib.hid ht; clear ht
            by_cases hlt : j < n3
            · obtain ⟨ax, ox, rfl⟩ := hxr.addr (by omega)
              have hjx : j < zs.length := by rw [Hz.out.len]; exact hlt
              have hst := fun (w3 : World) (h3 : CRow w3 (some ⟨ax, ox, none⟩) n3 c3 zs) => h3.at hjx
              have hmem : zs[j] ∈ zs := List.getElem_mem _
              obtain ⟨m, hm⟩ : ∃ m, m = zs[j] := ⟨_, rfl⟩
              rw [← hm] at hst hmem
              clear hm
              obtain ⟨mw, ma, mo, mu, mg⟩ := m
              have hmo : mo.cells = [.int .u64 mo.1, .int .u64 mo.2] := rfl
              have hmg : mg.cells = [.int .i64 mg.1, .int .i64 mg.2.1, .int .i64 mg.2.2.1, .int .i64 mg.2.2.2] := rfl
              simp only [CallB.cells] at hst
              have hcx := hst _ hxr
              have hok := Hz.out.ok
              clear hxr
              have i1 : (0 : Int) ≤ (j : Int) := by omega
              have i2 : (j : Int) < (n3 : Int) := by omega
              have Hst := Lib.hid hst; clear hst
              have x0 := hcx 0 _ rfl
              have x1 := hcx 1 _ rfl
              have x2 := hcx 2 _ rfl
              have x3 := hcx 3 _ rfl
              have x4 := hcx 4 _ rfl
              have x5 := hcx 5 _ rfl
              have x6 := hcx 6 _ rfl
              have x7 := hcx 7 _ rfl
              have x8 := hcx 8 _ rfl
              simp only [Nat.add_zero] at x0
              have hmok := hok _ hmem
              clear hcx hok hmem Hst
              go_wp2_with (with_reducible refine stop_load 24 ?_)
              refine unpark ?_
              have b1 : Below wr.heap.size wr (wr.alloc (.cells #[.int .i64 mw, .int .i64 ma, .int .u64 mo.1, .int .u64 mo.2, .int .u64 mu, .int .i64 mg.1, .int .i64 mg.2.1, .int .i64 mg.2.2.1, .int .i64 mg.2.2.2] 36)) := (Below.refl _ _).alloc (Nat.le_refl _) _
              have o1 := heap_alloc_new wr (.cells #[.int .i64 mw, .int .i64 ma, .int .u64 mo.1, .int .u64 mo.2, .int .u64 mu, .int .i64 mg.1, .int .i64 mg.2.1, .int .i64 mg.2.2.1, .int .i64 mg.2.2.2] 36)
              have L1 : Lies (wr.alloc (.cells #[.int .i64 mw, .int .i64 ma, .int .u64 mo.1, .int .u64 mo.2, .int .u64 mu, .int .i64 mg.1, .int .i64 mg.2.1, .int .i64 mg.2.2.1, .int .i64 mg.2.2.2] 36)) [(wr.heap.size, .cells #[.int .i64 mw, .int .i64 ma, .int .u64 mo.1, .int .u64 mo.2, .int .u64 mu, .int .i64 mg.1, .int .i64 mg.2.1, .int .i64 mg.2.2.1, .int .i64 mg.2.2.2] 36 (0, 0))] F1 F2 := Lies.add (L := []) (fun p hp => by cases hp) Ht.out b1 o1
              have t1 := Ht.out.step b1
              generalize wr.alloc (.cells #[.int .i64 mw, .int .i64 ma, .int .u64 mo.1, .int .u64 mo.2, .int .u64 mu, .int .i64 mg.1, .int .i64 mg.2.1, .int .i64 mg.2.2.1, .int .i64 mg.2.2.2] 36) = wa at t1 L1 ⊢
              generalize wr.heap.size = g at L1 ⊢
              clear b1 o1 Ht x0 x1 x2 x3 x4 x5 x6 x7 x8
              have Ht := Lib.hid t1; clear t1
              have HL := Lib.hid L1; clear L1
              obtain ⟨k0, k1⟩ := Hk.out _ Ht.out.x.bel
              have z := (HL.out (g, .cells #[.int .i64 mw, .int .i64 ma, .int .u64 mo.1, .int .u64 mo.2, .int .u64 mu, .int .i64 mg.1, .int .i64 mg.2.1, .int .i64 mg.2.2.1, .int .i64 mg.2.2.2] 36 (0, 0)) (by simp)).1
              have x2 := cells_at z 2
              have x3 := cells_at z 3
              have x4 := cells_at z 4
              clear z
              have hw := RWith_calls (w := wa) Hl.out hmok.who hmok.owned
              rw [Hlc.out, hmo] at hw
              have Hw := Lib.hid hw; clear hw hmok
              go_wp2_with fail
              refine Hw.out.mono ?_
              rintro e wb ⟨rfl, bb⟩
              have t2 := Ht.out.step bb
              have L2 := HL.out.step bb
              clear bb k0 k1 Ht HL Hw x2 x3 x4
              have Ht := Lib.hid t2; clear t2
              have HL := Lib.hid L2; clear L2
              cases hW : withOf l' mo mu with
              | true =>
                go_wp2_with fail
                go_roundw
                case rel => exact ⟨j + 1, _, _, _, _, by omega, by go_num, Ht.out⟩
                case measure => simp [intOf]; omega
              | false =>
                obtain ⟨E, hE⟩ : ∃ E, E = (if rightOf mg then (if withOf mo l' mu then (0 : Int) else 14) else 10) := ⟨_, rfl⟩
                have HE := Lib.hid hE; clear hE
                have HW := Lib.hid hW; clear hW
                have z := (HL.out (g, .cells #[.int .i64 mw, .int .i64 ma, .int .u64 mo.1, .int .u64 mo.2, .int .u64 mu, .int .i64 mg.1, .int .i64 mg.2.1, .int .i64 mg.2.2.1, .int .i64 mg.2.2.2] 36 (0, 0)) (by simp)).1
                have x2 := cells_at z 2
                have x3 := cells_at z 3
                have x4 := cells_at z 4
                have x5 := cells_at z 5
                have x6 := cells_at z 6
                have x7 := cells_at z 7
                have x8 := cells_at z 8
                clear z
                have hp := Put_bx Ht.out.x mo mu mg
                rw [put_blind HW.out, ← HE.out, hmo, hmg] at hp
                generalize (putOf l' R ms mo mu mg).1 = B1 at hp
                generalize (putOf l' R ms mo mu mg).2.2 = ms' at hp
                have Hp := Lib.hid hp; clear hp
                go_wp2_with fail
                refine Hp.out.mono ?_
                rintro e wd ⟨rfl, d, m⟩
                have t := Ht.out.left d m
                have L := HL.out.left m
                clear d m Hp Ht HL x2 x3 x4 x5 x6 x7 x8
                have Ht := Lib.hid t; clear t
                have HL := Lib.hid L; clear L
                have z := (HL.out (g, .cells #[.int .i64 mw, .int .i64 ma, .int .u64 mo.1, .int .u64 mo.2, .int .u64 mu, .int .i64 mg.1, .int .i64 mg.2.1, .int .i64 mg.2.2.1, .int .i64 mg.2.2.2] 36 (0, 0)) (by simp)).1
                have x2 := cells_at z 2
                have x3 := cells_at z 3
                have x4 := cells_at z 4
                have x5 := cells_at z 5
                have x6 := cells_at z 6
                have x7 := cells_at z 7
                have x8 := cells_at z 8
                clear z
                have hp := Put_bx Ht.out.y mo mu mg
                rw [put_blind HW.out, ← HE.out, hmo, hmg] at hp
                generalize (putOf l' R ms2 mo mu mg).1 = B2 at hp
                generalize (putOf l' R ms2 mo mu mg).2.2 = ms2' at hp
                have Hp := Lib.hid hp; clear hp
                go_wp2_with fail
                refine Hp.out.mono ?_
                rintro e we ⟨rfl, d, m⟩
                have t := Ht.out.right d m
                have L := HL.out.right m
                clear d m Hp Ht HL x2 x3 x4 x5 x6 x7 x8
                have Ht := Lib.hid t; clear t
                have HL := Lib.hid L; clear L
                have z := (HL.out (g, .cells #[.int .i64 mw, .int .i64 ma, .int .u64 mo.1, .int .u64 mo.2, .int .u64 mu, .int .i64 mg.1, .int .i64 mg.2.1, .int .i64 mg.2.2.1, .int .i64 mg.2.2.2] 36 (0, 0)) (by simp)).1
                have x1 := cells_at z 1
                have x2 := cells_at z 2
                have x3 := cells_at z 3
                have x4 := cells_at z 4
                clear z
                have hp := Take_bx Ht.out.x mo mu ma
                rw [take_blind HW.out, hmo] at hp
                simp only [noMsg, Msg.cells, Msg.kind, Msg.part, Msg.tx, Msg.what] at hp
                have Hp := Lib.hid hp; clear hp
                go_wp2_with fail
                refine Hp.out.mono ?_
                rintro e wf ⟨rfl, d, m⟩
                have t := Ht.out.left d m
                have L := HL.out.left m
                clear d m Hp Ht HL x1 x2 x3 x4
                have Ht := Lib.hid t; clear t
                have HL := Lib.hid L; clear L
                go_wp2_with (with_reducible refine stop_load 24 ?_)
                refine unpark ?_
                have b1 : Below wf.heap.size wf (wf.alloc (.cells #[.int .i64 0, .int .i64 0, .int .i64 0, .int .i64 0] 34)) := (Below.refl _ _).alloc (Nat.le_refl _) _
                have L1 := HL.out.add Ht.out b1 (heap_alloc_new wf (.cells #[.int .i64 0, .int .i64 0, .int .i64 0, .int .i64 0] 34))
                have t1 := Ht.out.step b1
                generalize wf.alloc (.cells #[.int .i64 0, .int .i64 0, .int .i64 0, .int .i64 0] 34) = wg at t1 L1 ⊢
                generalize wf.heap.size = gx at L1 ⊢
                clear b1 Ht HL
                have Ht := Lib.hid t1; clear t1
                have HL := Lib.hid L1; clear L1
                have z := (HL.out (g, .cells #[.int .i64 mw, .int .i64 ma, .int .u64 mo.1, .int .u64 mo.2, .int .u64 mu, .int .i64 mg.1, .int .i64 mg.2.1, .int .i64 mg.2.2.1, .int .i64 mg.2.2.2] 36 (0, 0)) (by simp)).1
                have x1 := cells_at z 1
                have x2 := cells_at z 2
                have x3 := cells_at z 3
                have x4 := cells_at z 4
                clear z
                have hp := Take_bx Ht.out.y mo mu ma
                rw [take_blind HW.out, hmo] at hp
                simp only [noMsg, Msg.cells, Msg.kind, Msg.part, Msg.tx, Msg.what] at hp
                have Hp := Lib.hid hp; clear hp
                go_wp2_with fail
                refine Hp.out.mono ?_
                rintro e wh ⟨rfl, d, m⟩
                have t := Ht.out.right d m
                have L := HL.out.right m
                clear d m Hp Ht HL x1 x2 x3 x4
                have Ht := Lib.hid t; clear t
                have HL := Lib.hid L; clear L
                go_wp2_with (with_reducible refine stop_load 24 ?_)
                refine unpark ?_
                have b1 : Below wh.heap.size wh (wh.alloc (.cells #[.int .i64 0, .int .i64 0, .int .i64 0, .int .i64 0] 34)) := (Below.refl _ _).alloc (Nat.le_refl _) _
                have L1 := HL.out.add Ht.out b1 (heap_alloc_new wh (.cells #[.int .i64 0, .int .i64 0, .int .i64 0, .int .i64 0] 34))
                have t1 := Ht.out.step b1
                generalize wh.alloc (.cells #[.int .i64 0, .int .i64 0, .int .i64 0, .int .i64 0] 34) = wi at t1 L1 ⊢
                generalize wh.heap.size = gy at L1 ⊢
                clear b1 Ht HL
                have Ht := Lib.hid t1; clear t1
                have HL := Lib.hid L1; clear L1
                have z := (HL.out (g, .cells #[.int .i64 mw, .int .i64 ma, .int .u64 mo.1, .int .u64 mo.2, .int .u64 mu, .int .i64 mg.1, .int .i64 mg.2.1, .int .i64 mg.2.2.1, .int .i64 mg.2.2.2] 36 (0, 0)) (by simp)).1
                have x2 := cells_at z 2
                have x3 := cells_at z 3
                have x4 := cells_at z 4
                clear z
                have hp := List_bx Ht.out.x mo mu
                rw [HW.out, hmo] at hp
                simp only [Bool.false_eq_true, if_false] at hp
                have Hp := Lib.hid hp; clear hp
                go_wp2_with fail
                refine Hp.out.mono ?_
                rintro e wj ⟨vp, rfl, own, bl, -⟩
                have t := Ht.out.step bl
                have L := HL.out.step bl
                obtain ⟨ap', np', qp, rfl, Xp, -⟩ := MOwn.msgs own
                have hqp := Xp.max
                obtain rfl : np' = 0 := Xp.len.symm
                clear own bl Hp Ht HL Xp x2 x3 x4
                have Ht := Lib.hid t; clear t
                have HL := Lib.hid L; clear L
                have z := (HL.out (g, .cells #[.int .i64 mw, .int .i64 ma, .int .u64 mo.1, .int .u64 mo.2, .int .u64 mu, .int .i64 mg.1, .int .i64 mg.2.1, .int .i64 mg.2.2.1, .int .i64 mg.2.2.2] 36 (0, 0)) (by simp)).1
                have x2 := cells_at z 2
                have x3 := cells_at z 3
                have x4 := cells_at z 4
                clear z
                have hp := List_bx Ht.out.y mo mu
                rw [HW.out, hmo] at hp
                simp only [Bool.false_eq_true, if_false] at hp
                have Hp := Lib.hid hp; clear hp
                go_wp2_with fail
                refine Hp.out.mono ?_
                rintro e wk ⟨vr, rfl, own, bl, -⟩
                have t := Ht.out.step bl
                have L := HL.out.step bl
                obtain ⟨ar', nr', qr, rfl, Xr, -⟩ := MOwn.msgs own
                have hqr := Xr.max
                obtain rfl : nr' = 0 := Xr.len.symm
                clear own bl Hp Ht HL Xr x2 x3 x4
                have Ht := Lib.hid t; clear t
                have HL := Lib.hid L; clear L
                have z1 := (HL.out (gx, .cells #[.int .i64 0, .int .i64 0, .int .i64 0, .int .i64 0] 34 (0, 0)) (by simp)).1
                have z2 := (HL.out (gy, .cells #[.int .i64 0, .int .i64 0, .int .i64 0, .int .i64 0] 34 (0, 0)) (by simp)).1
                have y0 := cells_at z1 0
                have y1 := cells_at z1 1
                have y2 := cells_at z1 2
                have y3 := cells_at z1 3
                have u0 := cells_at z2 0
                have u1 := cells_at z2 1
                have u2 := cells_at z2 2
                have u3 := cells_at z2 3
                clear z1 z2
                have hne : (E != E) = false := by simp
                have hq := fun w => msg_neq w noMsg noMsg
                have hg := fun x y w => msg_guard .neq x y noMsg noMsg w
                simp only [noMsg, Msg.cells, Msg.kind, Msg.part, Msg.tx, Msg.what, decide_true, Bool.not_true] at hq hg
                go_wp2_with fail
                refine (SameMsgs_calls (xs := []) (ys := []) (Msgs.none0 hqp) (Msgs.none0 hqr) rfl).mono ?_
                rintro e wz ⟨rfl, nd, rfl⟩
                have t := Ht.out.step (below_drawn _ nd)
                clear Ht HL y0 y1 y2 y3 u0 u1 u2 u3
                have Ht := Lib.hid t; clear t
                go_wp2_with fail
                go_roundw
                case rel => exact ⟨j + 1, _, _, _, _, by omega, by go_num, Ht.out⟩
                case measure => simp [intOf]; omega
            · obtain rfl : j = n3 := by omega
              have bel := Hfin.out _ Ht.out.x.bel
              have Hbel := Lib.hid bel; clear bel hxr
              go_wp2
              go_ret
              exact ⟨rfl, Hbel.out⟩
end Go.Proofs.Ytjmifnhpgedafaa
