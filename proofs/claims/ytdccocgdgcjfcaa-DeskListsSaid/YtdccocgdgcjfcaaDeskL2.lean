/- The law DeskLists. -/
import Derived.Test.YtdccocgdgcjfcaaDesk9
namespace Go.Proofs.Ytdccocgdgcjfcaa
open Go.RowKit

theorem Entry_some {w0 w : World} {b : Nat} {F : Nat → Prop} {p : Pl} {es : List Ent} (h : Dk w0 w b F p es) {t : Nat} (ht : t < es.length) : Calls Try.prog 22 #[.pointer (some ⟨b, 0, none⟩), .int .i64 ((t + 1 : Nat) : Int)] w fun e w' =>
    e = .returned (.tuple #[.agg #[.int .i64 es[t].client, .int .i64 es[t].begin, .int .u16 es[t].mask], .bool true]) ∧ Below w.heap.size w w' := by
  have h64 := h.facts.2.1
  have hen := Entry_dk h ((t + 1 : Nat) : Int) (by simp [Lit.wf, IntKind.min, IntKind.max, IntKind.signed, IntKind.bits]; omega)
  have hent : entAt es ((t + 1 : Nat) : Int) = es[t] := by
    unfold entAt
    rw [if_pos (by omega), show (((t + 1 : Nat) : Int) - 1).toNat = t by omega, List.getD_eq_getElem?_getD, List.getElem?_eq_getElem ht, Option.getD_some]
  rw [hent, decide_eq_true (by omega)] at hen
  exact hen.mono fun _ _ h => ⟨h.1, h.2.1⟩

set_option maxHeartbeats 8000000 in
set_option maxRecDepth 100000 in
theorem lawDeskLists {w : World} {P : Int} {a : Option Addr} {n c : Nat} {xs : List CallD} {now : Int} (hP : (Lit.int .i64 P).wf = true) (hx : DRow w a n c xs) (hnow : (Lit.int .i64 now).wf = true) :
    Calls Try.prog 6 #[.int .i64 P, .slice a n c, .int .i64 now] w fun e w' => e = .returned (.bool true) ∧ Below w.heap.size w w' := by
  have hl := hx.recs.len
  have hle := hx.recs.le
  have hmx := hx.recs.max
  have Hx := Lib.hid hx; clear hx
  have Hl := Lib.hid hl; clear hl
  go_enter Try.func6, Try.ntmps6
  go_wp2_with fail
  refine alive_calls.mono ?_
  rintro e w1 ⟨rfl, b1⟩
  have Hb1 := Lib.hid b1; clear b1
  by_cases h0 : 150 < n
  · have e0 : decide ((150 : Int) < (n : Int)) = true := decide_eq_true (by omega)
    go_wp2
    go_ret
    exact ⟨rfl, Hb1.out⟩
  have e0 : decide ((150 : Int) < (n : Int)) = false := decide_eq_false (by omega)
  by_cases h1 : P < 1
  · have e1 : decide (P < 1) = true := decide_eq_true h1
    go_wp2
    go_ret
    exact ⟨rfl, Hb1.out⟩
  have e1 : decide (P < 1) = false := decide_eq_false h1
  by_cases h2 : 6 < P
  · have e2 : decide (6 < P) = true := decide_eq_true h2
    go_wp2
    go_ret
    exact ⟨rfl, Hb1.out⟩
  have e2 : decide (6 < P) = false := decide_eq_false h2
  have hgood := small_good h1 h2
  have hnl : n ≤ 150 := by omega
  clear h0
  obtain ⟨p, rfl⟩ : ∃ p : Nat, P = p := ⟨P.toNat, by omega⟩
  have hp6 : p ≤ 6 := by omega
  clear h1 h2 hP
  have b2 := Hb1.out.alloc Hb1.out.size (.cells #[.int .i64 (p : Int), .int .i64 1, .int .i64 2] 29)
  have hx2 := heap_alloc_new w1 (.cells #[.int .i64 (p : Int), .int .i64 1, .int .i64 2] 29)
  have en := New_dk (w0 := w) b2 hgood
  simp only [Pl.cells, Pl.parts, Pl.window, Pl.delay] at en
  have EN := Lib.hid en; clear en
  have Hb2 := Lib.hid b2; clear b2 Hb1
  have Hx2 := Lib.hid hx2; clear hx2
  have Hgood := Lib.hid hgood; clear hgood
  go_wp2_with fail
  generalize w1.alloc (.cells #[.int .i64 (p : Int), .int .i64 1, .int .i64 2] 29) = w2 at EN Hb2 Hx2 ⊢
  generalize w1.heap.size = g at Hx2 ⊢
  refine EN.out.mono ?_
  rintro e w3 ⟨b, F, rfl, d3, hF3, b3⟩
  have l3 : Lie w3 g (.cells #[.int .i64 (p : Int), .int .i64 1, .int .i64 2] 29) F := by
    have hlt := (Array.getElem?_eq_some_iff.1 Hx2.out).1
    exact ⟨(b3.block g hlt).trans Hx2.out, fun h => by have := hF3 g h; omega⟩
  clear EN Hb2 Hx2 b3 hF3 e0 e1 e2
  have Hd3 := Lib.hid d3; clear d3
  have Hl3 := Lib.hid l3; clear l3
  go_wp2_with fail
  go_loopw [10] (fun i wr => ∃ (j : Nat) (es : List Ent) (F : Nat → Prop), j ≤ n ∧ i = .int .i64 j ∧ Dk w wr b F ((p : Int), 1, 2) es ∧ Lie wr g (.cells #[.int .i64 (p : Int), .int .i64 1, .int .i64 2] 29) F) (fun i _ => n - (intOf i).toNat)
  case atStart => exact ⟨0, [], F, by omega, rfl, Hd3.out, Hl3.out⟩
  case round =>
    obtain ⟨j, es, F4, hj, rfl, hd, hli⟩ := hrel
    clear Hd3 Hl3
    have hxr := (Hx.out.keep hd.bel).recs
    have Hd := Lib.hid hd; clear hd
    have Hli := Lib.hid hli; clear hli
    by_cases hlt : j < n
    · obtain ⟨bx, ox, rfl⟩ := hxr.addr (by omega)
      have hjx : j < xs.length := by rw [Hl.out]; exact hlt
      have hcx := hxr.at hjx
      have hok := Hx.out.ok _ (List.getElem_mem hjx)
      obtain ⟨m, hm⟩ : ∃ m, m = xs[j] := ⟨_, rfl⟩
      rw [← hm] at hcx hok
      clear hm hxr
      obtain ⟨k1, k2, k3, k4, k5⟩ := m
      have hbeg := Begin_dk (Hd.out.step (below_drew wr)) k2 k5 k4 hok.client hok.mask
      have x1 : wr.cell? ⟨bx, ox + j * 5 + 1, none⟩ = some (.int .i64 k2) := hcx 1 _ rfl
      have x3 : wr.cell? ⟨bx, ox + j * 5 + 3, none⟩ = some (.int .i64 k4) := hcx 3 _ rfl
      have x4 : wr.cell? ⟨bx, ox + j * 5 + 4, none⟩ = some (.int .u16 k5) := hcx 4 _ rfl
      have Hbeg := Lib.hid hbeg; clear hbeg
      clear hcx hok
      have i1 : (0 : Int) ≤ (j : Int) := by omega
      have i2 : (j : Int) < (n : Int) := by omega
      go_wp2_with fail
      refine wp_region_free [0, 1, 2, 3, 4, 5, 6, 7, 8, 9, 10, 11, 12, 13, 14, 15, 16] (by kernel_rfl) (by kernel_rfl) rfl (by kernel_rfl) (fun _ _ _ h => by obtain ⟨_, h, _⟩ := h; cases h) (fun _ _ h => by obtain ⟨h, _⟩ := h; cases h) ?_
      simp only [List.map_cons, List.map_nil, List.getD_cons_zero, List.getD_cons_succ]
      have y1 : wr.drew.cell? ⟨bx, ox + j * 5 + 1, none⟩ = some (.int .i64 k2) := x1
      have y3 : wr.drew.cell? ⟨bx, ox + j * 5 + 3, none⟩ = some (.int .i64 k4) := x3
      have y4 : wr.drew.cell? ⟨bx, ox + j * 5 + 4, none⟩ = some (.int .u16 k5) := x4
      have hli' := Hli.out.step (below_drew wr)
      have Hli' := Lib.hid hli'; clear hli' x1 x3 x4 Hd
      generalize wr.drew = w5 at *
      go_wp2_with fail
      refine Hbeg.out.mono ?_
      rintro e w6 ⟨rfl, d6, m6⟩
      have li6 := Hli'.out.mod m6
      have Hd6 := Lib.hid d6; clear d6 m6
      have Hli6 := Lib.hid li6; clear li6 y1 y3 y4 Hbeg
      go_wp2_with fail
      go_roundw
      case rel => exact ⟨j + 1, _, _, by omega, by go_num, Hd6.out, Hli6.out⟩
      case measure => simp [intOf]; omega
    · obtain rfl : j = n := by omega
      clear hxr
      clear Hx Hl
      have h64 := Hd.out.facts.2.1
      obtain ⟨L, hL⟩ : ∃ L, L = es.length := ⟨_, rfl⟩
      rw [← hL] at h64
      have HL := Lib.hid hL; clear hL
      go_wp2_with fail
      obtain ⟨wo, rfl⟩ : ∃ wo : World, wo = wr := ⟨_, rfl⟩
      go_loopw [11] (fun q wr => ∃ m : Nat, m ≤ p + 1 ∧ q = .int .i64 m ∧ Dk w wr b F4 ((p : Int), 1, 2) es ∧ Lie wr g (.cells #[.int .i64 (p : Int), .int .i64 1, .int .i64 2] 29) F4) (fun q _ => p + 1 - (intOf q).toNat)
      case atStart => exact ⟨0, by omega, rfl, Hd.out, Hli.out⟩
      case round =>
        obtain ⟨q, hq, rfl, hd, hli⟩ := hrel
        clear Hd Hli
        have Hd := Lib.hid hd; clear hd
        have Hli := Lib.hid hli; clear hli
        by_cases hqp : q ≤ p
        · have i1 : decide ((q : Int) ≤ (p : Int)) = true := decide_eq_true (by omega)
          have hin := In_dk Hd.out (q : Int)
          obtain ⟨zs, hzs⟩ : ∃ zs, zs = inOf es (q : Int) := ⟨_, rfl⟩
          rw [← hzs] at hin
          have Hin := Lib.hid hin; clear hin
          have Hzs := Lib.hid hzs; clear hzs
          go_wp2_with fail
          refine Hin.out.mono ?_
          rintro e w5 ⟨v, rfl, ow, b5, -⟩
          obtain ⟨la, lc, rfl, hli5, -⟩ := ow.ints
          have d5 := Hd.out.step b5
          have l5 := Hli.out.step b5
          obtain ⟨N, hN⟩ : ∃ N, N = zs.length := ⟨_, rfl⟩
          rw [← hN] at hli5 ⊢
          have HN := Lib.hid hN; clear hN
          clear Hin Hd Hli b5 ow
          have Hd := Lib.hid d5; clear d5
          have Hli := Lib.hid l5; clear l5
          have Hz := Lib.hid hli5; clear hli5
          go_wp2_with fail
          go_loopw [13, 14] (fun k tx wr => ∃ t : Nat, t ≤ L ∧ k = .int .i64 (cntOf (fun e => inMask e.mask q) es t : Nat) ∧ tx = .int .i64 ((t + 1 : Nat) : Int) ∧ Dk w wr b F4 ((p : Int), 1, 2) es ∧ Lie wr g (.cells #[.int .i64 (p : Int), .int .i64 1, .int .i64 2] 29) F4 ∧ Ints wr .i64 la N lc zs) (fun _ tx _ => L + 1 - (intOf tx).toNat)
          case atStart => exact ⟨0, by omega, rfl, rfl, Hd.out, Hli.out, Hz.out⟩
          case round =>
            obtain ⟨t, ht, rfl, rfl, hd, hli, hz⟩ := hrel
            clear Hd Hli Hz
            have hcnt := Count_dk hd
            rw [← HL.out] at hcnt
            have Hcnt := Lib.hid hcnt; clear hcnt
            have Hd := Lib.hid hd; clear hd
            have Hli := Lib.hid hli; clear hli
            have Hz := Lib.hid hz; clear hz
            by_cases htL : t < L
            · have r1 : decide (((t + 1 : Nat) : Int) ≤ (L : Int)) = true := decide_eq_true (by omega)
              have hte : t < es.length := by rw [← HL.out]; exact htL
              have hen := Entry_some Hd.out hte
              have hok := (Hd.out.facts.2.2 _ (List.getElem_mem hte)).mask
              have hsh := has_shift16 hok q
              have hno := cnt_no (fun e => inMask e.mask q) es t hte
              have hyes := cnt_yes (fun e => inMask e.mask q) es t hte
              have him : inMask es[t].mask (q : Int) = has es[t].mask q := by
                unfold inMask
                rw [decide_eq_true (by omega), Bool.true_and, Int.toNat_natCast]
              rw [him] at hno hyes
              have hN : thoseOf (fun e => inMask e.mask (q : Int)) es = zs := Hzs.out.symm
              rw [hN] at hyes
              clear hN him
              obtain ⟨en, hene⟩ : ∃ en, en = es[t] := ⟨_, rfl⟩
              rw [← hene] at hen hok hsh hno hyes
              clear hene
              obtain ⟨x2, y2, z2⟩ := en
              simp only [Ent.client, Ent.begin, Ent.mask] at hen hok hsh hno hyes
              have Hen := Lib.hid hen; clear hen
              have hrest : ((bits .and .u16 (z2 / 2 ^ q) 1 == 0) = true ∧ cntOf (fun e => inMask e.mask q) es (t + 1) = cntOf (fun e => inMask e.mask q) es t) ∨
                  ((bits .and .u16 (z2 / 2 ^ q) 1 == 0) = false ∧ cntOf (fun e => inMask e.mask q) es (t + 1) = cntOf (fun e => inMask e.mask q) es t + 1 ∧ cntOf (fun e => inMask e.mask q) es t < N ∧ zs.getD (cntOf (fun e => inMask e.mask q) es t) 0 = ((t + 1 : Nat) : Int)) := by
                cases hh : has z2 q
                · rw [hh] at hsh hno
                  exact .inl ⟨hsh, hno rfl⟩
                · rw [hh] at hsh hyes
                  have := hyes rfl
                  rw [← HN.out] at this
                  exact .inr ⟨hsh, this⟩
              clear hsh hno hyes
              have hgr : t + 1 ≤ L := htL
              obtain ⟨K', hK'⟩ : ∃ K', K' = cntOf (fun e => inMask e.mask q) es (t + 1) := ⟨_, rfl⟩
              obtain ⟨K, hK⟩ : ∃ K, K = cntOf (fun e => inMask e.mask q) es t := ⟨_, rfl⟩
              rw [← hK', ← hK] at hrest
              rw [← hK]
              have HK' := Lib.hid hK'; clear hK' hK
              have Hrest := Lib.hid hrest; clear hrest
              go_wp2_with fail
              refine Hcnt.out.mono ?_
              rintro e w10 ⟨rfl, rfl⟩
              go_wp2_with fail
              refine Hen.out.mono ?_
              rintro e w11 ⟨rfl, b11⟩
              have b12 := (Below.refl w11.heap.size w11).alloc (Nat.le_refl _) (.cells #[.int .i64 x2, .int .i64 y2, .int .u16 z2] 50)
              have hx12 := heap_alloc_new w11 (.cells #[.int .i64 x2, .int .i64 y2, .int .u16 z2] 50)
              have d12 := (Hd.out.step b11).step b12
              have l12 := (Hli.out.step b11).step b12
              have z12 := (Hz.out.keep b11).keep b12
              have v2 := cells_at hx12 2
              clear Hd Hli Hz b11 b12 hx12 Hcnt Hen
              have Hd := Lib.hid d12; clear d12
              have Hli := Lib.hid l12; clear l12
              have Hz := Lib.hid z12; clear z12
              go_wp2_with (with_reducible refine stop_load 37 ?_)
              refine unpark ?_
              generalize w11.heap.size = g12 at *
              generalize w11.alloc (.cells #[.int .i64 x2, .int .i64 y2, .int .u16 z2] 50) = w12 at *
              rcases Hrest.out with ⟨h1, h2⟩ | ⟨h1, h2, h3, h4⟩
              · clear Hrest
                have H2 := Lib.hid h2; clear h2
                go_wp2_with fail
                go_roundw
                case rel => exact ⟨t + 1, hgr, by rw [← HK'.out, H2.out], by go_num, Hd.out, Hli.out, Hz.out⟩
                case measure => simp [intOf]; omega
              · obtain ⟨zb, zo, rfl, hcz⟩ := Hz.out.cell (by omega)
                have hz1 := hcz K h3
                rw [h4, show ((t + 1 : Nat) : Int) = (t : Int) + 1 by omega] at hz1
                have r2 : decide ((N : Int) ≤ (K : Int)) = false := decide_eq_false (by omega)
                have r3 : (((t : Int) + 1) != ((t : Int) + 1)) = false := by simp
                have r4 : (0 : Int) ≤ (K : Int) := by omega
                have r5 : (K : Int) < (N : Int) := by omega
                have hb1 : K < 64 := by
                  have h5 : zs.length ≤ es.length := by rw [Hzs.out]; exact thoseOf_len _ _
                  rw [← HN.out, ← HL.out] at h5
                  omega
                have H2 := Lib.hid h2; clear h2 hcz h4 Hrest
                go_wp2_with fail
                go_roundw
                case rel => exact ⟨t + 1, hgr, by rw [← HK'.out, H2.out]; go_num, by go_num, Hd.out, Hli.out, Hz.out⟩
                case measure => simp [intOf]; omega
            · obtain rfl : t = L := by omega
              have r1 : decide (((t + 1 : Nat) : Int) ≤ (t : Int)) = false := decide_eq_false (by omega)
              have hK : cntOf (fun e => inMask e.mask q) es t = N := by
                rw [HN.out, Hzs.out, HL.out]; exact cnt_all _ _
              rw [hK]
              clear hK
              have r3 : ((N : Int) != (N : Int)) = false := by simp
              go_wp2_with fail
              refine Hcnt.out.mono ?_
              rintro e w10 ⟨rfl, rfl⟩
              go_wp2_with fail
              go_roundw
              case rel => exact ⟨q + 1, by omega, by go_num, Hd.out, Hli.out⟩
              case measure => simp [intOf]; omega
        · have i1 : decide ((q : Int) ≤ (p : Int)) = false := decide_eq_false (by omega)
          have hov := Over_dk Hd.out now
          obtain ⟨zs, hzs⟩ : ∃ zs, zs = overOf ((p : Int), 1, 2) es now := ⟨_, rfl⟩
          rw [← hzs] at hov
          have Hov := Lib.hid hov; clear hov
          have Hzs := Lib.hid hzs; clear hzs
          go_wp2_with fail
          refine Hov.out.mono ?_
          rintro e w5 ⟨v, rfl, ow, b5, -⟩
          obtain ⟨la, lc, rfl, hli5, -⟩ := ow.ints
          have d5 := Hd.out.step b5
          have l5 := Hli.out.step b5
          obtain ⟨N, hN⟩ : ∃ N, N = zs.length := ⟨_, rfl⟩
          rw [← hN] at hli5 ⊢
          have HN := Lib.hid hN; clear hN
          clear Hov Hd Hli b5 ow
          have Hd := Lib.hid d5; clear d5
          have Hli := Lib.hid l5; clear l5
          have Hz := Lib.hid hli5; clear hli5
          go_wp2_with fail
          obtain ⟨wo2, hwo2⟩ : ∃ wo2 : World, wo2 = wr := ⟨_, rfl⟩
          clear hwo2
          go_loopw [18, 19] (fun k tx wr => ∃ t : Nat, t ≤ L ∧ k = .int .i64 (cntOf (fun e => decide (releaseOf ((p : Int), 1, 2) e.begin ≤ now)) es t : Nat) ∧ tx = .int .i64 ((t + 1 : Nat) : Int) ∧ Dk w wr b F4 ((p : Int), 1, 2) es ∧ Lie wr g (.cells #[.int .i64 (p : Int), .int .i64 1, .int .i64 2] 29) F4 ∧ Ints wr .i64 la N lc zs) (fun _ tx _ => L + 1 - (intOf tx).toNat)
          case atStart => exact ⟨0, by omega, rfl, rfl, Hd.out, Hli.out, Hz.out⟩
          case round =>
            obtain ⟨t, ht, rfl, rfl, hd, hli, hz⟩ := hrel
            clear Hd Hli Hz
            have hcnt := Count_dk hd
            rw [← HL.out] at hcnt
            have Hcnt := Lib.hid hcnt; clear hcnt
            have Hd := Lib.hid hd; clear hd
            have Hli := Lib.hid hli; clear hli
            have Hz := Lib.hid hz; clear hz
            by_cases htL : t < L
            · have r1 : decide (((t + 1 : Nat) : Int) ≤ (L : Int)) = true := decide_eq_true (by omega)
              have hte : t < es.length := by rw [← HL.out]; exact htL
              have hen := Entry_some Hd.out hte
              have hno := cnt_no (fun e => decide (releaseOf ((p : Int), 1, 2) e.begin ≤ now)) es t hte
              have hyes := cnt_yes (fun e => decide (releaseOf ((p : Int), 1, 2) e.begin ≤ now)) es t hte
              have hN : thoseOf (fun e => decide (releaseOf ((p : Int), 1, 2) e.begin ≤ now)) es = zs := Hzs.out.symm
              rw [hN] at hyes
              clear hN
              obtain ⟨en, hene⟩ : ∃ en, en = es[t] := ⟨_, rfl⟩
              rw [← hene] at hen hno hyes
              clear hene
              have hrl := fun w : World => Release_calls (w := w) ((p : Int), 1, 2) Hgood.out en.begin
              generalize releaseOf ((p : Int), 1, 2) en.begin = R at hrl hno hyes
              obtain ⟨x2, y2, z2⟩ := en
              simp only [Ent.client, Ent.begin, Ent.mask, Pl.cells, Pl.parts, Pl.window, Pl.delay] at hen hrl
              have Hen := Lib.hid hen; clear hen
              have Hrl := Lib.hid hrl; clear hrl
              have hrest : (decide (R ≤ now) = false ∧ cntOf (fun e => decide (releaseOf ((p : Int), 1, 2) e.begin ≤ now)) es (t + 1) = cntOf (fun e => decide (releaseOf ((p : Int), 1, 2) e.begin ≤ now)) es t) ∨
                  (decide (R ≤ now) = true ∧ cntOf (fun e => decide (releaseOf ((p : Int), 1, 2) e.begin ≤ now)) es (t + 1) = cntOf (fun e => decide (releaseOf ((p : Int), 1, 2) e.begin ≤ now)) es t + 1 ∧ cntOf (fun e => decide (releaseOf ((p : Int), 1, 2) e.begin ≤ now)) es t < N ∧ zs.getD (cntOf (fun e => decide (releaseOf ((p : Int), 1, 2) e.begin ≤ now)) es t) 0 = ((t + 1 : Nat) : Int)) := by
                cases hh : decide (R ≤ now)
                · exact .inl ⟨rfl, hno hh⟩
                · have := hyes hh
                  rw [← HN.out] at this
                  exact .inr ⟨rfl, this⟩
              clear hno hyes
              have hgr : t + 1 ≤ L := htL
              obtain ⟨K', hK'⟩ : ∃ K', K' = cntOf (fun e => decide (releaseOf ((p : Int), 1, 2) e.begin ≤ now)) es (t + 1) := ⟨_, rfl⟩
              obtain ⟨K, hK⟩ : ∃ K, K = cntOf (fun e => decide (releaseOf ((p : Int), 1, 2) e.begin ≤ now)) es t := ⟨_, rfl⟩
              rw [← hK', ← hK] at hrest
              rw [← hK]
              have HK' := Lib.hid hK'; clear hK' hK
              have Hrest := Lib.hid hrest; clear hrest
              go_wp2_with fail
              refine Hcnt.out.mono ?_
              rintro e w10 ⟨rfl, rfl⟩
              go_wp2_with fail
              refine Hen.out.mono ?_
              rintro e w11 ⟨rfl, b11⟩
              have b12 := (Below.refl w11.heap.size w11).alloc (Nat.le_refl _) (.cells #[.int .i64 x2, .int .i64 y2, .int .u16 z2] 50)
              have hx12 := heap_alloc_new w11 (.cells #[.int .i64 x2, .int .i64 y2, .int .u16 z2] 50)
              have d12 := (Hd.out.step b11).step b12
              have l12 := (Hli.out.step b11).step b12
              have z12 := (Hz.out.keep b11).keep b12
              have v1 := cells_at hx12 1
              have c0 := cells_at l12.is 0
              have c1 := cells_at l12.is 1
              have c2 := cells_at l12.is 2
              clear Hd Hli Hz b11 b12 hx12 Hcnt Hen
              have Hd := Lib.hid d12; clear d12
              have Hli := Lib.hid l12; clear l12
              have Hz := Lib.hid z12; clear z12
              go_wp2_with (with_reducible refine stop_load 29 ?_)
              refine unpark ?_
              generalize w11.heap.size = g12 at *
              generalize w11.alloc (.cells #[.int .i64 x2, .int .i64 y2, .int .u16 z2] 50) = w12 at *
              go_wp2_with fail
              refine (Hrl.out _).mono ?_
              rintro e w13 ⟨rfl, b13⟩
              have d13 := Hd.out.step b13
              have l13 := Hli.out.step b13
              have z13 := Hz.out.keep b13
              clear Hd Hli Hz b13 Hrl v1 c0 c1 c2
              have Hd := Lib.hid d13; clear d13
              have Hli := Lib.hid l13; clear l13
              have Hz := Lib.hid z13; clear z13
              rcases Hrest.out with ⟨h1, h2⟩ | ⟨h1, h2, h3, h4⟩
              · clear Hrest
                have H2 := Lib.hid h2; clear h2
                go_wp2_with fail
                go_roundw
                case rel => exact ⟨t + 1, hgr, by rw [← HK'.out, H2.out], by go_num, Hd.out, Hli.out, Hz.out⟩
                case measure => simp [intOf]; omega
              · obtain ⟨zb, zo, rfl, hcz⟩ := Hz.out.cell (by omega)
                have hz1 := hcz K h3
                rw [h4, show ((t + 1 : Nat) : Int) = (t : Int) + 1 by omega] at hz1
                have r2 : decide ((N : Int) ≤ (K : Int)) = false := decide_eq_false (by omega)
                have r3 : (((t : Int) + 1) != ((t : Int) + 1)) = false := by simp
                have r4 : (0 : Int) ≤ (K : Int) := by omega
                have r5 : (K : Int) < (N : Int) := by omega
                have hb1 : K < 64 := by
                  have h5 : zs.length ≤ es.length := by rw [Hzs.out]; exact thoseOf_len _ _
                  rw [← HN.out, ← HL.out] at h5
                  omega
                have H2 := Lib.hid h2; clear h2 hcz h4 Hrest
                go_wp2_with fail
                go_roundw
                case rel => exact ⟨t + 1, hgr, by rw [← HK'.out, H2.out]; go_num, by go_num, Hd.out, Hli.out, Hz.out⟩
                case measure => simp [intOf]; omega
            · obtain rfl : t = L := by omega
              have r1 : decide (((t + 1 : Nat) : Int) ≤ (t : Int)) = false := decide_eq_false (by omega)
              have hK : cntOf (fun e => decide (releaseOf ((p : Int), 1, 2) e.begin ≤ now)) es t = N := by
                rw [HN.out, Hzs.out, HL.out]; exact cnt_all _ _
              rw [hK]
              clear hK
              have r3 : ((N : Int) == (N : Int)) = true := by simp
              go_wp2_with fail
              refine Hcnt.out.mono ?_
              rintro e w10 ⟨rfl, rfl⟩
              go_wp2_with fail
              go_ret
              exact ⟨rfl, Hd.out.bel⟩
end Go.Proofs.Ytdccocgdgcjfcaa
