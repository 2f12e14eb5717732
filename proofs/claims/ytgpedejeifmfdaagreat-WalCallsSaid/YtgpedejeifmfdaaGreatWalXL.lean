/- The law WalCalls. -/
import Derived.Test.YtgpedejeifmfdaaGreatWalXN
import Derived.Deep.CutRange
import Derived.Deep.CutBlock
namespace Go.Proofs.YtgpedejeifmfdaaGreat
open Go.RowKit Go.Sort

theorem Tryz.sizeCallW : (Tryz.prog.info? 41).map (·.size) = some 6 := by kernel_rfl
set_option maxHeartbeats 40000000 in
set_option maxRecDepth 100000 in
theorem lawWalCalls {w : World} {NI : Int} (_hN : (Lit.int .i64 NI).wf = true) {a : Option Addr} {n c : Nat} {xs : List CallW} (hx : WRow w a n c xs) :
    Calls Tryz.prog 3 #[.int .i64 NI, .slice a n c] w fun e w' => e = .returned (.bool true) ∧ Below w.heap.size w w' := by
  have hl := hx.recs.len
  have Hx := Lib.hid hx; clear hx
  have Hl := Lib.hid hl; clear hl
  clear _hN
  go_enter Tryz.func3, Tryz.ntmps3
  go_wp2_with fail
  refine alive_wal.mono ?_
  rintro e w1 ⟨rfl, b1⟩
  have Hb1 := Lib.hid b1; clear b1
  go_wp2_with fail
  refine (great_calls (Hx.out.keep Hb1.out)).mono ?_
  rintro e w1 ⟨GR, rfl, rfl, hG⟩
  cases GR with
  | true =>
    clear hG
    go_wp2
    go_ret
    exact ⟨rfl, Hb1.out⟩
  | false =>
  obtain ⟨hn50, hr200⟩ := hG rfl
  have Hr200 := Lib.hid hr200; clear hr200 hG
  by_cases g1 : NI < 1
  · have d1 : decide (NI < 1) = true := decide_eq_true g1
    go_wp2
    go_ret
    exact ⟨rfl, Hb1.out⟩
  have d1 : decide (NI < 1) = false := decide_eq_false g1
  by_cases g2 : 60 < NI
  · have d2 : decide (60 < NI) = true := decide_eq_true g2
    have d2' : decide (NI > 60) = true := decide_eq_true g2
    go_wp2
    go_ret
    exact ⟨rfl, Hb1.out⟩
  have d2 : decide (60 < NI) = false := decide_eq_false g2
  have d2' : decide (NI > 60) = false := decide_eq_false g2
  obtain ⟨N, rfl⟩ : ∃ N : Nat, NI = N := ⟨NI.toNat, by omega⟩
  have hN1 : 1 ≤ N := by omega
  have hN2 : N ≤ 60 := by omega
  clear g1 g2
  go_wp2_with fail
  clear d1 d2 d2'
  refine (New_dev (w0 := w) Hb1.out hN1 (by omega)).mono ?_
  rintro e w3 ⟨b, F, rfl, d3, f3, b3⟩
  have D3 := Lib.hid d3; clear d3 f3 b3
  go_wp2_with fail
  refine (RNew_ref (w0 := w) D3.out.bel hN1 (by omega)).mono ?_
  rintro e w4 ⟨rb, G, rfl, r4, g4, b4⟩
  have hT : Two w w4 b rb F G (fresh N, []) (fresh N, []) := ⟨D3.out.step b4, r4, fun k hf hg => by have := (D3.out.low k hf).2; have := g4 k hg; omega⟩
  clear D3 r4 g4 b4
  have hop := open_none (seen_fresh N)
  have Hop := Lib.hid hop; clear hop
  have HT := Lib.hid hT; clear hT
  go_wp2_with fail
  refine (Open_calls_log HT.out.dev).mono ?_
  rintro e w5 ⟨p5, v5, K5, rfl, b5, o5⟩
  rcases o5 with ⟨n5, -⟩ | ⟨l5, rs5, n5, rfl, rfl, L5, R5⟩
  · rw [Hop.out] at n5; cases n5
  rw [Hop.out] at n5
  cases n5
  have B5 := Lib.hid b5; clear b5 R5
  have L5' := Lib.hid L5; clear L5
  go_wp2_with fail
  refine (ROpen_calls (HT.out.ref.step B5.out) HT.out.dev.sects (by simp)).mono ?_
  rintro e w6 ⟨p6, v6, K6, rfl, b6, o6⟩
  rcases o6 with ⟨n6, -⟩ | ⟨l6, rs6, n6, rfl, rfl, L6, R6⟩
  · rw [Hop.out] at n6; cases n6
  rw [Hop.out] at n6
  cases n6
  have hL := logs_open (l := ⟨1, 1, 1⟩) HT.out B5.out L5'.out b6 L6 Hop.out
  generalize w4.heap.size = lb at hL ⊢
  generalize w5.heap.size = xb at hL ⊢
  have HL := Lib.hid hL; clear hL
  clear HT B5 L5' b6 L6 R6 Hop
  go_wp2_with fail
  go_loopw [9, 11, 14] (fun x9 x11 i wr => ∃ (j : Nat) (F G : Nat → Prop) (s : State), j ≤ n ∧ i = .int .i64 j ∧ Two w wr b rb F G s s ∧ s.1.length = N ∧ s.2.length ≤ 310 * j ∧ ((x9 = .pointer none ∧ x11 = .pointer none) ∨ ∃ (lb xb : Nat) (l : Lg), x9 = .pointer (some ⟨lb, 0, none⟩) ∧ x11 = .pointer (some ⟨xb, 0, none⟩) ∧ Logs w wr b rb F G lb xb s l s l)) (fun _ _ i _ => n - (intOf i).toNat)
  case atStart => exact ⟨0, F, G, _, Nat.zero_le _, rfl, HL.out.two, by simp [fresh], by simp, .inr ⟨lb, xb, _, rfl, rfl, HL.out⟩⟩
  case round =>
    clear HL
    obtain ⟨j, F, G, s, hj, rfl, hT, hN, hC, hlr⟩ := hrel
    have HN := Lib.hid hN.symm; clear hN
    by_cases hge : n ≤ j
    · obtain rfl : j = n := by omega
      have HT := Lib.hid hT; clear hT hlr
      go_wp2
      go_ret
      exact ⟨rfl, HT.out.dev.bel⟩
    have hlt : j < n := by omega
    rcases hlr with ⟨rfl, rfl⟩ | ⟨lb, xb, l, rfl, rfl, hL⟩
    · have HT := Lib.hid hT; clear hT
      go_wp2
      go_ret
      exact ⟨rfl, HT.out.dev.bel⟩
    clear hT
    have hjx : j < xs.length := by rw [Hl.out]; exact hlt
    have hxr := (Hx.out.keep hL.wl.dev.bel).recs
    obtain ⟨bx, ox, rfl⟩ := hxr.addr (by omega)
    have hcx := hxr.at hjx
    have hok := Hx.out.ok _ (List.getElem_mem hjx)
    have hr2 := Hr200.out _ (List.getElem_mem hjx)
    generalize xs[j] = x at hcx hok hr2
    obtain ⟨k0, k1, k2, k3, ra, rn, rc, rs, da, dn, dc, ds⟩ := x
    have x0 := hcx 0 _ rfl
    have x1 := hcx 1 _ rfl
    have x2 := hcx 2 _ rfl
    have x3 := hcx 3 _ rfl
    have x4 := hcx 4 _ rfl
    have x5 := hcx 5 _ rfl
    clear hcx hxr
    simp only [callWF, Nat.add_zero] at x0 x1 x2 x3 x4 x5
    simp only at hr2
    have hsp := wf_i64 hok.spare
    simp only at hsp
    have hrow : ∀ w1, Below w.heap.size w w1 → RRow w1 ra rn rc rs := fun w1 hB => rrow_keep hok.recs hB
    have hrs : rs.length ≤ 200 := by have := hok.recs.recs.len; simp only at this; omega
    have Hok := Lib.hid hok; clear hok
    have hok : ∀ u : Unit, CallW.ok w ⟨k0, k1, k2, k3, ra, rn, rc, rs, da, dn, dc, ds⟩ := fun _ => Hok.out
    have Hok2 := Lib.hid hok; clear hok Hok
    have Hrow := Lib.hid hrow; clear hrow
    have i1 : (0 : Int) ≤ (j : Int) := by omega
    have i2 : (j : Int) < (n : Int) := by omega
    have b5 := (Below.refl wr.heap.size wr).alloc (Nat.le_refl _) (.cells #[.int .i64 k0, .int .i64 k1, .int .i64 k2, .int .i64 k3, .slice ra rn rc, .slice da dn dc] 41)
    have y5 := heap_alloc_new wr (.cells #[.int .i64 k0, .int .i64 k1, .int .i64 k2, .int .i64 k3, .slice ra rn rc, .slice da dn dc] 41)
    have hA : Asd (wr.alloc (.cells #[.int .i64 k0, .int .i64 k1, .int .i64 k2, .int .i64 k3, .slice ra rn rc, .slice da dn dc] 41)) wr.heap.size #[.int .i64 k0, .int .i64 k1, .int .i64 k2, .int .i64 k3, .slice ra rn rc, .slice da dn dc] (fun k => F k ∨ k = lb) (fun k => G k ∨ k = xb) := ⟨y5, fun hf => by have := (hL.lowF _ hf).2; omega, fun hf => by have := (hL.lowG _ hf).2; omega⟩
    have hT := hL.step b5
    clear b5 y5 hL
    have HT := Lib.hid hT; clear hT
    have HA := Lib.hid hA; clear hA
    go_upto_region 17 with fail
    clear x0 x1 x2 x3 x4 x5
    generalize wr.heap.size = ws at *
    generalize wr.alloc (.cells #[.int .i64 k0, .int .i64 k1, .int .i64 k2, .int .i64 k3, .slice ra rn rc, .slice da dn dc] 41) = w5 at *
    have y0 := cells_at HA.out.is 0
    have y1 := cells_at HA.out.is 1
    have y2 := cells_at HA.out.is 2
    have y3 := cells_at HA.out.is 3
    have y4 := cells_at HA.out.is 4
    have y5 := cells_at HA.out.is 5
    go_upto_block 2 with fail
    go_cut [9, 11, 16, 17, 18, 19, 20, 21] from 96 to 245 (fun s9 s11 _ _ _ _ _ _ wx => ∃ (F1 G1 : Nat → Prop) (s1 : State), Two w wx b rb F1 G1 s1 s1 ∧ s1.1.length = N ∧ s1.2.length ≤ 310 * (j + 1) ∧ ((s9 = .pointer none ∧ s11 = .pointer none ∧ Asd wx ws #[.int .i64 k0, .int .i64 k1, .int .i64 k2, .int .i64 k3, .slice ra rn rc, .slice da dn dc] F1 G1) ∨ ∃ (lb1 xb1 : Nat) (l1 : Lg), s9 = .pointer (some ⟨lb1, 0, none⟩) ∧ s11 = .pointer (some ⟨xb1, 0, none⟩) ∧ Logs w wx b rb F1 G1 lb1 xb1 s1 l1 s1 l1 ∧ Asd wx ws #[.int .i64 k0, .int .i64 k1, .int .i64 k2, .int .i64 k3, .slice ra rn rc, .slice da dn dc] (fun k => F1 k ∨ k = lb1) (fun k => G1 k ∨ k = xb1)))
    case first => as_aux_lemma =>
      have hrow := Hrow.out
      have hok := Hok2.out ()
      clear Hrow Hok2
      by_cases w0 : k0 = 0
      · subst w0
        as_aux_lemma =>
          obtain ⟨E, hE⟩ : ∃ E, E = fitE s.1.length l rs 0 k1 := ⟨_, rfl⟩
          have hEE : (E != E) = false := by simp
          have hsl := appS_len (s := s) (l := l) (spare := k1) (list := rs) hrs
          have hc1 := fun w1 (hL : Logs w w1 b rb F G lb xb s l s l) => Append_wl hL.wl (hrow w1 hL.wl.dev.bel).recs (hrow w1 hL.wl.dev.bel).ok (by omega) (by omega) (spare := k1) hsp
          have hc2 := fun w1 F (hL : Logs w w1 b rb F G lb xb (appS s l rs k1).1 (appS s l rs k1).2 s l) => RAppend_rl hL.rl (hrow w1 hL.wl.dev.bel).recs (hrow w1 hL.wl.dev.bel).ok (by omega) (by omega) (spare := k1) hsp
          rw [← hE] at hc1 hc2
          obtain ⟨S1, hS1⟩ : ∃ S1, S1 = (appS s l rs k1).1 := ⟨_, rfl⟩
          obtain ⟨l1, hl1⟩ : ∃ l1, l1 = (appS s l rs k1).2 := ⟨_, rfl⟩
          rw [← hS1, ← hl1] at hc1 hc2
          rw [← hS1] at hsl
          have Hc1 := Lib.hid hc1; clear hc1
          have Hc2 := Lib.hid hc2; clear hc2
          have Hsl := Lib.hid hsl; clear hsl
          clear hE hS1 hl1
          go_wp2_with fail
          clear y0 y1 y2 y3 y4 y5
          have sd := below_drew w5
          have hT := HT.out.step sd
          have hA := HA.out.step sd
          have q0 : w5.drew.heap[ws]? = some (.cells #[.int .i64 0, .int .i64 k1, .int .i64 k2, .int .i64 k3, .slice ra rn rc, .slice da dn dc] 41 (0, 0)) := hA.is
          refine wp_region_held (fun w' : World => w'.heap[ws]? = some (.cells #[.int .i64 0, .int .i64 k1, .int .i64 k2, .int .i64 k3, .slice ra rn rc, .slice da dn dc] 41 (0, 0))) [0, 1, 2, 3, 4, 6, 7, 8, 9, 10] [[5], [11, 12]] (by kernel_rfl) (by kernel_rfl) rfl (by kernel_rfl) (fun _ _ _ h => by obtain ⟨_, h, _⟩ := h; cases h) (fun _ _ h => by obtain ⟨h, _⟩ := h; cases h) q0 rfl ?_
          generalize w5.drew = w6 at hT hA q0 ⊢
          clear HT HA sd
          have HT := Lib.hid hT; clear hT
          have HA := Lib.hid hA; clear hA
          have Q0 := Lib.hid q0; clear q0
          apply Exists.intro
          apply And.intro
          · intro w' s
            have y1 := cells_at s 1
            have y4 := cells_at s 4
            clear s
            simp only [List.map_cons, List.map_nil, List.getD_cons_zero, List.getD_cons_succ]
            go_wp2_with fail
            exact pre_end
          simp only [List.map_cons, List.map_nil, List.getD_cons_zero, List.getD_cons_succ]
          refine segs_more ?_
          go_wp2_with fail
          refine (Hc1.out _ HT.out).mono ?_
          rintro e w7 ⟨rfl, u7, m7⟩
          have hT := HT.out.left u7 m7 (fun _ h => h)
          have hA := HA.out.left (A' := fun k => grownF F w6 w7 k ∨ k = lb) m7 grown_or
          generalize grownF F w6 w7 = F1 at hT hA
          clear HT HA Hc1 u7 m7 Q0
          have q0 := hA.is
          have HT := Lib.hid hT; clear hT
          have HA := Lib.hid hA; clear hA
          have Q0 := Lib.hid q0; clear q0
          go_wp2_with fail
          refine seg_end Q0.out (segs_last ?_)
          go_wp2_with fail
          refine (Hc2.out _ _ HT.out).mono ?_
          rintro e w8 ⟨rfl, u8, m8⟩
          have hT := HT.out.right u8 m8 (fun _ h => h)
          have hA := HA.out.right (B' := fun k => grownF G w7 w8 k ∨ k = xb) m8 grown_or
          generalize grownF G w7 w8 = G1 at hT hA
          clear HT HA Hc2 u8 m8 Q0
          have HT := Lib.hid hT; clear hT
          have HA := Lib.hid hA; clear hA
          go_wp2_with fail
          go_meet
          case rel => exact ⟨F1, G1, S1, HT.out.two, Hsl.out.1.trans HN.out.symm, by have := Hsl.out.2; omega, .inr ⟨lb, xb, l1, rfl, rfl, HT.out, HA.out⟩⟩
      have zw0 : (k0 == 0) = false := by simpa using w0
      by_cases w1 : k0 = 1
      · subst w1
        as_aux_lemma =>
          go_wp2_with fail
          clear y0 y1 y2 y3 y4 y5
          refine (Force_wl HT.out.wl).mono ?_
          rintro e w7 ⟨rfl, u7, m7⟩
          have hT := HT.out.left u7 m7 (fun _ h => .inl h)
          have hA := HA.out.left m7 (fun k hk => .inl hk)
          clear HT HA u7 m7
          have HT := Lib.hid hT; clear hT
          have HA := Lib.hid hA; clear hA
          go_wp2_with fail
          refine (RForce_rl HT.out.rl (by omega)).mono ?_
          rintro e w8 ⟨rfl, u8, m8⟩
          have hT := HT.out.right u8 m8 (fun _ h => h)
          have hA := HA.out.right (B' := fun k => grownF G w7 w8 k ∨ k = xb) m8 grown_or
          generalize grownF G w7 w8 = G1 at hT hA
          obtain ⟨S1, hS1⟩ : ∃ S : State, S = (settled s.1 s.2, []) := ⟨_, rfl⟩
          obtain ⟨l1, hl1⟩ : ∃ l1 : Lg, l1 = ⟨l.next, l.first, l.first⟩ := ⟨_, rfl⟩
          rw [← hS1, ← hl1] at hT
          have hs1 : S1.1.length = N := by rw [hS1, HN.out]; exact settled_len _ _
          have hs2 : S1.2.length ≤ 310 * (j + 1) := by rw [hS1]; exact Nat.zero_le _
          clear HT HA u8 m8 hS1 hl1
          have HT := Lib.hid hT; clear hT
          have HA := Lib.hid hA; clear hA
          have Hs1 := Lib.hid hs1; clear hs1
          have Hs2 := Lib.hid hs2; clear hs2
          go_wp2_with fail
          go_meet
          case rel => exact ⟨F, G1, S1, HT.out.two, Hs1.out, Hs2.out, .inr ⟨lb, xb, l1, rfl, rfl, HT.out, HA.out⟩⟩
      have zw1 : (k0 == 1) = false := by simpa using w1
      by_cases w2 : k0 = 2
      · subst w2
        as_aux_lemma =>
          obtain ⟨E, hE⟩ : ∃ E, E = fitE s.1.length l rs 1 k1 := ⟨_, rfl⟩
          have hEE : (E != E) = false := by simp
          have hsl := ckS_len (s := s) (l := l) (spare := k1) (list := rs) hrs
          have hc1 := fun w1 (hL : Logs w w1 b rb F G lb xb s l s l) => Checkpoint_wl hL.wl (hrow w1 hL.wl.dev.bel).recs (hrow w1 hL.wl.dev.bel).ok (by omega) (by omega) (spare := k1) hsp
          have hc2 := fun w1 F (hL : Logs w w1 b rb F G lb xb (ckS s l rs k1).1 (ckS s l rs k1).2 s l) => RCheckpoint_rl hL.rl (hrow w1 hL.wl.dev.bel).recs (hrow w1 hL.wl.dev.bel).ok (by omega) (by omega) (spare := k1) hsp
          rw [← hE] at hc1 hc2
          obtain ⟨S1, hS1⟩ : ∃ S1, S1 = (ckS s l rs k1).1 := ⟨_, rfl⟩
          obtain ⟨l1, hl1⟩ : ∃ l1, l1 = (ckS s l rs k1).2 := ⟨_, rfl⟩
          rw [← hS1, ← hl1] at hc1 hc2
          rw [← hS1] at hsl
          have Hc1 := Lib.hid hc1; clear hc1
          have Hc2 := Lib.hid hc2; clear hc2
          have Hsl := Lib.hid hsl; clear hsl
          clear hE hS1 hl1
          go_wp2_with fail
          clear y0 y1 y2 y3 y4 y5
          have sd := below_drew w5
          have hT := HT.out.step sd
          have hA := HA.out.step sd
          have q0 : w5.drew.heap[ws]? = some (.cells #[.int .i64 2, .int .i64 k1, .int .i64 k2, .int .i64 k3, .slice ra rn rc, .slice da dn dc] 41 (0, 0)) := hA.is
          refine wp_region_held (fun w' : World => w'.heap[ws]? = some (.cells #[.int .i64 2, .int .i64 k1, .int .i64 k2, .int .i64 k3, .slice ra rn rc, .slice da dn dc] 41 (0, 0))) [0, 1, 2, 3, 4, 6, 7, 8, 9, 10] [[5], [11, 12]] (by kernel_rfl) (by kernel_rfl) rfl (by kernel_rfl) (fun _ _ _ h => by obtain ⟨_, h, _⟩ := h; cases h) (fun _ _ h => by obtain ⟨h, _⟩ := h; cases h) q0 rfl ?_
          generalize w5.drew = w6 at hT hA q0 ⊢
          clear HT HA sd
          have HT := Lib.hid hT; clear hT
          have HA := Lib.hid hA; clear hA
          have Q0 := Lib.hid q0; clear q0
          apply Exists.intro
          apply And.intro
          · intro w' s
            have y1 := cells_at s 1
            have y4 := cells_at s 4
            clear s
            simp only [List.map_cons, List.map_nil, List.getD_cons_zero, List.getD_cons_succ]
            go_wp2_with fail
            exact pre_end
          simp only [List.map_cons, List.map_nil, List.getD_cons_zero, List.getD_cons_succ]
          refine segs_more ?_
          go_wp2_with fail
          refine (Hc1.out _ HT.out).mono ?_
          rintro e w7 ⟨rfl, u7, m7⟩
          have hT := HT.out.left u7 m7 (fun _ h => h)
          have hA := HA.out.left (A' := fun k => grownF F w6 w7 k ∨ k = lb) m7 grown_or
          generalize grownF F w6 w7 = F1 at hT hA
          clear HT HA Hc1 u7 m7 Q0
          have q0 := hA.is
          have HT := Lib.hid hT; clear hT
          have HA := Lib.hid hA; clear hA
          have Q0 := Lib.hid q0; clear q0
          go_wp2_with fail
          refine seg_end Q0.out (segs_last ?_)
          go_wp2_with fail
          refine (Hc2.out _ _ HT.out).mono ?_
          rintro e w8 ⟨rfl, u8, m8⟩
          have hT := HT.out.right u8 m8 (fun _ h => h)
          have hA := HA.out.right (B' := fun k => grownF G w7 w8 k ∨ k = xb) m8 grown_or
          generalize grownF G w7 w8 = G1 at hT hA
          clear HT HA Hc2 u8 m8 Q0
          have HT := Lib.hid hT; clear hT
          have HA := Lib.hid hA; clear hA
          go_wp2_with fail
          go_meet
          case rel => exact ⟨F1, G1, S1, HT.out.two, Hsl.out.1.trans HN.out.symm, by have := Hsl.out.2; omega, .inr ⟨lb, xb, l1, rfl, rfl, HT.out, HA.out⟩⟩
      have zw2 : (k0 == 2) = false := by simpa using w2
      by_cases w3 : k0 = 3
      · subst w3
        as_aux_lemma =>
          go_wp2_with fail
          clear y0 y1 y2 y3 y4 y5
          have hT2 := HT.out.two
          have hA2 : Asd w5 ws #[.int .i64 3, .int .i64 k1, .int .i64 k2, .int .i64 k3, .slice ra rn rc, .slice da dn dc] F G := HA.out.imp (fun _ h => .inl h) (fun _ h => .inl h)
          clear HT HA
          refine (Crash_dev hT2.dev k2 k3).mono ?_
          rintro e w7 ⟨rfl, u7, m7⟩
          have hT := hT2.left u7 m7 (fun _ h => .inl h)
          have hA := hA2.left m7 (fun _ h => .inl h)
          clear hT2 hA2 u7 m7
          have HT := Lib.hid hT; clear hT
          have y2 := cells_at hA.is 2
          have y3 := cells_at hA.is 3
          have HA := Lib.hid hA; clear hA
          go_wp2_with fail
          clear y2 y3
          refine (RCrash_ref HT.out.ref (by omega) k2 k3).mono ?_
          rintro e w8 ⟨rfl, u8, m8⟩
          have hT := HT.out.right u8 m8 (fun _ h => h)
          have hA := HA.out.right (B' := grownF G w7 w8) m8 (fun k hk => hk.imp id fun h => h.1)
          generalize grownF G w7 w8 = G1 at hT hA
          obtain ⟨S1, hS1⟩ : ∃ S : State, S = (crashed s.1 s.2 k2 k3, []) := ⟨_, rfl⟩
          rw [← hS1] at hT
          have hs1 : S1.1.length = N := by rw [hS1, HN.out]; exact crashed_len _ _ _ _
          have hs3 : S1.2.length = 0 := by rw [hS1]; rfl
          have hs2 : S1.2.length ≤ 310 * (j + 1) := by omega
          clear HT HA u8 m8 hS1
          have HT := Lib.hid hT; clear hT
          have HA := Lib.hid hA; clear hA
          have Hs1 := Lib.hid hs1; clear hs1
          have Hs2 := Lib.hid hs2; clear hs2
          go_wp2_with fail
          refine (Open_calls_log HT.out.dev).mono ?_
          rintro e w9 ⟨p9, v9, K9, rfl, h89, o9⟩
          have H89 := Lib.hid h89; clear h89
          have O9 := Lib.hid o9; clear o9
          go_wp2_with fail
          refine (ROpen_calls (HT.out.ref.step H89.out) HT.out.dev.sects (by omega)).mono ?_
          rintro e wa ⟨pa, va, Ka, rfl, h9a, oa⟩
          have hTa := (HT.out.step H89.out).step h9a
          have hAa := (HA.out.step H89.out).step h9a
          have H9a := Lib.hid h9a; clear h9a
          have HTa := Lib.hid hTa; clear hTa
          have HAa := Lib.hid hAa; clear hAa
          rcases O9.out with ⟨n9, rfl, rfl, rfl⟩ | ⟨l9, rs9, n9, rfl, rfl, L9, R9⟩
          · rcases oa with ⟨na, rfl, rfl, rfl⟩ | ⟨la, rsa, na, rfl, rfl, La, Ra⟩
            · have N9 := Lib.hid n9; clear n9 na O9 HT HA H89 H9a
              go_wp2_with fail
              refine (SameRecs_gen (w := wa) (xs := []) (ys := []) ⟨rfl, Nat.le_refl _, by decide, fun h => absurd h (Nat.lt_irrefl 0)⟩ ⟨rfl, Nat.le_refl _, by decide, fun h => absurd h (Nat.lt_irrefl 0)⟩).mono ?_
              rintro e wb ⟨rfl, nb, rfl⟩
              have hT := HTa.out.step (below_drawn wa nb)
              have hA := HAa.out.step (below_drawn wa nb)
              generalize wa.drewN nb = wb at hT hA ⊢
              have HT := Lib.hid hT; clear hT HTa
              have HA := Lib.hid hA; clear hA HAa
              simp only [decide_true]
              go_wp2_with fail
              go_meet
              case rel => exact ⟨F, G1, S1, HT.out, Hs1.out, Hs2.out, .inl ⟨rfl, rfl, HA.out⟩⟩
            · rw [n9] at na; cases na
          · rcases oa with ⟨na, rfl, rfl, rfl⟩ | ⟨la, rsa, na, rfl, rfl, La, Ra⟩
            · rw [n9] at na; cases na
            · rw [n9] at na
              cases na
              have hlg := logs_open (l := ⟨l9.1, l9.2.1, l9.2.2⟩) HT.out H89.out L9 H9a.out La n9
              have hAb : Asd wa ws #[.int .i64 3, .int .i64 k1, .int .i64 k2, .int .i64 k3, .slice ra rn rc, .slice da dn dc] (fun k => F k ∨ k = w8.heap.size) (fun k => G1 k ∨ k = w9.heap.size) := by
                have h1 := (HA.out.new (A' := fun k => F k ∨ k = w8.heap.size) (B' := fun k => G1 k ∨ k = w9.heap.size) (fun k hk => hk.imp id fun e => by omega) (fun k hk => hk.imp id fun e => by have := H89.out.size; omega))
                exact (h1.step H89.out).step H9a.out
              obtain ⟨a9, c9, rfl, x9, -⟩ := (R9.below H9a.out).recs
              obtain ⟨aa, ca, rfl, xa, -⟩ := Ra.recs
              have hsr := SameRecs_gen x9 xa
              simp only [decide_true] at hsr
              have Hsr := Lib.hid hsr; clear hsr
              have HL := Lib.hid hlg; clear hlg
              have HAb := Lib.hid hAb; clear hAb
              clear n9 O9 HT HA H89 H9a L9 R9 La Ra x9 xa HTa HAa
              generalize rs9.length = RL at Hsr ⊢
              generalize w8.heap.size = lb1 at HL HAb ⊢
              generalize w9.heap.size = xb1 at HL HAb ⊢
              go_wp2_with fail
              refine Hsr.out.mono ?_
              rintro e wb ⟨rfl, nb, rfl⟩
              have hT := HL.out.step (below_drawn wa nb)
              have hA := HAb.out.step (below_drawn wa nb)
              clear Hsr
              generalize wa.drewN nb = wb at hT hA ⊢
              have HT := Lib.hid hT; clear hT HL
              have HA := Lib.hid hA; clear hA HAb
              go_wp2_with fail
              go_meet
              case rel => exact ⟨F, G1, S1, HT.out.two, Hs1.out, Hs2.out, .inr ⟨lb1, xb1, _, rfl, rfl, HT.out, HA.out⟩⟩
      have zw3 : (k0 == 3) = false := by simpa using w3
      by_cases w4 : k0 = 4
      · subst w4
        as_aux_lemma =>
          have hdat := fun w1 (hB : Below w.heap.size w w1) => (hok.data).keep hB
          have Hdat := Lib.hid hdat; clear hdat
          go_wp2_with fail
          clear y0 y1 y2 y3 y4 y5
          refine (Write_dev HT.out.wl.dev k2 (Hdat.out _ HT.out.wl.dev.bel) (by omega)).mono ?_
          rintro e w7 ⟨rfl, u7, m7⟩
          have hm : Mod (fun k => F k ∨ k = lb) w5 w7 := m7.mono fun x hx => .inl hx
          have hT := HT.out.left (HT.out.wl.dev_write u7 m7) hm (fun _ h => h)
          have hA := HA.out.left (A' := fun k => grownF F w5 w7 k ∨ k = lb) hm grown_or
          generalize grownF F w5 w7 = F1 at hT hA
          clear HT HA u7 m7 hm
          have HT := Lib.hid hT; clear hT
          have y0 := cells_at hA.is 0
          have y1 := cells_at hA.is 1
          have y2 := cells_at hA.is 2
          have y5 := cells_at hA.is 5
          have HA := Lib.hid hA; clear hA
          go_wp2_with fail
          clear y0 y1 y2 y5
          refine (RWrite_ref HT.out.rl.ref k2 (Hdat.out _ HT.out.wl.dev.bel) (by omega)).mono ?_
          rintro e w8 ⟨rfl, u8, m8⟩
          have hm : Mod (fun k => G k ∨ k = xb) w7 w8 := m8.mono fun x hx => .inl hx
          have hT := HT.out.right (HT.out.rl.ref_write u8 m8 HT.out.rl.pos) hm (fun _ h => h)
          have hA := HA.out.right (B' := fun k => grownF G w7 w8 k ∨ k = xb) hm grown_or
          generalize grownF G w7 w8 = G1 at hT hA
          have hs2 : (written s.1 s.2 k2 ds).length ≤ 310 * (j + 1) := by have := written_len s.1 s.2 k2 ds; omega
          clear HT HA u8 m8 hm
          have HT := Lib.hid hT; clear hT
          have HA := Lib.hid hA; clear hA
          have Hs2 := Lib.hid hs2; clear hs2
          go_wp2_with fail
          go_meet
          case rel => exact ⟨F1, G1, _, HT.out.two, HN.out.symm, Hs2.out, .inr ⟨lb, xb, l, rfl, rfl, HT.out, HA.out⟩⟩
      have zw4 : (k0 == 4) = false := by simpa using w4
      go_wp2_with fail
      go_meet
      case rel => exact ⟨F, G, s, HT.out.two, HN.out.symm, by omega, .inr ⟨lb, xb, l, rfl, rfl, HT.out, HA.out⟩⟩
    case rest =>
      obtain ⟨F1, G1, s1, hT2, hn1, hs1len, hq⟩ := hcut
      have Hn1 := Lib.hid hn1; clear hn1
      have Hs1len' := Lib.hid hs1len; clear hs1len
      have Hs1len := Hs1len'.out
      have hrow := Hrow.out
      clear y0 y1 y2 y3 y4 y5 HT HA Hok2 Hrow
      obtain ⟨wq, hwq⟩ : ∃ x : World, x = wc := ⟨_, rfl⟩
      obtain rfl := hwq
      rcases hq with ⟨rfl, rfl, hA2⟩ | ⟨lb1, xb1, l1, rfl, rfl, hL2, hA2⟩
      · as_aux_lemma =>
          have HT := Lib.hid hT2; clear hT2
          have HA := Lib.hid hA2.is; clear hA2
          go_wp2_with fail
          refine wp_region_quiet_below (by kernel_rfl) (by kernel_rfl) ?_
          repeat (go_big_quiet_step (fail))
          refine wpQuiet_nil ?_
          intro w9 hw9
          have b9 : Below wq.heap.size wq w9 := by obtain ⟨q, rfl⟩ := hw9; exact below_regrown _ _ _
          have hT := HT.out.step b9
          have hA := (b9.block _ (Array.getElem?_eq_some_iff.1 HA.out).1).trans HA.out
          clear hw9 HT HA b9
          obtain ⟨wq, rfl⟩ : ∃ x, x = w9 := ⟨_, rfl⟩
          have HT := Lib.hid hT; clear hT
          have HA := Lib.hid hA; clear hA
          go_wp2_with fail

          obtain ⟨ca, cc, hcell, hbr⟩ := HT.out.ref.cacheCell
          have hs1 := fun w1 (hB : Below w.heap.size w w1) => Sectors_log (hrow w1 hB).recs (hrow w1 hB).ok (by omega)
          have hs2 := fun w1 (hB : Below w.heap.size w w1) => RSectors_log (hrow w1 hB).recs (hrow w1 hB).ok (by omega)
          obtain ⟨SE, hSE⟩ : ∃ E, E = sectorsS rs := ⟨_, rfl⟩
          rw [← hSE] at hs1 hs2
          have hSS : (SE != SE) = false := by simp
          clear hSE
          have Hs1 := Lib.hid hs1; clear hs1
          have Hs2 := Lib.hid hs2; clear hs2
          obtain ⟨CL, hCL⟩ : ∃ n, n = s1.2.length := ⟨_, rfl⟩
          rw [← hCL] at hcell
          have hCC : ((CL : Int) != (CL : Int)) = false := by simp
          have HCL := Lib.hid hCL; clear hCL
          have Hcell := Lib.hid hcell; clear hcell hbr
          go_wp2_with fail
          have s0 := below_drew wq
          refine wp_region_phases (fun w' : World => Below wq.heap.size wq w') 246 [([0, 2], [[1], [3], [4], [5, 6]]), ([7, 9, 10, 11, 12, 13], [[8], [14], [15, 16]]), ([17, 18, 20, 21], [[19], [22], [23], [24]])] (by kernel_rfl) (by kernel_rfl) rfl (by kernel_rfl) (fun _ _ _ h => by obtain ⟨_, h, _⟩ := h; cases h) s0 ?_
          generalize wq.drew = wA at s0 ⊢
          have Hs0 := Lib.hid s0; clear s0
          refine ph_more rfl ?_
          apply Exists.intro
          apply And.intro
          · intro w' s
            clear s
            simp only [List.map_cons, List.map_nil, List.getD_cons_zero, List.getD_cons_succ]
            go_wp2_with fail
            exact pre_end
          simp only [List.map_cons, List.map_nil, List.getD_cons_zero, List.getD_cons_succ]
          refine segsK_more ?_
          go_wp2_with fail
          refine (Image_dev (HT.out.step Hs0.out).dev).mono ?_
          rintro e wB ⟨v1, rfl, ow1, bB, -⟩
          obtain ⟨a1, n1, c1, rfl, i1', -⟩ := ow1.read
          have sN := Hs0.out.trans ((bB).mono Hs0.out.size)
          clear Hs0
          have Hs0 := Lib.hid sN; clear sN
          clear ow1 bB
          have Hi1 := Lib.hid i1'; clear i1'
          go_wp2_with fail
          refine seg_end Hs0.out (segsK_more ?_)
          go_wp2_with fail
          refine (RImage_ref (HT.out.step Hs0.out).ref).mono ?_
          rintro e wC ⟨v2, rfl, ow2, bC, -⟩
          obtain ⟨a2, n2, c2, rfl, i2', -⟩ := ow2.read
          have hsb := SameBytes_yes (Hi1.out.keep bC) i2' rfl
          have sN := Hs0.out.trans ((bC).mono Hs0.out.size)
          clear Hs0
          have Hs0 := Lib.hid sN; clear sN
          clear ow2 bC Hi1 i2'
          have Hsb := Lib.hid hsb; clear hsb
          go_wp2_with fail
          refine seg_end Hs0.out (segsK_more ?_)
          go_wp2_with fail
          refine Hsb.out.mono ?_
          rintro e wD ⟨rfl, nd, rfl⟩
          have sN := Hs0.out.trans ((below_drawn wC nd).mono Hs0.out.size)
          clear Hs0
          have Hs0 := Lib.hid sN; clear sN
          clear Hsb
          generalize wC.drewN nd = wD at Hs0 ⊢
          go_wp2_with fail
          refine seg_end Hs0.out (segsK_more ?_)
          go_wp2_with fail
          refine seg_end Hs0.out (segsK_end (ph_more rfl ?_))
          apply Exists.intro
          apply And.intro
          · intro w' s
            have y1 := (s.cell (World.block_lt_of_cell? _ _ Hcell.out)).trans Hcell.out
            clear s
            simp only [List.map_cons, List.map_nil, List.getD_cons_zero, List.getD_cons_succ]
            go_wp2_with fail
            exact pre_end
          simp only [List.map_cons, List.map_nil, List.getD_cons_zero, List.getD_cons_succ]
          refine segsK_more ?_
          go_wp2_with fail
          refine (Loose_dev (HT.out.step Hs0.out).dev).mono ?_
          rintro e wE ⟨rfl, hwE⟩
          obtain rfl := hwE
          rw [← HCL.out]
          go_wp2_with fail
          refine seg_end Hs0.out (segsK_more ?_)
          go_wp2_with fail
          refine seg_end Hs0.out (segsK_more ?_)
          go_wp2_with fail
          refine seg_end Hs0.out (segsK_end (ph_more rfl ?_))
          apply Exists.intro
          apply And.intro
          · intro w' s
            have y4 := cells_at ((s.block _ (Array.getElem?_eq_some_iff.1 HA.out).1).trans HA.out) 4
            clear s
            simp only [List.map_cons, List.map_nil, List.getD_cons_zero, List.getD_cons_succ]
            go_wp2_with fail
            exact pre_end
          simp only [List.map_cons, List.map_nil, List.getD_cons_zero, List.getD_cons_succ]
          refine segsK_more ?_
          go_wp2_with fail
          refine (Hs1.out _ (HT.out.step Hs0.out).dev.bel).mono ?_
          rintro e wF ⟨rfl, bF⟩
          have sN := Hs0.out.trans ((bF).mono Hs0.out.size)
          clear Hs0
          have Hs0 := Lib.hid sN; clear sN
          clear bF
          go_wp2_with fail
          refine seg_end Hs0.out (segsK_more ?_)
          go_wp2_with fail
          refine (Hs2.out _ (HT.out.step Hs0.out).dev.bel).mono ?_
          rintro e wG ⟨rfl, bG⟩
          have sN := Hs0.out.trans ((bG).mono Hs0.out.size)
          clear Hs0
          have Hs0 := Lib.hid sN; clear sN
          clear bG
          go_wp2_with fail
          refine seg_end Hs0.out (segsK_more ?_)
          go_wp2_with fail
          refine seg_end Hs0.out (segsK_more ?_)
          go_wp2_with fail
          refine seg_end Hs0.out (segsK_end (ph_end ?_))
          have hTf := HT.out.step Hs0.out

          clear HT HA Hs0 Hcell Hs1 Hs2 HCL
          have HTf := Lib.hid hTf; clear hTf

          go_wp2_with fail
          go_roundw
          case rel => exact ⟨j + 1, F1, G1, s1, by omega, by go_num, HTf.out, Hn1.out, Hs1len, .inl ⟨rfl, rfl⟩⟩
          case measure => simp [intOf]; omega
      · as_aux_lemma =>
          have HT := Lib.hid hL2.two; clear hT2
          have HA := Lib.hid hA2.is; clear hA2
          obtain ⟨FR, hFR⟩ : ∃ v : Int, v = (s1.1.length : Int) - (l1.next : Int) + (l1.sure : Int) := ⟨_, rfl⟩
          have hf0 : ∀ d os, Calls Tryz.prog 21 #[.pointer (some ⟨lb1, 0, none⟩)] (grow (redrawn wq d) os) fun e w' => e = .returned (.int .i64 FR) ∧ Below (grow (redrawn wq d) os).heap.size (grow (redrawn wq d) os) w' := fun d os => Free_wl (hL2.step (below_regrown wq d os)).wl hFR.symm
          have hf1 : ∀ d os, Calls Tryz.prog 22 #[.pointer (some ⟨xb1, 0, none⟩)] (grow (redrawn wq d) os) fun e w' => e = .returned (.int .i64 FR) ∧ Below (grow (redrawn wq d) os).heap.size (grow (redrawn wq d) os) w' := fun d os => by rw [hFR]; exact RFree_calls (hL2.step (below_regrown wq d os)).rl
          have hf2 : ∀ d os, Calls Tryz.prog 23 #[.pointer (some ⟨lb1, 0, none⟩)] (grow (redrawn wq d) os) fun e w' => e = .returned (.int .i64 (l1.next : Nat)) ∧ Below (grow (redrawn wq d) os).heap.size (grow (redrawn wq d) os) w' := fun d os => (Next_calls (hL2.step (below_regrown wq d os)).wl.log).mono fun e w' ⟨h1, h2⟩ => ⟨h1, by subst h2; exact Below.refl _ _⟩
          have hf3 : ∀ d os, Calls Tryz.prog 24 #[.pointer (some ⟨lb1, 0, none⟩)] (grow (redrawn wq d) os) fun e w' => e = .returned (.int .i64 (l1.first : Nat)) ∧ Below (grow (redrawn wq d) os).heap.size (grow (redrawn wq d) os) w' := fun d os => (First_calls (hL2.step (below_regrown wq d os)).wl.log).mono fun e w' ⟨h1, h2⟩ => ⟨h1, by subst h2; exact Below.refl _ _⟩
          have hxl := hL2.rl.log
          unfold RLogAt Lg.cells at hxl
          have z1 := cell_regrown (cells_at hxl 1)
          have z2 := cell_regrown (cells_at hxl 2)
          have e1 : (FR != FR) = false := by simp
          have e2 : ((l1.next : Int) != (l1.next : Int)) = false := by simp
          have e3 : ((l1.first : Int) != (l1.first : Int)) = false := by simp
          clear hFR hxl
          have Hf0 := Lib.hid hf0; clear hf0
          have Hf1 := Lib.hid hf1; clear hf1
          have Hf2 := Lib.hid hf2; clear hf2
          have Hf3 := Lib.hid hf3; clear hf3
          have HL := Lib.hid hL2; clear hL2
          go_wp2_with fail
          refine wp_region_quiet_below (by kernel_rfl) (by kernel_rfl) ?_
          repeat (any_goals (first | go_big_quiet_step ((first | (go_at_call 21; exact Calls.regrown_of (Hf0.out _ _)) | (go_at_call 22; exact Calls.regrown_of (Hf1.out _ _)) | (go_at_call 23; exact Calls.regrown_of (Hf2.out _ _)) | (go_at_call 24; exact Calls.regrown_of (Hf3.out _ _)))) | quiet_step ((first | (go_at_call 21; exact Calls.regrown_of (Hf0.out _ _)) | (go_at_call 22; exact Calls.regrown_of (Hf1.out _ _)) | (go_at_call 23; exact Calls.regrown_of (Hf2.out _ _)) | (go_at_call 24; exact Calls.regrown_of (Hf3.out _ _))))))
          refine wpQuiet_nil ?_
          intro w9 hw9
          have b9 : Below wq.heap.size wq w9 := by obtain ⟨q, rfl⟩ := hw9; exact below_regrown _ _ _
          have hT := HT.out.step b9
          have hA := (b9.block _ (Array.getElem?_eq_some_iff.1 HA.out).1).trans HA.out
          have hL := HL.out.step b9
          clear hw9 z1 z2 HT HA HL Hf0 Hf1 Hf2 Hf3 b9 e1 e2 e3
          obtain ⟨wq, rfl⟩ : ∃ x, x = w9 := ⟨_, rfl⟩
          have HT := Lib.hid hT; clear hT
          have HA := Lib.hid hA; clear hA
          have HL := Lib.hid hL; clear hL
          go_wp2_with fail

          obtain ⟨ca, cc, hcell, hbr⟩ := HT.out.ref.cacheCell
          have hs1 := fun w1 (hB : Below w.heap.size w w1) => Sectors_log (hrow w1 hB).recs (hrow w1 hB).ok (by omega)
          have hs2 := fun w1 (hB : Below w.heap.size w w1) => RSectors_log (hrow w1 hB).recs (hrow w1 hB).ok (by omega)
          obtain ⟨SE, hSE⟩ : ∃ E, E = sectorsS rs := ⟨_, rfl⟩
          rw [← hSE] at hs1 hs2
          have hSS : (SE != SE) = false := by simp
          clear hSE
          have Hs1 := Lib.hid hs1; clear hs1
          have Hs2 := Lib.hid hs2; clear hs2
          obtain ⟨CL, hCL⟩ : ∃ n, n = s1.2.length := ⟨_, rfl⟩
          rw [← hCL] at hcell
          have hCC : ((CL : Int) != (CL : Int)) = false := by simp
          have HCL := Lib.hid hCL; clear hCL
          have Hcell := Lib.hid hcell; clear hcell hbr
          go_wp2_with fail
          have s0 := below_drew wq
          refine wp_region_phases (fun w' : World => Below wq.heap.size wq w') 246 [([0, 2], [[1], [3], [4], [5, 6]]), ([7, 9, 10, 11, 12, 13], [[8], [14], [15, 16]]), ([17, 18, 20, 21], [[19], [22], [23], [24]])] (by kernel_rfl) (by kernel_rfl) rfl (by kernel_rfl) (fun _ _ _ h => by obtain ⟨_, h, _⟩ := h; cases h) s0 ?_
          generalize wq.drew = wA at s0 ⊢
          have Hs0 := Lib.hid s0; clear s0
          refine ph_more rfl ?_
          apply Exists.intro
          apply And.intro
          · intro w' s
            clear s
            simp only [List.map_cons, List.map_nil, List.getD_cons_zero, List.getD_cons_succ]
            go_wp2_with fail
            exact pre_end
          simp only [List.map_cons, List.map_nil, List.getD_cons_zero, List.getD_cons_succ]
          refine segsK_more ?_
          go_wp2_with fail
          refine (Image_dev (HT.out.step Hs0.out).dev).mono ?_
          rintro e wB ⟨v1, rfl, ow1, bB, -⟩
          obtain ⟨a1, n1, c1, rfl, i1', -⟩ := ow1.read
          have sN := Hs0.out.trans ((bB).mono Hs0.out.size)
          clear Hs0
          have Hs0 := Lib.hid sN; clear sN
          clear ow1 bB
          have Hi1 := Lib.hid i1'; clear i1'
          go_wp2_with fail
          refine seg_end Hs0.out (segsK_more ?_)
          go_wp2_with fail
          refine (RImage_ref (HT.out.step Hs0.out).ref).mono ?_
          rintro e wC ⟨v2, rfl, ow2, bC, -⟩
          obtain ⟨a2, n2, c2, rfl, i2', -⟩ := ow2.read
          have hsb := SameBytes_yes (Hi1.out.keep bC) i2' rfl
          have sN := Hs0.out.trans ((bC).mono Hs0.out.size)
          clear Hs0
          have Hs0 := Lib.hid sN; clear sN
          clear ow2 bC Hi1 i2'
          have Hsb := Lib.hid hsb; clear hsb
          go_wp2_with fail
          refine seg_end Hs0.out (segsK_more ?_)
          go_wp2_with fail
          refine Hsb.out.mono ?_
          rintro e wD ⟨rfl, nd, rfl⟩
          have sN := Hs0.out.trans ((below_drawn wC nd).mono Hs0.out.size)
          clear Hs0
          have Hs0 := Lib.hid sN; clear sN
          clear Hsb
          generalize wC.drewN nd = wD at Hs0 ⊢
          go_wp2_with fail
          refine seg_end Hs0.out (segsK_more ?_)
          go_wp2_with fail
          refine seg_end Hs0.out (segsK_end (ph_more rfl ?_))
          apply Exists.intro
          apply And.intro
          · intro w' s
            have y1 := (s.cell (World.block_lt_of_cell? _ _ Hcell.out)).trans Hcell.out
            clear s
            simp only [List.map_cons, List.map_nil, List.getD_cons_zero, List.getD_cons_succ]
            go_wp2_with fail
            exact pre_end
          simp only [List.map_cons, List.map_nil, List.getD_cons_zero, List.getD_cons_succ]
          refine segsK_more ?_
          go_wp2_with fail
          refine (Loose_dev (HT.out.step Hs0.out).dev).mono ?_
          rintro e wE ⟨rfl, hwE⟩
          obtain rfl := hwE
          rw [← HCL.out]
          go_wp2_with fail
          refine seg_end Hs0.out (segsK_more ?_)
          go_wp2_with fail
          refine seg_end Hs0.out (segsK_more ?_)
          go_wp2_with fail
          refine seg_end Hs0.out (segsK_end (ph_more rfl ?_))
          apply Exists.intro
          apply And.intro
          · intro w' s
            have y4 := cells_at ((s.block _ (Array.getElem?_eq_some_iff.1 HA.out).1).trans HA.out) 4
            clear s
            simp only [List.map_cons, List.map_nil, List.getD_cons_zero, List.getD_cons_succ]
            go_wp2_with fail
            exact pre_end
          simp only [List.map_cons, List.map_nil, List.getD_cons_zero, List.getD_cons_succ]
          refine segsK_more ?_
          go_wp2_with fail
          refine (Hs1.out _ (HT.out.step Hs0.out).dev.bel).mono ?_
          rintro e wF ⟨rfl, bF⟩
          have sN := Hs0.out.trans ((bF).mono Hs0.out.size)
          clear Hs0
          have Hs0 := Lib.hid sN; clear sN
          clear bF
          go_wp2_with fail
          refine seg_end Hs0.out (segsK_more ?_)
          go_wp2_with fail
          refine (Hs2.out _ (HT.out.step Hs0.out).dev.bel).mono ?_
          rintro e wG ⟨rfl, bG⟩
          have sN := Hs0.out.trans ((bG).mono Hs0.out.size)
          clear Hs0
          have Hs0 := Lib.hid sN; clear sN
          clear bG
          go_wp2_with fail
          refine seg_end Hs0.out (segsK_more ?_)
          go_wp2_with fail
          refine seg_end Hs0.out (segsK_more ?_)
          go_wp2_with fail
          refine seg_end Hs0.out (segsK_end (ph_end ?_))
          have hTf := HT.out.step Hs0.out
          have hLf := HL.out.step Hs0.out
          clear HT HA Hs0 Hcell Hs1 Hs2 HCL
          have HTf := Lib.hid hTf; clear hTf
          have HLf := Lib.hid hLf; clear hLf HL
          go_wp2_with fail
          go_roundw
          case rel => exact ⟨j + 1, F1, G1, s1, by omega, by go_num, HTf.out, Hn1.out, Hs1len, .inr ⟨lb1, xb1, l1, rfl, rfl, HLf.out⟩⟩
          case measure => simp [intOf]; omega
end Go.Proofs.YtgpedejeifmfdaaGreat
