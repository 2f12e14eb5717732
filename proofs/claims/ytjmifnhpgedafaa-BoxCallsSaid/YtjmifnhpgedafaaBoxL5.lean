/- The law BoxCalls. -/
import Derived.Test.YtjmifnhpgedafaaBoxG
import Derived.Test.YtjmifnhpgedafaaHeldB
namespace Go.Proofs.Ytjmifnhpgedafaa
open Go.RowKit

set_option maxHeartbeats 8000000 in
set_option maxRecDepth 100000 in
theorem lawBoxCalls {w : World} {l : Label} {r : Int} {a : Option Addr} {n c : Nat} {xs : List CallB}
    (hl : l.ok) (hr : (Lit.int .i64 r).wf = true) (hx : CRow w a n c xs) :
    Calls Try.prog 7 #[.agg l.cells.toArray, .int .i64 r, .slice a n c] w fun e w' => e = .returned (.bool true) ∧ Below w.heap.size w w' := by
  obtain ⟨l', hl'⟩ : ∃ l', l' = l := ⟨_, rfl⟩
  have hle := hx.le
  have hmx := hx.max
  have Hl := Lib.hid (show l'.ok from hl' ▸ hl)
  obtain ⟨l1, l2⟩ := l
  have hlc : l'.cells = [.int .u64 l1, .int .u64 l2] := by rw [hl']; rfl
  have hl1 : l'.1 = l1 := by rw [hl']
  have hl2 : l'.2 = l2 := by rw [hl']
  have Hl1 := Lib.hid hl1; clear hl1
  have Hl2 := Lib.hid hl2; clear hl2
  have Hlc := Lib.hid hlc; clear hlc hl hl'
  have Hx := Lib.hid hx; clear hx
  simp only [Label.cells]
  go_enter Try.func7, Try.ntmps7
  go_wp2_with fail
  have hxa := heap_alloc_new w (.cells #[.int .u64 l1, .int .u64 l2] 24)
  have ba : Below w.heap.size w (w.alloc (.cells #[.int .u64 l1, .int .u64 l2] 24)) := (Below.refl _ _).alloc (Nat.le_refl _) _
  have sa : (w.alloc (.cells #[.int .u64 l1, .int .u64 l2] 24)).heap.size = w.heap.size + 1 := by simp
  generalize w.alloc (.cells #[.int .u64 l1, .int .u64 l2] 24) = wc at hxa ba sa ⊢
  have hk : ∀ w', Below wc.heap.size wc w' → w'.cell? ⟨w.heap.size, 0, none⟩ = some (.int .u64 l1) ∧ w'.cell? ⟨w.heap.size, 1, none⟩ = some (.int .u64 l2) := fun w' hb => by
    have xa := (hb.block w.heap.size (by omega)).trans hxa
    exact ⟨cells_at xa 0, cells_at xa 1⟩
  have hfin : ∀ w', Below wc.heap.size wc w' → Below w.heap.size w w' := fun w' hb => ba.trans (hb.mono (by omega))
  have Hk := Lib.hid hk; clear hk
  have Hfin := Lib.hid hfin; clear hfin
  clear hxa ba sa
  refine alive_calls.mono ?_
  rintro e w1 ⟨rfl, b1⟩
  by_cases h0 : 150 < n
  · have e0 : decide ((150 : Int) < (n : Int)) = true := decide_eq_true (by omega)
    have Hb := Lib.hid (Hfin.out _ b1); clear b1
    go_wp2
    go_ret
    exact ⟨rfl, Hb.out⟩
  have e0 : decide ((150 : Int) < (n : Int)) = false := decide_eq_false (by omega)
  obtain ⟨k0, k1⟩ := Hk.out _ b1
  by_cases h1 : ¬ (1 ≤ r ∧ r ≤ 8)
  · have hn1 := fun w : World => New_bad (w := w) l' h1
    have hn2 := fun w : World => RNew_bad (w := w) l' h1
    simp only [Hlc.out] at hn1 hn2
    have Hn1 := Lib.hid hn1; clear hn1
    have Hn2 := Lib.hid hn2; clear hn2
    have Hb1 := Lib.hid b1; clear b1
    go_wp2_with fail
    refine (Hn1.out _).mono ?_
    rintro e w2 ⟨rfl, b2⟩
    have b12 := Hb1.out.trans (b2.mono Hb1.out.size)
    clear k0 k1 b2 Hb1 Hn1
    obtain ⟨k0, k1⟩ := Hk.out _ b12
    have Hb2 := Lib.hid b12; clear b12
    go_wp2_with fail
    refine (Hn2.out _).mono ?_
    rintro e w3 ⟨rfl, b3⟩
    have b13 := Hfin.out _ (Hb2.out.trans (b3.mono Hb2.out.size))
    have Hb3 := Lib.hid b13; clear b13 b3 k0 k1 Hb2 Hn2
    go_wp2_with fail
    go_loopw [11] (fun i wr => i = .int .i64 0 ∧ wr = w3) (fun _ _ => 0)
    case atStart => exact ⟨rfl, rfl⟩
    case round =>
      obtain ⟨rfl, rfl⟩ := hrel
      go_wp2_with fail
      all_goals go_ret
      all_goals exact ⟨rfl, Hb3.out⟩
  have h1 := Decidable.not_not.1 h1
  obtain ⟨R, rfl⟩ : ∃ R : Nat, r = R := ⟨r.toNat, by omega⟩
  have hR1 : 1 ≤ R := by omega
  have hR8 : R ≤ 8 := by omega
  clear h0 h1 hr
  have Hb1 := Lib.hid b1; clear b1
  have hn1 := New_bx Hb1.out l' hR1 hR8
  rw [Hlc.out] at hn1
  go_wp2_with fail
  refine hn1.mono ?_
  rintro e w2 ⟨bx, Fx, rfl, dx, -, -⟩
  clear hn1 Hb1 k0 k1 e0
  have hn2 := New_rx dx.bel l' hR1 hR8
  obtain ⟨k0, k1⟩ := Hk.out _ dx.bel
  rw [Hlc.out] at hn2
  go_wp2_with fail
  refine hn2.mono ?_
  rintro e w3 ⟨by_, Fy, rfl, dy, hfy, b3⟩
  have t3 : Pair wc w3 bx Fx by_ Fy l' R [] [] := ⟨dx.step b3, dy, fun k h1 h2 => by have := (dx.low k h1).2; have := hfy k h2; omega⟩
  clear hn2 k0 k1 dx dy hfy b3
  have Ht := Lib.hid t3; clear t3
  go_wp2_with fail
  go_loopw [11] (fun i wr => ∃ (j : Nat) (F1 F2 : Nat → Prop) (ms : List Msg), j ≤ n ∧ i = .int .i64 j ∧ Pair wc wr bx F1 by_ F2 l' R ms ms) (fun i _ => n - (intOf i).toNat)
  case atStart => exact ⟨0, Fx, Fy, [], by omega, rfl, Ht.out⟩
  case round =>
    clear Ht
    obtain ⟨j, F1, F2, ms, hj, rfl, ht⟩ := hrel
    have hxr := Hx.out.keep (Hfin.out _ ht.x.bel)
    have Ht := Lib.hid ht; clear ht
    by_cases hlt : j < n
    · obtain ⟨ax, ox, rfl⟩ := hxr.addr (by omega)
      have hjx : j < xs.length := by rw [Hx.out.len]; exact hlt
      have hst := fun (w3 : World) (h3 : CRow w3 (some ⟨ax, ox, none⟩) n c xs) => h3.at hjx
      have hmem : xs[j] ∈ xs := List.getElem_mem _
      obtain ⟨m, hm⟩ : ∃ m, m = xs[j] := ⟨_, rfl⟩
      rw [← hm] at hst hmem
      clear hm
      obtain ⟨mw, ma, mo, mu, mg⟩ := m
      have hmo : mo.cells = [.int .u64 mo.1, .int .u64 mo.2] := rfl
      have hmg : mg.cells = [.int .i64 mg.1, .int .i64 mg.2.1, .int .i64 mg.2.2.1, .int .i64 mg.2.2.2] := rfl
      simp only [CallB.cells] at hst
      have hcx := hst _ hxr
      have hok := Hx.out.ok
      clear hxr
      have i1 : (0 : Int) ≤ (j : Int) := by omega
      have i2 : (j : Int) < (n : Int) := by omega
      have Hst := Lib.hid hst; clear hst
      have x0 := hcx 0 _ rfl
      have x1 := hcx 1 _ rfl
      have x2 := hcx 2 _ rfl
      have x3 := hcx 3 _ rfl
      have x4 := hcx 4 _ rfl
      have x5 := hcx 5 _ rfl
      have x6 := hcx 6 _ rfl
      have x7 := hcx 7 _ rfl
      have x8 := hcx 8 _ rfl
      simp only [Nat.add_zero] at x0
      have hmok := hok _ hmem
      have Hmok := Lib.hid hmok; clear hcx hok hmem Hst hmok
      go_wp2_with (with_reducible refine stop_load 3 ?_)
      refine unpark ?_
      have b1 : Below wr.heap.size wr (wr.alloc (.cells #[.int .i64 mw, .int .i64 ma, .int .u64 mo.1, .int .u64 mo.2, .int .u64 mu, .int .i64 mg.1, .int .i64 mg.2.1, .int .i64 mg.2.2.1, .int .i64 mg.2.2.2] 36)) := (Below.refl _ _).alloc (Nat.le_refl _) _
      have o1 := heap_alloc_new wr (.cells #[.int .i64 mw, .int .i64 ma, .int .u64 mo.1, .int .u64 mo.2, .int .u64 mu, .int .i64 mg.1, .int .i64 mg.2.1, .int .i64 mg.2.2.1, .int .i64 mg.2.2.2] 36)
      have L1 : Lies (wr.alloc (.cells #[.int .i64 mw, .int .i64 ma, .int .u64 mo.1, .int .u64 mo.2, .int .u64 mu, .int .i64 mg.1, .int .i64 mg.2.1, .int .i64 mg.2.2.1, .int .i64 mg.2.2.2] 36)) [(wr.heap.size, .cells #[.int .i64 mw, .int .i64 ma, .int .u64 mo.1, .int .u64 mo.2, .int .u64 mu, .int .i64 mg.1, .int .i64 mg.2.1, .int .i64 mg.2.2.1, .int .i64 mg.2.2.2] 36 (0, 0))] F1 F2 := Lies.addP (L := []) (fun p hp => by cases hp) Ht.out b1 o1
      have t1 := Ht.out.step b1
      generalize wr.alloc (.cells #[.int .i64 mw, .int .i64 ma, .int .u64 mo.1, .int .u64 mo.2, .int .u64 mu, .int .i64 mg.1, .int .i64 mg.2.1, .int .i64 mg.2.2.1, .int .i64 mg.2.2.2] 36) = wa at t1 L1 ⊢
      generalize wr.heap.size = g at L1 ⊢
      clear b1 o1 Ht x0 x1 x2 x3 x4 x5 x6 x7 x8
      have Ht := Lib.hid t1; clear t1
      have HL := Lib.hid L1; clear L1
      have z := (HL.out (g, .cells #[.int .i64 mw, .int .i64 ma, .int .u64 mo.1, .int .u64 mo.2, .int .u64 mu, .int .i64 mg.1, .int .i64 mg.2.1, .int .i64 mg.2.2.1, .int .i64 mg.2.2.2] 36 (0, 0)) (by simp)).1
      have x0 := cells_at z 0
      clear z
      by_cases h0 : mw = 0
      · subst h0
        have z := (HL.out (g, .cells #[.int .i64 0, .int .i64 ma, .int .u64 mo.1, .int .u64 mo.2, .int .u64 mu, .int .i64 mg.1, .int .i64 mg.2.1, .int .i64 mg.2.2.1, .int .i64 mg.2.2.2] 36 (0, 0)) (by simp)).1
        have x2 := cells_at z 2
        have x3 := cells_at z 3
        have x4 := cells_at z 4
        have x5 := cells_at z 5
        have x6 := cells_at z 6
        have x7 := cells_at z 7
        have x8 := cells_at z 8
        clear z
        obtain ⟨p, hp⟩ : ∃ p, p = putOf l' R ms mo mu mg := ⟨_, rfl⟩
        obtain ⟨B1, E, ms'⟩ := p
        have HP := Lib.hid hp.symm; clear hp
        have hp := Put_bx Ht.out.x mo mu mg
        rw [HP.out, hmo, hmg] at hp
        have Hp := Lib.hid hp; clear hp
        go_wp2_with fail
        refine Hp.out.mono ?_
        rintro e wb ⟨rfl, d, m⟩
        have t := Ht.out.left d m
        have L := HL.out.left m
        clear d m Hp Ht HL x0 x2 x3 x4 x5 x6 x7 x8
        have Ht := Lib.hid t; clear t
        have HL := Lib.hid L; clear L
        have z := (HL.out (g, .cells #[.int .i64 0, .int .i64 ma, .int .u64 mo.1, .int .u64 mo.2, .int .u64 mu, .int .i64 mg.1, .int .i64 mg.2.1, .int .i64 mg.2.2.1, .int .i64 mg.2.2.2] 36 (0, 0)) (by simp)).1
        have x2 := cells_at z 2
        have x3 := cells_at z 3
        have x4 := cells_at z 4
        have x5 := cells_at z 5
        have x6 := cells_at z 6
        have x7 := cells_at z 7
        have x8 := cells_at z 8
        clear z
        have hp := Put_rx Ht.out.y Hl.out Hmok.out.who Hmok.out.owned mg
        rw [HP.out, hmo, hmg] at hp
        have Hp := Lib.hid hp; clear hp
        go_wp2_with fail
        refine Hp.out.mono ?_
        rintro e wd ⟨rfl, d, m⟩
        have t := Ht.out.right d m
        clear d m Hp Ht HL x2 x3 x4 x5 x6 x7 x8
        have Ht := Lib.hid t; clear t
        have hb1 : (B1 != B1) = false := by simp
        have he1 : (E != E) = false := by simp
        go_wp2_with fail
        clear hb1 he1
        obtain ⟨ra, rc, hroot, hrm⟩ := Ht.out.y.root
        obtain ⟨M, hM⟩ : ∃ M, M = ms'.length := ⟨_, rfl⟩
        rw [← hM] at hroot
        have hMR : M ≤ R := by rw [hM]; exact Ht.out.x.room.2
        have hlr := (Array.getElem?_eq_some_iff.1 hroot).1
        clear hrm
        have HM := Lib.hid hM; clear hM
        have Hroot := Lib.hid hroot; clear hroot
        refine wp_region_held2 (fun w' : World => Below wd.heap.size wd w') 206 [0, 2, 3, 4, 5, 6] [[1], [7]] [8, 9, 11] [[10], [12], [13, 14, 15, 17, 16], [18], [19]] (by kernel_rfl) (by kernel_rfl) rfl (by kernel_rfl)
          (fun _ _ _ h => by obtain ⟨_, h, _⟩ := h; cases h) (fun _ _ h => by obtain ⟨h, _⟩ := h; cases h) (below_drew wd) rfl (by kernel_rfl) ?_
        apply Exists.intro
        apply And.intro
        · intro w' s
          have c3 : w'.cell? ⟨by_, 3, none⟩ = some (.slice ra M rc) := cells_at ((s.block by_ hlr).trans Hroot.out) 3
          have Hs := Lib.hid s; clear s
          simp only [List.map_cons, List.map_nil, List.getD_cons_zero, List.getD_cons_succ]
          go_wp2_with fail
          exact pre_end
        · simp only [List.map_cons, List.map_nil, List.getD_cons_zero, List.getD_cons_succ]
          have s0 := below_drew wd
          generalize wd.drew = wA at s0 ⊢
          have Hs0 := Lib.hid s0; clear s0
          have hne : ((M : Int) != (M : Int)) = false := by simp
          have e9 : decide ((R : Int) < (M : Int)) = false := decide_eq_false (by omega)
          refine segsK_more ?_
          go_wp2_with fail
          refine (Len_bx (Ht.out.x.step Hs0.out)).mono ?_
          rintro e wz ⟨rfl, rfl⟩
          rw [← HM.out]
          go_wp2_with fail
          refine seg_end Hs0.out (segsK_more ?_)
          go_wp2_with fail
          refine seg_end Hs0.out (segsK_end (heldAt_of rfl Hs0.out ?_))
          apply Exists.intro
          apply And.intro
          · intro w' s
            obtain ⟨k0, k1⟩ := Hk.out _ ((Ht.out.step s).x.bel)
            have Hs := Lib.hid s; clear s
            simp only [List.map_cons, List.map_nil, List.getD_cons_zero, List.getD_cons_succ]
            go_wp2_with fail
            exact pre_end
          · simp only [List.map_cons, List.map_nil, List.getD_cons_zero, List.getD_cons_succ]
            refine segs_more ?_
            go_wp2_with fail
            refine (Label_bx (Ht.out.x.step Hs0.out)).mono ?_
            rintro e wB ⟨rfl, bB, -⟩
            rw [Hlc.out]
            have s1 := Hs0.out.trans (bB.mono Hs0.out.size)
            clear bB Hs0
            have Hs0 := Lib.hid s1; clear s1
            go_wp2_with fail
            refine seg_end Hs0.out (segs_more ?_)
            have hq := fun w => label_neq w (l1, l2) (l1, l2)
            have hg := fun x y w => label_guard .neq x y (l1, l2) (l1, l2) w
            simp only [Label.cells, decide_true, Bool.not_true] at hq hg
            go_wp2_with fail
            clear hq hg
            refine seg_end Hs0.out (segs_more ?_)
            go_wp2_with fail
            refine (Len_bx (Ht.out.x.step Hs0.out)).mono ?_
            rintro e wz ⟨rfl, rfl⟩
            rw [← HM.out]
            go_wp2_with fail
            refine seg_end Hs0.out (segs_more ?_)
            go_wp2_with fail
            refine seg_end Hs0.out (segs_last ?_)
            have t9 := Ht.out.step Hs0.out
            have Ht9 := Lib.hid t9; clear t9
            go_wp2_with fail
            go_roundw
            case rel => exact ⟨j + 1, _, _, _, by omega, by go_num, Ht9.out⟩
            case measure => simp [intOf]; omega
      by_cases h1 : mw = 1
      · subst h1
        have n0 : ((1 : Int) == 0) = false := by decide
        obtain ⟨p, hp⟩ : ∃ p, p = takeOf l' ms mo mu ma := ⟨_, rfl⟩
        obtain ⟨⟨t1, t2, t3, t4⟩, E, ms'⟩ := p
        have HP := Lib.hid hp.symm; clear hp
        have z := (HL.out (g, .cells #[.int .i64 1, .int .i64 ma, .int .u64 mo.1, .int .u64 mo.2, .int .u64 mu, .int .i64 mg.1, .int .i64 mg.2.1, .int .i64 mg.2.2.1, .int .i64 mg.2.2.2] 36 (0, 0)) (by simp)).1
        have x1 := cells_at z 1
        have x2 := cells_at z 2
        have x3 := cells_at z 3
        have x4 := cells_at z 4
        clear z
        have hp := Take_bx Ht.out.x mo mu ma
        rw [HP.out, hmo] at hp
        simp only [Msg.cells, Msg.kind, Msg.part, Msg.tx, Msg.what] at hp
        have Hp := Lib.hid hp; clear hp
        go_wp2_with fail
        refine Hp.out.mono ?_
        rintro e wb ⟨rfl, d, m⟩
        have t := Ht.out.left d m
        have L := HL.out.left m
        clear d m Hp Ht HL x1 x2 x3 x4
        have Ht := Lib.hid t; clear t
        have HL := Lib.hid L; clear L
        go_wp2_with (with_reducible refine stop_load 24 ?_)
        refine unpark ?_
        have b1 : Below wb.heap.size wb (wb.alloc (.cells #[.int .i64 t1, .int .i64 t2, .int .i64 t3, .int .i64 t4] 34)) := (Below.refl _ _).alloc (Nat.le_refl _) _
        have L1 := HL.out.addP Ht.out b1 (heap_alloc_new wb (.cells #[.int .i64 t1, .int .i64 t2, .int .i64 t3, .int .i64 t4] 34))
        have t5 := Ht.out.step b1
        generalize wb.alloc (.cells #[.int .i64 t1, .int .i64 t2, .int .i64 t3, .int .i64 t4] 34) = wd at t5 L1 ⊢
        generalize wb.heap.size = gx at L1 ⊢
        clear b1 Ht HL
        have Ht := Lib.hid t5; clear t5
        have HL := Lib.hid L1; clear L1
        have z := (HL.out (g, .cells #[.int .i64 1, .int .i64 ma, .int .u64 mo.1, .int .u64 mo.2, .int .u64 mu, .int .i64 mg.1, .int .i64 mg.2.1, .int .i64 mg.2.2.1, .int .i64 mg.2.2.2] 36 (0, 0)) (by simp)).1
        have x1 := cells_at z 1
        have x2 := cells_at z 2
        have x3 := cells_at z 3
        have x4 := cells_at z 4
        clear z
        have hp := Take_rx Ht.out.y Hl.out Hmok.out.who Hmok.out.owned ma
        rw [HP.out, hmo] at hp
        simp only [Msg.cells, Msg.kind, Msg.part, Msg.tx, Msg.what] at hp
        have Hp := Lib.hid hp; clear hp
        go_wp2_with fail
        refine Hp.out.mono ?_
        rintro e we ⟨rfl, d, m⟩
        have t := Ht.out.right d m
        have L := HL.out.right m
        clear d m Hp Ht HL x1 x2 x3 x4
        have Ht := Lib.hid t; clear t
        have HL := Lib.hid L; clear L
        go_wp2_with (with_reducible refine stop_load 34 ?_)
        refine unpark ?_
        have b1 : Below we.heap.size we (we.alloc (.cells #[.int .i64 t1, .int .i64 t2, .int .i64 t3, .int .i64 t4] 34)) := (Below.refl _ _).alloc (Nat.le_refl _) _
        have L1 := HL.out.addP Ht.out b1 (heap_alloc_new we (.cells #[.int .i64 t1, .int .i64 t2, .int .i64 t3, .int .i64 t4] 34))
        have t5 := Ht.out.step b1
        generalize we.alloc (.cells #[.int .i64 t1, .int .i64 t2, .int .i64 t3, .int .i64 t4] 34) = wf at t5 L1 ⊢
        generalize we.heap.size = gy at L1 ⊢
        clear b1 Ht HL
        have Ht := Lib.hid t5; clear t5
        have HL := Lib.hid L1; clear L1
        have z1 := (HL.out (gx, .cells #[.int .i64 t1, .int .i64 t2, .int .i64 t3, .int .i64 t4] 34 (0, 0)) (by simp)).1
        have z2 := (HL.out (gy, .cells #[.int .i64 t1, .int .i64 t2, .int .i64 t3, .int .i64 t4] 34 (0, 0)) (by simp)).1
        have y0 := cells_at z1 0
        have y1 := cells_at z1 1
        have y2 := cells_at z1 2
        have y3 := cells_at z1 3
        have u0 := cells_at z2 0
        have u1 := cells_at z2 1
        have u2 := cells_at z2 2
        have u3 := cells_at z2 3
        clear z1 z2
        have he1 : (E != E) = false := by simp
        have hq := fun w => msg_neq w (t1, t2, t3, t4) (t1, t2, t3, t4)
        have hg := fun x y w => msg_guard .neq x y (t1, t2, t3, t4) (t1, t2, t3, t4) w
        simp only [Msg.cells, Msg.kind, Msg.part, Msg.tx, Msg.what, decide_true, Bool.not_true] at hq hg
        go_wp2_with fail
        clear hq hg he1 y0 y1 y2 y3 u0 u1 u2 u3 HL
        obtain ⟨ra, rc, hroot, hrm⟩ := Ht.out.y.root
        obtain ⟨M, hM⟩ : ∃ M, M = ms'.length := ⟨_, rfl⟩
        rw [← hM] at hroot
        have hMR : M ≤ R := by rw [hM]; exact Ht.out.x.room.2
        have hlr := (Array.getElem?_eq_some_iff.1 hroot).1
        clear hrm
        have HM := Lib.hid hM; clear hM
        have Hroot := Lib.hid hroot; clear hroot
        refine wp_region_held2 (fun w' : World => Below wf.heap.size wf w') 206 [0, 2, 3, 4, 5, 6] [[1], [7]] [8, 9, 11] [[10], [12], [13, 14, 15, 17, 16], [18], [19]] (by kernel_rfl) (by kernel_rfl) rfl (by kernel_rfl)
          (fun _ _ _ h => by obtain ⟨_, h, _⟩ := h; cases h) (fun _ _ h => by obtain ⟨h, _⟩ := h; cases h) (below_drew wf) rfl (by kernel_rfl) ?_
        apply Exists.intro
        apply And.intro
        · intro w' s
          have c3 : w'.cell? ⟨by_, 3, none⟩ = some (.slice ra M rc) := cells_at ((s.block by_ hlr).trans Hroot.out) 3
          have Hs := Lib.hid s; clear s
          simp only [List.map_cons, List.map_nil, List.getD_cons_zero, List.getD_cons_succ]
          go_wp2_with fail
          exact pre_end
        · simp only [List.map_cons, List.map_nil, List.getD_cons_zero, List.getD_cons_succ]
          have s0 := below_drew wf
          generalize wf.drew = wA at s0 ⊢
          have Hs0 := Lib.hid s0; clear s0
          have hne : ((M : Int) != (M : Int)) = false := by simp
          have e9 : decide ((R : Int) < (M : Int)) = false := decide_eq_false (by omega)
          refine segsK_more ?_
          go_wp2_with fail
          refine (Len_bx (Ht.out.x.step Hs0.out)).mono ?_
          rintro e wz ⟨rfl, rfl⟩
          rw [← HM.out]
          go_wp2_with fail
          refine seg_end Hs0.out (segsK_more ?_)
          go_wp2_with fail
          refine seg_end Hs0.out (segsK_end (heldAt_of rfl Hs0.out ?_))
          apply Exists.intro
          apply And.intro
          · intro w' s
            obtain ⟨k0, k1⟩ := Hk.out _ ((Ht.out.step s).x.bel)
            have Hs := Lib.hid s; clear s
            simp only [List.map_cons, List.map_nil, List.getD_cons_zero, List.getD_cons_succ]
            go_wp2_with fail
            exact pre_end
          · simp only [List.map_cons, List.map_nil, List.getD_cons_zero, List.getD_cons_succ]
            refine segs_more ?_
            go_wp2_with fail
            refine (Label_bx (Ht.out.x.step Hs0.out)).mono ?_
            rintro e wB ⟨rfl, bB, -⟩
            rw [Hlc.out]
            have s1 := Hs0.out.trans (bB.mono Hs0.out.size)
            clear bB Hs0
            have Hs0 := Lib.hid s1; clear s1
            go_wp2_with fail
            refine seg_end Hs0.out (segs_more ?_)
            have hq := fun w => label_neq w (l1, l2) (l1, l2)
            have hg := fun x y w => label_guard .neq x y (l1, l2) (l1, l2) w
            simp only [Label.cells, decide_true, Bool.not_true] at hq hg
            go_wp2_with fail
            clear hq hg
            refine seg_end Hs0.out (segs_more ?_)
            go_wp2_with fail
            refine (Len_bx (Ht.out.x.step Hs0.out)).mono ?_
            rintro e wz ⟨rfl, rfl⟩
            rw [← HM.out]
            go_wp2_with fail
            refine seg_end Hs0.out (segs_more ?_)
            go_wp2_with fail
            refine seg_end Hs0.out (segs_last ?_)
            have t9 := Ht.out.step Hs0.out
            have Ht9 := Lib.hid t9; clear t9
            go_wp2_with fail
            go_roundw
            case rel => exact ⟨j + 1, _, _, _, by omega, by go_num, Ht9.out⟩
            case measure => simp [intOf]; omega
      by_cases h2 : mw = 2
      · subst h2
        have n0 : ((2 : Int) == 0) = false := by decide
        have n1 : ((2 : Int) == 1) = false := by decide
        have z := (HL.out (g, .cells #[.int .i64 2, .int .i64 ma, .int .u64 mo.1, .int .u64 mo.2, .int .u64 mu, .int .i64 mg.1, .int .i64 mg.2.1, .int .i64 mg.2.2.1, .int .i64 mg.2.2.2] 36 (0, 0)) (by simp)).1
        have x2 := cells_at z 2
        have x3 := cells_at z 3
        have x4 := cells_at z 4
        clear z
        have hp := List_bx Ht.out.x mo mu
        have hw := fun w : World => RWith_calls (w := w) Hl.out Hmok.out.who Hmok.out.owned
        simp only [Hlc.out, hmo] at hp hw
        generalize withOf l' mo mu = W at hp hw
        have Hp := Lib.hid hp; clear hp
        have Hw := Lib.hid hw; clear hw
        cases W with
        | true =>
          go_wp2_with fail
          refine Hp.out.mono ?_
          simp only [if_true]
          rintro e wb ⟨v, rfl, own, bl, -⟩
          obtain ⟨va, vn, vc, rfl, X, -⟩ := MOwn.msgs own
          have t := Ht.out.step bl
          have L := HL.out.step bl
          clear bl own Hp Ht HL x0 x2 x3 x4
          have Ht := Lib.hid t; clear t
          have HL := Lib.hid L; clear L
          have HX := Lib.hid X; clear X
          obtain ⟨k0, k1⟩ := Hk.out _ Ht.out.x.bel
          have z := (HL.out (g, .cells #[.int .i64 2, .int .i64 ma, .int .u64 mo.1, .int .u64 mo.2, .int .u64 mu, .int .i64 mg.1, .int .i64 mg.2.1, .int .i64 mg.2.2.1, .int .i64 mg.2.2.2] 36 (0, 0)) (by simp)).1
          have x2 := cells_at z 2
          have x3 := cells_at z 3
          have x4 := cells_at z 4
          clear z
          go_wp2_with fail
          refine (Hw.out _).mono ?_
          rintro e wd ⟨rfl, bl⟩
          have t := Ht.out.step bl
          have X := HX.out.keep bl
          clear bl Hw Ht HL HX x2 x3 x4 k0 k1
          have Ht := Lib.hid t; clear t
          have HX := Lib.hid X; clear X
          obtain ⟨ra, rc, hroot, hrm⟩ := Ht.out.y.root
          have c3 := cells_at hroot 3
          clear hroot
          have Hrm := Lib.hid hrm; clear hrm
          go_wp2_with fail
          refine (SameMsgs_calls HX.out Hrm.out rfl).mono ?_
          rintro e we ⟨rfl, nd, rfl⟩
          have t := Ht.out.step (below_drawn wd nd)
          clear Ht HX Hrm c3
          generalize wd.drewN nd = wf at t ⊢
          have Ht := Lib.hid t; clear t
          go_wp2_with fail
          obtain ⟨ra, rc, hroot, hrm⟩ := Ht.out.y.root
          obtain ⟨M, hM⟩ : ∃ M, M = ms.length := ⟨_, rfl⟩
          rw [← hM] at hroot
          have hMR : M ≤ R := by rw [hM]; exact Ht.out.x.room.2
          have hlr := (Array.getElem?_eq_some_iff.1 hroot).1
          clear hrm
          have HM := Lib.hid hM; clear hM
          have Hroot := Lib.hid hroot; clear hroot
          refine wp_region_held2 (fun w' : World => Below wf.heap.size wf w') 206 [0, 2, 3, 4, 5, 6] [[1], [7]] [8, 9, 11] [[10], [12], [13, 14, 15, 17, 16], [18], [19]] (by kernel_rfl) (by kernel_rfl) rfl (by kernel_rfl)
            (fun _ _ _ h => by obtain ⟨_, h, _⟩ := h; cases h) (fun _ _ h => by obtain ⟨h, _⟩ := h; cases h) (below_drew wf) rfl (by kernel_rfl) ?_
          apply Exists.intro
          apply And.intro
          · intro w' s
            have c3 : w'.cell? ⟨by_, 3, none⟩ = some (.slice ra M rc) := cells_at ((s.block by_ hlr).trans Hroot.out) 3
            have Hs := Lib.hid s; clear s
            simp only [List.map_cons, List.map_nil, List.getD_cons_zero, List.getD_cons_succ]
            go_wp2_with fail
            exact pre_end
          · simp only [List.map_cons, List.map_nil, List.getD_cons_zero, List.getD_cons_succ]
            have s0 := below_drew wf
            generalize wf.drew = wA at s0 ⊢
            have Hs0 := Lib.hid s0; clear s0
            have hne : ((M : Int) != (M : Int)) = false := by simp
            have e9 : decide ((R : Int) < (M : Int)) = false := decide_eq_false (by omega)
            refine segsK_more ?_
            go_wp2_with fail
            refine (Len_bx (Ht.out.x.step Hs0.out)).mono ?_
            rintro e wz ⟨rfl, rfl⟩
            rw [← HM.out]
            go_wp2_with fail
            refine seg_end Hs0.out (segsK_more ?_)
            go_wp2_with fail
            refine seg_end Hs0.out (segsK_end (heldAt_of rfl Hs0.out ?_))
            apply Exists.intro
            apply And.intro
            · intro w' s
              obtain ⟨k0, k1⟩ := Hk.out _ ((Ht.out.step s).x.bel)
              have Hs := Lib.hid s; clear s
              simp only [List.map_cons, List.map_nil, List.getD_cons_zero, List.getD_cons_succ]
              go_wp2_with fail
              exact pre_end
            · simp only [List.map_cons, List.map_nil, List.getD_cons_zero, List.getD_cons_succ]
              refine segs_more ?_
              go_wp2_with fail
              refine (Label_bx (Ht.out.x.step Hs0.out)).mono ?_
              rintro e wB ⟨rfl, bB, -⟩
              rw [Hlc.out]
              have s1 := Hs0.out.trans (bB.mono Hs0.out.size)
              clear bB Hs0
              have Hs0 := Lib.hid s1; clear s1
              go_wp2_with fail
              refine seg_end Hs0.out (segs_more ?_)
              have hq := fun w => label_neq w (l1, l2) (l1, l2)
              have hg := fun x y w => label_guard .neq x y (l1, l2) (l1, l2) w
              simp only [Label.cells, decide_true, Bool.not_true] at hq hg
              go_wp2_with fail
              clear hq hg
              refine seg_end Hs0.out (segs_more ?_)
              go_wp2_with fail
              refine (Len_bx (Ht.out.x.step Hs0.out)).mono ?_
              rintro e wz ⟨rfl, rfl⟩
              rw [← HM.out]
              go_wp2_with fail
              refine seg_end Hs0.out (segs_more ?_)
              go_wp2_with fail
              refine seg_end Hs0.out (segs_last ?_)
              have t9 := Ht.out.step Hs0.out
              have Ht9 := Lib.hid t9; clear t9
              go_wp2_with fail
              go_roundw
              case rel => exact ⟨j + 1, _, _, _, by omega, by go_num, Ht9.out⟩
              case measure => simp [intOf]; omega
        | false =>
          go_wp2_with fail
          refine Hp.out.mono ?_
          simp only [Bool.false_eq_true, if_false]
          rintro e wb ⟨v, rfl, own, bl, -⟩
          obtain ⟨va, vn, vc, rfl, X, -⟩ := MOwn.msgs own
          have t := Ht.out.step bl
          have L := HL.out.step bl
          clear bl own Hp Ht HL x0 x2 x3 x4
          have Ht := Lib.hid t; clear t
          have HL := Lib.hid L; clear L
          have HX := Lib.hid X; clear X
          obtain ⟨k0, k1⟩ := Hk.out _ Ht.out.x.bel
          have z := (HL.out (g, .cells #[.int .i64 2, .int .i64 ma, .int .u64 mo.1, .int .u64 mo.2, .int .u64 mu, .int .i64 mg.1, .int .i64 mg.2.1, .int .i64 mg.2.2.1, .int .i64 mg.2.2.2] 36 (0, 0)) (by simp)).1
          have x2 := cells_at z 2
          have x3 := cells_at z 3
          have x4 := cells_at z 4
          clear z
          go_wp2_with fail
          refine (Hw.out _).mono ?_
          rintro e wd ⟨rfl, bl⟩
          have t := Ht.out.step bl
          have X := HX.out.keep bl
          clear bl Hw Ht HL HX x2 x3 x4 k0 k1
          have Ht := Lib.hid t; clear t
          obtain rfl : vn = 0 := X.len.symm
          clear X
          go_wp2_with fail
          obtain ⟨ra, rc, hroot, hrm⟩ := Ht.out.y.root
          obtain ⟨M, hM⟩ : ∃ M, M = ms.length := ⟨_, rfl⟩
          rw [← hM] at hroot
          have hMR : M ≤ R := by rw [hM]; exact Ht.out.x.room.2
          have hlr := (Array.getElem?_eq_some_iff.1 hroot).1
          clear hrm
          have HM := Lib.hid hM; clear hM
          have Hroot := Lib.hid hroot; clear hroot
          refine wp_region_held2 (fun w' : World => Below wd.heap.size wd w') 206 [0, 2, 3, 4, 5, 6] [[1], [7]] [8, 9, 11] [[10], [12], [13, 14, 15, 17, 16], [18], [19]] (by kernel_rfl) (by kernel_rfl) rfl (by kernel_rfl)
            (fun _ _ _ h => by obtain ⟨_, h, _⟩ := h; cases h) (fun _ _ h => by obtain ⟨h, _⟩ := h; cases h) (below_drew wd) rfl (by kernel_rfl) ?_
          apply Exists.intro
          apply And.intro
          · intro w' s
            have c3 : w'.cell? ⟨by_, 3, none⟩ = some (.slice ra M rc) := cells_at ((s.block by_ hlr).trans Hroot.out) 3
            have Hs := Lib.hid s; clear s
            simp only [List.map_cons, List.map_nil, List.getD_cons_zero, List.getD_cons_succ]
            go_wp2_with fail
            exact pre_end
          · simp only [List.map_cons, List.map_nil, List.getD_cons_zero, List.getD_cons_succ]
            have s0 := below_drew wd
            generalize wd.drew = wA at s0 ⊢
            have Hs0 := Lib.hid s0; clear s0
            have hne : ((M : Int) != (M : Int)) = false := by simp
            have e9 : decide ((R : Int) < (M : Int)) = false := decide_eq_false (by omega)
            refine segsK_more ?_
            go_wp2_with fail
            refine (Len_bx (Ht.out.x.step Hs0.out)).mono ?_
            rintro e wz ⟨rfl, rfl⟩
            rw [← HM.out]
            go_wp2_with fail
            refine seg_end Hs0.out (segsK_more ?_)
            go_wp2_with fail
            refine seg_end Hs0.out (segsK_end (heldAt_of rfl Hs0.out ?_))
            apply Exists.intro
            apply And.intro
            · intro w' s
              obtain ⟨k0, k1⟩ := Hk.out _ ((Ht.out.step s).x.bel)
              have Hs := Lib.hid s; clear s
              simp only [List.map_cons, List.map_nil, List.getD_cons_zero, List.getD_cons_succ]
              go_wp2_with fail
              exact pre_end
            · simp only [List.map_cons, List.map_nil, List.getD_cons_zero, List.getD_cons_succ]
              refine segs_more ?_
              go_wp2_with fail
              refine (Label_bx (Ht.out.x.step Hs0.out)).mono ?_
              rintro e wB ⟨rfl, bB, -⟩
              rw [Hlc.out]
              have s1 := Hs0.out.trans (bB.mono Hs0.out.size)
              clear bB Hs0
              have Hs0 := Lib.hid s1; clear s1
              go_wp2_with fail
              refine seg_end Hs0.out (segs_more ?_)
              have hq := fun w => label_neq w (l1, l2) (l1, l2)
              have hg := fun x y w => label_guard .neq x y (l1, l2) (l1, l2) w
              simp only [Label.cells, decide_true, Bool.not_true] at hq hg
              go_wp2_with fail
              clear hq hg
              refine seg_end Hs0.out (segs_more ?_)
              go_wp2_with fail
              refine (Len_bx (Ht.out.x.step Hs0.out)).mono ?_
              rintro e wz ⟨rfl, rfl⟩
              rw [← HM.out]
              go_wp2_with fail
              refine seg_end Hs0.out (segs_more ?_)
              go_wp2_with fail
              refine seg_end Hs0.out (segs_last ?_)
              have t9 := Ht.out.step Hs0.out
              have Ht9 := Lib.hid t9; clear t9
              go_wp2_with fail
              go_roundw
              case rel => exact ⟨j + 1, _, _, _, by omega, by go_num, Ht9.out⟩
              case measure => simp [intOf]; omega
      by_cases h3 : mw = 3
      · subst h3
        have n0 : ((3 : Int) == 0) = false := by decide
        go_wp2_with fail
        refine (Clear_bx Ht.out.x).mono ?_
        rintro e wb ⟨rfl, d, m⟩
        have t := Ht.out.left d m
        clear d m Ht HL x0
        obtain ⟨ra, rc, hroot, -⟩ := t.y.root
        have f3 := frozen_of_row wb by_ 3 _ _ hroot
        have c3 := cells_at hroot 3
        have cl := t.y.clear
        have t2 := t.right cl.1 cl.2
        clear cl t hroot
        have Ht := Lib.hid t2; clear t2
        go_wp2_with fail
        generalize wb.setCell ⟨by_, 3, none⟩ (.slice none 0 0) = wd at Ht ⊢
        clear f3 c3
        obtain ⟨ra, rc, hroot, hrm⟩ := Ht.out.y.root
        obtain ⟨M, hM⟩ : ∃ M, M = ([] : List Msg).length := ⟨_, rfl⟩
        rw [← hM] at hroot
        have hMR : M ≤ R := by rw [hM]; exact Ht.out.x.room.2
        have hlr := (Array.getElem?_eq_some_iff.1 hroot).1
        clear hrm
        have HM := Lib.hid hM; clear hM
        have Hroot := Lib.hid hroot; clear hroot
        refine wp_region_held2 (fun w' : World => Below wd.heap.size wd w') 206 [0, 2, 3, 4, 5, 6] [[1], [7]] [8, 9, 11] [[10], [12], [13, 14, 15, 17, 16], [18], [19]] (by kernel_rfl) (by kernel_rfl) rfl (by kernel_rfl)
          (fun _ _ _ h => by obtain ⟨_, h, _⟩ := h; cases h) (fun _ _ h => by obtain ⟨h, _⟩ := h; cases h) (below_drew wd) rfl (by kernel_rfl) ?_
        apply Exists.intro
        apply And.intro
        · intro w' s
          have c3 : w'.cell? ⟨by_, 3, none⟩ = some (.slice ra M rc) := cells_at ((s.block by_ hlr).trans Hroot.out) 3
          have Hs := Lib.hid s; clear s
          simp only [List.map_cons, List.map_nil, List.getD_cons_zero, List.getD_cons_succ]
          go_wp2_with fail
          exact pre_end
        · simp only [List.map_cons, List.map_nil, List.getD_cons_zero, List.getD_cons_succ]
          have s0 := below_drew wd
          generalize wd.drew = wA at s0 ⊢
          have Hs0 := Lib.hid s0; clear s0
          have hne : ((M : Int) != (M : Int)) = false := by simp
          have e9 : decide ((R : Int) < (M : Int)) = false := decide_eq_false (by omega)
          refine segsK_more ?_
          go_wp2_with fail
          refine (Len_bx (Ht.out.x.step Hs0.out)).mono ?_
          rintro e wz ⟨rfl, rfl⟩
          rw [← HM.out]
          go_wp2_with fail
          refine seg_end Hs0.out (segsK_more ?_)
          go_wp2_with fail
          refine seg_end Hs0.out (segsK_end (heldAt_of rfl Hs0.out ?_))
          apply Exists.intro
          apply And.intro
          · intro w' s
            obtain ⟨k0, k1⟩ := Hk.out _ ((Ht.out.step s).x.bel)
            have Hs := Lib.hid s; clear s
            simp only [List.map_cons, List.map_nil, List.getD_cons_zero, List.getD_cons_succ]
            go_wp2_with fail
            exact pre_end
          · simp only [List.map_cons, List.map_nil, List.getD_cons_zero, List.getD_cons_succ]
            refine segs_more ?_
            go_wp2_with fail
            refine (Label_bx (Ht.out.x.step Hs0.out)).mono ?_
            rintro e wB ⟨rfl, bB, -⟩
            rw [Hlc.out]
            have s1 := Hs0.out.trans (bB.mono Hs0.out.size)
            clear bB Hs0
            have Hs0 := Lib.hid s1; clear s1
            go_wp2_with fail
            refine seg_end Hs0.out (segs_more ?_)
            have hq := fun w => label_neq w (l1, l2) (l1, l2)
            have hg := fun x y w => label_guard .neq x y (l1, l2) (l1, l2) w
            simp only [Label.cells, decide_true, Bool.not_true] at hq hg
            go_wp2_with fail
            clear hq hg
            refine seg_end Hs0.out (segs_more ?_)
            go_wp2_with fail
            refine (Len_bx (Ht.out.x.step Hs0.out)).mono ?_
            rintro e wz ⟨rfl, rfl⟩
            rw [← HM.out]
            go_wp2_with fail
            refine seg_end Hs0.out (segs_more ?_)
            go_wp2_with fail
            refine seg_end Hs0.out (segs_last ?_)
            have t9 := Ht.out.step Hs0.out
            have Ht9 := Lib.hid t9; clear t9
            go_wp2_with fail
            go_roundw
            case rel => exact ⟨j + 1, _, _, _, by omega, by go_num, Ht9.out⟩
            case measure => simp [intOf]; omega
      have n0 : (mw == 0) = false := by simpa using h0
      have n1 : (mw == 1) = false := by simpa using h1
      have n2 : (mw == 2) = false := by simpa using h2
      have n3 : (mw == 3) = false := by simpa using h3
      go_wp2_with fail
      clear x0
      obtain ⟨ra, rc, hroot, hrm⟩ := Ht.out.y.root
      obtain ⟨M, hM⟩ : ∃ M, M = ms.length := ⟨_, rfl⟩
      rw [← hM] at hroot
      have hMR : M ≤ R := by rw [hM]; exact Ht.out.x.room.2
      have hlr := (Array.getElem?_eq_some_iff.1 hroot).1
      clear hrm
      have HM := Lib.hid hM; clear hM
      have Hroot := Lib.hid hroot; clear hroot
      refine wp_region_held2 (fun w' : World => Below wa.heap.size wa w') 206 [0, 2, 3, 4, 5, 6] [[1], [7]] [8, 9, 11] [[10], [12], [13, 14, 15, 17, 16], [18], [19]] (by kernel_rfl) (by kernel_rfl) rfl (by kernel_rfl)
        (fun _ _ _ h => by obtain ⟨_, h, _⟩ := h; cases h) (fun _ _ h => by obtain ⟨h, _⟩ := h; cases h) (below_drew wa) rfl (by kernel_rfl) ?_
      apply Exists.intro
      apply And.intro
      · intro w' s
        have c3 : w'.cell? ⟨by_, 3, none⟩ = some (.slice ra M rc) := cells_at ((s.block by_ hlr).trans Hroot.out) 3
        have Hs := Lib.hid s; clear s
        simp only [List.map_cons, List.map_nil, List.getD_cons_zero, List.getD_cons_succ]
        go_wp2_with fail
        exact pre_end
      · simp only [List.map_cons, List.map_nil, List.getD_cons_zero, List.getD_cons_succ]
        have s0 := below_drew wa
        generalize wa.drew = wA at s0 ⊢
        have Hs0 := Lib.hid s0; clear s0
        have hne : ((M : Int) != (M : Int)) = false := by simp
        have e9 : decide ((R : Int) < (M : Int)) = false := decide_eq_false (by omega)
        refine segsK_more ?_
        go_wp2_with fail
        refine (Len_bx (Ht.out.x.step Hs0.out)).mono ?_
        rintro e wz ⟨rfl, rfl⟩
        rw [← HM.out]
        go_wp2_with fail
        refine seg_end Hs0.out (segsK_more ?_)
        go_wp2_with fail
        refine seg_end Hs0.out (segsK_end (heldAt_of rfl Hs0.out ?_))
        apply Exists.intro
        apply And.intro
        · intro w' s
          obtain ⟨k0, k1⟩ := Hk.out _ ((Ht.out.step s).x.bel)
          have Hs := Lib.hid s; clear s
          simp only [List.map_cons, List.map_nil, List.getD_cons_zero, List.getD_cons_succ]
          go_wp2_with fail
          exact pre_end
        · simp only [List.map_cons, List.map_nil, List.getD_cons_zero, List.getD_cons_succ]
          refine segs_more ?_
          go_wp2_with fail
          refine (Label_bx (Ht.out.x.step Hs0.out)).mono ?_
          rintro e wB ⟨rfl, bB, -⟩
          rw [Hlc.out]
          have s1 := Hs0.out.trans (bB.mono Hs0.out.size)
          clear bB Hs0
          have Hs0 := Lib.hid s1; clear s1
          go_wp2_with fail
          refine seg_end Hs0.out (segs_more ?_)
          have hq := fun w => label_neq w (l1, l2) (l1, l2)
          have hg := fun x y w => label_guard .neq x y (l1, l2) (l1, l2) w
          simp only [Label.cells, decide_true, Bool.not_true] at hq hg
          go_wp2_with fail
          clear hq hg
          refine seg_end Hs0.out (segs_more ?_)
          go_wp2_with fail
          refine (Len_bx (Ht.out.x.step Hs0.out)).mono ?_
          rintro e wz ⟨rfl, rfl⟩
          rw [← HM.out]
          go_wp2_with fail
          refine seg_end Hs0.out (segs_more ?_)
          go_wp2_with fail
          refine seg_end Hs0.out (segs_last ?_)
          have t9 := Ht.out.step Hs0.out
          have Ht9 := Lib.hid t9; clear t9
          go_wp2_with fail
          go_roundw
          case rel => exact ⟨j + 1, _, _, _, by omega, by go_num, Ht9.out⟩
          case measure => simp [intOf]; omega
    · obtain rfl : j = n := by omega
      have bel := Hfin.out _ Ht.out.x.bel
      have Hbel := Lib.hid bel; clear bel hxr
      go_wp2
      go_ret
      exact ⟨rfl, Hbel.out⟩
end Go.Proofs.Ytjmifnhpgedafaa
