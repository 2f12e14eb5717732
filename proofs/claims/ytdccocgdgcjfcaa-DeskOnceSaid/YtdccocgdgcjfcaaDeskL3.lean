/- The law DeskOnce. -/
import Derived.Test.YtdccocgdgcjfcaaDeskA
namespace Go.Proofs.Ytdccocgdgcjfcaa
open Go.RowKit

set_option maxHeartbeats 8000000 in
set_option maxRecDepth 100000 in
theorem lawDeskOnce {w : World} {P : Int} {a : Option Addr} {n c : Nat} {xs : List CallD} (hP : (Lit.int .i64 P).wf = true) (hx : DRow w a n c xs) :
    Calls Try.prog 4 #[.int .i64 P, .slice a n c] w fun e w' => e = .returned (.bool true) ∧ Below w.heap.size w w' := by
  have hl := hx.recs.len
  have hle := hx.recs.le
  have hmx := hx.recs.max
  have Hx := Lib.hid hx; clear hx
  have Hl := Lib.hid hl; clear hl
  go_enter Try.func4, Try.ntmps4
  go_wp2_with fail
  refine alive_calls.mono ?_
  rintro e w1 ⟨rfl, b1⟩
  have Hb1 := Lib.hid b1; clear b1
  by_cases h0 : 150 < n
  · have e0 : decide ((150 : Int) < (n : Int)) = true := decide_eq_true (by omega)
    go_wp2
    go_ret
    exact ⟨rfl, Hb1.out⟩
  have e0 : decide ((150 : Int) < (n : Int)) = false := decide_eq_false (by omega)
  by_cases h1 : P < 1
  · have e1 : decide (P < 1) = true := decide_eq_true h1
    go_wp2
    go_ret
    exact ⟨rfl, Hb1.out⟩
  have e1 : decide (P < 1) = false := decide_eq_false h1
  by_cases h2 : 6 < P
  · have e2 : decide (6 < P) = true := decide_eq_true h2
    go_wp2
    go_ret
    exact ⟨rfl, Hb1.out⟩
  have e2 : decide (6 < P) = false := decide_eq_false h2
  have hgood := small_good h1 h2
  clear h1 h2
  have hnl : n ≤ 150 := by omega
  clear h0
  have b2 := Hb1.out.alloc Hb1.out.size (.cells #[.int .i64 P, .int .i64 1, .int .i64 2] 29)
  have hx2 := heap_alloc_new w1 (.cells #[.int .i64 P, .int .i64 1, .int .i64 2] 29)
  have en := New_dk (w0 := w) b2 hgood
  simp only [Pl.cells, Pl.parts, Pl.window, Pl.delay] at en
  have EN := Lib.hid en; clear en
  have Hb2 := Lib.hid b2; clear b2 Hb1
  have Hx2 := Lib.hid hx2; clear hx2
  have Hgood := Lib.hid hgood; clear hgood
  go_wp2_with fail
  generalize w1.alloc (.cells #[.int .i64 P, .int .i64 1, .int .i64 2] 29) = w2 at EN Hb2 Hx2 ⊢
  generalize w1.heap.size = g at Hx2 ⊢
  refine EN.out.mono ?_
  rintro e w3 ⟨b, F, rfl, d3, hF3, b3⟩
  clear EN Hb2 Hx2 e0 e1 e2
  have hal := ROwn.made (F := entF) (E := 50) w3
  have ba : Below w3.heap.size w3 (w3.alloc (.cells #[] 50)) := (Below.refl _ _).alloc (Nat.le_refl _) _
  have hall : AllR w (w3.alloc (.cells #[] 50)) F (.slice (some ⟨w3.heap.size, 0, none⟩) 0 0) [] :=
    ⟨hal.mono d3.bel.size, fun g hg hf => by
      have e : w3.heap.size = g := by injection hg
      have := (d3.low _ hf).2
      omega⟩
  have da := d3.step ba
  clear b3 hF3 hal ba d3
  have Hd := Lib.hid da; clear da
  have Hall := Lib.hid hall; clear hall
  go_wp2_with fail
  go_loopw [8, 9] (fun al i wr => ∃ (j : Nat) (es : List Ent) (F : Nat → Prop) (v : Value), j ≤ n ∧ al = v ∧ i = .int .i64 j ∧ Dk w wr b F (P, 1, 2) es ∧ AllR w wr F v es) (fun _ i _ => n - (intOf i).toNat)
  case atStart => exact ⟨0, [], F, _, by omega, rfl, rfl, Hd.out, Hall.out⟩
  case round =>
    clear Hd Hall
    obtain ⟨j, es, F4, v, hj, rfl, rfl, hd, hall⟩ := hrel
    have hxr := (Hx.out.keep hd.bel).recs
    obtain ⟨va, vc, rfl⟩ := hall.own.shape
    have Hd := Lib.hid hd; clear hd
    have Hall := Lib.hid hall; clear hall
    by_cases hlt : j < n
    · obtain ⟨bx, ox, rfl⟩ := hxr.addr (by omega)
      have hjx : j < xs.length := by rw [Hl.out]; exact hlt
      have hcx := hxr.at hjx
      have hok := Hx.out.ok _ (List.getElem_mem hjx)
      obtain ⟨m, hm⟩ : ∃ m, m = xs[j] := ⟨_, rfl⟩
      rw [← hm] at hcx hok
      clear hm hxr
      obtain ⟨k1, k2, k3, k4, k5⟩ := m
      have x0 : wr.cell? ⟨bx, ox + j * 5, none⟩ = some (.int .i64 k1) := hcx 0 _ rfl
      have x1 : wr.cell? ⟨bx, ox + j * 5 + 1, none⟩ = some (.int .i64 k2) := hcx 1 _ rfl
      have x2 : wr.cell? ⟨bx, ox + j * 5 + 2, none⟩ = some (.int .i64 k3) := hcx 2 _ rfl
      have x3 : wr.cell? ⟨bx, ox + j * 5 + 3, none⟩ = some (.int .i64 k4) := hcx 3 _ rfl
      have x4 : wr.cell? ⟨bx, ox + j * 5 + 4, none⟩ = some (.int .u16 k5) := hcx 4 _ rfl
      clear hcx
      have i1 : (0 : Int) ≤ (j : Int) := by omega
      have i2 : (j : Int) < (n : Int) := by omega
      have b5 := (Below.refl wr.heap.size wr).alloc (Nat.le_refl _) (.cells #[.int .i64 k1, .int .i64 k2, .int .i64 k3, .int .i64 k4, .int .u16 k5] 39)
      have hx5 := heap_alloc_new wr (.cells #[.int .i64 k1, .int .i64 k2, .int .i64 k3, .int .i64 k4, .int .u16 k5] 39)
      have d5 := Hd.out.step b5
      have a5 := Hall.out.step b5
      have l5 : Lie (wr.alloc (.cells #[.int .i64 k1, .int .i64 k2, .int .i64 k3, .int .i64 k4, .int .u16 k5] 39)) wr.heap.size (.cells #[.int .i64 k1, .int .i64 k2, .int .i64 k3, .int .i64 k4, .int .u16 k5] 39) F4 :=
        ⟨hx5, fun hf => by have := (Hd.out.low _ hf).2; omega⟩
      have o5 : ∀ g, (Value.slice va es.length vc).ownBlock = some g → g ≠ wr.heap.size := fun g hg => by have := (Hall.out.own.lt g hg).2; omega
      clear b5
      go_wp2_with (with_reducible refine stop_load 3 ?_)
      refine unpark ?_
      have y1 := cells_at hx5 1
      have y3 := cells_at hx5 3
      clear hx5 x0 x1 x2 x3 x4 Hd Hall
      generalize wr.heap.size = gc at *
      generalize wr.alloc (.cells #[.int .i64 k1, .int .i64 k2, .int .i64 k3, .int .i64 k4, .int .u16 k5] 39) = w5 at *
      have hof := Of_dk d5 k2 k4 hok.client
      have Hof := Lib.hid hof; clear hof
      have Hd := Lib.hid d5; clear d5
      have Hall := Lib.hid a5; clear a5
      have Hli := Lib.hid l5; clear l5
      have Ho := Lib.hid o5; clear o5
      go_wp2_with fail
      refine Hof.out.mono ?_
      rintro e w6 ⟨rfl, b6, -⟩
      have d6 := Hd.out.step b6
      have a6 := Hall.out.step b6
      have l6 := Hli.out.step b6
      clear Hd Hall Hli Hof b6 y1 y3
      have y1 := cells_at l6.is 1
      have y3 := cells_at l6.is 3
      have y4 := cells_at l6.is 4
      have hbeg := Begin_dk d6 k2 k5 k4 hok.client hok.mask
      have Hd := Lib.hid d6; clear d6
      have Hall := Lib.hid a6; clear a6
      have Hli := Lib.hid l6; clear l6
      have hgood := Hd.out.facts.1
      rcases begin_cases hgood es k2 k5 k4 with ⟨hb, ho, hn⟩ | ⟨E, hb, hE, h13⟩
      · rw [hb] at hbeg
        simp only at hbeg
        have Hbeg := Lib.hid hbeg; clear hbeg hb hgood
        have Hn := Lib.hid hn; clear hn
        obtain ⟨L, hL⟩ : ∃ L, L = es.length := ⟨_, rfl⟩
        have h64 := Hd.out.facts.2.1
        have q0 : decide (ofOf (P, 1, 2) es k2 k4 ≠ 0) = false := by rw [ho]; rfl
        rw [q0, ho]
        clear q0 ho
        rw [← hL] at h64 Hbeg ⊢
        have HL := Lib.hid hL; clear hL
        go_wp2_with fail
        refine Hbeg.out.mono ?_
        rintro e w7 ⟨rfl, d7, m7⟩
        have a7 := Hall.out.mod m7
        have l7 := Hli.out.mod m7
        clear Hd Hall Hli Hbeg m7 y1 y3 y4
        generalize grownF F4 w6 w7 = F7 at *
        have y1 := cells_at l7.is 1
        have y3 := cells_at l7.is 3
        have y4 := cells_at l7.is 4
        have Hd := Lib.hid d7; clear d7
        have Hall := Lib.hid a7; clear a7
        have Hli := Lib.hid l7; clear l7
        go_wp2_with (with_reducible refine stop_builtin .append ?_)
        refine unpark ?_
        clear y1 y3 y4
        have hx8 := heap_alloc_new w7 (.cells #[.int .i64 k2, .int .i64 k4, .int .u16 k5] 50)
        have b8 : Below w7.heap.size w7 (w7.alloc (.cells #[.int .i64 k2, .int .i64 k4, .int .u16 k5] 50)) := (Below.refl _ _).alloc (Nat.le_refl _) _
        have d8 := Hd.out.step b8
        have a8 := Hall.out.step b8
        have l8 := Hli.out.step b8
        generalize w7.alloc (.cells #[.int .i64 k2, .int .i64 k4, .int .u16 k5] 50) = w8 at hx8 b8 d8 a8 l8 ⊢
        clear Hd Hall Hli b8
        refine wpList_append_rec1 entElem _ rfl _ _ rfl w.heap.size (.slice va es.length vc) es (by rw [← HL.out]; rfl) a8.own w7.heap.size 1 (by decide) (by decide) (k2, k4, k5) rfl hx8 (fun j u hu => by simpa [entF, Ent.cells] using hu) (by have := HL.out; omega) d8.bel.size ?_
        intro v' w9 own9 g9 hv9
        have m9 : Mod (fun k => (Value.slice va es.length vc).ownBlock = some k) w8 w9 := Mod.of_grown g9 fun _ h => h
        have d9 := d8.aside m9 (fun k hf hg => a8.out k hg hf) (fun k hg => (a8.own.lt k hg).1)
        have l9 : Lie w9 gc (.cells #[.int .i64 k1, .int .i64 k2, .int .i64 k3, .int .i64 k4, .int .u16 k5] 39) F7 :=
          ⟨(m9.block gc l8.lt fun hf => Ho.out gc hf rfl).trans l8.is, l8.out⟩
        have a9 : AllR w w9 F7 v' (es ++ [(k2, k4, k5)]) := ⟨own9, fun g hg hf => by
          rcases hv9 with e | e
          · rw [e] at hg; exact a8.out g hg hf
          · rw [e] at hg
            have e : w8.heap.size = g := by injection hg
            have := (d8.low _ hf).2
            omega⟩
        clear own9 g9 hv9 m9 d8 a8 l8 hx8 Ho
        obtain ⟨na, nc, rfl⟩ := a9.own.shape
        have hn1 : (es ++ [(k2, k4, k5)]).length = L + 1 := by rw [List.length_append, ← HL.out]; rfl
        obtain ⟨es2, he2⟩ : ∃ es2, es2 = es ++ [(k2, k4, k5)] := ⟨_, rfl⟩
        have hn2 := Hn.out
        rw [← HL.out, ← he2] at hn2
        rw [← he2] at d9 a9 hn1 ⊢
        rw [hn1] at a9 ⊢
        have h64' := d9.facts.2.1
        rw [hn1] at h64'
        have hof := Of_dk d9 k2 k4 hok.client
        rw [hn2, show decide (L + 1 ≠ 0) = true by simp] at hof
        have Hof := Lib.hid hof; clear hof
        have y1 := cells_at l9.is 1
        have y3 := cells_at l9.is 3
        have Hd := Lib.hid d9; clear d9
        have Hall := Lib.hid a9; clear a9
        have Hn1 := Lib.hid hn1; clear hn1
        clear Hn hn2 he2 HL
        go_wp2_with fail
        refine Hof.out.mono ?_
        rintro e w10 ⟨rfl, b10, -⟩
        have d10 := Hd.out.step b10
        have a10 := Hall.out.step b10
        have hcn := Count_dk d10
        rw [Hn1.out] at hcn
        have Hcn := Lib.hid hcn; clear hcn
        clear Hd Hall b10 Hof y1 y3 l9
        have Hd := Lib.hid d10; clear d10
        have Hall := Lib.hid a10; clear a10
        have r1 : (((L : Int) + 1) != ((L : Int) + 1)) = false := by simp
        go_wp2_with fail
        refine Hcn.out.mono ?_
        rintro e w11 ⟨rfl, rfl⟩
        go_wp2_with fail
        generalize L + 1 = LE at *
        have HLE := Lib.hid Hn1.out.symm; clear Hn1

        go_loopw [19] (fun k wr => ∃ m : Nat, m ≤ LE ∧ k = .int .i64 m ∧ Dk w wr b F7 (P, 1, 2) es2 ∧ AllR w wr F7 (.slice na LE nc) es2) (fun k _ => LE - (intOf k).toNat)
        case atStart => exact ⟨0, by omega, rfl, Hd.out, Hall.out⟩
        case round =>
          obtain ⟨m, hm, rfl, hd, hall⟩ := hrel
          clear Hd Hall
          have Hd := Lib.hid hd; clear hd
          have Hall := Lib.hid hall; clear hall
          by_cases hmL : m < LE
          · have hte : m < es2.length := by rw [← HLE.out]; exact hmL
            have hen := Entry_some Hd.out hte
            obtain ⟨la', lc', ev, hrec, -⟩ := Hall.out.own.recs
            rw [← HLE.out] at ev hrec
            cases ev
            obtain ⟨lb, lo, rfl⟩ := hrec.addr (by omega)
            have hcl := hrec.at hte
            obtain ⟨en, hene⟩ : ∃ en, en = es2[m] := ⟨_, rfl⟩
            rw [← hene] at hen hcl
            clear hene hrec
            have hq := fun w => ent_neq w en en
            have hg := fun x y w => ent_guard .neq x y en en w
            obtain ⟨x2, y2, z2⟩ := en
            simp only [Ent.cells, Ent.client, Ent.begin, Ent.mask, decide_true, Bool.not_true] at hen hq hg
            have p0 : wr.cell? ⟨lb, lo + m * 3, none⟩ = some (.int .i64 x2) := hcl 0 (.int .i64 x2) rfl
            have p1 : wr.cell? ⟨lb, lo + m * 3 + 1, none⟩ = some (.int .i64 y2) := hcl 1 (.int .i64 y2) rfl
            have p2 : wr.cell? ⟨lb, lo + m * 3 + 2, none⟩ = some (.int .u16 z2) := hcl 2 (.int .u16 z2) rfl
            have plt := World.block_lt_of_cell? _ _ p0
            clear hcl
            have Hen := Lib.hid hen; clear hen
            have Hq := Lib.hid hq; clear hq
            have Hg := Lib.hid hg; clear hg
            have i1 : (0 : Int) ≤ (m : Int) := by omega
            have i2 : (m : Int) < (LE : Int) := by omega
            go_wp2_with fail
            refine Hen.out.mono ?_
            rintro e w11 ⟨rfl, b11⟩
            have b12 := (Below.refl w11.heap.size w11).alloc (Nat.le_refl _) (.cells #[.int .i64 x2, .int .i64 y2, .int .u16 z2] 50)
            have hx12 := heap_alloc_new w11 (.cells #[.int .i64 x2, .int .i64 y2, .int .u16 z2] 50)
            have d12 := (Hd.out.step b11).step b12
            have a12 := (Hall.out.step b11).step b12
            have bb := b11.trans (b12.mono b11.size)
            have q0 := (bb.cell plt).trans p0
            have q1 := (bb.cell plt).trans p1
            have q2 := (bb.cell plt).trans p2
            have v0 := cells_at hx12 0
            have v1 := cells_at hx12 1
            have v2 := cells_at hx12 2
            clear Hd Hall b11 b12 bb hx12 Hen p0 p1 p2 plt
            have Hd := Lib.hid d12; clear d12
            have Hall := Lib.hid a12; clear a12
            go_wp2_with fail
            generalize w11.heap.size = g12 at *
            generalize w11.alloc (.cells #[.int .i64 x2, .int .i64 y2, .int .u16 z2] 50) = w12 at *
            refine wp_region_free [0, 1, 2, 3, 4, 5, 6, 7, 8, 9] (by kernel_rfl) (by kernel_rfl) rfl (by kernel_rfl) (fun _ _ _ h => by obtain ⟨_, h, _⟩ := h; cases h) (fun _ _ h => by obtain ⟨h, _⟩ := h; cases h) ?_
            simp only [List.map_cons, List.map_nil, List.getD_cons_zero, List.getD_cons_succ]
            have d13 := Hd.out.step (below_drew w12)
            have a13 := Hall.out.step (below_drew w12)
            have q0' : w12.drew.cell? ⟨lb, lo + m * 3, none⟩ = some (.int .i64 x2) := q0
            have q1' : w12.drew.cell? ⟨lb, lo + m * 3 + 1, none⟩ = some (.int .i64 y2) := q1
            have q2' : w12.drew.cell? ⟨lb, lo + m * 3 + 2, none⟩ = some (.int .u16 z2) := q2
            have v0' : w12.drew.cell? ⟨g12, 0, none⟩ = some (.int .i64 x2) := v0
            have v1' : w12.drew.cell? ⟨g12, 1, none⟩ = some (.int .i64 y2) := v1
            have v2' : w12.drew.cell? ⟨g12, 2, none⟩ = some (.int .u16 z2) := v2
            clear Hd Hall q0 q1 q2 v0 v1 v2
            have Hd := Lib.hid d13; clear d13
            have Hall := Lib.hid a13; clear a13
            have hq := Hq.out
            have hg := Hg.out
            generalize w12.drew = w13 at *
            go_wp2_with fail
            go_roundw
            case rel => exact ⟨m + 1, by omega, by go_num, Hd.out, Hall.out⟩
            case measure => simp [intOf]; omega
          · obtain rfl : m = LE := by omega
            go_wp2_with fail
            go_roundw
            case rel => exact ⟨j + 1, _, _, _, by omega, rfl, by go_num, Hd.out, Hall.out⟩
            case measure => simp [intOf]; omega
      · rw [hb] at hbeg
        simp only at hbeg
        have Hbeg := Lib.hid hbeg; clear hbeg hb hgood
        have q1 : (E == 0) = false := by simpa using hE
        have q2 : (E == 13) = false ∨ (E == 13) = true ∧ decide (ofOf (P, 1, 2) es k2 k4 ≠ 0) = true := by
          by_cases h : E = 13
          · exact .inr ⟨by simpa using h, decide_eq_true (h13 h)⟩
          · exact .inl (by simpa using h)
        have q3 : ((0 : Int) == (es.length : Int) + 1) = false := by
          have : ¬ (0 : Int) = (es.length : Int) + 1 := by omega
          simpa using this
        have h64 := Hd.out.facts.2.1
        obtain ⟨W, hW⟩ : ∃ W, W = ofOf (P, 1, 2) es k2 k4 := ⟨_, rfl⟩
        rw [← hW] at q2 ⊢
        obtain ⟨H, hH⟩ : ∃ H, H = decide (W ≠ 0) := ⟨_, rfl⟩
        rw [← hH] at q2 ⊢
        have HW := Lib.hid hW; clear hW hE h13
        have HH := Lib.hid hH; clear hH
        have r1 : ((W : Int) != (W : Int)) = false := by simp
        have r2 : (H != H) = false := by cases H <;> rfl
        have q4 : (E == 13) = false ∨ (E == 13) = true ∧ (!H) = false := q2.imp id fun h => ⟨h.1, by rw [h.2]; rfl⟩
        clear q2
        rcases q4 with q4 | ⟨q4, q5⟩
        all_goals
          go_wp2_with fail
          refine Hbeg.out.mono ?_
          rintro e w7 ⟨rfl, d7, m7⟩
          have a7 := Hall.out.mod m7
          have l7 := Hli.out.mod m7
          clear Hd Hall Hli Hbeg m7 y1 y3 y4
          generalize grownF F4 w6 w7 = F7 at *
          have hof := Of_dk d7 k2 k4 hok.client
          rw [← HW.out, ← HH.out] at hof
          have Hof := Lib.hid hof; clear hof
          have y1 := cells_at l7.is 1
          have y3 := cells_at l7.is 3
          have Hd := Lib.hid d7; clear d7
          have Hall := Lib.hid a7; clear a7
          go_wp2_with fail
          refine Hof.out.mono ?_
          rintro e w10 ⟨rfl, b10, -⟩
          have d10 := Hd.out.step b10
          have a10 := Hall.out.step b10
          clear Hd Hall b10 Hof y1 y3 l7
          have Hd := Lib.hid d10; clear d10
          have Hall := Lib.hid a10; clear a10
          go_wp2_with fail
          generalize hLE : es.length = LE at *
          have HLE := Lib.hid hLE.symm; clear hLE

          go_loopw [19] (fun k wr => ∃ m : Nat, m ≤ LE ∧ k = .int .i64 m ∧ Dk w wr b F7 (P, 1, 2) es ∧ AllR w wr F7 (.slice va LE vc) es) (fun k _ => LE - (intOf k).toNat)
          case atStart => exact ⟨0, by omega, rfl, Hd.out, Hall.out⟩
          case round =>
            obtain ⟨m, hm, rfl, hd, hall⟩ := hrel
            clear Hd Hall
            have Hd := Lib.hid hd; clear hd
            have Hall := Lib.hid hall; clear hall
            by_cases hmL : m < LE
            · have hte : m < es.length := by rw [← HLE.out]; exact hmL
              have hen := Entry_some Hd.out hte
              obtain ⟨la', lc', ev, hrec, -⟩ := Hall.out.own.recs
              rw [← HLE.out] at ev hrec
              cases ev
              obtain ⟨lb, lo, rfl⟩ := hrec.addr (by omega)
              have hcl := hrec.at hte
              obtain ⟨en, hene⟩ : ∃ en, en = es[m] := ⟨_, rfl⟩
              rw [← hene] at hen hcl
              clear hene hrec
              have hq := fun w => ent_neq w en en
              have hg := fun x y w => ent_guard .neq x y en en w
              obtain ⟨x2, y2, z2⟩ := en
              simp only [Ent.cells, Ent.client, Ent.begin, Ent.mask, decide_true, Bool.not_true] at hen hq hg
              have p0 : wr.cell? ⟨lb, lo + m * 3, none⟩ = some (.int .i64 x2) := hcl 0 (.int .i64 x2) rfl
              have p1 : wr.cell? ⟨lb, lo + m * 3 + 1, none⟩ = some (.int .i64 y2) := hcl 1 (.int .i64 y2) rfl
              have p2 : wr.cell? ⟨lb, lo + m * 3 + 2, none⟩ = some (.int .u16 z2) := hcl 2 (.int .u16 z2) rfl
              have plt := World.block_lt_of_cell? _ _ p0
              clear hcl
              have Hen := Lib.hid hen; clear hen
              have Hq := Lib.hid hq; clear hq
              have Hg := Lib.hid hg; clear hg
              have i1 : (0 : Int) ≤ (m : Int) := by omega
              have i2 : (m : Int) < (LE : Int) := by omega
              go_wp2_with fail
              refine Hen.out.mono ?_
              rintro e w11 ⟨rfl, b11⟩
              have b12 := (Below.refl w11.heap.size w11).alloc (Nat.le_refl _) (.cells #[.int .i64 x2, .int .i64 y2, .int .u16 z2] 50)
              have hx12 := heap_alloc_new w11 (.cells #[.int .i64 x2, .int .i64 y2, .int .u16 z2] 50)
              have d12 := (Hd.out.step b11).step b12
              have a12 := (Hall.out.step b11).step b12
              have bb := b11.trans (b12.mono b11.size)
              have q0 := (bb.cell plt).trans p0
              have q1 := (bb.cell plt).trans p1
              have q2 := (bb.cell plt).trans p2
              have v0 := cells_at hx12 0
              have v1 := cells_at hx12 1
              have v2 := cells_at hx12 2
              clear Hd Hall b11 b12 bb hx12 Hen p0 p1 p2 plt
              have Hd := Lib.hid d12; clear d12
              have Hall := Lib.hid a12; clear a12
              go_wp2_with fail
              generalize w11.heap.size = g12 at *
              generalize w11.alloc (.cells #[.int .i64 x2, .int .i64 y2, .int .u16 z2] 50) = w12 at *
              refine wp_region_free [0, 1, 2, 3, 4, 5, 6, 7, 8, 9] (by kernel_rfl) (by kernel_rfl) rfl (by kernel_rfl) (fun _ _ _ h => by obtain ⟨_, h, _⟩ := h; cases h) (fun _ _ h => by obtain ⟨h, _⟩ := h; cases h) ?_
              simp only [List.map_cons, List.map_nil, List.getD_cons_zero, List.getD_cons_succ]
              have d13 := Hd.out.step (below_drew w12)
              have a13 := Hall.out.step (below_drew w12)
              have q0' : w12.drew.cell? ⟨lb, lo + m * 3, none⟩ = some (.int .i64 x2) := q0
              have q1' : w12.drew.cell? ⟨lb, lo + m * 3 + 1, none⟩ = some (.int .i64 y2) := q1
              have q2' : w12.drew.cell? ⟨lb, lo + m * 3 + 2, none⟩ = some (.int .u16 z2) := q2
              have v0' : w12.drew.cell? ⟨g12, 0, none⟩ = some (.int .i64 x2) := v0
              have v1' : w12.drew.cell? ⟨g12, 1, none⟩ = some (.int .i64 y2) := v1
              have v2' : w12.drew.cell? ⟨g12, 2, none⟩ = some (.int .u16 z2) := v2
              clear Hd Hall q0 q1 q2 v0 v1 v2
              have Hd := Lib.hid d13; clear d13
              have Hall := Lib.hid a13; clear a13
              have hq := Hq.out
              have hg := Hg.out
              generalize w12.drew = w13 at *
              go_wp2_with fail
              go_roundw
              case rel => exact ⟨m + 1, by omega, by go_num, Hd.out, Hall.out⟩
              case measure => simp [intOf]; omega
            · obtain rfl : m = LE := by omega
              go_wp2_with fail
              go_roundw
              case rel => exact ⟨j + 1, _, _, _, by omega, rfl, by go_num, Hd.out, Hall.out⟩
              case measure => simp [intOf]; omega
    · obtain rfl : j = n := by omega
      go_wp2
      go_ret
      exact ⟨rfl, Hd.out.bel⟩
end Go.Proofs.Ytdccocgdgcjfcaa
