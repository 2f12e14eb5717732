/- Kernels: Send. -/
import Derived.Test.YtclgakdfeeefiaaDoorKern8
namespace Go.Proofs.YtclgakdfeeefiaaDoor
open Go.RowKit

/-- What one who sends is answered, and what the ways are then. -/
def sendK (n : Nat) (p : Pl) (st : End → List Msg × List Msg) (who to : Int) (m : Msg) (now : Int) : Int × (End → List Msg × List Msg) :=
  if thereB n who = true ∧ thereB n to = true ∧ ¬ who = to then
    if ownOf p now = who then
      if flowOf n who to = true then
        let e : End := if who = (n : Int) then (to, 0) else (who, 1)
        if fitsOf e m = true then (0, updE st e ((st e).1 ++ [m], (st e).2)) else (10, st)
      else (14, st)
    else (23, st)
  else (11, st)
section
variable {w0 w w' : World} {kb gb tb tc mb n : Nat} {ws : List (End × Nat)} {FW : End → Nat → Prop} {p : Pl} {st : End → List Msg × List Msg}
set_option maxRecDepth 100000 in
theorem run_look_one (h : KnAt w0 w kb gb tb tc mb n ws FW p st) {q d : Int} {b : Nat} (he : ((q, d), b) ∈ ws) (x : Nat) (os : Array Obj) : (Instr.lookup 64 (.map (some mb)) (.agg #[.int .i64 q, .int .i64 d]) false).run Tryd.prog («Sort».grow (redrawn w x) os) = .ok (.pointer (some ⟨b, 0, none⟩)) («Sort».grow (redrawn w x) os) := by
  have hm := (h.step (below_regrown w x os)).map
  have hl := hm.look endLaw (t := 64) (et := 80) (z := .pointer none) Tryd.underlying64 (by kernel_rfl) (q, d)
  rw [ptr_of hm he] at hl
  exact hl
set_option maxHeartbeats 8000000 in
theorem Send_calls (h : KnAt w0 w kb gb tb tc mb n ws FW p st) (hbd : ∀ e, (st e).1.length ≤ 1000000) (who to : Int) (m : Msg) (now : Int) : Calls Tryd.prog 15 #[.pointer (some ⟨kb, 0, none⟩), .int .i64 who, .int .i64 to, .agg m.cells.toArray, .int .i64 now] w fun e w' =>
    e = .returned (.int .i64 (sendK n p st who to m now).1) ∧ KnNext w0 w w' kb gb tb tc mb n ws FW p (sendK n p st who to m now).2 := by
  obtain ⟨w1, hw1⟩ : ∃ w1, w1 = w.alloc (.cells m.cells.toArray 39) := ⟨_, rfl⟩
  have c1 : Below w.heap.size w w1 := by rw [hw1]; exact (Below.refl _ _).alloc (Nat.le_refl _) _
  have z1 : w1.heap[w.heap.size]? = some (.cells m.cells.toArray 39 (0, 0)) := by rw [hw1]; exact heap_alloc_new w _
  have hk := h.step c1
  have hta := kthere_calls hk who
  have htb := kthere_calls hk to
  obtain ⟨SK, hSK⟩ : ∃ S, S = sendK n p st who to m now := ⟨_, rfl⟩
  rw [← hSK]
  unfold sendK at hSK
  simp only at hSK
  have hn1 := KnNext.below h c1
  have Hn1 := Lib.hid hn1; clear hn1
  obtain ⟨k, pa, t, x⟩ := m
  simp only [Msg.cells, Msg.kind, Msg.part, Msg.tx, Msg.what] at hw1 z1 ⊢
  cases hT : thereB n who with
  | false =>
    rw [hT] at hta
    rw [if_neg (by rw [hT]; rintro ⟨h, -⟩; cases h)] at hSK
    have HSK := Lib.hid hSK; clear hSK hT
    have Hta := Lib.hid hta; clear hta htb hk h c1 z1
    go_enter Tryd.func15, Tryd.ntmps15
    go_wp2_with fail
    rw [← hw1]
    clear hw1
    refine Hta.out.mono ?_
    rintro e w2 ⟨rfl, rfl⟩
    go_wp2
    go_ret
    exact ⟨by rw [HSK.out]; rfl, by rw [HSK.out]; exact Hn1.out⟩
  | true =>
    rw [hT] at hta
    have Hta := Lib.hid hta; clear hta
    cases hT2 : thereB n to with
    | false =>
      rw [hT2] at htb
      rw [if_neg (by rw [hT2]; rintro ⟨-, h, -⟩; cases h)] at hSK
      have HSK := Lib.hid hSK; clear hSK hT hT2
      have Htb := Lib.hid htb; clear htb hk h c1 z1
      go_enter Tryd.func15, Tryd.ntmps15
      go_wp2_with fail
      rw [← hw1]
      clear hw1
      refine Hta.out.mono ?_
      rintro e w2 ⟨rfl, rfl⟩
      go_wp2_with fail
      refine Htb.out.mono ?_
      rintro e w2 ⟨rfl, rfl⟩
      go_wp2
      go_ret
      exact ⟨by rw [HSK.out]; rfl, by rw [HSK.out]; exact Hn1.out⟩
    | true =>
      rw [hT2] at htb
      have Htb := Lib.hid htb; clear htb
      by_cases hwt : who = to
      case pos =>
        rw [if_neg (fun h => h.2.2 hwt)] at hSK
        have e1 : (who == to) = true := by simpa using hwt
        have HSK := Lib.hid hSK; clear hSK hT hT2 hwt
        clear hk h c1 z1
        go_enter Tryd.func15, Tryd.ntmps15
        go_wp2_with fail
        rw [← hw1]
        clear hw1
        refine Hta.out.mono ?_
        rintro e w2 ⟨rfl, rfl⟩
        go_wp2_with fail
        refine Htb.out.mono ?_
        rintro e w2 ⟨rfl, rfl⟩
        go_wp2
        go_ret
        exact ⟨by rw [HSK.out]; rfl, by rw [HSK.out]; exact Hn1.out⟩
      case neg =>
        rw [if_pos ⟨hT, hT2, hwt⟩] at hSK
        have e1 : (who == to) = false := by simpa using hwt
        have how := fun w : World => Owner_calls (w := w) p h.good.fine now
        have hfl := fun (w' : World) (hb : Below w1.heap.size w1 w') => Flow_calls (hk.step hb) who to
        have hld := fun (w' : World) (hb : Below w1.heap.size w1 w') => leads_calls (hk.step hb) who
        have r0 := cells_at hk.root 0
        have r1 := cells_at hk.root 1
        have r2 := cells_at hk.root 2
        simp only [Pl.cells] at how
        have Hh := Lib.hid h; clear h
        have Hk := Lib.hid hk; clear hk
        have HTT := Lib.hid (And.intro hT (And.intro hT2 hwt)); clear hT hT2 hwt
        have C1 := Lib.hid c1; clear c1
        have Z1 := Lib.hid z1; clear z1
        have Hfl := Lib.hid hfl; clear hfl
        have Hld := Lib.hid hld; clear hld
        have Hbd := Lib.hid hbd; clear hbd
        generalize ownOf p now = O at *
        generalize flowOf n who to = FL at *
        have How := Lib.hid how; clear how
        have HSK := Lib.hid hSK; clear hSK
        go_enter Tryd.func15, Tryd.ntmps15
        go_wp2_with fail
        rw [← hw1]
        clear hw1
        refine Hta.out.mono ?_
        rintro e w2 ⟨rfl, rfl⟩
        go_wp2_with fail
        refine Htb.out.mono ?_
        rintro e w2 ⟨rfl, rfl⟩
        go_wp2_with fail
        clear r0 r1 r2
        refine (How.out _).mono ?_
        rintro e w3 ⟨rfl, b3⟩
        have B3 := Lib.hid b3; clear b3
        by_cases ho : O = who
        case neg =>
          have e2 : (O != who) = true := by simpa using ho
          have hSK := HSK.out
          rw [if_neg ho] at hSK
          have hn := Hn1.out.then B3.out
          clear HSK ho
          have HSK := Lib.hid hSK; clear hSK
          have Hn := Lib.hid hn; clear hn
          go_wp2
          go_ret
          exact ⟨by rw [HSK.out]; rfl, by rw [HSK.out]; exact Hn.out⟩
        case pos =>
          have e2 : (O != who) = false := by simpa using ho
          have hSK := HSK.out
          rw [if_pos ho] at hSK
          clear HSK ho
          have HSK := Lib.hid hSK; clear hSK
          go_wp2_with fail
          refine (Hfl.out _ B3.out).mono ?_
          rintro e w4 ⟨rfl, b4⟩
          have b14 := B3.out.trans (b4.mono B3.out.size)
          clear B3 b4 How Hfl Hta Htb
          have B4 := Lib.hid b14; clear b14
          cases FL with
          | false =>
            have hSK := HSK.out
            rw [if_neg (by decide)] at hSK
            have hn := Hn1.out.then B4.out
            clear HSK
            have HSK := Lib.hid hSK; clear hSK
            have Hn := Lib.hid hn; clear hn
            go_wp2
            go_ret
            exact ⟨by rw [HSK.out]; rfl, by rw [HSK.out]; exact Hn.out⟩
          | true =>
            have hSK := HSK.out
            rw [if_pos rfl] at hSK
            clear HSK
            have HSK := Lib.hid hSK; clear hSK
            obtain ⟨g1, g2, g3⟩ := HTT.out
            have qa := of_decide_eq_true g1
            have qb := of_decide_eq_true g2
            clear g1 g2
            by_cases hc : who = (n : Int)
            · have hSK := HSK.out
              rw [if_pos hc] at hSK
              clear HSK
              have HSK := Lib.hid hSK; clear hSK
              have hgx : ¬ (n : Int) = to := by rw [← hc]; exact g3
              subst hc
              have hld := Hld.out
              rw [decide_eq_true rfl] at hld
              have hc : True := trivial
              have hla := hld _ (B4.out.trans (((Below.refl w4.heap.size w4).alloc (Nat.le_refl _) (.cells #[.int .i64 (n : Int), .int .i64 1] 84)).mono B4.out.size))
              have Hla := Lib.hid hla; clear hla hld Hld
              go_wp2_with fail
              refine Hla.out.mono ?_
              rintro e w5' ⟨rfl, rfl⟩
              clear Hla
              have hin : Inside n (to, 0) := ⟨qb.1, (by show to < (n : Int); have := qb.2; omega), .inl rfl⟩
              obtain ⟨b, he⟩ := (Hh.out.dom _).1 hin
              clear hin hc
              have hfi := fun w : World => fits_calls (w := w) (to, 0) (k, pa, t, x)
              obtain ⟨w5, hw5⟩ : ∃ w5, w5 = w4.alloc (.cells #[.int .i64 to, .int .i64 0] 84) := ⟨_, rfl⟩
              have b5 : Below w4.heap.size w4 w5 := by rw [hw5]; exact (Below.refl _ _).alloc (Nat.le_refl _) _
              have z5 : w5.heap[w4.heap.size]? = some (.cells #[.int .i64 to, .int .i64 0] 84 (0, 0)) := by rw [hw5]; exact heap_alloc_new w4 _
              have b15 := B4.out.trans (b5.mono B4.out.size)
              have y5 := (b15.block _ (Array.getElem?_eq_some_iff.1 Z1.out).1).trans Z1.out
              have a0 : w5.cell? ⟨w.heap.size, 0, none⟩ = some (.int .i64 k) := cells_at y5 0
              have a1 : w5.cell? ⟨w.heap.size, 1, none⟩ = some (.int .i64 pa) := cells_at y5 1
              have a2 : w5.cell? ⟨w.heap.size, 2, none⟩ = some (.int .i64 t) := cells_at y5 2
              have a3 : w5.cell? ⟨w.heap.size, 3, none⟩ = some (.int .i64 x) := cells_at y5 3
              rw [hw5] at a0 a1 a2 a3
              simp only [Msg.cells, Msg.kind, Msg.part, Msg.tx, Msg.what, endV] at hfi
              generalize hF : fitsOf (to, 0) (k, pa, t, x) = F at *
              have HF := Lib.hid hF; clear hF
              have Hfi := Lib.hid hfi; clear hfi
              have Z5 := Lib.hid z5; clear z5
              have Y5 := Lib.hid y5; clear y5
              have B15 := Lib.hid b15; clear b15
              have He := Lib.hid he; clear he
              clear b5
              go_wp2_with fail
              rw [← hw5]
              clear hw5 a0 a1 a2 a3
              refine (Hfi.out _).mono ?_
              rintro e w6 ⟨rfl, b6⟩
              have hb := B15.out.trans (b6.mono B15.out.size)
              have hz := (b6.block _ (Array.getElem?_eq_some_iff.1 Z5.out).1).trans Z5.out
              have hy := (b6.block _ (Array.getElem?_eq_some_iff.1 Y5.out).1).trans Y5.out
              clear B15 Z5 Y5 b6 Hfi
              have B6 := Lib.hid hb; clear hb
              have Y6 := Lib.hid hy; clear hy
              cases F with
              | false =>
                have hSK := HSK.out
                rw [if_neg (by decide)] at hSK
                have hn := Hn1.out.then B6.out
                clear HSK hz
                have HSK := Lib.hid hSK; clear hSK
                have Hn := Lib.hid hn; clear hn
                go_wp2
                go_ret
                exact ⟨by rw [HSK.out]; rfl, by rw [HSK.out]; exact Hn.out⟩
              | true =>
                have hSK := HSK.out
                rw [if_pos rfl] at hSK
                clear HSK
                have HSK := Lib.hid hSK; clear hSK
                have hk6 := Hk.out.step B6.out
                have hl := run_look_one hk6 He.out
                have r6 := cell_regrown (cells_at hk6.root 6)
                have q0 := cell_regrown (cells_at hz 0)
                have q1 := cell_regrown (cells_at hz 1)
                have Hk6 := Lib.hid hk6; clear hk6
                clear hz
                go_wp2_with fail
                refine wp_region_quiet_below (by kernel_rfl) (by kernel_rfl) ?_
                repeat (go_big_quiet_step (fail))
                refine wpQuiet_nil ?_
                intro wq hwq
                have bk : Below w6.heap.size w6 wq := by obtain ⟨q, rfl⟩ := hwq; exact below_regrown _ _ _
                clear hwq hl r6 q0 q1
                have Bk := Lib.hid bk; clear bk
                go_wp2_with fail
                refine wp_region_free [0, 1, 2, 3, 4, 5, 6, 7, 8, 9, 10] (by kernel_rfl) (by kernel_rfl) rfl (by kernel_rfl) (fun _ _ _ h => by obtain ⟨_, h, _⟩ := h; cases h) (fun _ _ h => by obtain ⟨h, _⟩ := h; cases h) ?_
                simp only [List.map_cons, List.map_nil, List.getD_cons_zero, List.getD_cons_succ]
                have b7 := Bk.out.trans ((below_drew wq).mono Bk.out.size)
                generalize wq.drew = w7 at b7 ⊢
                have hk7 := Hk6.out.step b7
                have hy := (b7.block _ (Array.getElem?_eq_some_iff.1 Y6.out).1).trans Y6.out
                have hb7 := B6.out.trans (b7.mono B6.out.size)
                clear Bk b7 Hk6 Y6 B6
                obtain ⟨ov, xb, h1, h2, h3, h4, hnext⟩ := (hk7.fit He.out).sent
                have hlow := (hk7.fit He.out).low
                obtain ⟨oa, oc, hov⟩ := own_slice h2
                obtain ⟨L, hL⟩ : ∃ L, L = (st (to, 0)).1.length := ⟨_, rfl⟩
                have hLb : L ≤ 1000000 := by rw [hL]; exact Hbd.out _
                rw [← hL] at hov
                subst hov
                have c0 : w7.cell? ⟨b, 0, none⟩ = some (.slice oa L oc) := cells_at h1 0
                have d0 : w7.cell? ⟨w.heap.size, 0, none⟩ = some (.int .i64 k) := cells_at hy 0
                have d1 : w7.cell? ⟨w.heap.size, 1, none⟩ = some (.int .i64 pa) := cells_at hy 1
                have d2 : w7.cell? ⟨w.heap.size, 2, none⟩ = some (.int .i64 t) := cells_at hy 2
                have d3 : w7.cell? ⟨w.heap.size, 3, none⟩ = some (.int .i64 x) := cells_at hy 3
                have HL := Lib.hid hL; clear hL
                have H1 := Lib.hid h1; clear h1
                have H2 := Lib.hid h2; clear h2
                have H34 := Lib.hid (And.intro h3 (And.intro h4 hlow))
                have Hnext := Lib.hid hnext; clear hnext
                have Hk7 := Lib.hid hk7; clear hk7
                have B7 := Lib.hid hb7; clear hb7
                clear h3 h4 hlow hy
                obtain ⟨ti, hti, hz0, hz1, hz2⟩ := info_parts Tryd.infoMsg
                go_wp2_with (with_reducible refine stop_builtin .append ?_)
                have hx8 := heap_alloc_new w7 (.cells #[.int .i64 k, .int .i64 pa, .int .i64 t, .int .i64 x] 39)
                have b8 : Below w7.heap.size w7 (w7.alloc (.cells #[.int .i64 k, .int .i64 pa, .int .i64 t, .int .i64 x] 39)) := (Below.refl _ _).alloc (Nat.le_refl _) _
                have hz8 : (w7.alloc (.cells #[.int .i64 k, .int .i64 pa, .int .i64 t, .int .i64 x] 39)).heap.size = w7.heap.size + 1 := by simp
                generalize w7.alloc (.cells #[.int .i64 k, .int .i64 pa, .int .i64 t, .int .i64 x] 39) = w8 at hx8 b8 hz8 ⊢
                have hrow8 : MOwn w8 w0.heap.size (.slice oa L oc) (st (to, 0)).1 := H2.out.keep fun g _ hg => b8.block g hg
                have hlt0 := Hk7.out.bel.size
                refine unpark ?_
                refine wpList_append_row _ rfl _ _ 44 (by rfl) w0.heap.size 39 ti (.agg #[.int .i64 0, .int .i64 0, .int .i64 0, .int .i64 0]) 4 32 Tryd.underlying44 hti hz0 hz1 hz2 rfl (by decide) (.slice oa L oc) (st (to, 0)).1.length (mrow (st (to, 0)).1) (by rfl) hrow8 w7.heap.size 0 1 1 (Msg.cells (k, pa, t, x)) (by rfl) rfl (by decide)
                  (fun j' u hu => by rw [Nat.zero_add, cells_at hx8 j']; simpa [Msg.cells] using hu) (fun u hu => by simp [Msg.cells] at hu; rcases hu with rfl | rfl | rfl | rfl <;> rfl) (by have := HL.out; unfold maxLen; omega) (by have := HL.out; omega) (by omega) ?_
                intro v' w9 hown hg9 hv9
                have own9 : MOwn w9 w0.heap.size v' ((st (to, 0)).1 ++ [(k, pa, t, x)]) := by
                  have e : mrow ((st (to, 0)).1 ++ [(k, pa, t, x)]) = mrow (st (to, 0)).1 ++ Msg.cells (k, pa, t, x) := by rw [mrow_append]; simp [mrow]
                  unfold MOwn
                  rw [e, List.length_append]
                  exact hown
                have same9 : ∀ y, y < w7.heap.size → (Value.slice oa L oc).ownBlock ≠ some y → w9.heap[y]? = w7.heap[y]? := fun y hy hn => (hg9.block y (by omega) fun e => hn e.symm).trans (b8.block y hy)
                obtain ⟨h3, h4, hlow⟩ := H34.out
                have hbl := (hlow b h4).2
                have r9 : w9.heap[b]? = some (.cells #[.slice oa L oc, .pointer (some ⟨xb, 0, none⟩)] 82 (0, 0)) := (same9 b hbl fun e => (h3 b e).2 rfl).trans H1.out
                have vb : ∀ g, v'.ownBlock = some g → g ≠ b ∧ ((Value.slice oa L oc).ownBlock = some g ∨ w7.heap.size ≤ g) := fun g hg => by
                  rcases hv9 with e | e
                  · rw [e] at hg
                    exact ⟨(h3 g hg).2, .inl hg⟩
                  · rw [e] at hg
                    cases hg
                    exact ⟨by omega, .inr (by omega)⟩
                have m9 : Mod (fun k => k = b ∨ (Value.slice oa L oc).ownBlock = some k) w7 w9 := ⟨hg9.os.trans b8.os, hg9.tape.trans b8.tape, hg9.output.trans b8.output, Nat.le_trans b8.size hg9.size, fun y hy hn => same9 y hy fun e => hn (.inr e)⟩
                clear hown same9 hg9 hv9 hx8 b8 hz8 hrow8 c0 d0 d1 d2 d3 hti hz0 hz1 hz2 h3 h4 hlow H1 H2
                have R9 := Lib.hid r9; clear r9
                have Own9 := Lib.hid own9; clear own9
                have Vb := Lib.hid vb; clear vb
                have M9 := Lib.hid m9; clear m9
                go_wp2_with (with_reducible refine stop_store 44 ?_)
                refine unpark ?_
                refine wpList_store_at rfl _ _ _ rfl b 0 rfl v' rfl [v'] (by obtain ⟨va, vc, e⟩ := own_slice Own9.out; rw [e]; rfl) _ _ R9.out 1 rfl (by simp) (fun u hu => by obtain ⟨va, vc, e⟩ := own_slice Own9.out; rw [List.mem_singleton] at hu; rw [hu, e]; rfl) (by kernel_rfl) ?_
                intro wz hz hg _
                have mz : Mod (fun k => k = b ∨ (Value.slice oa L oc).ownBlock = some k) w9 wz := Mod.of_grown hg fun k e => by cases e; exact .inl rfl
                have hownz : MOwn wz w0.heap.size v' ((st (to, 0)).1 ++ [(k, pa, t, x)]) := Own9.out.keep fun g hgo hl => hg.block g hl fun e => (Vb.out g hgo).1 (by cases e; rfl)
                obtain ⟨hway, hmod⟩ := Hnext.out wz v' _ hz hownz (M9.out.trans mz (fun _ h => h) (fun _ _ h => h)) fun g hgo => (Vb.out g hgo).2
                have hn := (KnNext.set (st := st) Hk7.out (Below.refl _ _) He.out hway hmod).after (C1.out.trans (B7.out.mono C1.out.size))
                clear hway hmod hownz mz hz hg Own9 M9 Hnext R9 H34
                have Hn := Lib.hid hn; clear hn
                go_wp2
                go_ret
                exact ⟨by rw [HSK.out]; rfl, by rw [HSK.out]; exact Hn.out⟩
            · have hSK := HSK.out
              rw [if_neg hc] at hSK
              clear HSK
              have HSK := Lib.hid hSK; clear hSK
              have hld := Hld.out
              rw [decide_eq_false hc] at hld
              have hla := hld _ (B4.out.trans (((Below.refl w4.heap.size w4).alloc (Nat.le_refl _) (.cells #[.int .i64 who, .int .i64 1] 84)).mono B4.out.size))
              have Hla := Lib.hid hla; clear hla hld Hld
              go_wp2_with fail
              refine Hla.out.mono ?_
              rintro e w5' ⟨rfl, rfl⟩
              clear Hla
              have hin : Inside n (who, 1) := ⟨qa.1, (by show who < (n : Int); have := qa.2; omega), .inr rfl⟩
              obtain ⟨b, he⟩ := (Hh.out.dom _).1 hin
              clear hin hc
              have hfi := fun w : World => fits_calls (w := w) (who, 1) (k, pa, t, x)
              obtain ⟨w5, hw5⟩ : ∃ w5, w5 = w4.alloc (.cells #[.int .i64 who, .int .i64 1] 84) := ⟨_, rfl⟩
              have b5 : Below w4.heap.size w4 w5 := by rw [hw5]; exact (Below.refl _ _).alloc (Nat.le_refl _) _
              have z5 : w5.heap[w4.heap.size]? = some (.cells #[.int .i64 who, .int .i64 1] 84 (0, 0)) := by rw [hw5]; exact heap_alloc_new w4 _
              have b15 := B4.out.trans (b5.mono B4.out.size)
              have y5 := (b15.block _ (Array.getElem?_eq_some_iff.1 Z1.out).1).trans Z1.out
              have a0 : w5.cell? ⟨w.heap.size, 0, none⟩ = some (.int .i64 k) := cells_at y5 0
              have a1 : w5.cell? ⟨w.heap.size, 1, none⟩ = some (.int .i64 pa) := cells_at y5 1
              have a2 : w5.cell? ⟨w.heap.size, 2, none⟩ = some (.int .i64 t) := cells_at y5 2
              have a3 : w5.cell? ⟨w.heap.size, 3, none⟩ = some (.int .i64 x) := cells_at y5 3
              rw [hw5] at a0 a1 a2 a3
              simp only [Msg.cells, Msg.kind, Msg.part, Msg.tx, Msg.what, endV] at hfi
              generalize hF : fitsOf (who, 1) (k, pa, t, x) = F at *
              have HF := Lib.hid hF; clear hF
              have Hfi := Lib.hid hfi; clear hfi
              have Z5 := Lib.hid z5; clear z5
              have Y5 := Lib.hid y5; clear y5
              have B15 := Lib.hid b15; clear b15
              have He := Lib.hid he; clear he
              clear b5
              go_wp2_with fail
              rw [← hw5]
              clear hw5 a0 a1 a2 a3
              refine (Hfi.out _).mono ?_
              rintro e w6 ⟨rfl, b6⟩
              have hb := B15.out.trans (b6.mono B15.out.size)
              have hz := (b6.block _ (Array.getElem?_eq_some_iff.1 Z5.out).1).trans Z5.out
              have hy := (b6.block _ (Array.getElem?_eq_some_iff.1 Y5.out).1).trans Y5.out
              clear B15 Z5 Y5 b6 Hfi
              have B6 := Lib.hid hb; clear hb
              have Y6 := Lib.hid hy; clear hy
              cases F with
              | false =>
                have hSK := HSK.out
                rw [if_neg (by decide)] at hSK
                have hn := Hn1.out.then B6.out
                clear HSK hz
                have HSK := Lib.hid hSK; clear hSK
                have Hn := Lib.hid hn; clear hn
                go_wp2
                go_ret
                exact ⟨by rw [HSK.out]; rfl, by rw [HSK.out]; exact Hn.out⟩
              | true =>
                have hSK := HSK.out
                rw [if_pos rfl] at hSK
                clear HSK
                have HSK := Lib.hid hSK; clear hSK
                have hk6 := Hk.out.step B6.out
                have hl := run_look_one hk6 He.out
                have r6 := cell_regrown (cells_at hk6.root 6)
                have q0 := cell_regrown (cells_at hz 0)
                have q1 := cell_regrown (cells_at hz 1)
                have Hk6 := Lib.hid hk6; clear hk6
                clear hz
                go_wp2_with fail
                refine wp_region_quiet_below (by kernel_rfl) (by kernel_rfl) ?_
                repeat (go_big_quiet_step (fail))
                refine wpQuiet_nil ?_
                intro wq hwq
                have bk : Below w6.heap.size w6 wq := by obtain ⟨q, rfl⟩ := hwq; exact below_regrown _ _ _
                clear hwq hl r6 q0 q1
                have Bk := Lib.hid bk; clear bk
                go_wp2_with fail
                refine wp_region_free [0, 1, 2, 3, 4, 5, 6, 7, 8, 9, 10] (by kernel_rfl) (by kernel_rfl) rfl (by kernel_rfl) (fun _ _ _ h => by obtain ⟨_, h, _⟩ := h; cases h) (fun _ _ h => by obtain ⟨h, _⟩ := h; cases h) ?_
                simp only [List.map_cons, List.map_nil, List.getD_cons_zero, List.getD_cons_succ]
                have b7 := Bk.out.trans ((below_drew wq).mono Bk.out.size)
                generalize wq.drew = w7 at b7 ⊢
                have hk7 := Hk6.out.step b7
                have hy := (b7.block _ (Array.getElem?_eq_some_iff.1 Y6.out).1).trans Y6.out
                have hb7 := B6.out.trans (b7.mono B6.out.size)
                clear Bk b7 Hk6 Y6 B6
                obtain ⟨ov, xb, h1, h2, h3, h4, hnext⟩ := (hk7.fit He.out).sent
                have hlow := (hk7.fit He.out).low
                obtain ⟨oa, oc, hov⟩ := own_slice h2
                obtain ⟨L, hL⟩ : ∃ L, L = (st (who, 1)).1.length := ⟨_, rfl⟩
                have hLb : L ≤ 1000000 := by rw [hL]; exact Hbd.out _
                rw [← hL] at hov
                subst hov
                have c0 : w7.cell? ⟨b, 0, none⟩ = some (.slice oa L oc) := cells_at h1 0
                have d0 : w7.cell? ⟨w.heap.size, 0, none⟩ = some (.int .i64 k) := cells_at hy 0
                have d1 : w7.cell? ⟨w.heap.size, 1, none⟩ = some (.int .i64 pa) := cells_at hy 1
                have d2 : w7.cell? ⟨w.heap.size, 2, none⟩ = some (.int .i64 t) := cells_at hy 2
                have d3 : w7.cell? ⟨w.heap.size, 3, none⟩ = some (.int .i64 x) := cells_at hy 3
                have HL := Lib.hid hL; clear hL
                have H1 := Lib.hid h1; clear h1
                have H2 := Lib.hid h2; clear h2
                have H34 := Lib.hid (And.intro h3 (And.intro h4 hlow))
                have Hnext := Lib.hid hnext; clear hnext
                have Hk7 := Lib.hid hk7; clear hk7
                have B7 := Lib.hid hb7; clear hb7
                clear h3 h4 hlow hy
                obtain ⟨ti, hti, hz0, hz1, hz2⟩ := info_parts Tryd.infoMsg
                go_wp2_with (with_reducible refine stop_builtin .append ?_)
                have hx8 := heap_alloc_new w7 (.cells #[.int .i64 k, .int .i64 pa, .int .i64 t, .int .i64 x] 39)
                have b8 : Below w7.heap.size w7 (w7.alloc (.cells #[.int .i64 k, .int .i64 pa, .int .i64 t, .int .i64 x] 39)) := (Below.refl _ _).alloc (Nat.le_refl _) _
                have hz8 : (w7.alloc (.cells #[.int .i64 k, .int .i64 pa, .int .i64 t, .int .i64 x] 39)).heap.size = w7.heap.size + 1 := by simp
                generalize w7.alloc (.cells #[.int .i64 k, .int .i64 pa, .int .i64 t, .int .i64 x] 39) = w8 at hx8 b8 hz8 ⊢
                have hrow8 : MOwn w8 w0.heap.size (.slice oa L oc) (st (who, 1)).1 := H2.out.keep fun g _ hg => b8.block g hg
                have hlt0 := Hk7.out.bel.size
                refine unpark ?_
                refine wpList_append_row _ rfl _ _ 44 (by rfl) w0.heap.size 39 ti (.agg #[.int .i64 0, .int .i64 0, .int .i64 0, .int .i64 0]) 4 32 Tryd.underlying44 hti hz0 hz1 hz2 rfl (by decide) (.slice oa L oc) (st (who, 1)).1.length (mrow (st (who, 1)).1) (by rfl) hrow8 w7.heap.size 0 1 1 (Msg.cells (k, pa, t, x)) (by rfl) rfl (by decide)
                  (fun j' u hu => by rw [Nat.zero_add, cells_at hx8 j']; simpa [Msg.cells] using hu) (fun u hu => by simp [Msg.cells] at hu; rcases hu with rfl | rfl | rfl | rfl <;> rfl) (by have := HL.out; unfold maxLen; omega) (by have := HL.out; omega) (by omega) ?_
                intro v' w9 hown hg9 hv9
                have own9 : MOwn w9 w0.heap.size v' ((st (who, 1)).1 ++ [(k, pa, t, x)]) := by
                  have e : mrow ((st (who, 1)).1 ++ [(k, pa, t, x)]) = mrow (st (who, 1)).1 ++ Msg.cells (k, pa, t, x) := by rw [mrow_append]; simp [mrow]
                  unfold MOwn
                  rw [e, List.length_append]
                  exact hown
                have same9 : ∀ y, y < w7.heap.size → (Value.slice oa L oc).ownBlock ≠ some y → w9.heap[y]? = w7.heap[y]? := fun y hy hn => (hg9.block y (by omega) fun e => hn e.symm).trans (b8.block y hy)
                obtain ⟨h3, h4, hlow⟩ := H34.out
                have hbl := (hlow b h4).2
                have r9 : w9.heap[b]? = some (.cells #[.slice oa L oc, .pointer (some ⟨xb, 0, none⟩)] 82 (0, 0)) := (same9 b hbl fun e => (h3 b e).2 rfl).trans H1.out
                have vb : ∀ g, v'.ownBlock = some g → g ≠ b ∧ ((Value.slice oa L oc).ownBlock = some g ∨ w7.heap.size ≤ g) := fun g hg => by
                  rcases hv9 with e | e
                  · rw [e] at hg
                    exact ⟨(h3 g hg).2, .inl hg⟩
                  · rw [e] at hg
                    cases hg
                    exact ⟨by omega, .inr (by omega)⟩
                have m9 : Mod (fun k => k = b ∨ (Value.slice oa L oc).ownBlock = some k) w7 w9 := ⟨hg9.os.trans b8.os, hg9.tape.trans b8.tape, hg9.output.trans b8.output, Nat.le_trans b8.size hg9.size, fun y hy hn => same9 y hy fun e => hn (.inr e)⟩
                clear hown same9 hg9 hv9 hx8 b8 hz8 hrow8 c0 d0 d1 d2 d3 hti hz0 hz1 hz2 h3 h4 hlow H1 H2
                have R9 := Lib.hid r9; clear r9
                have Own9 := Lib.hid own9; clear own9
                have Vb := Lib.hid vb; clear vb
                have M9 := Lib.hid m9; clear m9
                go_wp2_with (with_reducible refine stop_store 44 ?_)
                refine unpark ?_
                refine wpList_store_at rfl _ _ _ rfl b 0 rfl v' rfl [v'] (by obtain ⟨va, vc, e⟩ := own_slice Own9.out; rw [e]; rfl) _ _ R9.out 1 rfl (by simp) (fun u hu => by obtain ⟨va, vc, e⟩ := own_slice Own9.out; rw [List.mem_singleton] at hu; rw [hu, e]; rfl) (by kernel_rfl) ?_
                intro wz hz hg _
                have mz : Mod (fun k => k = b ∨ (Value.slice oa L oc).ownBlock = some k) w9 wz := Mod.of_grown hg fun k e => by cases e; exact .inl rfl
                have hownz : MOwn wz w0.heap.size v' ((st (who, 1)).1 ++ [(k, pa, t, x)]) := Own9.out.keep fun g hgo hl => hg.block g hl fun e => (Vb.out g hgo).1 (by cases e; rfl)
                obtain ⟨hway, hmod⟩ := Hnext.out wz v' _ hz hownz (M9.out.trans mz (fun _ h => h) (fun _ _ h => h)) fun g hgo => (Vb.out g hgo).2
                have hn := (KnNext.set (st := st) Hk7.out (Below.refl _ _) He.out hway hmod).after (C1.out.trans (B7.out.mono C1.out.size))
                clear hway hmod hownz mz hz hg Own9 M9 Hnext R9 H34
                have Hn := Lib.hid hn; clear hn
                go_wp2
                go_ret
                exact ⟨by rw [HSK.out]; rfl, by rw [HSK.out]; exact Hn.out⟩
end
end Go.Proofs.YtclgakdfeeefiaaDoor
