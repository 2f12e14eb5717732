/- Kernels: Recv. -/
import Derived.Test.YtclgakdfeeefiaaDoorKern7
namespace Go.Proofs.YtclgakdfeeefiaaDoor
open Go.RowKit

theorem results_row2 {P : Program} {fn : Func} {p u : Tmp} {ty : TypeId} (h : fn.results = #[.cell p ty, .tmp u]) (tmps : Array Value) (w : World) (g : Nat) (t : TypeId) (cs : Array Value) (fr : Nat × Nat) (d : TypeDesc)
    (hp : tmps.getD p undef = .pointer (some ⟨g, 0, none⟩)) (hg : w.heap[g]? = some (.cells cs t fr))
    (hu : P.underlying ty = some d) (hd : (match d with | .struct _ | .array _ _ => true | _ => false) = true) (hi : (P.info? ty).map (·.size) = some cs.size) :
    (results fn tmps).run P w = .ok (.tuple #[.agg cs, tmps.getD u undef]) w := by
  have hp' : tmps[p]?.getD undef = .pointer (some ⟨g, 0, none⟩) := by simpa using hp
  rw [results_cell_tmp h]
  simp [hp', asAddr, run_loadVar_row w g t ty cs fr d hg hu hd hi]
theorem Owner_fine {p : Pl} (h : p.good) : p.fine := h.fine
/-- What is received, and what the ways are then. -/
def recvK (n : Nat) (p : Pl) (st : End → List Msg × List Msg) (who q i now : Int) : (Msg × Int) × (End → List Msg × List Msg) :=
  let e : End := (q, dirOf (decide (who = (n : Int))))
  if thereB n who = true ∧ Inside n e then
    if ownOf p now = who then
      let r := takeOf (labOf n q) (st e).2 (labOf n who) 0 i
      ((r.1, r.2.1), updE st e ((st e).1, r.2.2))
    else ((noMsg, 23), st)
  else ((noMsg, 11), st)
section
variable {w0 w w4 w5 w6 : World} {kb gb tb tc mb n : Nat} {ws : List (End × Nat)} {FW : End → Nat → Prop} {p : Pl} {st st' : End → List Msg × List Msg}
/-- A cell of the call's own is stored behind the kernel's turn. -/
theorem KnNext.result {g : Nat} (h : KnAt w0 w kb gb tb tc mb n ws FW p st) (hb : Below w.heap.size w w4) (hlt : g < w4.heap.size) (hg : w.heap.size ≤ g) (hn : KnNext w0 w4 w5 kb gb tb tc mb n ws FW p st') (hgr : w5.grownBy w6 (some g)) (hs : w6.heap.size = w5.heap.size) :
    KnNext w0 w w6 kb gb tb tc mb n ws FW p st' := by
  obtain ⟨FW', k1, k2, k3⟩ := hn
  have hm : Mod (fun k => k = g) w5 w6 := Mod.of_grown hgr fun k e => by cases e; rfl
  have hl := h.lt
  refine ⟨FW', k1.aside hm ?_ ?_, ?_, fun k hk => ?_⟩
  · rintro k ((rfl | rfl | rfl | rfl) | hk) hk'
    · have : k = g := hk'; omega
    · have : k = g := hk'; omega
    · have : k = g := hk'; omega
    · have : k = g := hk'; omega
    · have e : k = g := hk'
      rcases k3 k hk with ⟨e', hk⟩ | hk
      · have := (h.flow hk).2; omega
      · omega
  · intro k e
    have e : k = g := e
    have := h.bel.size
    omega
  · exact ((Mod.of_below (F := KF FW) hb).trans k2 (H := KF FW) (fun _ h => h) (fun _ _ h => h)).trans hm (fun _ h => h) fun k hk e => by
      have e : k = g := e
      omega
  · rcases k3 k hk with hk | hk
    · exact .inl hk
    · exact .inr ⟨Nat.le_trans hb.size hk.1, by omega⟩
set_option maxHeartbeats 8000000 in
theorem Recv_calls (h : KnAt w0 w kb gb tb tc mb n ws FW p st) (who q i now : Int) : Calls Tryd.prog 16 #[.pointer (some ⟨kb, 0, none⟩), .int .i64 who, .int .i64 q, .int .i64 i, .int .i64 now] w fun e w' =>
    e = .returned (.tuple #[.agg (recvK n p st who q i now).1.1.cells.toArray, .int .i64 (recvK n p st who q i now).1.2]) ∧ KnNext w0 w w' kb gb tb tc mb n ws FW p (recvK n p st who q i now).2 := by
  obtain ⟨w1, hw1⟩ : ∃ w1, w1 = w.alloc (.cells #[.int .i64 0, .int .i64 0, .int .i64 0, .int .i64 0] 39) := ⟨_, rfl⟩
  have c1 : Below w.heap.size w w1 := by rw [hw1]; exact (Below.refl _ _).alloc (Nat.le_refl _) _
  have z1 : w1.heap[w.heap.size]? = some (.cells #[.int .i64 0, .int .i64 0, .int .i64 0, .int .i64 0] 39 (0, 0)) := by rw [hw1]; exact heap_alloc_new w _
  have hk := h.step c1
  have hle : ∀ w', Below w1.heap.size w1 w' → Calls Tryd.prog 45 #[.pointer (some ⟨kb, 0, none⟩), .int .i64 who] w' fun e w'' => e = .returned (.bool (decide (who = (n : Int)))) ∧ Below w'.heap.size w' w'' := fun w' hb => (leads_calls (hk.step hb) who).mono fun _ _ h => ⟨h.1, by rw [← h.2]; exact Below.refl _ _⟩
  have hto : ∀ w' : World, Calls Tryd.prog 47 #[.bool (decide (who = (n : Int)))] w' fun e w'' => e = .returned (.int .i64 (dirOf (decide (who = (n : Int))))) ∧ Below w'.heap.size w' w'' := fun w' => (to_calls _).mono fun _ _ h => ⟨h.1, by rw [← h.2]; exact Below.refl _ _⟩
  have r6 := cell_regrown (cells_at hk.root 6)
  have hth := fun (w' : World) (hb : Below w1.heap.size w1 w') => kthere_calls (hk.step hb) who
  obtain ⟨RK, hRK⟩ : ∃ R, R = recvK n p st who q i now := ⟨_, rfl⟩
  rw [← hRK]
  unfold recvK at hRK
  simp only at hRK
  generalize decide (who = (n : Int)) = u at *
  generalize dirOf u = d at *
  generalize hT : thereB n who = T at *
  have Hth := Lib.hid hth; clear hth
  have Hle := Lib.hid hle; clear hle
  have Hto := Lib.hid hto; clear hto
  have C := Lib.hid c1; clear c1
  have Z1 := Lib.hid z1; clear z1
  by_cases hin : Inside n (q, d)
  · obtain ⟨b, he⟩ := (h.dom _).1 hin
    have hl := run_look_in hk he
    have Hh := Lib.hid h; clear h
    have Hk := Lib.hid hk; clear hk
    have He := Lib.hid he; clear he
    have HRK := Lib.hid hRK; clear hRK
    have HT := Lib.hid hT; clear hT
    have Hin := Lib.hid hin; clear hin
    go_enter Tryd.func16, Tryd.ntmps16
    go_wp2_with fail
    rw [← hw1]
    clear hw1
    refine wp_region_quiet_below (by kernel_rfl) (by kernel_rfl) ?_
    repeat (go_big_quiet_step ((first | (go_at_call 45; exact Calls.regrown_of (Hle.out _ (below_regrown _ _ _))) | (go_at_call 47; exact Calls.regrown_of (Hto.out _)))))
    refine wpQuiet_nil ?_
    intro wq hwq
    have bk : Below w1.heap.size w1 wq := by obtain ⟨q, rfl⟩ := hwq; exact below_regrown _ _ _
    clear hwq hl r6 Hle Hto
    have Bk := Lib.hid bk; clear bk
    go_wp2_with fail
    refine (Hth.out _ Bk.out).mono ?_
    rintro e w2 ⟨rfl, rfl⟩
    have cb := C.out.trans (Bk.out.mono C.out.size)
    have zr := (Bk.out.block _ (Array.getElem?_eq_some_iff.1 Z1.out).1).trans Z1.out
    have hkq := Hk.out.step Bk.out
    have lt := (Array.getElem?_eq_some_iff.1 zr).1
    have Cb := Lib.hid cb; clear cb
    have Zr := Lib.hid zr; clear zr
    have Lt := Lib.hid lt; clear lt
    have Hkq := Lib.hid hkq; clear hkq
    cases T with
    | false =>
      have hRK := HRK.out
      rw [if_neg (by rintro ⟨h, -⟩; cases h)] at hRK
      clear HRK
      have HRK := Lib.hid hRK; clear hRK
      go_wp2_with (with_reducible refine stop_store 39 ?_)
      refine unpark ?_
      refine wpList_store_at rfl _ _ _ rfl w.heap.size 0 rfl _ rfl [.int .i64 0, .int .i64 0, .int .i64 0, .int .i64 0] rfl _ _ Zr.out 4 rfl (by simp) (by simp [Value.oneCell']) Tryd.sizeMsg ?_
      intro w9 hz hg hs
      have zf : w9.heap[w.heap.size]? = some (.cells #[.int .i64 0, .int .i64 0, .int .i64 0, .int .i64 0] 39 (0, 0)) := hz
      have hn := KnNext.result Hh.out Cb.out Lt.out (Nat.le_refl _) (KnNext.below Hkq.out (Below.refl _ _)) hg hs
      clear hz hg hs Zr
      have ZF := Lib.hid zf; clear zf
      have HN := Lib.hid hn; clear hn
      go_wp2
      refine bodyPost_ret (results_row2 Tryd.results16 _ _ w.heap.size 39 _ _ _ rfl ZF.out Tryd.underlying39 rfl (by kernel_rfl)) rfl ?_
      exact ⟨by rw [HRK.out]; rfl, by rw [HRK.out]; exact HN.out⟩
    | true =>
      have hRK := HRK.out
      rw [if_pos ⟨rfl, Hin.out⟩] at hRK
      clear HRK
      have HRK := Lib.hid hRK; clear hRK
      have how := fun w : World => Owner_calls (w := w) p Hh.out.good.fine now
      have r0 := cells_at Hkq.out.root 0
      have r1 := cells_at Hkq.out.root 1
      have r2 := cells_at Hkq.out.root 2
      simp only [Pl.cells] at how
      generalize ownOf p now = O at *
      have How := Lib.hid how; clear how
      go_wp2_with fail
      clear r0 r1 r2
      refine (How.out _).mono ?_
      rintro e w3 ⟨rfl, b3⟩
      have cb := Cb.out.trans (b3.mono Cb.out.size)
      have zr := (b3.block _ (Array.getElem?_eq_some_iff.1 Zr.out).1).trans Zr.out
      have hkq := Hkq.out.step b3
      have lt := (Array.getElem?_eq_some_iff.1 zr).1
      clear Cb Zr Lt Hkq b3 How Bk C Z1 Hk Hth
      have Cb := Lib.hid cb; clear cb
      have Zr := Lib.hid zr; clear zr
      have Lt := Lib.hid lt; clear lt
      have Hkq := Lib.hid hkq; clear hkq
      by_cases ho : O = who
      case neg =>
        have e1 : (O != who) = true := by simpa using ho
        have hRK := HRK.out
        rw [if_neg ho] at hRK
        clear HRK ho
        have HRK := Lib.hid hRK; clear hRK
        go_wp2_with (with_reducible refine stop_store 39 ?_)
        refine unpark ?_
        refine wpList_store_at rfl _ _ _ rfl w.heap.size 0 rfl _ rfl [.int .i64 0, .int .i64 0, .int .i64 0, .int .i64 0] rfl _ _ Zr.out 4 rfl (by simp) (by simp [Value.oneCell']) Tryd.sizeMsg ?_
        intro w9 hz hg hs
        have zf : w9.heap[w.heap.size]? = some (.cells #[.int .i64 0, .int .i64 0, .int .i64 0, .int .i64 0] 39 (0, 0)) := hz
        have hn := KnNext.result Hh.out Cb.out Lt.out (Nat.le_refl _) (KnNext.below Hkq.out (Below.refl _ _)) hg hs
        clear hz hg hs Zr
        have ZF := Lib.hid zf; clear zf
        have HN := Lib.hid hn; clear hn
        go_wp2
        refine bodyPost_ret (results_row2 Tryd.results16 _ _ w.heap.size 39 _ _ _ rfl ZF.out Tryd.underlying39 rfl (by kernel_rfl)) rfl ?_
        exact ⟨by rw [HRK.out]; rfl, by rw [HRK.out]; exact HN.out⟩
      case pos =>
        have e1 : (O != who) = false := by simpa using ho
        have hRK := HRK.out
        rw [if_pos ho] at hRK
        clear HRK ho
        obtain ⟨g1, g2⟩ := of_decide_eq_true HT.out
        obtain ⟨i1, i2, -⟩ := Hin.out
        simp only at i1 i2
        obtain ⟨W, rfl⟩ : ∃ W : Nat, who = (W : Int) := ⟨who.toNat, by omega⟩
        obtain ⟨ov, xb, Fb, h1, h3, hfb, hnext⟩ := (Hkq.out.fit He.out).boxed
        have h3 : Bx w0 w3 xb Fb (labOf n q) 8 (st (q, d)).2 := h3
        obtain ⟨t0, t1⟩ := tag_cells Hkq.out (q := W) (by omega)
        obtain ⟨l1, l2, hlab⟩ : ∃ x y, labOf n (W : Int) = (x, y) := ⟨_, _, rfl⟩
        obtain ⟨⟨TM, TE, TS⟩, hTK⟩ : ∃ t, t = takeOf (labOf n q) (st (q, d)).2 (labOf n (W : Int)) 0 i := ⟨_, rfl⟩
        rw [← hTK] at hRK
        rw [hlab] at t0 t1 hTK
        obtain ⟨m0, m1, m2, m3⟩ := TM
        simp only at hRK
        have z1 : w3.cell? ⟨b, 1, none⟩ = some (.pointer (some ⟨xb, 0, none⟩)) := cells_at h1 1
        have r4 : w3.cell? ⟨kb, 4, none⟩ = some (.slice (some ⟨tb, 0, none⟩) (n + 1) tc) := cells_at Hkq.out.root 4
        have H3 := Lib.hid h3; clear h3
        have Hnext := Lib.hid hnext; clear hnext
        have HRK := Lib.hid hRK; clear hRK
        have HTK := Lib.hid hTK; clear hTK hlab
        have hfl : ¬ Fb w.heap.size := fun hk => by have := (Hh.out.flow (hfb _ hk)).2; omega
        have Hfl := Lib.hid hfl; clear hfl hfb h1
        have RR := Lib.hid (And.intro t0 (And.intro t1 (And.intro z1 r4))); clear t0 t1 z1 r4
        go_wp2_with fail
        have s0 := below_drew w3
        refine wp_region_held (fun w' : World => Below w3.heap.size w3 w') [0, 1, 2, 3, 4, 5, 6, 7, 8, 9, 10, 11] [[12, 13, 14, 15, 16]] (by kernel_rfl) (by kernel_rfl) rfl (by kernel_rfl) (fun _ _ _ h => by obtain ⟨_, h, _⟩ := h; cases h) (fun _ _ h => by obtain ⟨h, _⟩ := h; cases h) s0 (by kernel_rfl) ?_
        generalize w3.drew = wd at s0 ⊢
        apply Exists.intro
        apply And.intro
        · intro w' s
          obtain ⟨t0, t1, z1, r4⟩ := RR.out
          have t0 := (s.cell (World.block_lt_of_cell? _ _ t0)).trans t0
          have t1 := (s.cell (World.block_lt_of_cell? _ _ t1)).trans t1
          have z1 := (s.cell (World.block_lt_of_cell? _ _ z1)).trans z1
          have r4 := (s.cell (World.block_lt_of_cell? _ _ r4)).trans r4
          have i3 : (W : Int) < ((n + 1 : Nat) : Int) := by omega
          have i4 : W < n + 1 := by omega
          clear s
          simp only [List.map_cons, List.map_nil, List.getD_cons_zero, List.getD_cons_succ]
          go_wp2_with fail
          exact pre_end
        have Hs0 := Lib.hid s0; clear s0
        simp only [List.map_cons, List.map_nil, List.getD_cons_zero, List.getD_cons_succ]
        refine segs_last ?_
        have hta := Take_bx (H3.out.step Hs0.out) (l1, l2) 0 i
        rw [← HTK.out] at hta
        simp only [Label.cells, Msg.cells, Msg.kind, Msg.part, Msg.tx, Msg.what] at hta
        have Hta := Lib.hid hta; clear hta RR
        go_wp2_with fail
        refine Hta.out.mono ?_
        rintro e w5 ⟨rfl, hb5, hm5⟩
        obtain ⟨hway, hmod⟩ := Hnext.out wd w5 _ Hs0.out hb5 hm5
        have hn5 := KnNext.set (st := st) Hkq.out Hs0.out He.out hway hmod
        have zr := ((Hs0.out.block _ (Array.getElem?_eq_some_iff.1 Zr.out).1).trans Zr.out)
        have zr := (hm5.block _ (Array.getElem?_eq_some_iff.1 zr).1 Hfl.out).trans zr
        clear hb5 hm5 hway hmod Hnext Hta H3 Zr
        have HN5 := Lib.hid hn5; clear hn5
        have Zr := Lib.hid zr; clear zr
        go_wp2_with (with_reducible refine stop_store 39 ?_)
        refine unpark ?_
        refine wpList_store_at rfl _ _ _ rfl w.heap.size 0 rfl _ rfl [.int .i64 m0, .int .i64 m1, .int .i64 m2, .int .i64 m3] rfl _ _ Zr.out 4 rfl (by simp) (by simp [Value.oneCell']) Tryd.sizeMsg ?_
        intro w9 hz hg hs
        have zf : w9.heap[w.heap.size]? = some (.cells #[.int .i64 m0, .int .i64 m1, .int .i64 m2, .int .i64 m3] 39 (0, 0)) := hz
        have hn := KnNext.result Hh.out Cb.out Lt.out (Nat.le_refl _) HN5.out hg hs
        clear hz hg hs Zr
        have ZF := Lib.hid zf; clear zf
        have HN := Lib.hid hn; clear hn
        go_wp2
        refine bodyPost_ret (results_row2 Tryd.results16 _ _ w.heap.size 39 _ _ _ rfl ZF.out Tryd.underlying39 rfl (by kernel_rfl)) rfl ?_
        exact ⟨by rw [HRK.out]; rfl, by rw [HRK.out]; exact HN.out⟩
  · rw [if_neg (fun h => hin h.2)] at hRK
    subst hRK
    have hl := run_look_out hk hin
    have Hh := Lib.hid h; clear h
    have Hk := Lib.hid hk; clear hk hin
    go_enter Tryd.func16, Tryd.ntmps16
    go_wp2_with fail
    rw [← hw1]
    clear hw1
    refine wp_region_quiet_below (by kernel_rfl) (by kernel_rfl) ?_
    repeat (go_big_quiet_step ((first | (go_at_call 45; exact Calls.regrown_of (Hle.out _ (below_regrown _ _ _))) | (go_at_call 47; exact Calls.regrown_of (Hto.out _)))))
    refine wpQuiet_nil ?_
    intro wq hwq
    have bk : Below w1.heap.size w1 wq := by obtain ⟨q, rfl⟩ := hwq; exact below_regrown _ _ _
    clear hwq hl r6 Hle Hto
    have Bk := Lib.hid bk; clear bk
    go_wp2_with fail
    refine (Hth.out _ Bk.out).mono ?_
    rintro e w2 ⟨rfl, rfl⟩
    have cb := C.out.trans (Bk.out.mono C.out.size)
    have zr := (Bk.out.block _ (Array.getElem?_eq_some_iff.1 Z1.out).1).trans Z1.out
    have hkq := Hk.out.step Bk.out
    have lt := (Array.getElem?_eq_some_iff.1 zr).1
    have Cb := Lib.hid cb; clear cb
    have Zr := Lib.hid zr; clear zr
    have Lt := Lib.hid lt; clear lt
    have Hkq := Lib.hid hkq; clear hkq
    cases T with
    | false =>
      go_wp2_with (with_reducible refine stop_store 39 ?_)
      refine unpark ?_
      refine wpList_store_at rfl _ _ _ rfl w.heap.size 0 rfl _ rfl [.int .i64 0, .int .i64 0, .int .i64 0, .int .i64 0] rfl _ _ Zr.out 4 rfl (by simp) (by simp [Value.oneCell']) Tryd.sizeMsg ?_
      intro w9 hz hg hs
      have zf : w9.heap[w.heap.size]? = some (.cells #[.int .i64 0, .int .i64 0, .int .i64 0, .int .i64 0] 39 (0, 0)) := hz
      have hn := KnNext.result Hh.out Cb.out Lt.out (Nat.le_refl _) (KnNext.below Hkq.out (Below.refl _ _)) hg hs
      clear hz hg hs Zr
      have ZF := Lib.hid zf; clear zf
      have HN := Lib.hid hn; clear hn
      go_wp2
      refine bodyPost_ret (results_row2 Tryd.results16 _ _ w.heap.size 39 _ _ _ rfl ZF.out Tryd.underlying39 rfl (by kernel_rfl)) rfl ?_
      exact ⟨rfl, HN.out⟩
    | true =>
      go_wp2_with (with_reducible refine stop_store 39 ?_)
      refine unpark ?_
      refine wpList_store_at rfl _ _ _ rfl w.heap.size 0 rfl _ rfl [.int .i64 0, .int .i64 0, .int .i64 0, .int .i64 0] rfl _ _ Zr.out 4 rfl (by simp) (by simp [Value.oneCell']) Tryd.sizeMsg ?_
      intro w9 hz hg hs
      have zf : w9.heap[w.heap.size]? = some (.cells #[.int .i64 0, .int .i64 0, .int .i64 0, .int .i64 0] 39 (0, 0)) := hz
      have hn := KnNext.result Hh.out Cb.out Lt.out (Nat.le_refl _) (KnNext.below Hkq.out (Below.refl _ _)) hg hs
      clear hz hg hs Zr
      have ZF := Lib.hid zf; clear zf
      have HN := Lib.hid hn; clear hn
      go_wp2
      refine bodyPost_ret (results_row2 Tryd.results16 _ _ w.heap.size 39 _ _ _ rfl ZF.out Tryd.underlying39 rfl (by kernel_rfl)) rfl ?_
      exact ⟨rfl, HN.out⟩
end
end Go.Proofs.YtclgakdfeeefiaaDoor
