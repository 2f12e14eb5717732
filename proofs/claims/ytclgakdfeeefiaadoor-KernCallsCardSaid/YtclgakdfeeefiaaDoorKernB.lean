/- Kernels: Clear. -/
import Derived.Test.YtclgakdfeeefiaaDoorKernA
namespace Go.Proofs.YtclgakdfeeefiaaDoor
open Go.RowKit

def endsB (n : Nat) (who : Int) (e : End) : Bool := if e.2 = 1 then decide (who = (n : Int)) else decide (e.1 = who)
def beginsB (n : Nat) (who : Int) (e : End) : Bool := if e.2 = 1 then decide (e.1 = who) else decide (who = (n : Int))
def clearE (n : Nat) (who : Int) (e : End) (x : List Msg × List Msg) : List Msg × List Msg := (if beginsB n who e = true then [] else x.1, if endsB n who e = true then [] else x.2)
def clearK (n : Nat) (st : End → List Msg × List Msg) (who : Int) : End → List Msg × List Msg := fun e => clearE n who e (st e)
def clearS (n : Nat) (st : End → List Msg × List Msg) (who : Int) (done : List End) : End → List Msg × List Msg := fun e => if e ∈ done then clearE n who e (st e) else st e
section
variable {w0 w w' wr : World} {kb gb tb tc mb n r : Nat} {ws : List (End × Nat)} {FW FW1 : End → Nat → Prop} {p : Pl} {st st' st1 st2 : End → List Msg × List Msg} {done : List End} {who : Int}
theorem KnAt.like (h : KnAt w0 w kb gb tb tc mb n ws FW p st) (he : ∀ e, Inside n e → st e = st' e) : KnAt w0 w kb gb tb tc mb n ws FW p st' :=
  ⟨h.root, h.gate, h.tags, h.map, h.dom, fun q hq => by rw [← he q.1 ((h.dom q.1).2 ⟨q.2, hq⟩)]; exact h.way q hq, h.off, h.apart, h.own, h.low, h.good, h.num, h.bel⟩
theorem KnNext.like (h : KnNext w0 w w' kb gb tb tc mb n ws FW p st) (he : ∀ e, Inside n e → st e = st' e) : KnNext w0 w w' kb gb tb tc mb n ws FW p st' := by
  obtain ⟨FW', h1, h2, h3⟩ := h
  exact ⟨FW', h1.like he, h2, h3⟩
structure ClrI (w0 w wr : World) (kb gb tb tc mb n : Nat) (ws : List (End × Nat)) (FW FW1 : End → Nat → Prop) (p : Pl) (st1 : End → List Msg × List Msg) (r : Nat) (done : List End) : Prop where
  kn : KnAt w0 wr kb gb tb tc mb n ws FW1 p st1
  mod : Mod (KF FW) w wr
  grow : ∀ k, KF FW1 k → grownF (KF FW) w wr k
  free : ¬ KF FW1 r
  at_ : w0.heap.size ≤ w.heap.size ∧ w.heap.size ≤ r ∧ r < wr.heap.size ∧ kb < w.heap.size ∧ gb < w.heap.size ∧ tb < w.heap.size ∧ mb < w.heap.size
  rng : RangeK endV wr mb r (ptrs ws) done
theorem ClrI.then {w3 : World} (h : ClrI w0 w wr kb gb tb tc mb n ws FW FW1 p st1 r done) (hn : KnNext w0 wr w3 kb gb tb tc mb n ws FW1 p st2) : ∃ FW2, ClrI w0 w w3 kb gb tb tc mb n ws FW FW2 p st2 r done ∧ w3.rangeLeft mb r = wr.rangeLeft mb r := by
  obtain ⟨FW2, h1, h2, h3⟩ := hn
  have ha := h.at_
  have hb1 := h2.block _ h.kn.lt.2.2.2 (show ¬ KF FW1 mb from fun ⟨e, he⟩ => (h.kn.own e _ he).2.2.2 rfl)
  have hb2 := h2.block _ ha.2.2.1 h.free
  refine ⟨FW2, ⟨h1, h.mod.trans h2 (fun _ h => h) (fun x hx hg => ?_), fun k hk => ?_, fun hk => ?_, ⟨ha.1, ha.2.1, Nat.lt_of_lt_of_le ha.2.2.1 h2.size, ha.2.2.2⟩, h.rng.keep hb1 hb2⟩, by unfold World.rangeLeft; rw [hb1, hb2]⟩
  · rcases h.grow x hg with h | h
    · exact h
    · omega
  · rcases h3 k hk with hk | hk
    · rcases h.grow k hk with h | h
      · exact .inl h
      · exact .inr ⟨h.1, Nat.lt_of_lt_of_le h.2 h2.size⟩
    · exact .inr ⟨Nat.le_trans h.mod.size hk.1, hk.2⟩
  · rcases h3 r hk with hk | hk
    · exact h.free hk
    · omega
theorem ClrI.turn {w2 : World} {done' : List End} (h : ClrI w0 w wr kb gb tb tc mb n ws FW FW1 p st1 r done) (hg : wr.grownBy w2 (some r)) (hs : w2.heap.size = wr.heap.size) (hR : RangeK endV w2 mb r (ptrs ws) done') : ClrI w0 w w2 kb gb tb tc mb n ws FW FW1 p st1 r done' := by
  have ha := h.at_
  have hm : Mod (fun k => k = r) wr w2 := Mod.of_grown hg fun k e => by cases e; rfl
  refine ⟨h.kn.aside hm (fun k hk e => ?_) (fun k e => by have : k = r := e; omega), h.mod.trans hm (fun _ h => h) (fun x hx e => by have : x = r := e; omega), fun k hk => ?_, h.free, ⟨ha.1, ha.2.1, by omega, ha.2.2.2⟩, hR⟩
  · have e : k = r := e
    subst e
    rcases hk with (e | e | e | e) | hk
    · omega
    · omega
    · omega
    · omega
    · exact h.free hk
  · rcases h.grow k hk with h | h
    · exact .inl h
    · exact .inr (by omega)
theorem clearS_step {e : End} (hn : e ∉ done) : ∀ x, (updE (clearS n st who done) e (clearE n who e (st e))) x = clearS n st who (e :: done) x := fun x => by
  by_cases hx : x = e
  · subst hx
    rw [updE_same]
    exact (if_pos (List.mem_cons_self)).symm
  · rw [updE_other _ _ hx]
    unfold clearS
    by_cases hd : x ∈ done
    · rw [if_pos hd, if_pos (List.mem_cons_of_mem _ hd)]
    · rw [if_neg hd, if_neg]
      intro h
      rcases List.mem_cons.1 h with h | h
      · exact hx h
      · exact hd h
theorem clearS_at {e : End} (hn : e ∉ done) : clearS n st who done e = st e := if_neg hn
/-- A way's box is cleared. -/
theorem KnAt.bare (h : KnAt w0 w kb gb tb tc mb n ws FW p st) {e : End} {b : Nat} (he : (e, b) ∈ ws) : ∃ ov xb, w.heap[b]? = some (.cells #[ov, .pointer (some ⟨xb, 0, none⟩)] 82 (0, 0)) ∧
    Calls Tryd.prog 58 #[.pointer (some ⟨xb, 0, none⟩)] w fun e' w' => e' = .returned (.tuple #[]) ∧ KnNext w0 w w' kb gb tb tc mb n ws FW p (updE st e ((st e).1, [])) := by
  obtain ⟨ov, xb, Fb, h1, h3, h4, hnext⟩ := (h.fit he).boxed
  refine ⟨ov, xb, h1, (Clear_bx h3).mono ?_⟩
  rintro e' w' ⟨rfl, hb, hm⟩
  obtain ⟨hw, hm'⟩ := hnext w w' [] (Below.refl _ _) hb hm
  exact ⟨rfl, KnNext.set h (Below.refl _ _) he hw hm'⟩
/-- What is out on a way is none. -/
theorem KnAt.mute (h : KnAt w0 w kb gb tb tc mb n ws FW p st) {e : End} {b : Nat} (he : (e, b) ∈ ws) : ∃ ov xb, w.heap[b]? = some (.cells #[ov, .pointer (some ⟨xb, 0, none⟩)] 82 (0, 0)) ∧
    ∀ w', w'.heap[b]? = some (.cells #[.slice none 0 0, .pointer (some ⟨xb, 0, none⟩)] 82 (0, 0)) → w.grownBy w' (some b) → KnNext w0 w w' kb gb tb tc mb n ws FW p (updE st e ([], (st e).2)) := by
  obtain ⟨ov, xb, h1, h2, h3, h4, hnext⟩ := (h.fit he).sent
  refine ⟨ov, xb, h1, fun w' hz hg => ?_⟩
  obtain ⟨hw, hm⟩ := hnext w' (.slice none 0 0) [] hz (MOwn.nil _ _) (Mod.of_grown hg fun k e => by cases e; exact .inl rfl) (fun g hg => by cases hg)
  exact KnNext.set h (Below.refl _ _) he hw hm
set_option maxHeartbeats 4000000 in
theorem kClear_calls (h : KnAt w0 w kb gb tb tc mb n ws FW p st) (who : Int) : Calls Tryd.prog 26 #[.pointer (some ⟨kb, 0, none⟩), .int .i64 who] w fun e w' => e = .returned (.tuple #[]) ∧ KnNext w0 w w' kb gb tb tc mb n ws FW p (clearK n st who) := by
  have r6 := cells_at h.root 6
  have Hh := Lib.hid h; clear h
  go_enter Tryd.func26, Tryd.ntmps26
  go_wp2_with (with_reducible refine stop_range 64 ?_)
  refine unpark ?_
  refine wpList_range_key (enc := endV) rfl _ _ rfl _ Tryd.underlying64 mb (ptrs ws) rfl Hh.out.map ?_
  intro w1 hR hg hs
  have b1 : Below w.heap.size w w1 := (Below.refl _ _).grown hg (Nat.le_refl _) (fun k hk => by cases hk)
  clear hg r6
  obtain ⟨r, hr⟩ : ∃ r, r = w.heap.size := ⟨_, rfl⟩
  rw [← hr] at hR ⊢
  have hl := Hh.out.lt
  have hc : ClrI w0 w w1 kb gb tb tc mb n ws FW FW p (clearS n st who []) r [] := ⟨(Hh.out.step b1).like fun e _ => rfl, Mod.of_below b1, fun k hk => .inl hk, fun ⟨e, he⟩ => by have := (Hh.out.flow he).2; omega, ⟨Hh.out.bel.size, by omega, by omega, hl⟩, hR⟩
  clear hr hR b1 hs hl
  have HC := Lib.hid hc; clear hc
  go_wp2_with fail
  go_frame
  go_loopw [] (fun wr => ∃ (done : List End) (FW1 : End → Nat → Prop), ClrI w0 w wr kb gb tb tc mb n ws FW FW1 p (clearS n st who done) r done) (fun wr => wr.rangeLeft mb r)
  case atStart => exact ⟨[], FW, HC.out⟩
  case round =>
    clear HC
    obtain ⟨done, FW1, hc⟩ := hrel
    obtain ⟨wo, hwo⟩ : ∃ wo : World, wo = wr := ⟨_, rfl⟩
    have Hwo := Lib.hid hwo; clear hwo
    have HC := Lib.hid hc; clear hc
    go_wp2_with (with_reducible refine stop_next ?_)
    refine unpark ?_
    refine wpList_next_key rfl _ rfl mb r (ptrs ws) done rfl HC.out.rng ?_ ?_
    · intro hall
      have hnx : KnNext w0 w wr kb gb tb tc mb n ws FW p (clearK n st who) := ⟨FW1, HC.out.kn.like fun e he => by
        obtain ⟨b, hb⟩ := (HC.out.kn.dom e).1 he
        exact if_pos (hall (e, _) (List.mem_map.2 ⟨(e, b), hb, rfl⟩)), HC.out.mod, HC.out.grow⟩
      clear hall HC
      have HN := Lib.hid hnx; clear hnx
      go_wp2
      go_end0
      exact ⟨rfl, HN.out⟩
    · intro p' hp hn w2 hR2 hlt hg hs hen
      obtain ⟨⟨⟨q, d⟩, b⟩, hq, rfl⟩ := List.mem_map.1 hp
      simp only at hn hR2 hen
      have hc2 := HC.out.turn hg hs hR2
      have hin := (HC.out.kn.dom (q, d)).2 ⟨b, hq⟩
      clear HC hg hs hR2 hp
      have HC := Lib.hid hc2; clear hc2
      have Hq := Lib.hid hq; clear hq
      have Hn := Lib.hid hn; clear hn
      have Hlt := Lib.hid hlt; clear hlt
      have hn6 := HC.out.kn.six
      simp only [endV] at hen
      obtain ⟨w3, hw3⟩ : ∃ w3, w3 = w2.alloc (.cells #[.int .i64 q, .int .i64 d] 84) := ⟨_, rfl⟩
      have b3 : Below w2.heap.size w2 w3 := by rw [hw3]; exact (Below.refl _ _).alloc (Nat.le_refl _) _
      have z3 : w3.heap[w2.heap.size]? = some (.cells #[.int .i64 q, .int .i64 d] 84 (0, 0)) := by rw [hw3]; exact heap_alloc_new w2 _
      have hld : ∀ w', Below w3.heap.size w3 w' → Calls Tryd.prog 45 #[.pointer (some ⟨kb, 0, none⟩), .int .i64 who] w' fun e w'' => e = .returned (.bool (decide (who = (n : Int)))) ∧ Below w'.heap.size w' w'' := fun w' hb => (leads_calls (HC.out.kn.step (b3.trans (hb.mono b3.size))) who).mono fun _ _ h => ⟨h.1, by rw [← h.2]; exact Below.refl _ _⟩
      have B3 := Lib.hid b3; clear b3
      have Z3 := Lib.hid z3; clear z3
      obtain ⟨i1, i2, i3⟩ := hin
      simp only at i1 i2 i3
      rcases i3 with rfl | rfl
      · by_cases hE : q = who
        · have hL : ¬ who = (n : Int) := by omega
          rw [show decide (who = (n : Int)) = false from decide_eq_false hL] at hld
          have Hld := Lib.hid hld; clear hld
          have hce : clearE n who (q, 0) = fun x => (x.1, []) := by
            funext x
            simp [clearE, endsB, beginsB, hE, hL]
          have Hce := Lib.hid hce; clear hce
          have e1 : (q == who) = true := by simpa using hE
          clear hE hL i1 i2
          have q0 := cell_regrown (cells_at Z3.out 0)
          have q1 := cell_regrown (cells_at Z3.out 1)
          go_wp2_with fail
          rw [← hw3]
          clear hw3 hen
          refine wp_region_quiet_below (by kernel_rfl) (by kernel_rfl) ?_
          repeat (go_big_quiet_step ((go_at_call 45; exact Calls.regrown_of (Hld.out _ (below_regrown _ _ _)))))
          refine wpQuiet_nil ?_
          intro wq hwq
          have bk : Below w3.heap.size w3 wq := by obtain ⟨q, rfl⟩ := hwq; exact below_regrown _ _ _
          have z3 := (bk.block _ (Array.getElem?_eq_some_iff.1 Z3.out).1).trans Z3.out
          have a0 := cells_at z3 0
          have a1 := cells_at z3 1
          obtain ⟨FW2, hc, hrl⟩ := HC.out.then (KnNext.below HC.out.kn (B3.out.trans (bk.mono B3.out.size)))
          have hlt := Lib.hid hrl
          clear hwq q0 q1 z3 bk HC Hld B3 hrl
          have HC := Lib.hid hc; clear hc
          obtain ⟨ov, xb, hb, hcl⟩ := HC.out.kn.bare Hq.out
          have c1 := cells_at hb 1
          clear hb
          have Hcl := Lib.hid hcl; clear hcl
          go_wp2_with fail
          refine Hcl.out.mono ?_
          rintro e w5 ⟨rfl, hn5⟩
          obtain ⟨FW3, hc, hrl⟩ := HC.out.then hn5
          replace hlt := Lib.hid (hrl.trans hlt.out)
          clear hrl hn5 Hcl HC c1 a0 a1
          have HC := Lib.hid hc; clear hc
          go_wp2_with fail
          go_roundw
          case rel =>
            have hl : ∀ e, Inside n e → (updE (clearS n st who done) (q, 0) (((clearS n st who done) (q, 0)).1, [])) e = clearS n st who ((q, 0) :: done) e := fun e _ => by
              rw [← clearS_step Hn.out, Hce.out]
              by_cases hx : e = (q, 0)
              · subst hx; simp [updE_same, clearS_at Hn.out]
              · simp [updE_other _ _ hx]
            obtain ⟨FW5, hc, -⟩ := HC.out.then (KnNext.like (KnNext.below HC.out.kn (Below.refl _ _)) hl)
            exact ⟨(q, 0) :: done, FW5, hc⟩
          case measure => rw [hlt.out]; exact Hlt.out
        · by_cases hL : who = (n : Int)
          · have hL2 := hL
            subst hL2
            rw [show decide ((n : Int) = (n : Int)) = true from decide_eq_true hL] at hld
            have Hld := Lib.hid hld; clear hld
            have hce : clearE n (n : Int) (q, 0) = fun x => ([], x.2) := by
              funext x
              simp [clearE, endsB, beginsB, hE]
            have Hce := Lib.hid hce; clear hce
            have e1 : (q == (n : Int)) = false := by simpa using hE
            clear hE hL i1 i2
            have q0 := cell_regrown (cells_at Z3.out 0)
            have q1 := cell_regrown (cells_at Z3.out 1)
            go_wp2_with fail
            rw [← hw3]
            clear hw3 hen
            refine wp_region_quiet_below (by kernel_rfl) (by kernel_rfl) ?_
            repeat (go_big_quiet_step ((go_at_call 45; exact Calls.regrown_of (Hld.out _ (below_regrown _ _ _)))))
            refine wpQuiet_nil ?_
            intro wq hwq
            have bk : Below w3.heap.size w3 wq := by obtain ⟨q, rfl⟩ := hwq; exact below_regrown _ _ _
            have z3 := (bk.block _ (Array.getElem?_eq_some_iff.1 Z3.out).1).trans Z3.out
            have a0 := cells_at z3 0
            have a1 := cells_at z3 1
            obtain ⟨FW2, hc, hrl⟩ := HC.out.then (KnNext.below HC.out.kn (B3.out.trans (bk.mono B3.out.size)))
            have hlt := Lib.hid hrl
            clear hwq q0 q1 z3 bk HC Hld B3 hrl
            have HC := Lib.hid hc; clear hc
            obtain ⟨ov2, xb2, hb, hmu⟩ := HC.out.kn.mute Hq.out
            have c0 := cells_at hb 0
            have HB := Lib.hid hb; clear hb
            have Hmu := Lib.hid hmu; clear hmu
            go_wp2_with (with_reducible refine stop_store 44 ?_)
            refine unpark ?_
            refine wpList_store_at rfl _ _ _ rfl b 0 rfl _ rfl [.slice none 0 0] rfl _ _ HB.out 1 rfl (by simp) (by simp [Value.oneCell']) (by kernel_rfl) ?_
            intro w6 hz hg hs6
            clear hs6
            obtain ⟨FW4, hc, hrl⟩ := HC.out.then (Hmu.out w6 hz hg)
            replace hlt := Lib.hid (hrl.trans hlt.out)
            clear hrl
            clear hz hg Hmu HB c0 HC a0 a1
            have HC := Lib.hid hc; clear hc
            dsimp only [Act.put]
            go_wp2_with fail
            go_roundw
            case rel =>
              have hl : ∀ e, Inside n e → (updE (clearS n st (n : Int) done) (q, 0) ([], ((clearS n st (n : Int) done) (q, 0)).2)) e = clearS n st (n : Int) ((q, 0) :: done) e := fun e _ => by
                rw [← clearS_step Hn.out, Hce.out]
                by_cases hx : e = (q, 0)
                · subst hx; simp [updE_same, clearS_at Hn.out]
                · simp [updE_other _ _ hx]
              obtain ⟨FW5, hc, -⟩ := HC.out.then (KnNext.like (KnNext.below HC.out.kn (Below.refl _ _)) hl)
              exact ⟨(q, 0) :: done, FW5, hc⟩
            case measure => rw [hlt.out]; exact Hlt.out
          · skip
            rw [show decide (who = (n : Int)) = false from decide_eq_false hL] at hld
            have Hld := Lib.hid hld; clear hld
            have hce : clearE n who (q, 0) = fun x => (x.1, x.2) := by
              funext x
              simp [clearE, endsB, beginsB, hE, hL]
            have Hce := Lib.hid hce; clear hce
            have e1 : (q == who) = false := by simpa using hE
            clear hE hL i1 i2
            have q0 := cell_regrown (cells_at Z3.out 0)
            have q1 := cell_regrown (cells_at Z3.out 1)
            go_wp2_with fail
            rw [← hw3]
            clear hw3 hen
            refine wp_region_quiet_below (by kernel_rfl) (by kernel_rfl) ?_
            repeat (go_big_quiet_step ((go_at_call 45; exact Calls.regrown_of (Hld.out _ (below_regrown _ _ _)))))
            refine wpQuiet_nil ?_
            intro wq hwq
            have bk : Below w3.heap.size w3 wq := by obtain ⟨q, rfl⟩ := hwq; exact below_regrown _ _ _
            have z3 := (bk.block _ (Array.getElem?_eq_some_iff.1 Z3.out).1).trans Z3.out
            have a0 := cells_at z3 0
            have a1 := cells_at z3 1
            obtain ⟨FW2, hc, hrl⟩ := HC.out.then (KnNext.below HC.out.kn (B3.out.trans (bk.mono B3.out.size)))
            have hlt := Lib.hid hrl
            clear hwq q0 q1 z3 bk HC Hld B3 hrl
            have HC := Lib.hid hc; clear hc
            go_wp2_with fail
            go_roundw
            case rel =>
              have hl : ∀ e, Inside n e → (clearS n st who done) e = clearS n st who ((q, 0) :: done) e := fun e _ => by
                rw [← clearS_step Hn.out, Hce.out]
                by_cases hx : e = (q, 0)
                · subst hx; simp [updE_same, clearS_at Hn.out]
                · simp [updE_other _ _ hx]
              obtain ⟨FW5, hc, -⟩ := HC.out.then (KnNext.like (KnNext.below HC.out.kn (Below.refl _ _)) hl)
              exact ⟨(q, 0) :: done, FW5, hc⟩
            case measure => rw [hlt.out]; exact Hlt.out
      · by_cases hE : q = who
        · have hL : ¬ who = (n : Int) := by omega
          rw [show decide (who = (n : Int)) = false from decide_eq_false hL] at hld
          have Hld := Lib.hid hld; clear hld
          have hce : clearE n who (q, 1) = fun x => ([], x.2) := by
            funext x
            simp [clearE, endsB, beginsB, hE, hL]
          have Hce := Lib.hid hce; clear hce
          have e1 : (q == who) = true := by simpa using hE
          clear hE hL i1 i2
          have q0 := cell_regrown (cells_at Z3.out 0)
          have q1 := cell_regrown (cells_at Z3.out 1)
          go_wp2_with fail
          rw [← hw3]
          clear hw3 hen
          refine wp_region_quiet_below (by kernel_rfl) (by kernel_rfl) ?_
          repeat (go_big_quiet_step ((go_at_call 45; exact Calls.regrown_of (Hld.out _ (below_regrown _ _ _)))))
          refine wpQuiet_nil ?_
          intro wq hwq
          have bk : Below w3.heap.size w3 wq := by obtain ⟨q, rfl⟩ := hwq; exact below_regrown _ _ _
          have z3 := (bk.block _ (Array.getElem?_eq_some_iff.1 Z3.out).1).trans Z3.out
          have a0 := cells_at z3 0
          have a1 := cells_at z3 1
          obtain ⟨FW2, hc, hrl⟩ := HC.out.then (KnNext.below HC.out.kn (B3.out.trans (bk.mono B3.out.size)))
          have hlt := Lib.hid hrl
          clear hwq q0 q1 z3 bk HC Hld B3 hrl
          have HC := Lib.hid hc; clear hc
          obtain ⟨ov2, xb2, hb, hmu⟩ := HC.out.kn.mute Hq.out
          have c0 := cells_at hb 0
          have HB := Lib.hid hb; clear hb
          have Hmu := Lib.hid hmu; clear hmu
          go_wp2_with (with_reducible refine stop_store 44 ?_)
          refine unpark ?_
          refine wpList_store_at rfl _ _ _ rfl b 0 rfl _ rfl [.slice none 0 0] rfl _ _ HB.out 1 rfl (by simp) (by simp [Value.oneCell']) (by kernel_rfl) ?_
          intro w6 hz hg hs6
          clear hs6
          obtain ⟨FW4, hc, hrl⟩ := HC.out.then (Hmu.out w6 hz hg)
          replace hlt := Lib.hid (hrl.trans hlt.out)
          clear hrl
          clear hz hg Hmu HB c0 HC a0 a1
          have HC := Lib.hid hc; clear hc
          dsimp only [Act.put]
          go_wp2_with fail
          go_roundw
          case rel =>
            have hl : ∀ e, Inside n e → (updE (clearS n st who done) (q, 1) ([], ((clearS n st who done) (q, 1)).2)) e = clearS n st who ((q, 1) :: done) e := fun e _ => by
              rw [← clearS_step Hn.out, Hce.out]
              by_cases hx : e = (q, 1)
              · subst hx; simp [updE_same, clearS_at Hn.out]
              · simp [updE_other _ _ hx]
            obtain ⟨FW5, hc, -⟩ := HC.out.then (KnNext.like (KnNext.below HC.out.kn (Below.refl _ _)) hl)
            exact ⟨(q, 1) :: done, FW5, hc⟩
          case measure => rw [hlt.out]; exact Hlt.out
        · by_cases hL : who = (n : Int)
          · have hL2 := hL
            subst hL2
            rw [show decide ((n : Int) = (n : Int)) = true from decide_eq_true hL] at hld
            have Hld := Lib.hid hld; clear hld
            have hce : clearE n (n : Int) (q, 1) = fun x => (x.1, []) := by
              funext x
              simp [clearE, endsB, beginsB, hE]
            have Hce := Lib.hid hce; clear hce
            have e1 : (q == (n : Int)) = false := by simpa using hE
            clear hE hL i1 i2
            have q0 := cell_regrown (cells_at Z3.out 0)
            have q1 := cell_regrown (cells_at Z3.out 1)
            go_wp2_with fail
            rw [← hw3]
            clear hw3 hen
            refine wp_region_quiet_below (by kernel_rfl) (by kernel_rfl) ?_
            repeat (go_big_quiet_step ((go_at_call 45; exact Calls.regrown_of (Hld.out _ (below_regrown _ _ _)))))
            refine wpQuiet_nil ?_
            intro wq hwq
            have bk : Below w3.heap.size w3 wq := by obtain ⟨q, rfl⟩ := hwq; exact below_regrown _ _ _
            have z3 := (bk.block _ (Array.getElem?_eq_some_iff.1 Z3.out).1).trans Z3.out
            have a0 := cells_at z3 0
            have a1 := cells_at z3 1
            obtain ⟨FW2, hc, hrl⟩ := HC.out.then (KnNext.below HC.out.kn (B3.out.trans (bk.mono B3.out.size)))
            have hlt := Lib.hid hrl
            clear hwq q0 q1 z3 bk HC Hld B3 hrl
            have HC := Lib.hid hc; clear hc
            obtain ⟨ov, xb, hb, hcl⟩ := HC.out.kn.bare Hq.out
            have c1 := cells_at hb 1
            clear hb
            have Hcl := Lib.hid hcl; clear hcl
            go_wp2_with fail
            refine Hcl.out.mono ?_
            rintro e w5 ⟨rfl, hn5⟩
            obtain ⟨FW3, hc, hrl⟩ := HC.out.then hn5
            replace hlt := Lib.hid (hrl.trans hlt.out)
            clear hrl hn5 Hcl HC c1 a0 a1
            have HC := Lib.hid hc; clear hc
            go_wp2_with fail
            go_roundw
            case rel =>
              have hl : ∀ e, Inside n e → (updE (clearS n st (n : Int) done) (q, 1) (((clearS n st (n : Int) done) (q, 1)).1, [])) e = clearS n st (n : Int) ((q, 1) :: done) e := fun e _ => by
                rw [← clearS_step Hn.out, Hce.out]
                by_cases hx : e = (q, 1)
                · subst hx; simp [updE_same, clearS_at Hn.out]
                · simp [updE_other _ _ hx]
              obtain ⟨FW5, hc, -⟩ := HC.out.then (KnNext.like (KnNext.below HC.out.kn (Below.refl _ _)) hl)
              exact ⟨(q, 1) :: done, FW5, hc⟩
            case measure => rw [hlt.out]; exact Hlt.out
          · skip
            rw [show decide (who = (n : Int)) = false from decide_eq_false hL] at hld
            have Hld := Lib.hid hld; clear hld
            have hce : clearE n who (q, 1) = fun x => (x.1, x.2) := by
              funext x
              simp [clearE, endsB, beginsB, hE, hL]
            have Hce := Lib.hid hce; clear hce
            have e1 : (q == who) = false := by simpa using hE
            clear hE hL i1 i2
            have q0 := cell_regrown (cells_at Z3.out 0)
            have q1 := cell_regrown (cells_at Z3.out 1)
            go_wp2_with fail
            rw [← hw3]
            clear hw3 hen
            refine wp_region_quiet_below (by kernel_rfl) (by kernel_rfl) ?_
            repeat (go_big_quiet_step ((go_at_call 45; exact Calls.regrown_of (Hld.out _ (below_regrown _ _ _)))))
            refine wpQuiet_nil ?_
            intro wq hwq
            have bk : Below w3.heap.size w3 wq := by obtain ⟨q, rfl⟩ := hwq; exact below_regrown _ _ _
            have z3 := (bk.block _ (Array.getElem?_eq_some_iff.1 Z3.out).1).trans Z3.out
            have a0 := cells_at z3 0
            have a1 := cells_at z3 1
            obtain ⟨FW2, hc, hrl⟩ := HC.out.then (KnNext.below HC.out.kn (B3.out.trans (bk.mono B3.out.size)))
            have hlt := Lib.hid hrl
            clear hwq q0 q1 z3 bk HC Hld B3 hrl
            have HC := Lib.hid hc; clear hc
            go_wp2_with fail
            go_roundw
            case rel =>
              have hl : ∀ e, Inside n e → (clearS n st who done) e = clearS n st who ((q, 1) :: done) e := fun e _ => by
                rw [← clearS_step Hn.out, Hce.out]
                by_cases hx : e = (q, 1)
                · subst hx; simp [updE_same, clearS_at Hn.out]
                · simp [updE_other _ _ hx]
              obtain ⟨FW5, hc, -⟩ := HC.out.then (KnNext.like (KnNext.below HC.out.kn (Below.refl _ _)) hl)
              exact ⟨(q, 1) :: done, FW5, hc⟩
            case measure => rw [hlt.out]; exact Hlt.out
end
end Go.Proofs.YtclgakdfeeefiaaDoor
