/- Kernels: Out. -/
import Derived.Test.YtclgakdfeeefiaaDoorKern4
namespace Go.Proofs.YtclgakdfeeefiaaDoor
open Go.RowKit

theorem Tryd.sizeWay : (Tryd.prog.info? 82).map (·.size) = some 2 := by kernel_rfl
section
variable {w0 w w' : World} {kb gb tb tc mb n : Nat} {ws : List (End × Nat)} {FW : End → Nat → Prop} {p : Pl} {st : End → List Msg × List Msg}
set_option maxRecDepth 100000 in
theorem run_look_in (h : KnAt w0 w kb gb tb tc mb n ws FW p st) {q d : Int} {b : Nat} (he : ((q, d), b) ∈ ws) (x : Nat) (os : Array Obj) : (Instr.lookup 64 (.map (some mb)) (.agg #[.int .i64 q, .int .i64 d]) true).run Tryd.prog («Sort».grow (redrawn w x) os) = .ok (.tuple #[.pointer (some ⟨b, 0, none⟩), .bool true]) («Sort».grow (redrawn w x) os) := by
  have hm := (h.step (below_regrown w x os)).map
  have hl := hm.lookup endLaw (t := 64) (et := 80) (z := .pointer none) Tryd.underlying64 (by kernel_rfl) (q, d)
  rw [ptr_of hm he] at hl
  exact hl
set_option maxRecDepth 100000 in
theorem run_look_out (h : KnAt w0 w kb gb tb tc mb n ws FW p st) {q d : Int} (he : ¬ Inside n (q, d)) (x : Nat) (os : Array Obj) : (Instr.lookup 64 (.map (some mb)) (.agg #[.int .i64 q, .int .i64 d]) true).run Tryd.prog («Sort».grow (redrawn w x) os) = .ok (.tuple #[.pointer none, .bool false]) («Sort».grow (redrawn w x) os) := by
  have hm := (h.step (below_regrown w x os)).map
  have hl := hm.lookup endLaw (t := 64) (et := 80) (z := .pointer none) Tryd.underlying64 (by kernel_rfl) (q, d)
  rw [ptr_none fun b hb => he ((h.dom _).2 ⟨b, hb⟩)] at hl
  exact hl
set_option maxHeartbeats 4000000 in
theorem Out_no (h : KnAt w0 w kb gb tb tc mb n ws FW p st) (q : Int) (u : Bool) (he : ¬ Inside n (q, dirOf u)) : Calls Tryd.prog 22 #[.pointer (some ⟨kb, 0, none⟩), .int .i64 q, .bool u] w fun e w' => e = .returned (.slice none 0 0) ∧ Below w.heap.size w w' := by
  have hl := run_look_out h he
  have ht : ∀ w' : World, Calls Tryd.prog 47 #[.bool u] w' fun e w'' => e = .returned (.int .i64 (dirOf u)) ∧ Below w'.heap.size w' w'' := fun w' => (to_calls u).mono fun _ _ h => ⟨h.1, by rw [← h.2]; exact Below.refl _ _⟩
  generalize dirOf u = d at *
  have r6 := cell_regrown (cells_at h.root 6)
  have Ht := Lib.hid ht; clear ht h he
  go_enter Tryd.func22, Tryd.ntmps22
  go_wp2_with fail
  refine wp_region_quiet_below (by kernel_rfl) (by kernel_rfl) ?_
  repeat (go_big_quiet_step ((go_at_call 47; exact Calls.regrown_of (Ht.out _))))
  refine wpQuiet_nil ?_
  intro wq hwq
  have bk : Below w.heap.size w wq := by obtain ⟨q, rfl⟩ := hwq; exact below_regrown _ _ _
  clear hwq hl r6
  have Bk := Lib.hid bk; clear bk
  go_wp2
  go_ret
  exact ⟨rfl, Bk.out⟩
/-- The kernel behind something that it did. -/
def KnNext (w0 w w' : World) (kb gb tb tc mb n : Nat) (ws : List (End × Nat)) (FW : End → Nat → Prop) (p : Pl) (st : End → List Msg × List Msg) : Prop :=
  ∃ FW', KnAt w0 w' kb gb tb tc mb n ws FW' p st ∧ Mod (KF FW) w w' ∧ ∀ k, KF FW' k → grownF (KF FW) w w' k
theorem KnNext.below (h : KnAt w0 w kb gb tb tc mb n ws FW p st) (hb : Below w.heap.size w w') : KnNext w0 w w' kb gb tb tc mb n ws FW p st :=
  ⟨FW, h.step hb, Mod.of_below hb, fun _ hk => .inl hk⟩
theorem KnNext.then {w'' : World} (h : KnNext w0 w w' kb gb tb tc mb n ws FW p st) (hb : Below w'.heap.size w' w'') : KnNext w0 w w'' kb gb tb tc mb n ws FW p st := by
  obtain ⟨FW', h1, h2, h3⟩ := h
  refine ⟨FW', h1.step hb, h2.trans (Mod.of_below (F := KF FW) hb) (fun _ h => h) (fun _ _ h => h), fun k hk => ?_⟩
  rcases h3 k hk with hk | hk
  · exact .inl hk
  · exact .inr ⟨hk.1, Nat.lt_of_lt_of_le hk.2 hb.size⟩
theorem KnNext.set {wq : World} (h : KnAt w0 w kb gb tb tc mb n ws FW p st) (bk : Below w.heap.size w wq) {e : End} {b : Nat} (he : (e, b) ∈ ws) {os ms : List Msg} (hw : Way w0 w' b (grownF (FW e) wq w') (labOf n e.1) os ms) (hm : Mod (FW e) wq w') :
    KnNext w0 w w' kb gb tb tc mb n ws FW p (updE st e (os, ms)) := by
  obtain ⟨h1, h2, h3⟩ := (h.step bk).set he hw hm
  refine ⟨_, h1, (Mod.of_below (F := KF FW) bk).trans h2 (fun _ h => h) (fun _ _ h => h), fun k hk => ?_⟩
  rcases h3 k hk with hk | hk
  · exact .inl hk
  · exact .inr ⟨Nat.le_trans bk.size hk.1, hk.2⟩
theorem KnAt.fit {e : End} {b : Nat} (h : KnAt w0 w kb gb tb tc mb n ws FW p st) (he : (e, b) ∈ ws) : Way w0 w b (FW e) (labOf n e.1) (st e).1 (st e).2 := h.way _ he
set_option maxHeartbeats 4000000 in
theorem Out_yes (h : KnAt w0 w kb gb tb tc mb n ws FW p st) {q : Int} {u : Bool} {b : Nat} (he : ((q, dirOf u), b) ∈ ws) : Calls Tryd.prog 22 #[.pointer (some ⟨kb, 0, none⟩), .int .i64 q, .bool u] w fun e w' =>
    ∃ v, e = .returned v ∧ MOwn w' w0.heap.size v (st (q, dirOf u)).1 ∧ (∀ g, v.ownBlock = some g → KF FW g) ∧ KnNext w0 w w' kb gb tb tc mb n ws FW p (updE st (q, dirOf u) ([], (st (q, dirOf u)).2)) := by
  have hl := run_look_in h he
  have ht : ∀ w' : World, Calls Tryd.prog 47 #[.bool u] w' fun e w'' => e = .returned (.int .i64 (dirOf u)) ∧ Below w'.heap.size w' w'' := fun w' => (to_calls u).mono fun _ _ h => ⟨h.1, by rw [← h.2]; exact Below.refl _ _⟩
  generalize dirOf u = d at *
  have r6 := cell_regrown (cells_at h.root 6)
  have Ht := Lib.hid ht; clear ht
  have Hh := Lib.hid h; clear h
  have He := Lib.hid he; clear he
  go_enter Tryd.func22, Tryd.ntmps22
  go_wp2_with fail
  refine wp_region_quiet_below (by kernel_rfl) (by kernel_rfl) ?_
  repeat (go_big_quiet_step ((go_at_call 47; exact Calls.regrown_of (Ht.out _))))
  refine wpQuiet_nil ?_
  intro wq hwq
  have bk : Below w.heap.size w wq := by obtain ⟨q, rfl⟩ := hwq; exact below_regrown _ _ _
  clear hwq hl r6
  have hq := (Hh.out.step bk).fit He.out
  obtain ⟨ov, xb, Fb, h1, h2, h3, h4, h5, h6, h7⟩ := hq.is
  have hlow := hq.low
  have z0 := cells_at h1 0
  have H1 := Lib.hid h1; clear h1 hq
  have H2 := Lib.hid h2; clear h2
  have H3 := Lib.hid h3; clear h3
  have H4 := Lib.hid (And.intro h4 (And.intro h5 (And.intro h6 (And.intro h7 hlow)))); clear h4 h5 h6 h7 hlow
  have Bk := Lib.hid bk; clear bk
  obtain ⟨oa, oc, hov⟩ := own_slice H2.out
  subst hov
  go_wp2_with (with_reducible refine stop_store 44 ?_)
  refine unpark ?_
  refine wpList_store_at rfl _ _ _ rfl b 0 rfl _ rfl [.slice none 0 0] rfl _ _ H1.out 1 rfl (by simp) (by simp [Value.oneCell']) (by kernel_rfl) ?_
  intro w3 hz hg _
  clear z0
  obtain ⟨h4, h5, h6, h7, hlow⟩ := H4.out
  have hm : Mod (FW (q, d)) wq w3 := Mod.of_grown hg fun k hk => by cases hk; exact h5
  have hbx : Bx w0 w3 xb Fb (labOf n q) 8 (st (q, d)).2 := H3.out.aside (G := fun k => k = b) (Mod.of_grown hg fun k hk => by cases hk; rfl) (fun k hk e => h7 (by rw [← e]; exact hk)) (fun k hk => by rw [hk]; exact (hlow b h5).1)
  have hway : Way w0 w3 b (grownF (FW (q, d)) wq w3) (labOf n q) [] (st (q, d)).2 := ⟨⟨.slice none 0 0, xb, Fb, hz, MOwn.nil _ _, hbx, fun k hk => .inl (h4 k hk), .inl h5, (fun g hg => by cases hg), h7⟩, fun k hk => by
    rcases hk with hk | hk
    · exact ⟨(hlow k hk).1, Nat.lt_of_lt_of_le (hlow k hk).2 hm.size⟩
    · exact ⟨Nat.le_trans (Nat.le_trans Hh.out.bel.size Bk.out.size) hk.1, hk.2⟩⟩
  have hnx := KnNext.set (st := st) Hh.out Bk.out He.out hway hm
  have hmo : MOwn w3 w0.heap.size (.slice oa (st (q, d)).1.length oc) (st (q, d)).1 := H2.out.keep fun g hgo hl => hg.block g hl fun e => (h6 g hgo).2.2 (by cases e; rfl)
  have hkf : ∀ g, (Value.slice oa (st (q, d)).1.length oc).ownBlock = some g → KF FW g := fun g hgo => ⟨_, (h6 g hgo).1⟩
  clear hz hg hway hm hbx H1 H2 H3 H4 h4 h5 h6 h7 hlow
  have Hnx := Lib.hid hnx; clear hnx
  have Hmo := Lib.hid hmo; clear hmo
  have Hkf := Lib.hid hkf; clear hkf
  go_wp2
  go_ret
  exact ⟨_, rfl, Hmo.out, Hkf.out, Hnx.out⟩
end
end Go.Proofs.YtclgakdfeeefiaaDoor
