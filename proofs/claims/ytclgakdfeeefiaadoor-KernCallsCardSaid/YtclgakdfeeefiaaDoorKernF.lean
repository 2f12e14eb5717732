/- Rows of calls on kernels; whose a call is; two kernels; what they agree on. -/
import Derived.Test.YtclgakdfeeefiaaDoorKernE
import Derived.Test.YtclgakdfeeefiaaDoorList
namespace Go.Proofs.YtclgakdfeeefiaaDoor
open Go.RowKit Go.ChangeShapes Go.WideShapes

structure CallK where
  what : Int
  who : Int
  to : Int
  pos : Int
  now : Int
  up : Bool
  m : Msg
def CallK.cells (x : CallK) : List Value := [.int .i64 x.what, .int .i64 x.who, .int .i64 x.to, .int .i64 x.pos, .int .i64 x.now, .bool x.up, .int .i64 x.m.1, .int .i64 x.m.2.1, .int .i64 x.m.2.2.1, .int .i64 x.m.2.2.2]
def callKF : Fmt CallK := ⟨CallK.cells, 10, fun _ => rfl, by decide, fun x u hu => by simp [CallK.cells] at hu; rcases hu with rfl | rfl | rfl | rfl | rfl | rfl | rfl | rfl | rfl | rfl <;> rfl⟩
abbrev KRow (w : World) (a : Option Addr) (n c : Nat) (xs : List CallK) : Prop := Recs callKF w a n c xs
section
variable {H : Type} {enc : TypeId × Value → H} {w : World} {base : Nat} {held : Bool} {fuel : Nat}
set_option maxRecDepth 100000 in
theorem open_callK {cs : List Value} {x : DataW H × List MemPlace} (h : DataW.trod enc Tryd.prog w base (fun _ => true) held fuel 54 cs = some x) : ∃ v : CallK, cs = v.cells := by
  obtain ⟨hl, hf⟩ := open_parts Tryd.underlying54 h
  have hl10 : cs.length = 10 := hl.trans (by kernel_rfl)
  obtain ⟨n0, y0, h0⟩ := hf 0 _ rfl
  obtain ⟨n1, y1, h1⟩ := hf 1 _ rfl
  obtain ⟨n2, y2, h2⟩ := hf 2 _ rfl
  obtain ⟨n3, y3, h3⟩ := hf 3 _ rfl
  obtain ⟨n4, y4, h4⟩ := hf 4 _ rfl
  obtain ⟨n5, y5, h5⟩ := hf 5 _ rfl
  obtain ⟨n6, y6, h6⟩ := hf 6 _ rfl
  obtain ⟨z0, e0, _, w0⟩ := DataW.trod_int Tryd.underlying3 h0
  obtain ⟨z1, e1, _, w1⟩ := DataW.trod_int Tryd.underlying3 h1
  obtain ⟨z2, e2, _, w2⟩ := DataW.trod_int Tryd.underlying3 h2
  obtain ⟨z3, e3, _, w3⟩ := DataW.trod_int Tryd.underlying3 h3
  obtain ⟨z4, e4, _, w4⟩ := DataW.trod_int Tryd.underlying3 h4
  obtain ⟨z5, e5, _⟩ := DataW.trod_bool Tryd.underlying4 h5
  obtain ⟨m, e6, -⟩ := open_msg h6
  have c1 : Tryd.prog.cellsOf 3 = 1 := by kernel_rfl
  have c2 : Tryd.prog.cellsOf 4 = 1 := by kernel_rfl
  have c3 : Tryd.prog.cellsOf 39 = 4 := by kernel_rfl
  match cs, hl10 with
  | [v0, v1, v2, v3, v4, v5, v6, v7, v8, v9], _ =>
    simp [c1, c2, c3, Msg.cells] at e0 e1 e2 e3 e4 e5 e6
    subst e0 e1 e2 e3 e4 e5
    obtain ⟨rfl, rfl, rfl, rfl⟩ := e6
    exact ⟨⟨z0, z1, z2, z3, z4, z5, m⟩, rfl⟩
theorem open_krow {a : Option Addr} {n c : Nat} {x : DataW H × List MemPlace}
    (h : DataW.trod enc Tryd.prog w base (fun _ => true) held fuel 49 [.slice a n c] = some x) : ∃ xs, KRow w a n c xs := by
  obtain ⟨a', n', c', rs, e, hr, hx⟩ := open_rows Tryd.underlying49 (m := 10) (by kernel_rfl) (by decide) h
  cases e
  obtain ⟨xs, rfl, -⟩ := list_map_choose (f := CallK.cells) (p := fun _ => True) rs fun r hr => by
    obtain ⟨f, y, h⟩ := hx r hr
    obtain ⟨v, hv⟩ := open_callK h
    exact ⟨v, hv, trivial⟩
  exact ⟨xs, recs_of_rows (F := callKF) hr⟩
end
/-- Does a call touch a part's own ways? -/
def mineOf (x : CallK) (n q : Int) : Bool :=
  if x.what = 0 ∨ x.what = 3 then (x.who == q) || ((x.who == n) && (x.to == q)) else if x.what = 1 ∨ x.what = 2 then x.who == q else (x.who == q) || (x.who == n)
set_option maxHeartbeats 4000000 in
theorem mine_calls {w : World} (x : CallK) (n q : Int) : Calls Tryd.prog 31 #[.agg x.cells.toArray, .int .i64 n, .int .i64 q] w fun e w' => e = .returned (.bool (mineOf x n q)) ∧ Below w.heap.size w w' := by
  obtain ⟨what, who, to, pos, now, up, m0, m1, m2, m3⟩ := x
  unfold mineOf
  simp only [CallK.cells]
  have hb : Below w.heap.size w (w.alloc (.cells #[.int .i64 what, .int .i64 who, .int .i64 to, .int .i64 pos, .int .i64 now, .bool up, .int .i64 m0, .int .i64 m1, .int .i64 m2, .int .i64 m3] 54)) := (Below.refl _ _).alloc (Nat.le_refl _) _
  have HB := Lib.hid hb; clear hb
  obtain ⟨E1, h1⟩ : ∃ E, (who == q) = E := ⟨_, rfl⟩
  obtain ⟨E2, h2⟩ : ∃ E, (who == n) = E := ⟨_, rfl⟩
  obtain ⟨E3, h3⟩ : ∃ E, (to == q) = E := ⟨_, rfl⟩
  rw [h1, h2, h3]
  have hw : (what = 0 ∨ what = 3) ∨ (what = 1 ∨ what = 2) ∨ ((what == 0) = false ∧ (what == 3) = false ∧ (what == 1) = false ∧ (what == 2) = false ∧ ¬ (what = 0 ∨ what = 3) ∧ ¬ (what = 1 ∨ what = 2)) := by
    simp only [beq_eq_false_iff_ne, ne_eq]
    omega
  rcases hw with (rfl | rfl) | (rfl | rfl) | ⟨k1, k2, k3, k4, n1, n2⟩
  · cases E1 <;> cases E2 <;> cases E3 <;> (
      go_enter Tryd.func31, Tryd.ntmps31
      go_wp2
      go_ret
      exact ⟨by simp, HB.out⟩)
  · cases E1 <;> cases E2 <;> cases E3 <;> (
      go_enter Tryd.func31, Tryd.ntmps31
      go_wp2
      go_ret
      exact ⟨by simp, HB.out⟩)
  · clear h2 h3
    cases E1 <;> (
      go_enter Tryd.func31, Tryd.ntmps31
      go_wp2
      go_ret
      exact ⟨by simp, HB.out⟩)
  · clear h2 h3
    cases E1 <;> (
      go_enter Tryd.func31, Tryd.ntmps31
      go_wp2
      go_ret
      exact ⟨by simp, HB.out⟩)
  · rw [if_neg n1, if_neg n2]
    clear n1 n2 h3
    cases E1 <;> cases E2 <;> (
      go_enter Tryd.func31, Tryd.ntmps31
      go_wp2
      go_ret
      exact ⟨by simp, HB.out⟩)

/-- Two kernels' ways of a part are alike. -/
def Agree (q : Int) (s t : Sta) : Prop := ∀ d, s (q, d) = t (q, d)
section
variable {n : Nat} {p : Pl} {q : Int} {s t : Sta}
theorem Agree.upd (h : Agree q s t) (e : End) (f : List Msg × List Msg → List Msg × List Msg) : Agree q (updE s e (f (s e))) (updE t e (f (t e))) := fun d => by
  by_cases hx : ((q, d) : End) = e
  · subst hx
    rw [updE_same, updE_same, h d]
  · rw [updE_other _ _ hx, updE_other _ _ hx]
    exact h d
theorem Agree.aside (e : End) (v : List Msg × List Msg) (he : ¬ e.1 = q) : Agree q (updE s e v) s := fun d => updE_other _ _ fun h => he (by rw [← h])
theorem Agree.refl : Agree q s s := fun _ => rfl
theorem Agree.trans {r : Sta} (h : Agree q r s) (h' : Agree q s t) : Agree q r t := fun d => (h d).trans (h' d)
theorem send_both (h : Agree q s t) (who to : Int) (m : Msg) (now : Int) : (sendK n p s who to m now).1 = (sendK n p t who to m now).1 ∧ Agree q (sendK n p s who to m now).2 (sendK n p t who to m now).2 := by
  have key : ∀ e : End, (if fitsOf e m = true then ((0 : Int), updE s e ((s e).1 ++ [m], (s e).2)) else (10, s)).1 = (if fitsOf e m = true then ((0 : Int), updE t e ((t e).1 ++ [m], (t e).2)) else (10, t)).1 ∧
      Agree q (if fitsOf e m = true then ((0 : Int), updE s e ((s e).1 ++ [m], (s e).2)) else (10, s)).2 (if fitsOf e m = true then ((0 : Int), updE t e ((t e).1 ++ [m], (t e).2)) else (10, t)).2 := fun e => by
    by_cases hf : fitsOf e m = true
    · rw [if_pos hf, if_pos hf]
      exact ⟨rfl, h.upd e fun x => (x.1 ++ [m], x.2)⟩
    · rw [if_neg hf, if_neg hf]
      exact ⟨rfl, h⟩
  unfold sendK
  by_cases h1 : thereB n who = true ∧ thereB n to = true ∧ ¬ who = to
  · rw [if_pos h1, if_pos h1]
    by_cases h2 : ownOf p now = who
    · rw [if_pos h2, if_pos h2]
      by_cases h3 : flowOf n who to = true
      · rw [if_pos h3, if_pos h3]
        exact key _
      · rw [if_neg h3, if_neg h3]; exact ⟨rfl, h⟩
    · rw [if_neg h2, if_neg h2]; exact ⟨rfl, h⟩
  · rw [if_neg h1, if_neg h1]; exact ⟨rfl, h⟩
theorem send_other (who to : Int) (m : Msg) (now : Int) (hn : ¬ who = q) (hn2 : ¬ (who = (n : Int) ∧ to = q)) : Agree q (sendK n p s who to m now).2 s := by
  unfold sendK
  by_cases h1 : thereB n who = true ∧ thereB n to = true ∧ ¬ who = to
  · rw [if_pos h1]
    by_cases h2 : ownOf p now = who
    · rw [if_pos h2]
      by_cases h3 : flowOf n who to = true
      · rw [if_pos h3]
        simp only
        by_cases h4 : who = (n : Int)
        · rw [if_pos h4]
          split
          · exact Agree.aside _ _ fun h => hn2 ⟨h4, h⟩
          · exact Agree.refl
        · rw [if_neg h4]
          split
          · exact Agree.aside _ _ hn
          · exact Agree.refl
      · rw [if_neg h3]; exact Agree.refl
    · rw [if_neg h2]; exact Agree.refl
  · rw [if_neg h1]; exact Agree.refl
theorem out_both (h : Agree q s t) (e : End) : Agree q (outK n s e).2 (outK n t e).2 := by
  unfold outK
  split
  · exact h.upd e fun x => ([], x.2)
  · exact h
theorem out_same (h : Agree q s t) (d : Int) : (outK n s (q, d)).1 = (outK n t (q, d)).1 := by
  unfold outK
  split
  · show (s (q, d)).1 = (t (q, d)).1
    rw [h d]
  · rfl
theorem out_other (e : End) (he : ¬ e.1 = q) : Agree q (outK n s e).2 s := by
  unfold outK
  split
  · exact Agree.aside _ _ he
  · exact Agree.refl
theorem carry_both (h : Agree q s t) (e : End) (m : Msg) : Agree q (carryK n s e m).2 (carryK n t e m).2 := by
  unfold carryK
  split
  · exact h.upd e fun x => (x.1, carryOf x.2 m)
  · exact h
theorem carry_same (h : Agree q s t) (d : Int) (m : Msg) : (carryK n s (q, d) m).1 = (carryK n t (q, d) m).1 := by
  unfold carryK
  split
  · show decide ((s (q, d)).2.length < 8) = decide ((t (q, d)).2.length < 8)
    rw [h d]
  · rfl
theorem carry_other (e : End) (m : Msg) (he : ¬ e.1 = q) : Agree q (carryK n s e m).2 s := by
  unfold carryK
  split
  · exact Agree.aside _ _ he
  · exact Agree.refl
theorem recv_both (h : Agree q s t) (who to i now : Int) : Agree q (recvK n p s who to i now).2 (recvK n p t who to i now).2 := by
  unfold recvK
  simp only
  split
  · split
    · exact h.upd _ fun x => (x.1, (takeOf (labOf n to) x.2 (labOf n who) 0 i).2.2)
    · exact h
  · exact h
theorem two_apart (hn : n ≤ 6) {a b : Int} (ha : 0 ≤ a ∧ a < n) (hb : 0 ≤ b ∧ b < n) (hne : ¬ a = b) : withOf (labOf n a) (labOf n b) 0 = false := by
  obtain ⟨A, rfl⟩ : ∃ A : Nat, a = A := ⟨a.toNat, by omega⟩
  obtain ⟨B, rfl⟩ : ∃ B : Nat, b = B := ⟨b.toNat, by omega⟩
  exact with_two n (by omega) A (by omega) B (by omega) ⟨by omega, by omega, by omega⟩
theorem take_blind {l t : Label} (h : withOf l t 0 = false) (ms : List Msg) (i : Int) : takeOf l ms t 0 i = (noMsg, 14, ms) := by
  unfold takeOf
  rw [h]
  rfl
theorem recv_other (hn6 : n ≤ 6) (who to i now : Int) (hq : 0 ≤ q ∧ q < (n : Int)) (hn : ¬ who = q) (hn2 : ¬ (who = (n : Int) ∧ to = q)) : Agree q (recvK n p s who to i now).2 s := by
  unfold recvK
  simp only
  by_cases h1 : thereB n who = true ∧ Inside n (to, dirOf (decide (who = (n : Int))))
  · rw [if_pos h1]
    by_cases h2 : ownOf p now = who
    · rw [if_pos h2]
      by_cases he : to = q
      · subst he
        have hw := of_decide_eq_true h1.1
        rw [take_blind (two_apart hn6 hq (b := who) (by omega) (by omega))]
        intro d
        show updE s (to, dirOf (decide (who = (n : Int)))) (s (to, dirOf (decide (who = (n : Int))))) (to, d) = s (to, d)
        by_cases hx : ((to, d) : End) = (to, dirOf (decide (who = (n : Int))))
        · rw [hx, updE_same]
        · exact updE_other _ _ hx
      · exact Agree.aside _ _ he
    · rw [if_neg h2]; exact Agree.refl
  · rw [if_neg h1]; exact Agree.refl
theorem recv_same (hn6 : n ≤ 6) (h : Agree q s t) (who to i now : Int) (hq : 0 ≤ q ∧ q < (n : Int)) (hown : who = q ∨ (who = (n : Int) ∧ to = q)) : (recvK n p s who to i now).1 = (recvK n p t who to i now).1 := by
  unfold recvK
  simp only
  by_cases h1 : thereB n who = true ∧ Inside n (to, dirOf (decide (who = (n : Int))))
  · rw [if_pos h1, if_pos h1]
    by_cases h2 : ownOf p now = who
    · rw [if_pos h2, if_pos h2]
      by_cases he : to = q
      · subst he
        rw [h]
      · obtain rfl : who = q := by omega
        have hi := h1.2
        unfold Inside at hi
        rw [take_blind (two_apart hn6 (a := to) (b := who) ⟨hi.1, hi.2.1⟩ hq he), take_blind (two_apart hn6 (a := to) (b := who) ⟨hi.1, hi.2.1⟩ hq he)]
    · rw [if_neg h2, if_neg h2]
  · rw [if_neg h1, if_neg h1]
theorem clear_both (h : Agree q s t) (who : Int) : Agree q (clearK n s who) (clearK n t who) := fun d => by
  unfold clearK
  rw [h d]
theorem clear_other (who : Int) (hn : ¬ who = q) (hn2 : ¬ who = (n : Int)) : Agree q (clearK n s who) s := fun d => by
  have hn' : ¬ q = who := fun h => hn h.symm
  simp [clearK, clearE, endsB, beginsB, hn', hn2]
theorem box_same (h : Agree q s t) (d : Int) : boxK n s (q, d) = boxK n t (q, d) := by
  unfold boxK
  rw [h d]
end
/-- Two kernels, and cells beside them. -/
def Kn2 (w0 w : World) (k1 k2 n : Nat) (p : Pl) (s1 s2 : Sta) (L : List (Nat × Obj)) : Prop :=
  ∃ F1 F2, Kn w0 w k1 F1 n p s1 ∧ Kn w0 w k2 F2 n p s2 ∧ (∀ k, F1 k → ¬ F2 k) ∧ ∀ x ∈ L, w.heap[x.1]? = some x.2 ∧ ¬ F1 x.1 ∧ ¬ F2 x.1
section
variable {w0 w w' : World} {k1 k2 n : Nat} {p : Pl} {s1 s2 s' : Sta} {L : List (Nat × Obj)} {f : Nat} {args : Array Value} {P : Ending → Prop}
theorem Kn2.step (h : Kn2 w0 w k1 k2 n p s1 s2 L) (hb : Below w.heap.size w w') : Kn2 w0 w' k1 k2 n p s1 s2 L := by
  obtain ⟨F1, F2, h1, h2, h3, h4⟩ := h
  exact ⟨F1, F2, h1.step hb, h2.step hb, h3, fun x hx => ⟨(hb.block _ (Array.getElem?_eq_some_iff.1 (h4 x hx).1).1).trans (h4 x hx).1, (h4 x hx).2⟩⟩
theorem Kn2.bel (h : Kn2 w0 w k1 k2 n p s1 s2 L) : Below w0.heap.size w0 w := by
  obtain ⟨F1, F2, h1, -⟩ := h
  exact h1.bel
theorem Kn2.at (h : Kn2 w0 w k1 k2 n p s1 s2 L) {g : Nat} {o : Obj} (hx : (g, o) ∈ L) : w.heap[g]? = some o := by
  obtain ⟨F1, F2, -, -, -, h4⟩ := h
  exact (h4 _ hx).1
theorem Kn2.drop {x : Nat × Obj} (h : Kn2 w0 w k1 k2 n p s1 s2 (x :: L)) : Kn2 w0 w k1 k2 n p s1 s2 L := by
  obtain ⟨F1, F2, h1, h2, h3, h4⟩ := h
  exact ⟨F1, F2, h1, h2, h3, fun y hy => h4 y (.tail _ hy)⟩
theorem Kn2.made (h : Kn2 w0 w k1 k2 n p s1 s2 L) (o : Obj) : Kn2 w0 (w.alloc o) k1 k2 n p s1 s2 ((w.heap.size, o) :: L) := by
  have hb : Below w.heap.size w (w.alloc o) := (Below.refl _ _).alloc (Nat.le_refl _) o
  obtain ⟨F1, F2, h1, h2, h3, h4⟩ := h
  refine ⟨F1, F2, h1.step hb, h2.step hb, h3, fun x hx => ?_⟩
  rcases List.mem_cons.1 hx with rfl | hx
  · exact ⟨heap_alloc_new w o, fun hf => Nat.lt_irrefl _ (h1.low _ hf).2, fun hf => Nat.lt_irrefl _ (h2.low _ hf).2⟩
  · exact ⟨(hb.block _ (Array.getElem?_eq_some_iff.1 (h4 x hx).1).1).trans (h4 x hx).1, (h4 x hx).2⟩
theorem Kn2.swap (h : Kn2 w0 w k1 k2 n p s1 s2 L) : Kn2 w0 w k2 k1 n p s2 s1 L := by
  obtain ⟨F1, F2, h1, h2, h3, h4⟩ := h
  exact ⟨F2, F1, h2, h1, fun k hk hk' => h3 k hk' hk, fun x hx => ⟨(h4 x hx).1, (h4 x hx).2.2, (h4 x hx).2.1⟩⟩
theorem Kn2.fst (h : Kn2 w0 w k1 k2 n p s1 s2 L) (hc : ∀ F, Kn w0 w k1 F n p s1 → Calls Tryd.prog f args w fun e w' => P e ∧ Kn w0 w' k1 (grownF F w w') n p s' ∧ Mod F w w') :
    Calls Tryd.prog f args w fun e w' => P e ∧ Kn2 w0 w' k1 k2 n p s' s2 L := by
  obtain ⟨F1, F2, h1, h2, h3, h4⟩ := h
  refine (hc F1 h1).mono ?_
  rintro e w' ⟨hp, hk, hm⟩
  have hv : ∀ k, k < w.heap.size → ¬ F1 k → ¬ grownF F1 w w' k := by
    rintro k hl hf (hk | hk)
    · exact hf hk
    · omega
  refine ⟨hp, _, F2, hk, h2.aside hm (fun k hk hk' => h3 k hk' hk) (fun k hk => (h1.low k hk).1), fun k hk hk' => hv k (h2.low k hk').2 (fun h => h3 k h hk') hk, fun x hx => ?_⟩
  have hl := (Array.getElem?_eq_some_iff.1 (h4 x hx).1).1
  exact ⟨(hm.block _ hl (h4 x hx).2.1).trans (h4 x hx).1, hv _ hl (h4 x hx).2.1, (h4 x hx).2.2⟩
theorem Kn2.snd (h : Kn2 w0 w k1 k2 n p s1 s2 L) (hc : ∀ F, Kn w0 w k2 F n p s2 → Calls Tryd.prog f args w fun e w' => P e ∧ Kn w0 w' k2 (grownF F w w') n p s' ∧ Mod F w w') :
    Calls Tryd.prog f args w fun e w' => P e ∧ Kn2 w0 w' k1 k2 n p s1 s' L := (h.swap.fst hc).mono fun _ _ h => ⟨h.1, h.2.swap⟩
theorem Kn2.ask1 {R : Ending → World → Prop} (h : Kn2 w0 w k1 k2 n p s1 s2 L) (hc : ∀ F, Kn w0 w k1 F n p s1 → Calls Tryd.prog f args w R) : Calls Tryd.prog f args w R := by
  obtain ⟨F1, F2, h1, h2, h3, h4⟩ := h
  exact hc F1 h1
theorem Kn2.ask2 {R : Ending → World → Prop} (h : Kn2 w0 w k1 k2 n p s1 s2 L) (hc : ∀ F, Kn w0 w k2 F n p s2 → Calls Tryd.prog f args w R) : Calls Tryd.prog f args w R := h.swap.ask1 hc
/-- Two kernels, and messages that were out on the first one's ways. -/
def Kn2M (w0 w : World) (k1 k2 n : Nat) (p : Pl) (s1 s2 : Sta) (L : List (Nat × Obj)) (a : Option Addr) (N c : Nat) (ms : List Msg) : Prop :=
  ∃ F1 F2, Kn w0 w k1 F1 n p s1 ∧ Kn w0 w k2 F2 n p s2 ∧ (∀ k, F1 k → ¬ F2 k) ∧ (∀ x ∈ L, w.heap[x.1]? = some x.2 ∧ ¬ F1 x.1 ∧ ¬ F2 x.1) ∧ Msgs w a N c ms ∧ ∀ b o, a = some ⟨b, o, none⟩ → F1 b
theorem Kn2M.two {a : Option Addr} {N c : Nat} {ms : List Msg} (h : Kn2M w0 w k1 k2 n p s1 s2 L a N c ms) : Kn2 w0 w k1 k2 n p s1 s2 L := by
  obtain ⟨F1, F2, h1, h2, h3, h4, -⟩ := h
  exact ⟨F1, F2, h1, h2, h3, h4⟩
theorem Kn2.out1 (h : Kn2 w0 w k1 k2 n p s1 s2 L) (q : Int) (u : Bool) : Calls Tryd.prog 22 #[.pointer (some ⟨k1, 0, none⟩), .int .i64 q, .bool u] w fun e w' =>
    ∃ a c, e = .returned (.slice a (outK n s1 (q, dirOf u)).1.length c) ∧ Kn2M w0 w' k1 k2 n p (outK n s1 (q, dirOf u)).2 s2 L a (outK n s1 (q, dirOf u)).1.length c (outK n s1 (q, dirOf u)).1 := by
  obtain ⟨F1, F2, h1, h2, h3, h4⟩ := h
  refine (Out_kn h1 q u).mono ?_
  rintro e w' ⟨v, rfl, hv, hg, hk, hm⟩
  have hvk : ∀ k, k < w.heap.size → ¬ F1 k → ¬ grownF F1 w w' k := by
    rintro k hl hf (hk | hk)
    · exact hf hk
    · omega
  obtain ⟨a, k, c, rfl, hms, -⟩ := hv.msgs
  have hl := hms.len
  subst hl
  refine ⟨a, c, rfl, _, F2, hk, h2.aside hm (fun k hk hk' => h3 k hk' hk) (fun k hk => (h1.low k hk).1), fun k hk hk' => hvk k (h2.low k hk').2 (fun h => h3 k h hk') hk, fun x hx => ?_, hms, fun b o e => .inl (hg b (by rw [e]; rfl))⟩
  have hl := (Array.getElem?_eq_some_iff.1 (h4 x hx).1).1
  exact ⟨(hm.block _ hl (h4 x hx).2.1).trans (h4 x hx).1, hvk _ hl (h4 x hx).2.1, (h4 x hx).2.2⟩
theorem Kn2M.out2 {a : Option Addr} {N c : Nat} {ms : List Msg} (h : Kn2M w0 w k1 k2 n p s1 s2 L a N c ms) (q : Int) (u : Bool) : Calls Tryd.prog 22 #[.pointer (some ⟨k2, 0, none⟩), .int .i64 q, .bool u] w fun e w' =>
    ∃ a' c', e = .returned (.slice a' (outK n s2 (q, dirOf u)).1.length c') ∧ Msgs w' a' (outK n s2 (q, dirOf u)).1.length c' (outK n s2 (q, dirOf u)).1 ∧ Msgs w' a N c ms ∧ Kn2 w0 w' k1 k2 n p s1 (outK n s2 (q, dirOf u)).2 L := by
  obtain ⟨F1, F2, h1, h2, h3, h4, h5, h6⟩ := h
  refine (Out_kn h2 q u).mono ?_
  rintro e w' ⟨v, rfl, hv, hg, hk, hm⟩
  have hvk : ∀ k, k < w.heap.size → ¬ F2 k → ¬ grownF F2 w w' k := by
    rintro k hl hf (hk | hk)
    · exact hf hk
    · omega
  obtain ⟨a', k, c', rfl, hms, -⟩ := hv.msgs
  have hl := hms.len
  subst hl
  refine ⟨a', c', rfl, hms, h5.keepPos fun b o _ e hl => hm.block b hl fun hf => h3 b (h6 b o e) hf, F1, _, h1.aside hm (fun k hk hk' => h3 k hk hk') (fun k hk => (h2.low k hk).1), hk, fun k hk hk' => hvk k (h1.low k hk).2 (fun h => h3 k hk h) hk', fun x hx => ?_⟩
  have hl := (Array.getElem?_eq_some_iff.1 (h4 x hx).1).1
  exact ⟨(hm.block _ hl (h4 x hx).2.2).trans (h4 x hx).1, (h4 x hx).2.1, hvk _ hl (h4 x hx).2.2⟩
/-- A second kernel is made. -/
theorem KnL.second {s : Sta} (h : KnL w0 w k1 n p s L) (hT : TabOk w) (h0 : 0 < w.heap.size) : Calls Tryd.prog 10 #[.agg p.cells.toArray] w fun e w' =>
    ∃ k2, e = .returned (.tuple #[.pointer (some ⟨k2, 0, none⟩), .int .i64 0]) ∧ Kn2 w0 w' k1 k2 n p s st0 L := by
  obtain ⟨F, h1, h2⟩ := h
  refine (New_kn h1.bel hT h0 p h1.good h1.num).mono ?_
  rintro e w' ⟨k2, F2, rfl, hk, hf, hb⟩
  refine ⟨k2, rfl, F, F2, h1.step hb, hk, fun k hk hk' => by have := hf k hk'; have := (h1.low k hk).2; omega, fun x hx => ?_⟩
  have hl := (Array.getElem?_eq_some_iff.1 (h2 x hx).1).1
  exact ⟨(hb.block _ hl).trans (h2 x hx).1, (h2 x hx).2, fun h => by have := hf _ h; omega⟩
end
end Go.Proofs.YtclgakdfeeefiaaDoor
