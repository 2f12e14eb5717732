/- Links: Clear, Take, Drop. -/
import Derived.Test.YtckahkpikjhkmaaLink6
namespace Go.Proofs.Ytckahkpikjhkmaa
open Go.RowKit

section
variable {w w' : World} {B b m : Nat} {bs : List (Pla × Nat)} {mv : Pla → Value} {ls : Pla → List Msg}
theorem foot_turn {p : Pla × Nat} (hp : p ∈ bs) {v' : Value} (h3 : ∀ g, v'.ownBlock = some g → (mv p.1).ownBlock = some g ∨ w.heap.size ≤ g) : ∀ g, lfoot b m bs (upd mv p.1 v') g → lfoot b m bs mv g ∨ w.heap.size ≤ g := by
  rintro g (h | h | ⟨q, hq, h | h⟩)
  · exact .inl (.inl h)
  · exact .inl (.inr (.inl h))
  · exact .inl (.inr (.inr ⟨q, hq, .inl h⟩))
  · by_cases he : q.1 = p.1
    · rw [he, upd_same] at h
      exact (h3 g h).imp (fun h => .inr (.inr ⟨p, hp, .inr h⟩)) id
    · rw [upd_other _ _ he] at h
      exact .inl (.inr (.inr ⟨q, hq, .inr h⟩))
/-- What a call leaves behind: the link, its messages turned; nothing else was touched. -/
structure Left (w w' : World) (B b m : Nat) (bs : List (Pla × Nat)) (mv mv' : Pla → Value) (ls' : Pla → List Msg) : Prop where
  link : LinkAt w' B b m bs mv' ls'
  foot : ∀ g, lfoot b m bs mv' g → lfoot b m bs mv g ∨ w.heap.size ≤ g
  mod : Mod (lfoot b m bs mv) w w'
theorem Left.same (h : LinkAt w B b m bs mv ls) (hb : Below w.heap.size w w') : Left w w' B b m bs mv mv ls := ⟨h.below hb, fun _ h => .inl h, Mod.of_below hb⟩

def clearOf (bs : List (Pla × Nat)) (ls : Pla → List Msg) (k : Pla) : Nat × (Pla → List Msg) := if k ∈ bs.map (·.1) then ((ls k).length, upd ls k []) else (0, ls)
set_option maxHeartbeats 1000000 in
theorem Clear_calls (h : LinkAt w B b m bs mv ls) (k : Pla) : Calls Try.prog 18 #[ptrTo b, .int .i64 k.1, .bool k.2] w fun e w' => e = .returned (.int .i64 ((clearOf bs ls k).1 : Nat)) ∧ ∃ mv', Left w w' B b m bs mv mv' (clearOf bs ls k).2 := by
  have r0 := cells_at h.root 0
  have hz : ∀ w, (zeroValue 55).run Try.prog w = .ok (.pointer none) w := fun w => by kernel_rfl
  unfold clearOf
  rcases h.find k with ⟨p, hp, rfl⟩ | hk
  · simp only [if_pos (List.mem_map_of_mem (f := fun p : Pla × Nat => p.1) hp)]
    have hv := h.val hp
    have hbag := (h.bag p hp).1
    have hM := h.map
    obtain ⟨a, c, hmv, hrec, -⟩ := (h.bag p hp).2.recs
    have hle := hrec.le
    have c0 := cells_at hbag 0
    have f0 := frozen_of_row w p.2 0 _ _ hbag
    have hl : LinkAt (w.setCell ⟨p.2, 0, none⟩ (.slice none 0 0)) B b m bs (upd mv p.1 (.slice none 0 0)) (upd ls p.1 []) :=
      h.turn hp (heap_setCell_same w p.2 0 _ _ _ hbag) (ROwn.nil _ _) (fun g hg => by cases hg) (fun k _ hn _ => heap_setCell_other w _ k _ hn) (by simp)
    have hleft : Left w (w.setCell ⟨p.2, 0, none⟩ (.slice none 0 0)) B b m bs mv (upd mv p.1 (.slice none 0 0)) (upd ls p.1 []) :=
      ⟨hl, foot_turn hp (fun g hg => by cases hg), ⟨rfl, rfl, rfl, by simp, fun x _ hn => heap_setCell_other w _ x _ fun e => hn (.inr (.inr ⟨p, hp, .inl e⟩))⟩⟩
    rw [hmv] at c0
    have Hleft := Lib.hid hleft; clear hleft hl
    have Hv := Lib.hid hv; clear hv
    have HM := Lib.hid hM; clear hM h hp hbag hrec
    obtain ⟨L, hL⟩ : ∃ L, L = (ls p.1).length := ⟨_, rfl⟩
    rw [← hL] at c0 ⊢
    clear hL
    obtain ⟨⟨q, u⟩, g⟩ := p
    go_enter Try.func18, Try.ntmps18
    go_wp2_with (with_reducible refine stop_lookup 52 ?_)
    refine unpark ?_
    refine wpList_lookup_key rfl plaLaw _ _ _ rfl m _ HM.out (q, u) rfl rfl _ Try.underlying52 _ (hz w) ?_
    rw [Hv.out]
    simp only [Option.getD_some, Option.isSome_some]
    go_wp2_with fail
    go_ret
    exact ⟨rfl, _, Hleft.out⟩
  · have hkk : ¬ k ∈ bs.map (·.1) := fun hk' => by obtain ⟨p, hp, e⟩ := List.mem_map.1 hk'; exact hk p hp e
    simp only [if_neg hkk]
    have hv := LinkAt.absent hk
    have hM := h.map
    obtain ⟨q, u⟩ := k
    have Hv := Lib.hid hv; clear hv
    have HM := Lib.hid hM; clear hM hk hkk
    have Hh := Lib.hid h; clear h
    go_enter Try.func18, Try.ntmps18
    go_wp2_with (with_reducible refine stop_lookup 52 ?_)
    refine unpark ?_
    refine wpList_lookup_key rfl plaLaw _ _ _ rfl m _ HM.out (q, u) rfl rfl _ Try.underlying52 _ (hz w) ?_
    rw [Hv.out]
    simp only [Option.getD_none, Option.isSome_none]
    go_wp2
    go_ret
    exact ⟨rfl, _, Left.same Hh.out (Below.refl _ _)⟩

/-- the message, the error, what is left -/
def takeOf (bs : List (Pla × Nat)) (ls : Pla → List Msg) (k : Pla) (i : Int) (stays : Bool) : Msg × Int × (Pla → List Msg) :=
  if k ∈ bs.map (·.1) then if 0 ≤ i ∧ i < (ls k).length then ((ls k).getD i.toNat noMsg, 0, if stays then ls else upd ls k ((ls k).eraseIdx i.toNat)) else (noMsg, 12, ls) else (noMsg, 11, ls)
set_option maxHeartbeats 2000000 in
theorem Take_calls (h : LinkAt w B b m bs mv ls) (k : Pla) (i : Int) (stays : Bool) : Calls Try.prog 14 #[ptrTo b, .int .i64 k.1, .bool k.2, .int .i64 i, .bool stays] w fun e w' =>
    e = .returned (.tuple #[.agg (takeOf bs ls k i stays).1.cells.toArray, .int .i64 (takeOf bs ls k i stays).2.1]) ∧ ∃ mv', Left w w' B b m bs mv mv' (takeOf bs ls k i stays).2.2 := by
  have hz : ∀ w, (zeroValue 55).run Try.prog w = .ok (.pointer none) w := fun w => by kernel_rfl
  unfold takeOf
  have hbz : Below w.heap.size w (w.alloc (.cells #[.int .i64 0, .int .i64 0, .int .i64 0, .int .i64 0] 38)) := (Below.refl _ _).alloc (Nat.le_refl _) _
  rcases h.find k with ⟨p, hp, rfl⟩ | hk
  · simp only [if_pos (List.mem_map_of_mem (f := fun p : Pla × Nat => p.1) hp)]
    have h1 := h.below hbz
    have r0 := cells_at h1.root 0
    have hv := h.val hp
    have hM := h1.map
    have hbag := (h1.bag p hp).1
    obtain ⟨a, c, hmv, hrec, -⟩ := (h1.bag p hp).2.recs
    have c0 := cells_at hbag 0
    rw [hmv] at c0
    have h16 := h.small p hp
    have hle := hrec.le
    obtain ⟨L, hL⟩ : ∃ L, L = (ls p.1).length := ⟨_, rfl⟩
    rw [← hL] at c0 h16 hle hrec hmv ⊢
    have Hv := Lib.hid hv; clear hv
    have HM := Lib.hid hM; clear hM
    have Hh := Lib.hid h; clear h
    have Hh1 := Lib.hid h1; clear h1
    have Hbz := Lib.hid hbz; clear hbz
    have Hbag := Lib.hid hbag; clear hbag
    have Hrec := Lib.hid hrec; clear hrec
    have HL := Lib.hid hL; clear hL
    have Hmv := Lib.hid hmv; clear hmv
    by_cases hin : 0 ≤ i ∧ i < (L : Int)
    · rw [if_pos hin]
      obtain ⟨I, rfl⟩ : ∃ I : Nat, i = I := ⟨i.toNat, by omega⟩
      have hIL : I < L := by omega
      have hI : I < (ls p.1).length := by rw [← HL.out]; exact hIL
      obtain ⟨gx, ox, rfl⟩ := Hrec.out.addr (by omega)
      have hc := Hrec.out.at hI
      have hget : (ls p.1).getD (I : Int).toNat noMsg = (ls p.1)[I] := by rw [Int.toNat_natCast, List.getD_eq_getElem?_getD, List.getElem?_eq_getElem hI, Option.getD_some]
      rw [hget, Int.toNat_natCast]
      clear hget
      obtain ⟨mm, hmm⟩ : ∃ mm, mm = (ls p.1)[I] := ⟨_, rfl⟩
      rw [← hmm] at hc ⊢
      clear hmm
      obtain ⟨k1, k2, k3, k4⟩ := mm
      simp only [Msg.cells, Msg.kind, Msg.part, Msg.tx, Msg.what]
      have i1 : decide ((I : Int) < 0) = false := decide_eq_false (by omega)
      have i2 : decide ((L : Int) ≤ (I : Int)) = false := decide_eq_false (by omega)
      have i3 : (0 : Int) ≤ (I : Int) := by omega
      have i4 : (I : Int) < (L : Int) := by omega
      have x0 := hc 0 (.int .i64 k1) rfl
      have x1 := hc 1 (.int .i64 k2) rfl
      have x2 := hc 2 (.int .i64 k3) rfl
      have x3 := hc 3 (.int .i64 k4) rfl
      have xl := World.block_lt_of_cell? _ _ x0
      simp only [msgF, Nat.add_zero] at x0 x1 x2 x3
      clear hc
      cases stays with
      | true =>
        simp only [if_true]
        obtain ⟨⟨q, u⟩, g⟩ := p
        go_enter Try.func14, Try.ntmps14
        go_wp2_with (with_reducible refine stop_lookup 52 ?_)
        refine unpark ?_
        refine wpList_lookup_key rfl plaLaw _ _ _ rfl m _ HM.out (q, u) rfl rfl _ Try.underlying52 _ (hz _) ?_
        rw [Hv.out]
        simp only [Option.getD_some, Option.isSome_some]
        go_wp2
        refine bodyPost_ret (v := .tuple #[.agg #[.int .i64 k1, .int .i64 k2, .int .i64 k3, .int .i64 k4], .int .i64 0]) (by simp [results, Try.results14, go_sem]) rfl ?_
        exact ⟨rfl, _, Left.same Hh.out (((Below.refl _ _).alloc (Nat.le_refl _) _).alloc (by simp) _)⟩
      | false =>
        simp only [Bool.false_eq_true, if_false]
        have i5 : (I : Int) + 1 ≤ 16 := by omega
        have bA : Below w.heap.size w ((w.alloc (.cells #[.int .i64 0, .int .i64 0, .int .i64 0, .int .i64 0] 38)).alloc (.cells #[.int .i64 k1, .int .i64 k2, .int .i64 k3, .int .i64 k4] 38)) := ((Below.refl _ _).alloc (Nat.le_refl _) _).alloc (by simp) _
        have zA : ((w.alloc (.cells #[.int .i64 0, .int .i64 0, .int .i64 0, .int .i64 0] 38)).alloc (.cells #[.int .i64 k1, .int .i64 k2, .int .i64 k3, .int .i64 k4] 38)).heap[w.heap.size]? = some (.cells #[.int .i64 0, .int .i64 0, .int .i64 0, .int .i64 0] 38 (0, 0)) := (Below.heap_alloc _ _ _ (by simp)).trans (heap_alloc_new w _)
        have mA : ((w.alloc (.cells #[.int .i64 0, .int .i64 0, .int .i64 0, .int .i64 0] 38)).alloc (.cells #[.int .i64 k1, .int .i64 k2, .int .i64 k3, .int .i64 k4] 38)).heap[w.heap.size + 1]? = some (.cells #[.int .i64 k1, .int .i64 k2, .int .i64 k3, .int .i64 k4] 38 (0, 0)) := by
          have := heap_alloc_new (w.alloc (.cells #[.int .i64 0, .int .i64 0, .int .i64 0, .int .i64 0] 38)) (.cells #[.int .i64 k1, .int .i64 k2, .int .i64 k3, .int .i64 k4] 38)
          rwa [show (w.alloc (.cells #[.int .i64 0, .int .i64 0, .int .i64 0, .int .i64 0] 38)).heap.size = w.heap.size + 1 by simp] at this
        have cA := cells_at ((Hh.out.below bA).bag p hp).1 0
        rw [Hmv.out] at cA
        have HbA := Lib.hid bA; clear bA
        have HzA := Lib.hid zA; clear zA
        have HmA := Lib.hid mA; clear mA
        have Hp := Lib.hid hp; clear hp
        obtain ⟨⟨q, u⟩, g⟩ := p
        go_enter Try.func14, Try.ntmps14
        go_wp2_with (with_reducible refine stop_lookup 52 ?_)
        refine unpark ?_
        refine wpList_lookup_key rfl plaLaw _ _ _ rfl m _ HM.out (q, u) rfl rfl _ Try.underlying52 _ (hz _) ?_
        rw [Hv.out]
        simp only [Option.getD_some, Option.isSome_some]
        go_wp2_with fail
        generalize (w.alloc (.cells #[.int .i64 0, .int .i64 0, .int .i64 0, .int .i64 0] 38)).alloc (.cells #[.int .i64 k1, .int .i64 k2, .int .i64 k3, .int .i64 k4] 38) = wA at *
        have hA := Hh.out.below HbA.out
        have hdel := Del1_calls (hA.bag _ Hp.out).2 hI
        rw [Hmv.out] at hdel
        refine hdel.mono ?_
        rintro e w5 ⟨v', rfl, own5, g5, o5⟩
        clear hdel x0 x1 x2 x3 r0 c0 cA Hh1 Hbag
        have hown : (mv (q, u)).ownBlock = some gx := by rw [Hmv.out]; rfl
        have hgx := (Hh.out.bag _ Hp.out).2.lt gx hown
        have hgg := (Hh.out.own _ Hp.out gx hown).2.2 _ Hp.out
        have hgl := (Hh.out.lt g (.inr (.inr ⟨_, Hp.out, .inl rfl⟩))).2
        have hAs := HbA.out.size
        have same5 : ∀ x, x < wA.heap.size → x ≠ gx → w5.heap[x]? = wA.heap[x]? := fun x hx hn => g5.block x hx fun e => hn (show x = gx from Option.some.inj (show some x = some gx from e))
        have bag5 : w5.heap[g]? = some (.cells #[mv (q, u)] 57 (0, 0)) := (same5 g (by omega) fun e => hgg e.symm).trans (hA.bag _ Hp.out).1
        have z5 := (same5 w.heap.size (Array.getElem?_eq_some_iff.1 HzA.out).1 (by omega)).trans HzA.out
        have m5 := (same5 (w.heap.size + 1) (Array.getElem?_eq_some_iff.1 HmA.out).1 (by omega)).trans HmA.out
        obtain ⟨na, nc, hv'⟩ := own5.shape
        have f5 := frozen_of_row w5 g 0 _ _ bag5
        have c5 := cells_at bag5 0
        have bag6 : (w5.setCell ⟨g, 0, none⟩ v').heap[g]? = some (.cells #[v'] 57 (0, 0)) := heap_setCell_same w5 g 0 _ _ _ bag5
        have own6 : Mo (w5.setCell ⟨g, 0, none⟩ v') B v' ((ls (q, u)).eraseIdx I) := own5.keep fun x hx _ => heap_setCell_other w5 _ x _ fun e => by
          rw [o5] at hx
          have hx : some gx = some x := hx
          rw [← Option.some.inj hx] at e
          exact hgg e
        have z6 : (w5.setCell ⟨g, 0, none⟩ v').heap[w.heap.size]? = _ := (heap_setCell_other w5 _ _ _ (show w.heap.size ≠ g by omega)).trans z5
        have m6 : (w5.setCell ⟨g, 0, none⟩ v').heap[w.heap.size + 1]? = _ := (heap_setCell_other w5 _ _ _ (show w.heap.size + 1 ≠ g by omega)).trans m5
        have same6 : ∀ x, x < w.heap.size → x ≠ g → x ≠ gx → (w5.setCell ⟨g, 0, none⟩ v').heap[x]? = w.heap[x]? := fun x hx h1 h2 => ((heap_setCell_other w5 _ x _ h1).trans (same5 x (by omega) h2)).trans (HbA.out.block x hx)
        have s6 : w.heap.size ≤ (w5.setCell ⟨g, 0, none⟩ v').heap.size := by
          have := g5.size
          simp
          omega
        have gs6 : g5.os = g5.os := rfl
        have mod6 : Mod (fun k => k = g ∨ k = gx) w (w5.setCell ⟨g, 0, none⟩ v') := ⟨(show _ = _ from g5.os).trans HbA.out.os, (show _ = _ from g5.tape).trans HbA.out.tape, (show _ = _ from g5.output).trans HbA.out.output, s6, fun x hx hn => same6 x hx (fun e => hn (.inl e)) fun e => hn (.inr e)⟩
        clear gs6 same5 bag5 z5 m5 g5 own5 hA HbA HzA HmA
        subst hv'
        have y0 := cells_at m6 0
        have y1 := cells_at m6 1
        have y2 := cells_at m6 2
        have y3 := cells_at m6 3
        have Bag6 := Lib.hid bag6; clear bag6
        have Own6 := Lib.hid own6; clear own6
        have Z6 := Lib.hid z6; clear z6 m6
        have Same6 := Lib.hid same6; clear same6
        have Mod6 := Lib.hid mod6; clear mod6
        have O5 := Lib.hid o5; clear o5
        have Hown := Lib.hid hown; clear hown
        go_wp2_with (with_reducible refine stop_store 38 ?_)
        refine unpark ?_
        refine wpList_store_at rfl 38 _ _ rfl w.heap.size 0 rfl (.agg #[.int .i64 k1, .int .i64 k2, .int .i64 k3, .int .i64 k4]) rfl (msgF.cells (k1, k2, k3, k4)) rfl 38 _ Z6.out 4 rfl (by decide) (msgF.one _) (by kernel_rfl) ?_
        intro w7 h7 g7 s7
        have z7 : w7.heap[w.heap.size]? = some (.cells #[.int .i64 k1, .int .i64 k2, .int .i64 k3, .int .i64 k4] 38 (0, 0)) := h7
        have bag7 : w7.heap[g]? = some (.cells #[.slice na _ nc] 57 (0, 0)) := (g7.block g (by omega) fun e => by have := Option.some.inj e; omega).trans Bag6.out
        have own7 : Mo w7 B (.slice na _ nc) ((ls (q, u)).eraseIdx I) := Own6.out.keep fun x hx hl => g7.block x hl fun e => by
          rw [O5.out] at hx
          have h1 : gx = x := Option.some.inj (show some gx = some x from hx)
          have h2 := Option.some.inj e
          omega
        have same7 : ∀ x, x < w.heap.size → x ≠ g → x ≠ gx → w7.heap[x]? = w.heap[x]? := fun x hx h1 h2 => (g7.block x (by omega) fun e => by have := Option.some.inj e; omega).trans (Same6.out x hx h1 h2)
        have ho : ∀ y, (Value.slice na ((ls (q, u)).eraseIdx I).length nc).ownBlock = some y → (mv (q, u)).ownBlock = some y ∨ w.heap.size ≤ y := fun y hy => .inl (by rw [Hown.out]; rw [O5.out] at hy; exact hy)
        have hlk := Hh.out.turn Hp.out bag7 own7 ho (fun x hx h1 h2 => same7 x hx h1 fun e => h2 (by rw [Hown.out, e])) (Nat.le_trans (List.length_eraseIdx_le _ _) (by have := HL.out; omega))
        have hleft : Left w w7 B b m bs mv (upd mv (q, u) (.slice na ((ls (q, u)).eraseIdx I).length nc)) (upd ls (q, u) ((ls (q, u)).eraseIdx I)) :=
          ⟨hlk, foot_turn Hp.out ho, ⟨g7.os.trans Mod6.out.os, g7.tape.trans Mod6.out.tape, g7.output.trans Mod6.out.output, by omega, fun x hx hn => same7 x hx (fun e => hn (.inr (.inr ⟨_, Hp.out, .inl e⟩))) fun e => hn (.inr (.inr ⟨_, Hp.out, .inr (by rw [Hown.out, e])⟩))⟩⟩
        have r7 := cells_at z7 0
        have r8 := cells_at z7 1
        have r9 := cells_at z7 2
        have ra := cells_at z7 3
        clear h7 z7 bag7 own7 same7 ho hlk y0 y1 y2 y3
        have Hleft := Lib.hid hleft; clear hleft
        go_wp2
        refine bodyPost_ret (v := .tuple #[.agg #[.int .i64 k1, .int .i64 k2, .int .i64 k3, .int .i64 k4], .int .i64 0]) (by simp [results, Try.results14, go_sem, r7, r8, r9, ra]) rfl ?_
        exact ⟨rfl, _, Hleft.out⟩
    · rw [if_neg hin]
      simp only [Msg.cells, noMsg, Msg.kind, Msg.part, Msg.tx, Msg.what]
      have hd : (decide (i < 0) = true) ∨ (decide (i < 0) = false ∧ decide ((L : Int) ≤ i) = true) := by
        by_cases h1 : i < 0
        · exact .inl (decide_eq_true h1)
        · exact .inr ⟨decide_eq_false h1, decide_eq_true (by omega)⟩
      clear hin
      obtain ⟨⟨q, u⟩, g⟩ := p
      rcases hd with d1 | ⟨d1, d2⟩
      all_goals
        go_enter Try.func14, Try.ntmps14
        go_wp2_with (with_reducible refine stop_lookup 52 ?_)
        refine unpark ?_
        refine wpList_lookup_key rfl plaLaw _ _ _ rfl m _ HM.out (q, u) rfl rfl _ Try.underlying52 _ (hz _) ?_
        rw [Hv.out]
        simp only [Option.getD_some, Option.isSome_some]
        go_wp2
        refine bodyPost_ret (v := .tuple #[.agg #[.int .i64 0, .int .i64 0, .int .i64 0, .int .i64 0], .int .i64 12]) (by simp [results, Try.results14, go_sem]) rfl ?_
        exact ⟨rfl, _, Left.same Hh.out Hbz.out⟩
  · have hkk : ¬ k ∈ bs.map (·.1) := fun hk' => by obtain ⟨p, hp, e⟩ := List.mem_map.1 hk'; exact hk p hp e
    simp only [if_neg hkk]
    have hv := LinkAt.absent hk
    have h1 := h.below hbz
    have r0 := cells_at h1.root 0
    have hM := h1.map
    obtain ⟨q, u⟩ := k
    have Hv := Lib.hid hv; clear hv
    have HM := Lib.hid hM; clear hM hk hkk h1
    have Hh := Lib.hid h; clear h
    have Hbz := Lib.hid hbz; clear hbz
    simp only [Msg.cells, noMsg, Msg.kind, Msg.part, Msg.tx, Msg.what]
    go_enter Try.func14, Try.ntmps14
    go_wp2_with (with_reducible refine stop_lookup 52 ?_)
    refine unpark ?_
    refine wpList_lookup_key rfl plaLaw _ _ _ rfl m _ HM.out (q, u) rfl rfl _ Try.underlying52 _ (hz _) ?_
    rw [Hv.out]
    simp only [Option.getD_none, Option.isSome_none]
    go_wp2
    refine bodyPost_ret (v := .tuple #[.agg #[.int .i64 0, .int .i64 0, .int .i64 0, .int .i64 0], .int .i64 11]) (by simp [results, Try.results14, go_sem]) rfl ?_
    exact ⟨rfl, _, Left.same Hh.out Hbz.out⟩
end
end Go.Proofs.Ytckahkpikjhkmaa
