/- The document's link: Take. -/
import Derived.Test.YtckahkpikjhkmaaLinkF
namespace Go.Proofs.Ytckahkpikjhkmaa
open Go.RowKit

structure RLeft (w w' : World) (C B b g1 g2 n : Nat) (mv : Pla → Value) (ls' : Pla → List Msg) : Prop where
  ex : ∃ mv', RAt w' B b g1 g2 n mv' ls' ∧ ∀ x, rfoot b g1 g2 n mv' x → rfoot b g1 g2 n mv x ∨ C ≤ x
  mod : Mod (rfoot b g1 g2 n mv) w w'
section
variable {w w1 w' : World} {C B b g1 g2 n : Nat} {mv : Pla → Value} {ls ls' : Pla → List Msg}
theorem RLeft.same (h : RAt w B b g1 g2 n mv ls) (hb : Below w.heap.size w w') : RLeft w w' C B b g1 g2 n mv ls := ⟨⟨mv, h.below hb, fun _ h => .inl h⟩, Mod.of_below hb⟩
theorem RLeft.step (h : RLeft w w1 C B b g1 g2 n mv ls') (hb : Below w1.heap.size w1 w') : RLeft w w' C B b g1 g2 n mv ls' := by
  obtain ⟨mv', h1, h2⟩ := h.ex
  exact ⟨⟨mv', h1.below hb, h2⟩, h.mod.trans (Mod.of_below hb : Mod (rfoot b g1 g2 n mv) w1 w') (fun _ h => h) (fun _ _ h => h)⟩
theorem RLeft.weak {C' : Nat} (h : RLeft w w' C B b g1 g2 n mv ls') (hC : C' ≤ C) : RLeft w w' C' B b g1 g2 n mv ls' := by
  obtain ⟨mv', h1, h2⟩ := h.ex
  exact ⟨⟨mv', h1, fun x hx => (h2 x hx).imp id fun h => by omega⟩, h.mod⟩
theorem RLeft.turned (h : RAt w B b g1 g2 n mv ls) (hb : Below w.heap.size w w1) {i : Nat} (u : Bool) {v' : Value} {l' : List Msg} (hC : w.heap.size ≤ C) (h2 : Mo w1 C v' l') (h5 : l'.length ≤ 16) :
    RLeft w (w1.setCell ⟨gOf g1 g2 u, i, none⟩ v') C B b g1 g2 n mv (upd ls ((i : Int), u) l') := by
  have hlt := h.lt
  have hB : B ≤ C := by have := hlt b (.inl rfl); omega
  refine ⟨⟨_, (h.below hb).turn u (h2.mono hB) (fun g hg hf => ?_) h5, ?_⟩, ⟨hb.os, hb.tape, hb.output, by have := hb.size; simp; omega, fun x hx hn => ?_⟩⟩
  · have h1 := (h2.lt g hg).1
    have h3 := (hlt g hf).2
    omega
  · rintro x (rfl | rfl | rfl | ⟨k, hk, he⟩)
    · exact .inl (.inl rfl)
    · exact .inl (.inr (.inl rfl))
    · exact .inl (.inr (.inr (.inl rfl)))
    · by_cases hki : k = ((i : Int), u)
      · rw [hki, upd_same] at he
        exact .inr (h2.lt x he).1
      · rw [upd_other _ _ hki] at he
        exact .inl (.inr (.inr (.inr ⟨k, hk, he⟩)))
  · exact (heap_setCell_other w1 _ x _ fun e => hn (by rw [e]; exact h.g u)).trans (hb.block x hx)
theorem RLeft.grown (h : RLeft w w1 C B b g1 g2 n mv ls') {g : Nat} (hg : w1.grownBy w' (some g)) (hge : w.heap.size ≤ g) (hgC : g < C) (h0 : RAt w B b g1 g2 n mv ls) : RLeft w w' C B b g1 g2 n mv ls' := by
  obtain ⟨mv', h1, h2⟩ := h.ex
  have hf : ¬ rfoot b g1 g2 n mv' g := fun hf => (h2 g hf).elim (fun h => by have := (h0.lt g h).2; omega) fun h => by omega
  refine ⟨⟨mv', h1.keep fun k hk => hg.block k (h1.lt k hk).2 fun e => hf (Option.some.inj e ▸ hk), h2⟩, h.mod.trans (Mod.of_grown hg (F := fun x => x = g) fun k e => (Option.some.inj e).symm) (fun _ h => h) fun x hx e => by have e : x = g := e; omega⟩
set_option maxHeartbeats 2000000 in
theorem RTake_calls (h : RAt w B b g1 g2 n mv ls) (k : Pla) (i : Int) (stays : Bool) : Calls Try.prog 15 #[ptrTo b, .int .i64 k.1, .bool k.2, .int .i64 i, .bool stays] w fun e w' =>
    e = .returned (.tuple #[.agg (takeN n ls k i stays).1.cells.toArray, .int .i64 (takeN n ls k i stays).2.1]) ∧ RLeft w w' w.heap.size B b g1 g2 n mv (takeN n ls k i stays).2.2 := by
  unfold takeN
  have bz : Below w.heap.size w (w.alloc (.cells #[.int .i64 0, .int .i64 0, .int .i64 0, .int .i64 0] 38)) := (Below.refl _ _).alloc (Nat.le_refl _) _
  have h1 := h.below bz
  have z1 := heap_alloc_new w (.cells #[.int .i64 0, .int .i64 0, .int .i64 0, .int .i64 0] 38)
  have s1 : (w.alloc (.cells #[.int .i64 0, .int .i64 0, .int .i64 0, .int .i64 0] 38)).heap.size = w.heap.size + 1 := by simp
  have r0 := cells_at h1.root 0
  have h6 := h.few
  have hbag := RBag_calls h1 k
  rcases places (n := n) k with ⟨p, hp, hk, hm⟩ | ⟨h0, hm⟩ | ⟨h0, hn0, hm⟩
  · simp only [if_pos hm] at hbag ⊢
    obtain ⟨a, c, hmv, hrec, hbl⟩ := (h1.bag _ hm).recs
    rw [hmv] at hbag
    have h16 := h.small _ hm
    obtain ⟨L, hL⟩ : ∃ L, L = (ls k).length := ⟨_, rfl⟩
    rw [← hL] at hbag hrec hmv h16 ⊢
    obtain ⟨q, u⟩ := k
    simp only at hk hbag
    subst hk
    have e1 : decide ((p : Int) < 0) = false := decide_eq_false (by omega)
    have e2 : decide ((n : Int) ≤ (p : Int)) = false := decide_eq_false (by omega)
    have hle := hrec.le
    have Hbag := Lib.hid hbag; clear hbag
    have Hrec := Lib.hid hrec; clear hrec
    have HL := Lib.hid hL; clear hL
    have Hbz := Lib.hid bz; clear bz
    have Hh := Lib.hid h; clear h
    have Hh1 := Lib.hid h1; clear h1
    have Hbl := Lib.hid hbl; clear hbl
    have Hmv := Lib.hid hmv; clear hmv
    have Hz1 := Lib.hid z1; clear z1
    have Hs1 := Lib.hid s1; clear s1
    by_cases hin : 0 ≤ i ∧ i < (L : Int)
    · rw [if_pos hin]
      obtain ⟨I, rfl⟩ : ∃ I : Nat, i = I := ⟨i.toNat, by omega⟩
      have hIL : I < L := by omega
      have hI : I < (ls ((p : Int), u)).length := by rw [← HL.out]; exact hIL
      obtain ⟨gx, ox, rfl⟩ := Hrec.out.addr (by omega)
      have hc := Hrec.out.at hI
      have hget : (ls ((p : Int), u)).getD (I : Int).toNat noMsg = (ls ((p : Int), u))[I] := by rw [Int.toNat_natCast, List.getD_eq_getElem?_getD, List.getElem?_eq_getElem hI, Option.getD_some]
      rw [hget, Int.toNat_natCast]
      clear hget
      obtain ⟨mm, hmm⟩ : ∃ mm, mm = (ls ((p : Int), u))[I] := ⟨_, rfl⟩
      rw [← hmm] at hc ⊢
      clear hmm
      obtain ⟨k1, k2, k3, k4⟩ := mm
      simp only [Msg.cells, Msg.kind, Msg.part, Msg.tx, Msg.what]
      have i1 : decide ((I : Int) < 0) = false := decide_eq_false (by omega)
      have i2 : decide ((L : Int) ≤ (I : Int)) = false := decide_eq_false (by omega)
      have i3 : (0 : Int) ≤ (I : Int) := by omega
      have i4 : (I : Int) < (L : Int) := by omega
      have x0 := hc 0 (.int .i64 k1) rfl
      have x1 := hc 1 (.int .i64 k2) rfl
      have x2 := hc 2 (.int .i64 k3) rfl
      have x3 := hc 3 (.int .i64 k4) rfl
      simp only [msgF, Nat.add_zero] at x0 x1 x2 x3
      have hgx := (Hbl.out gx ox rfl).2
      clear hc
      have bm : Below w.heap.size w ((w.alloc (.cells #[.int .i64 0, .int .i64 0, .int .i64 0, .int .i64 0] 38)).alloc (.cells #[.int .i64 k1, .int .i64 k2, .int .i64 k3, .int .i64 k4] 38)) := Hbz.out.alloc Hbz.out.size _
      have zm := (heap_alloc_old (w.alloc (.cells #[.int .i64 0, .int .i64 0, .int .i64 0, .int .i64 0] 38)) (.cells #[.int .i64 k1, .int .i64 k2, .int .i64 k3, .int .i64 k4] 38) (r := w.heap.size) (by simp)).trans Hz1.out
      have mm := heap_alloc_new (w.alloc (.cells #[.int .i64 0, .int .i64 0, .int .i64 0, .int .i64 0] 38)) (.cells #[.int .i64 k1, .int .i64 k2, .int .i64 k3, .int .i64 k4] 38)
      rw [Hs1.out] at mm
      have sm : ((w.alloc (.cells #[.int .i64 0, .int .i64 0, .int .i64 0, .int .i64 0] 38)).alloc (.cells #[.int .i64 k1, .int .i64 k2, .int .i64 k3, .int .i64 k4] 38)).heap.size = w.heap.size + 2 := by simp
      have Hbm := Lib.hid bm; clear bm
      have Hzm := Lib.hid zm; clear zm
      have Hmm := Lib.hid mm; clear mm
      have Hsm := Lib.hid sm; clear sm
      go_enter Try.func15, Try.ntmps15
      go_wp2_with fail
      refine Hbag.out.mono ?_
      rintro e w2 ⟨rfl, rfl⟩
      clear Hbag
      cases stays with
      | true =>
        go_wp2
        refine bodyPost_ret (v := .tuple #[.agg #[.int .i64 k1, .int .i64 k2, .int .i64 k3, .int .i64 k4], .int .i64 0]) (by simp [results, Try.results15, go_sem]) rfl ?_
        exact ⟨rfl, RLeft.same Hh.out (((Below.refl _ _).alloc (Nat.le_refl _) _).alloc (by simp) _)⟩
      | false =>
        go_wp2_with (with_reducible refine stop_buildSlice 32 ?_)
        refine unpark ?_
        clear x0 x1 x2 x3 r0
        generalize (w.alloc (.cells #[.int .i64 0, .int .i64 0, .int .i64 0, .int .i64 0] 38)).alloc (.cells #[.int .i64 k1, .int .i64 k2, .int .i64 k3, .int .i64 k4] 38) = w2 at Hbm Hzm Hmm Hsm ⊢
        have b3 : Below w2.heap.size w2 (w2.alloc (.cells #[] 38)) := (Below.refl _ _).alloc (Nat.le_refl _) _
        have own3 := ROwn.made (F := msgF) (E := 38) w2
        rw [Hsm.out] at own3
        have B2 := Hbm.out.trans (b3.mono Hbm.out.size)
        have h3 := Hh.out.below B2
        have rec3 := (h3.bag _ hm).recs
        rw [Hmv.out] at rec3
        obtain ⟨a', c', he, rec3, -⟩ := rec3
        have he1 := (Value.slice.inj he).1
        have he3 := (Value.slice.inj he).2.2
        clear he
        subst he1 he3
        rw [← HL.out] at rec3
        have U := rec3.upto (i := I) (by omega)
        have hIc : I < c := by omega
        have hmx := rec3.max
        have j1 : (I : Int) ≤ (c : Int) := by omega
        have j2 : ((I : Int) + 1) ≤ (c : Int) := by omega
        have j3 : ((I : Int) + 1) ≤ (L : Int) := by omega
        have j4 : (0 : Int) ≤ (I : Int) + 1 := by omega
        have j5 : c ≠ 0 := by omega
        have HB2 := Lib.hid B2; clear B2
        have Hb3 := Lib.hid b3; clear b3
        have Hown3 := Lib.hid own3; clear own3
        have HU := Lib.hid U; clear U h3 rec3
        go_wp2_with (with_reducible refine stop_builtin .append ?_)
        refine unpark ?_
        rw [Hsm.out]
        generalize w2.alloc (.cells #[] 38) = w3 at HB2 Hb3 Hown3 HU ⊢
        have s3 : w.heap.size + 2 ≤ w3.heap.size := by have := Hb3.out.size; have := Hsm.out; omega
        refine wpList_append_recs msgElem _ rfl _ _ rfl (w.heap.size + 2) (.slice (some ⟨w.heap.size + 2, 0, none⟩) 0 0) [] rfl Hown3.out (some ⟨gx, ox, none⟩) I c ((ls ((p : Int), u)).take I) rfl HU.out (by rw [List.length_nil]; omega) s3 ?_
        intro v4 w4 own4 g4 _
        rw [List.nil_append] at own4
        have b4 : Below (w.heap.size + 2) w2 w4 := by
          have h := Hb3.out
          rw [Hsm.out] at h
          exact h.grown g4 s3 (fun k hk => (Hown3.out.lt k hk).1)
        obtain ⟨a4, c4, rfl⟩ := own4.shape
        have B4 := Hbm.out.trans (b4.mono (by omega))
        have h4 := Hh.out.below B4
        have rec4 := (h4.bag _ hm).recs
        rw [Hmv.out] at rec4
        obtain ⟨a', c', he, rec4, -⟩ := rec4
        have he1 := (Value.slice.inj he).1
        have he3 := (Value.slice.inj he).2.2
        clear he
        subst he1 he3
        rw [← HL.out] at rec4
        have V := rec4.from (i := I + 1) (by omega)
        have V0 : L = I + 1 → Recs msgF w4 (some ⟨gx, ox, none⟩) 0 0 ((ls ((p : Int), u)).drop (I + 1)) := fun e => by
          rw [List.drop_of_length_le (by rw [← HL.out]; omega)]
          exact Recs.none0 (by omega)
        have l4 : ((ls ((p : Int), u)).take I).length ≤ 1000 := by rw [List.length_take, ← HL.out]; omega
        have sz4 : w.heap.size + 2 ≤ w4.heap.size := by have := b4.size; have := Hsm.out; omega
        have Hown4 := Lib.hid own4; clear own4
        have Hb4 := Lib.hid b4; clear b4
        have HB4 := Lib.hid B4; clear B4
        have Hh4 := Lib.hid h4; clear h4
        have HV := Lib.hid V; clear V
        have HV0 := Lib.hid V0; clear V0
        clear g4 rec4 HU Hown3 Hb3 HB2
        have hcc : (c = I + 1 ∧ L = I + 1) ∨ c ≠ I + 1 := by
          by_cases e : c = I + 1
          · exact .inl ⟨e, by omega⟩
          · exact .inr e
        generalize ((ls ((p : Int), u)).take I).length = T4 at *
        rcases hcc with ⟨rfl, rfl⟩ | hcc
        all_goals
          go_wp2_with (with_reducible refine stop_builtin .append ?_)
          refine unpark ?_
          first
            | refine wpList_append_recs msgElem _ rfl _ _ rfl (w.heap.size + 2) _ ((ls ((p : Int), u)).take I) rfl Hown4.out _ _ _ ((ls ((p : Int), u)).drop (I + 1)) rfl HV.out (by rw [List.length_take, ← HL.out]; omega) sz4 ?_
            | refine wpList_append_recs msgElem _ rfl _ _ rfl (w.heap.size + 2) _ ((ls ((p : Int), u)).take I) rfl Hown4.out _ _ _ ((ls ((p : Int), u)).drop (I + 1)) rfl (HV0.out (by first | trivial | rfl)) (by rw [List.length_take, ← HL.out]; omega) sz4 ?_
          intro v5 w5 own5 g5 _
          rw [← List.eraseIdx_eq_take_drop_succ] at own5
          have b5 : Below (w.heap.size + 2) w2 w5 := Hb4.out.grown g5 sz4 (fun k hk => (Hown4.out.lt k hk).1)
          have B5 := Hbm.out.trans (b5.mono (by omega))
          obtain ⟨L5, hL5⟩ : ∃ L5, L5 = ((ls ((p : Int), u)).eraseIdx I).length := ⟨_, rfl⟩
          obtain ⟨a5, c5, hv5⟩ := own5.shape
          rw [← hL5] at hv5
          subst hv5
          have hset := RSet_calls (Hh.out.below B5) hp u a5 L5 c5
          have hleft := RLeft.turned Hh.out B5 (i := p) u (by omega) own5 (Nat.le_trans (List.length_eraseIdx_le _ _) (by rw [← HL.out]; omega))
          have hgl : gOf g1 g2 u < w.heap.size := (Hh.out.lt _ (Hh.out.g u)).2
          have z6 := (heap_setCell_other w5 ⟨gOf g1 g2 u, p, none⟩ w.heap.size (.slice a5 L5 c5) (show w.heap.size ≠ gOf g1 g2 u by omega)).trans ((b5.block w.heap.size (by omega)).trans Hzm.out)
          have m6 := (heap_setCell_other w5 ⟨gOf g1 g2 u, p, none⟩ (w.heap.size + 1) (.slice a5 L5 c5) (show w.heap.size + 1 ≠ gOf g1 g2 u by omega)).trans ((b5.block (w.heap.size + 1) (by omega)).trans Hmm.out)
          have s6 : (w5.setCell ⟨gOf g1 g2 u, p, none⟩ (.slice a5 L5 c5)).heap.size = w5.heap.size := by simp
          have hs5 := b5.size
          have hsm := Hsm.out
          have y0 := cells_at m6 0
          have y1 := cells_at m6 1
          have y2 := cells_at m6 2
          have y3 := cells_at m6 3
          have Hset := Lib.hid hset; clear hset
          have Hleft := Lib.hid hleft; clear hleft
          have Z6 := Lib.hid z6; clear z6 m6
          have S6 := Lib.hid s6; clear s6
          clear own5 g5 b5 B5 hL5 HV HV0 Hh4 HB4 Hb4 Hown4 Hzm Hmm Hbm Hsm
          go_wp2_with fail
          refine Hset.out.mono ?_
          rintro e w6 ⟨rfl, hw6⟩
          rw [← hw6] at Hleft Z6 S6 y0 y1 y2 y3
          have s6 := S6.out
          clear hw6 Hset S6
          go_wp2_with (with_reducible refine stop_store 38 ?_)
          refine unpark ?_
          refine wpList_store_at rfl 38 _ _ rfl w.heap.size 0 rfl (.agg #[.int .i64 k1, .int .i64 k2, .int .i64 k3, .int .i64 k4]) rfl (msgF.cells (k1, k2, k3, k4)) rfl 38 _ Z6.out 4 rfl (by decide) (msgF.one _) (by kernel_rfl) ?_
          intro w7 h7 g7 s7
          have z7 : w7.heap[w.heap.size]? = some (.cells #[.int .i64 k1, .int .i64 k2, .int .i64 k3, .int .i64 k4] 38 (0, 0)) := h7
          have hl7 := (RLeft.grown Hleft.out g7 (Nat.le_refl _) (by omega) Hh.out).weak (C' := w.heap.size) (by omega)
          have r7 := cells_at z7 0
          have r8 := cells_at z7 1
          have r9 := cells_at z7 2
          have ra := cells_at z7 3
          clear h7 z7 y0 y1 y2 y3 g7 Hleft
          have Hleft := Lib.hid hl7; clear hl7
          go_wp2
          refine bodyPost_ret (v := .tuple #[.agg #[.int .i64 k1, .int .i64 k2, .int .i64 k3, .int .i64 k4], .int .i64 0]) (by simp [results, Try.results15, go_sem, r7, r8, r9, ra]) rfl ?_
          exact ⟨rfl, Hleft.out⟩
    · rw [if_neg hin]
      simp only [Msg.cells, noMsg, Msg.kind, Msg.part, Msg.tx, Msg.what]
      have hd : (decide (i < 0) = true) ∨ (decide (i < 0) = false ∧ decide ((L : Int) ≤ i) = true) := by
        by_cases h1 : i < 0
        · exact .inl (decide_eq_true h1)
        · exact .inr ⟨decide_eq_false h1, decide_eq_true (by omega)⟩
      clear hin
      rcases hd with d1 | ⟨d1, d2⟩
      all_goals
        go_enter Try.func15, Try.ntmps15
        go_wp2_with fail
        refine Hbag.out.mono ?_
        rintro e w2 ⟨rfl, rfl⟩
        go_wp2
        refine bodyPost_ret (v := .tuple #[.agg #[.int .i64 0, .int .i64 0, .int .i64 0, .int .i64 0], .int .i64 12]) (by simp [results, Try.results15, go_sem]) rfl ?_
        exact ⟨rfl, RLeft.same Hh.out Hbz.out⟩
  all_goals
    simp only [if_neg hm]
    simp only [Msg.cells, noMsg, Msg.kind, Msg.part, Msg.tx, Msg.what]
    obtain ⟨q, u⟩ := k
    simp only at h0
    first
      | (have e1 : decide (q < 0) = true := decide_eq_true h0
         have Hh := Lib.hid h; clear h hm h1 hbag
         have Hbz := Lib.hid bz; clear bz z1 s1
         go_enter Try.func15, Try.ntmps15
         go_wp2
         refine bodyPost_ret (v := .tuple #[.agg #[.int .i64 0, .int .i64 0, .int .i64 0, .int .i64 0], .int .i64 11]) (by simp [results, Try.results15, go_sem]) rfl ?_
         exact ⟨rfl, RLeft.same Hh.out Hbz.out⟩)
      | (simp only at hn0
         have e1 : decide (q < 0) = false := decide_eq_false (by omega)
         have e2 : decide ((n : Int) ≤ q) = true := decide_eq_true hn0
         have Hh := Lib.hid h; clear h hm h1 hbag
         have Hbz := Lib.hid bz; clear bz z1 s1
         go_enter Try.func15, Try.ntmps15
         go_wp2
         refine bodyPost_ret (v := .tuple #[.agg #[.int .i64 0, .int .i64 0, .int .i64 0, .int .i64 0], .int .i64 11]) (by simp [results, Try.results15, go_sem]) rfl ?_
         exact ⟨rfl, RLeft.same Hh.out Hbz.out⟩)
end
end Go.Proofs.Ytckahkpikjhkmaa
