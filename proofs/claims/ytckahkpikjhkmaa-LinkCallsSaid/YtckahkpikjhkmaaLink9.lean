/- Links: Put. -/
import Derived.Test.YtckahkpikjhkmaaLink8
namespace Go.Proofs.Ytckahkpikjhkmaa
open Go.RowKit

section
variable {w w' : World} {B b m : Nat} {bs : List (Pla × Nat)} {mv : Pla → Value} {ls : Pla → List Msg}
/-- how many, the error, what is left -/
def putOf (bs : List (Pla × Nat)) (ls : Pla → List Msg) (k : Pla) (xs : List Msg) : Nat × Int × (Pla → List Msg) :=
  if k ∈ bs.map (·.1) then (min (xs.filter rightOf).length (16 - (ls k).length), if min (xs.filter rightOf).length (16 - (ls k).length) < (xs.filter rightOf).length then 15 else 0, upd ls k (ls k ++ (xs.filter rightOf).take (16 - (ls k).length))) else (0, 11, ls)
set_option maxHeartbeats 4000000 in
theorem Put_calls (h : LinkAt w B b m bs mv ls) (hBw : B ≤ w.heap.size) (k : Pla) {a : Option Addr} {n c : Nat} {xs : List Msg} (hx : Recs msgF w a n c xs) (hn : n ≤ 1000) :
    Calls Try.prog 12 #[ptrTo b, .int .i64 k.1, .bool k.2, .slice a n c] w fun e w' =>
      e = .returned (.tuple #[.int .i64 ((putOf bs ls k xs).1 : Nat), .int .i64 (putOf bs ls k xs).2.1]) ∧ ∃ mv', Left w w' B b m bs mv mv' (putOf bs ls k xs).2.2 := by
  have hz : ∀ w, (zeroValue 55).run Try.prog w = .ok (.pointer none) w := fun w => by kernel_rfl
  have r0 := cells_at h.root 0
  have hM := h.map
  unfold putOf
  rcases h.find k with ⟨p, hp, rfl⟩ | hk
  · simp only [if_pos (List.mem_map_of_mem (f := fun p : Pla × Nat => p.1) hp)]
    have hv := h.val hp
    have h16 := h.small p hp
    have hxl := hx.len
    have hcl := Clone_calls hx (by omega)
    have hgl := (h.lt p.2 (.inr (.inr ⟨p, hp, .inl rfl⟩))).2
    obtain ⟨oa, oc, hmv, -, -⟩ := (h.bag p hp).2.recs
    have hbag := (h.bag p hp).1
    obtain ⟨L, hL⟩ : ∃ L, L = (ls p.1).length := ⟨_, rfl⟩
    obtain ⟨R, hR⟩ : ∃ R, R = (xs.filter rightOf).length := ⟨_, rfl⟩
    have hRn : R ≤ 1000 := by rw [hR]; have := List.length_filter_le rightOf xs; omega
    rw [← hL] at h16 hmv ⊢
    rw [← hR]
    obtain ⟨j, hj⟩ : ∃ j, j = min R (16 - L) := ⟨_, rfl⟩
    rw [← hj]
    have hjR : j ≤ R := by omega
    have hmin : min (R : Int) (16 - (L : Int)) = (j : Int) := by omega
    have htk : (xs.filter rightOf).take (16 - L) = (xs.filter rightOf).take j := by
      rw [hj]
      rcases Nat.le_total R (16 - L) with h | h
      · rw [Nat.min_eq_left h, List.take_of_length_le (by rw [← hR]; exact h), List.take_of_length_le (by rw [← hR]; exact Nat.le_refl _)]
      · rw [Nat.min_eq_right h]
    rw [htk]
    have hd : (decide ((j : Int) < (R : Int)) = true ∧ decide (j < R) = true ∧ (if j < R then (15 : Int) else 0) = 15) ∨ (decide ((j : Int) < (R : Int)) = false ∧ decide (j < R) = false ∧ (if j < R then (15 : Int) else 0) = 0) := by
      by_cases h : j < R
      · exact .inl ⟨decide_eq_true (by omega), decide_eq_true h, if_pos h⟩
      · exact .inr ⟨decide_eq_false (by omega), decide_eq_false h, if_neg h⟩
    generalize (if j < R then (15 : Int) else 0) = E at hd ⊢
    have hj16 : L + j ≤ 16 := by omega
    clear htk hj
    have Hv := Lib.hid hv; clear hv
    have HM := Lib.hid hM; clear hM
    have Hh := Lib.hid h; clear h
    have HL := Lib.hid hL; clear hL
    have HR := Lib.hid hR; clear hR
    have Hmv := Lib.hid hmv; clear hmv
    have Hp := Lib.hid hp; clear hp
    have Hbag := Lib.hid hbag; clear hbag
    have Hcl := Lib.hid hcl; clear hcl
    have Hd := Lib.hid hd; clear hd
    clear hx
    obtain ⟨⟨q, u⟩, g⟩ := p
    go_enter Try.func12, Try.ntmps12
    go_wp2_with (with_reducible refine stop_lookup 52 ?_)
    refine unpark ?_
    refine wpList_lookup_key rfl plaLaw _ _ _ rfl m _ HM.out (q, u) rfl rfl _ Try.underlying52 _ (hz _) ?_
    rw [Hv.out]
    simp only [Option.getD_some, Option.isSome_some]
    go_wp2_with fail
    refine Hcl.out.mono ?_
    rintro e w1 ⟨v1, rfl, own1, b1⟩
    have hdel := DelFunc_calls own1 b1 (by omega)
    have Hdel := Lib.hid hdel; clear hdel own1 b1 Hcl
    go_wp2_with fail
    refine Hdel.out.mono ?_
    rintro e w2 ⟨v2, rfl, own2, b2⟩
    obtain ⟨a2, c2, rfl, rec2, -⟩ := own2.recs
    rw [← HR.out] at rec2 ⊢
    have rle := rec2.le
    have bag2 := (b2.block g hgl).trans Hbag.out
    rw [Hmv.out] at bag2
    have c0 := cells_at bag2 0
    have Rec2 := Lib.hid rec2; clear rec2 own2 Hdel
    have Hb2 := Lib.hid b2; clear b2
    have Bag2 := Lib.hid bag2; clear bag2 Hbag
    go_wp2_with fail
    all_goals
      first
        | (have e : (16 : Int) - (L : Int) = (j : Int) := by omega
           rw [e])
        | (have e : (R : Int) = (j : Int) := by omega
           rw [e])
      clear c0
      have g2l := (Array.getElem?_eq_some_iff.1 Bag2.out).1
      have i1 : (0 : Int) ≤ (j : Int) := by omega
      have i2 : (j : Int) ≤ (c2 : Int) := by omega
      refine wp_region_held (fun w' : World => w'.heap[g]? = some (.cells #[.slice oa L oc] 57 (0, 0))) [0, 1, 2, 3, 4, 5, 6] [[7], [8], [9, 10, 11]] (by kernel_rfl) (by kernel_rfl) rfl (by kernel_rfl) (fun _ _ _ h => by obtain ⟨_, h, _⟩ := h; cases h) (fun _ _ h => by obtain ⟨h, _⟩ := h; cases h) Bag2.out (by kernel_rfl) ?_
      apply Exists.intro
      apply And.intro
      · intro w' s
        have c0 := cells_at s 0
        clear s
        simp only [List.map_cons, List.map_nil, List.getD_cons_zero, List.getD_cons_succ]
        go_wp2_with fail
        exact pre_end
      simp only [List.map_cons, List.map_nil, List.getD_cons_zero, List.getD_cons_succ]
      have bag3 : w2.drew.heap[g]? = some (.cells #[.slice oa L oc] 57 (0, 0)) := Bag2.out
      have b3 : Below w.heap.size w w2.drew := Hb2.out.trans ((below_drew w2).mono Hb2.out.size)
      have rec3 := Rec2.out.keep (below_drew w2)
      clear Bag2 Rec2 Hb2
      generalize w2.drew = w3 at bag3 b3 rec3 ⊢
      have own3 : Mo w3 B (.slice oa L oc) (ls (q, u)) := by
        rw [← Hmv.out]
        exact (Hh.out.bag _ Hp.out).2.keep fun x hx hl => b3.block x hl
      refine segs_more ?_
      go_wp2_with fail
      refine seg_end bag3 (segs_more ?_)
      go_wp2_with (with_reducible refine stop_builtin .append ?_)
      refine unpark ?_
      refine wpList_append_recs msgElem _ rfl _ _ rfl B (.slice oa L oc) (ls (q, u)) rfl own3 a2 j c2 ((xs.filter rightOf).take j) rfl (rec3.upto hjR) (by rw [← HL.out]; omega) (Nat.le_trans hBw b3.size) ?_
      intro v' w4 own4 g4 hv4
      have hgown : ∀ x, (Value.slice oa L oc).ownBlock = some x → x ≠ g ∧ x < w.heap.size := fun x hx => by
        rw [← Hmv.out] at hx
        exact ⟨(Hh.out.own _ Hp.out x hx).2.2 _ Hp.out, ((Hh.out.bag _ Hp.out).2.lt x hx).2⟩
      have g3l := (Array.getElem?_eq_some_iff.1 bag3).1
      have bag4 : w4.heap[g]? = some (.cells #[.slice oa L oc] 57 (0, 0)) := (g4.block g g3l fun e => (hgown g e.symm).1 rfl).trans bag3
      have c4 := cells_at bag4 0
      have f4 := frozen_of_row w4 g 0 _ _ bag4
      have bag5 : (w4.setCell ⟨g, 0, none⟩ v').heap[g]? = some (.cells #[v'] 57 (0, 0)) := heap_setCell_same w4 g 0 _ _ _ bag4
      have vb : ∀ x, v'.ownBlock = some x → x ≠ g ∧ ((mv (q, u)).ownBlock = some x ∨ w.heap.size ≤ x) := fun x hx => by
        rcases hv4 with e | e
        · rw [e] at hx
          exact ⟨(hgown x hx).1, .inl (by rw [Hmv.out]; exact hx)⟩
        · rw [e] at hx
          have hx := Option.some.inj hx
          have := b3.size
          exact ⟨by omega, .inr (by omega)⟩
      have own5 : Mo (w4.setCell ⟨g, 0, none⟩ v') B v' (ls (q, u) ++ (xs.filter rightOf).take j) := own4.keep fun x hx _ => heap_setCell_other w4 _ x _ (vb x hx).1
      have same5 : ∀ x, x < w.heap.size → x ≠ g → (mv (q, u)).ownBlock ≠ some x → (w4.setCell ⟨g, 0, none⟩ v').heap[x]? = w.heap[x]? := fun x hx h1 h2 =>
        ((heap_setCell_other w4 _ x _ h1).trans (g4.block x (Nat.lt_of_lt_of_le hx b3.size) fun e => h2 (by rw [Hmv.out]; exact e.symm))).trans (b3.block x hx)
      have hlen : (ls (q, u) ++ (xs.filter rightOf).take j).length ≤ 16 := by rw [List.length_append, List.length_take, ← HL.out, ← HR.out]; omega
      have hlk := Hh.out.turn Hp.out bag5 own5 (fun x hx => (vb x hx).2) same5 hlen
      have hleft : Left w (w4.setCell ⟨g, 0, none⟩ v') B b m bs mv (upd mv (q, u) v') (upd ls (q, u) (ls (q, u) ++ (xs.filter rightOf).take j)) :=
        ⟨hlk, foot_turn Hp.out (fun x hx => (vb x hx).2), ⟨g4.os.trans b3.os, g4.tape.trans b3.tape, g4.output.trans b3.output, by have := g4.size; have := b3.size; simp; omega, fun x hx hn => same5 x hx (fun e => hn (.inr (.inr ⟨_, Hp.out, .inl e⟩))) fun e => hn (.inr (.inr ⟨_, Hp.out, .inr e⟩))⟩⟩
      obtain ⟨na, nc, hve⟩ := own4.shape
      obtain ⟨LL, hLL⟩ : ∃ LL, LL = (ls (q, u) ++ (xs.filter rightOf).take j).length := ⟨_, rfl⟩
      rw [← hLL] at hve
      subst hve
      clear bag5 vb own5 same5 hlen hlk own4 g4 hv4 own3 rec3 b3 hgown
      have Hleft := Lib.hid hleft; clear hleft hLL
      go_wp2_with fail
      refine seg_end bag4 (segs_last ?_)
      rcases Hd.out with ⟨d1, d2, rfl⟩ | ⟨d1, d2, rfl⟩
      all_goals
        first
          | (exfalso
             have hx := of_decide_eq_true d2
             omega)
          | (exfalso
             have hx := of_decide_eq_false d2
             omega)
          | (clear Hd
             go_wp2
             go_ret2
             exact ⟨rfl, _, Hleft.out⟩)
  · have hkk : ¬ k ∈ bs.map (·.1) := fun hk' => by obtain ⟨p, hp, e⟩ := List.mem_map.1 hk'; exact hk p hp e
    simp only [if_neg hkk]
    have hv := LinkAt.absent hk
    obtain ⟨q, u⟩ := k
    have Hv := Lib.hid hv; clear hv
    have HM := Lib.hid hM; clear hM hk hkk
    have Hh := Lib.hid h; clear h hx
    go_enter Try.func12, Try.ntmps12
    go_wp2_with (with_reducible refine stop_lookup 52 ?_)
    refine unpark ?_
    refine wpList_lookup_key rfl plaLaw _ _ _ rfl m _ HM.out (q, u) rfl rfl _ Try.underlying52 _ (hz _) ?_
    rw [Hv.out]
    simp only [Option.getD_none, Option.isSome_none]
    go_wp2
    go_ret2
    exact ⟨rfl, _, Left.same Hh.out (Below.refl _ _)⟩
end
end Go.Proofs.Ytckahkpikjhkmaa
