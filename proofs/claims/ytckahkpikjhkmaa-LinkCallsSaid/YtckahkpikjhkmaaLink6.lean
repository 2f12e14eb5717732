/- Links: New, Bag, Clear. -/
import Derived.Test.YtckahkpikjhkmaaLink5
namespace Go.Proofs.Ytckahkpikjhkmaa
open Go.RowKit

theorem New_bad {w : World} {n : Int} (hn : ¬ (1 ≤ n ∧ n ≤ 6)) : Calls Try.prog 10 #[.int .i64 n] w fun e w' => e = .returned (.tuple #[.pointer none, .int .i64 11]) ∧ w' = w := by
  by_cases h1 : n < 1
  · have e1 : decide (n < 1) = true := decide_eq_true h1
    clear hn h1
    go_enter Try.func10, Try.ntmps10
    go_wp2
    go_ret2
    exact ⟨rfl, rfl⟩
  · have e1 : decide (n < 1) = false := decide_eq_false h1
    have e2 : decide (6 < n) = true := decide_eq_true (by omega)
    clear hn h1
    go_enter Try.func10, Try.ntmps10
    go_wp2
    go_ret2
    exact ⟨rfl, rfl⟩

set_option maxHeartbeats 2000000 in
theorem New_calls {w : World} {n : Nat} (h1 : 1 ≤ n) (h6 : n ≤ 6) : Calls Try.prog 10 #[.int .i64 (n : Int)] w fun e w' => ∃ b m bs, e = .returned (.tuple #[ptrTo b, .int .i64 0]) ∧ LinkAt w' w.heap.size b m bs mv0 ls0 ∧ bs.map (·.1) = keysOf n ∧ Below w.heap.size w w' := by
  have e1 : decide ((n : Int) < 1) = false := decide_eq_false (by omega)
  have e2 : decide ((6 : Int) < (n : Int)) = false := decide_eq_false (by omega)
  have hl := LinkAt.first w
  have hb : Below w.heap.size w ((w.alloc (.map #[] 0)).alloc (.cells #[.map (some w.heap.size)] 54 (0, 0))) := ((Below.refl _ _).alloc (Nat.le_refl _) _).alloc (by simp) _
  have hmk : ∀ w : World, (Instr.makeMap 52 none).run Try.prog w = .ok (.map (some w.heap.size)) (w.alloc (.map #[] 0)) := fun w => rfl
  have Hl := Lib.hid hl; clear hl
  have Hb := Lib.hid hb; clear hb
  go_enter Try.func10, Try.ntmps10
  go_wp2_with fail
  go_loopw [16] (fun t wr => ∃ (i : Nat) (bs : List (Pla × Nat)), i ≤ n ∧ t = .int .i64 i ∧ LinkAt wr w.heap.size (w.heap.size + 1) w.heap.size bs mv0 ls0 ∧ bs.map (·.1) = keysOf i ∧ Below w.heap.size w wr) (fun t _ => n - (intOf t).toNat)
  case atStart => exact ⟨0, [], by omega, rfl, Hl.out, rfl, Hb.out⟩
  case round =>
    clear Hl Hb
    obtain ⟨i, bs, hi, rfl, hl, hk, hb⟩ := hrel
    have Hb := Lib.hid hb; clear hb
    have Hk := Lib.hid hk; clear hk
    by_cases hlt : i < n
    · have r0 := cells_at hl.root 0
      have hnew : ∀ u, ∀ p ∈ mapOf bs, p.1 ≠ ((i : Int), u) := fun u p hp e => by
        have hm : p.1 ∈ bs.map (·.1) := by rw [← mapOf_keys]; exact List.mem_map_of_mem hp
        rw [Hk.out, keys_mem, e] at hm
        have := hm.2
        simp at this
      have Hnew := Lib.hid hnew; clear hnew
      have Hl := Lib.hid hl; clear hl
      have i1 : (i : Int) < (n : Int) := by omega
      go_wp2_with (with_reducible refine stop_mapUpdate 52 ?_)
      refine unpark ?_
      have b1 : Below wr.heap.size wr (wr.alloc (.cells #[.slice none 0 0] 57 (0, 0))) := (Below.refl _ _).alloc (Nat.le_refl _) _
      have hm1 := Hl.out.map.keep (b1.block _ Hl.out.map.lt)
      have b2 := Hb.out.trans (b1.mono Hb.out.size)
      refine wpList_store_key rfl plaLaw _ _ _ _ rfl w.heap.size (mapOf bs) hm1 ((i : Int), true) (ptrTo wr.heap.size) rfl rfl rfl _ Try.underlying52 (Hnew.out true) ?_
      intro w2 hM hg hs
      have hl2 := Hl.out.add (k := ((i : Int), true)) rfl hM hg
      have b3 := b2.grown hg b2.size (fun k hk => by cases hk; exact Nat.le_refl _)
      generalize wr.heap.size = g1 at hl2 ⊢
      have hnew2 : ∀ p ∈ mapOf (bs ++ [(((i : Int), true), g1)]), p.1 ≠ ((i : Int), false) := fun p hp e => by
        unfold mapOf at hp
        rw [List.map_append] at hp
        rcases List.mem_append.1 hp with hp | hp
        · exact Hnew.out false p hp e
        · simp at hp
          rw [hp] at e
          simp at e
      have hk2 : (bs ++ [(((i : Int), true), g1)]).map (·.1) = keysOf i ++ [((i : Int), true)] := by rw [List.map_append, Hk.out]; rfl
      clear hM hg hs b1 b2 hm1 Hl Hb r0 Hnew Hk
      generalize bs ++ [(((i : Int), true), g1)] = bs2 at *
      have r0 := cells_at hl2.root 0
      have Hl := Lib.hid hl2; clear hl2
      have Hb := Lib.hid b3; clear b3
      have Hk := Lib.hid hk2; clear hk2
      have Hnew := Lib.hid hnew2; clear hnew2
      go_wp2_with (with_reducible refine stop_mapUpdate 52 ?_)
      refine unpark ?_
      have b1 : Below w2.heap.size w2 (w2.alloc (.cells #[.slice none 0 0] 57 (0, 0))) := (Below.refl _ _).alloc (Nat.le_refl _) _
      have hm1 := Hl.out.map.keep (b1.block _ Hl.out.map.lt)
      have b2 := Hb.out.trans (b1.mono Hb.out.size)
      refine wpList_store_key rfl plaLaw _ _ _ _ rfl w.heap.size (mapOf bs2) hm1 ((i : Int), false) (ptrTo w2.heap.size) rfl rfl rfl _ Try.underlying52 Hnew.out ?_
      intro w3 hM hg hs
      have hl2 := Hl.out.add (k := ((i : Int), false)) rfl hM hg
      have b3 := b2.grown hg b2.size (fun k hk => by cases hk; exact Nat.le_refl _)
      generalize w2.heap.size = g2 at hl2 ⊢
      have hk3 : (bs2 ++ [(((i : Int), false), g2)]).map (·.1) = keysOf (i + 1) := by rw [List.map_append, Hk.out, List.append_assoc]; rfl
      clear hM hg hs b1 b2 hm1 Hl Hb r0 Hnew Hk
      have Hl := Lib.hid hl2; clear hl2
      have Hb := Lib.hid b3; clear b3
      have Hk := Lib.hid hk3; clear hk3
      go_wp2_with fail
      go_roundw
      case rel => exact ⟨i + 1, _, by omega, by go_num, Hl.out, Hk.out, Hb.out⟩
      case measure => simp [intOf]; omega
    · obtain rfl : i = n := by omega
      have Hl := Lib.hid hl; clear hl
      go_wp2
      go_ret2
      exact ⟨_, _, _, rfl, Hl.out, Hk.out, Hb.out⟩

section
variable {w w' : World} {B b m : Nat} {bs : List (Pla × Nat)} {mv : Pla → Value} {ls : Pla → List Msg}
/-- A place that is there, or none. -/
theorem LinkAt.find (_ : LinkAt w B b m bs mv ls) (k : Pla) : (∃ p ∈ bs, p.1 = k) ∨ ∀ p ∈ bs, p.1 ≠ k := by
  by_cases hk : ∃ p ∈ bs, p.1 = k
  · exact .inl hk
  · exact .inr fun p hp e => hk ⟨p, hp, e⟩
set_option maxHeartbeats 1000000 in
theorem Bag_calls (h : LinkAt w B b m bs mv ls) (k : Pla) : Calls Try.prog 20 #[ptrTo b, .int .i64 k.1, .bool k.2] w fun e w' => ∃ v, e = .returned v ∧ Mo w' w.heap.size v (if k ∈ bs.map (·.1) then ls k else []) ∧ Below w.heap.size w w' := by
  have r0 := cells_at h.root 0
  have hz : ∀ w, (zeroValue 55).run Try.prog w = .ok (.pointer none) w := fun w => by kernel_rfl
  rcases h.find k with ⟨p, hp, rfl⟩ | hk
  · rw [if_pos (List.mem_map_of_mem hp)]
    have hv := h.val hp
    have hcl := Clone_calls (w := w) (h.bag p hp).2.recs.choose_spec.choose_spec.2.1 (by have := h.small p hp; omega)
    rw [← (h.bag p hp).2.recs.choose_spec.choose_spec.1] at hcl
    have c0 := cells_at (h.bag p hp).1 0
    have hM := h.map
    obtain ⟨⟨q, u⟩, g⟩ := p
    have Hv := Lib.hid hv; clear hv
    have Hcl := Lib.hid hcl; clear hcl
    have HM := Lib.hid hM; clear hM h hp
    go_enter Try.func20, Try.ntmps20
    go_wp2_with (with_reducible refine stop_lookup 52 ?_)
    refine unpark ?_
    refine wpList_lookup_key rfl plaLaw _ _ _ rfl m _ HM.out (q, u) rfl rfl _ Try.underlying52 _ (hz w) ?_
    rw [Hv.out]
    simp only [Option.getD_some, Option.isSome_some]
    go_wp2_with fail
    refine Hcl.out.mono ?_
    rintro e w1 ⟨v, rfl, h1, h2⟩
    have H1 := Lib.hid h1; clear h1
    have H2 := Lib.hid h2; clear h2
    go_wp2
    go_ret
    exact ⟨v, rfl, H1.out, H2.out⟩
  · rw [if_neg fun hk' => by obtain ⟨p, hp, e⟩ := List.mem_map.1 hk'; exact hk p hp e]
    have hv := LinkAt.absent hk
    have hM := h.map
    obtain ⟨q, u⟩ := k
    have Hv := Lib.hid hv; clear hv
    have HM := Lib.hid hM; clear hM h hk
    go_enter Try.func20, Try.ntmps20
    go_wp2_with (with_reducible refine stop_lookup 52 ?_)
    refine unpark ?_
    refine wpList_lookup_key rfl plaLaw _ _ _ rfl m _ HM.out (q, u) rfl rfl _ Try.underlying52 _ (hz w) ?_
    rw [Hv.out]
    simp only [Option.getD_none, Option.isSome_none]
    go_wp2
    go_ret
    exact ⟨_, rfl, ROwn.nil _ _, Below.refl _ _⟩
end
end Go.Proofs.Ytckahkpikjhkmaa
