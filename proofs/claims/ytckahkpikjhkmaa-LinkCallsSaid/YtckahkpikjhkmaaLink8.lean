/- Links: Drop, Total. -/
import Derived.Test.YtckahkpikjhkmaaLink7
namespace Go.Proofs.Ytckahkpikjhkmaa
open Go.RowKit

section
variable {w w' : World} {B b m : Nat} {bs : List (Pla × Nat)} {mv : Pla → Value} {ls : Pla → List Msg}
theorem Left.step {w2 : World} {mv' : Pla → Value} (h : Left w w' B b m bs mv mv' ls) (hb : Below w'.heap.size w' w2) : Left w w2 B b m bs mv mv' ls :=
  ⟨h.link.below hb, h.foot, h.mod.trans (Mod.of_below hb : Mod (lfoot b m bs mv) w' w2) (fun _ h => h) (fun _ _ h => h)⟩
theorem Drop_calls (h : LinkAt w B b m bs mv ls) (k : Pla) (i : Int) : Calls Try.prog 16 #[ptrTo b, .int .i64 k.1, .bool k.2, .int .i64 i] w fun e w' =>
    e = .returned (.int .i64 (takeOf bs ls k i false).2.1) ∧ ∃ mv', Left w w' B b m bs mv mv' (takeOf bs ls k i false).2.2 := by
  have ht := Take_calls h k i false
  generalize takeOf bs ls k i false = T at ht ⊢
  obtain ⟨⟨m1, m2, m3, m4⟩, e, l'⟩ := T
  simp only [Msg.cells, Msg.kind, Msg.part, Msg.tx, Msg.what] at ht ⊢
  have Ht := Lib.hid ht; clear ht h
  obtain ⟨q, u⟩ := k
  go_enter Try.func16, Try.ntmps16
  go_wp2_with fail
  refine Ht.out.mono ?_
  rintro e w1 ⟨rfl, mv', hl⟩
  have Hl := Lib.hid hl; clear hl
  go_wp2
  go_ret
  exact ⟨rfl, mv', Hl.out.step ((Below.refl _ _).alloc (Nat.le_refl _) _)⟩

def sumOf (ls : Pla → List Msg) (ks : List Pla) : Nat := (ks.map fun k => (ls k).length).sum
theorem sumOf_le (ls : Pla → List Msg) : ∀ (ks : List Pla), (∀ k ∈ ks, (ls k).length ≤ 16) → sumOf ls ks ≤ 16 * ks.length
  | [], _ => Nat.le_refl _
  | k :: ks, h => by
    have h1 := sumOf_le ls ks fun x hx => h x (.tail _ hx)
    have h2 := h k (.head _)
    unfold sumOf at h1 ⊢
    rw [List.map_cons, List.sum_cons, List.length_cons]
    omega
set_option maxHeartbeats 2000000 in
theorem Total_calls (h : LinkAt w B b m bs mv ls) (hB : bs.length ≤ 12) : Calls Try.prog 21 #[ptrTo b] w fun e w' => e = .returned (.int .i64 (sumOf ls (bs.map (·.1)) : Nat)) ∧ Below w.heap.size w w' := by
  have r0 := cells_at h.root 0
  have hml := h.map.lt
  obtain ⟨T, hT⟩ : ∃ T, T = sumOf ls (bs.map (·.1)) := ⟨_, rfl⟩
  rw [← hT]
  have HT := Lib.hid hT; clear hT
  have Hh := Lib.hid h; clear h
  go_enter Try.func21, Try.ntmps21
  go_wp2_with (with_reducible refine stop_range 52 ?_)
  refine unpark ?_
  refine wpList_range_key (enc := plaV) rfl _ _ rfl _ Try.underlying52 m (mapOf bs) rfl Hh.out.map ?_
  intro w1 hR hg hs
  have b1 : Below w.heap.size w w1 := (Below.refl _ _).grown hg (Nat.le_refl _) (fun k hk => by cases hk)
  clear hg r0
  obtain ⟨r, hr⟩ : ∃ r, r = w.heap.size := ⟨_, rfl⟩
  rw [← hr] at hR ⊢
  have Hr := Lib.hid hr; clear hr
  have HR := Lib.hid hR; clear hR
  have Hb := Lib.hid b1; clear b1
  go_wp2_with fail
  go_frame
  go_loopw [3] (fun n wr => ∃ (done : List Pla), n = .int .i64 (sumOf ls done : Nat) ∧ RangeK plaV wr m r (mapOf bs) done ∧ Below w.heap.size w wr) (fun _ wr => wr.rangeLeft m r)
  case atStart => exact ⟨[], rfl, HR.out, Hb.out⟩
  case round =>
    clear HR Hb hs
    obtain ⟨done, rfl, hR, hb⟩ := hrel
    obtain ⟨wo, hwo⟩ : ∃ wo : World, wo = wr := ⟨_, rfl⟩
    have Hwo := Lib.hid hwo; clear hwo
    have HR := Lib.hid hR; clear hR
    have Hb := Lib.hid hb; clear hb
    go_wp2_with (with_reducible refine stop_next ?_)
    refine unpark ?_
    refine wpList_next_key rfl _ rfl m r (mapOf bs) done rfl HR.out ?_ ?_
    · intro hall
      have e : T = sumOf ls done := by
        rw [HT.out]
        have hp : done.Perm (bs.map (·.1)) := (List.perm_ext_iff_of_nodup HR.out.done.1 Hh.out.once).2 fun k => ⟨fun hk => by rw [← mapOf_keys]; exact HR.out.done.2 k hk, fun hk => by
          rw [← mapOf_keys] at hk
          obtain ⟨p, hp, rfl⟩ := List.mem_map.1 hk
          exact hall p hp⟩
        exact (hp.map _).sum_nat.symm
      clear HT
      subst e
      go_wp2
      go_ret
      exact ⟨rfl, Hb.out⟩
    · intro p hp hn w2 hR2 hlt hg hs hen
      obtain ⟨q, hq, rfl⟩ := List.mem_map.1 hp
      have hql := (Hh.out.lt q.2 (.inr (.inr ⟨q, hq, .inl rfl⟩))).2
      have b2 := Hb.out.grown hg Hb.out.size (fun k hk => by cases hk; rw [Hr.out]; exact Nat.le_refl _)
      have hbag := (b2.block q.2 hql).trans (Hh.out.bag q hq).1
      obtain ⟨a, c, hmv, -, -⟩ := (Hh.out.bag q hq).2.recs
      rw [hmv] at hbag
      have c0 := cells_at hbag 0
      have hbound : sumOf ls done ≤ 192 := by
        have h1 := sumOf_le ls done fun k hk => by
          have := HR.out.done.2 k hk
          rw [mapOf_keys] at this
          obtain ⟨p, hp, rfl⟩ := List.mem_map.1 this
          exact Hh.out.small p hp
        have h2 := List.Nodup.length_le_of_subset (l₂ := bs.map (·.1)) HR.out.done.1 fun k hk => by rw [← mapOf_keys]; exact HR.out.done.2 k hk
        rw [List.length_map] at h2
        omega
      have h16 := Hh.out.small q hq
      have hsum : sumOf ls (q.1 :: done) = (ls q.1).length + sumOf ls done := by unfold sumOf; rw [List.map_cons, List.sum_cons]
      simp only at hR2 hen hn
      obtain ⟨⟨q1, q2⟩, g⟩ := q
      simp only at hsum h16 c0 hR2
      generalize (ls (q1, q2)).length = X at hsum h16 c0
      generalize sumOf ls done = S at *
      simp only [plaV] at hen
      clear hbag hmv hq hql hp hn
      have HR2 := Lib.hid hR2; clear hR2
      have Hb2 := Lib.hid b2; clear b2
      have Hsum := Lib.hid hsum; clear hsum
      have Hlt := Lib.hid hlt; clear hlt
      go_wp2_with fail
      go_roundw
      case rel => exact ⟨(q1, q2) :: done, by rw [Hsum.out]; go_num, HR2.out, Hb2.out⟩
      case measure => exact Hlt.out
end
end Go.Proofs.Ytckahkpikjhkmaa
