/- The device: settle. -/
import Derived.Test.YtpcekoimalafkaaDisk2
namespace Go.Proofs.Ytpcekoimalafkaa
open Go.RowKit

def settled (S : List (List Int)) (C : List (Int × List Int)) : List (List Int) := C.foldl (fun S p => S.set p.1.toNat p.2) S
theorem settled_len (S : List (List Int)) (C : List (Int × List Int)) : (settled S C).length = S.length := by
  unfold settled
  induction C generalizing S with
  | nil => rfl
  | cons p C ih => rw [List.foldl_cons, ih, List.length_set]
theorem settled_snoc (S : List (List Int)) (C : List (Int × List Int)) (p : Int × List Int) : settled S (C ++ [p]) = (settled S C).set p.1.toNat p.2 := by
  unfold settled; rw [List.foldl_append]; rfl
theorem settled_sec {S : List (List Int)} {C : List (Int × List Int)} (hS : ∀ s ∈ S, Sector s) (hC : ∀ p ∈ C, Sector p.2) : ∀ s ∈ settled S C, Sector s := by
  unfold settled
  induction C generalizing S with
  | nil => exact hS
  | cons p C ih =>
    rw [List.foldl_cons]
    refine ih (fun s hs => ?_) fun q hq => hC q (.tail _ hq)
    rcases List.mem_or_eq_of_mem_set hs with h | rfl
    · exact hS s h
    · exact hC p (.head _)

theorem row_at {C : List (Int × List Int)} (hC : ∀ p ∈ C, Sector p.2) {cur : Array Value} (ht : cur.toList.take (C.length * 33) = C.flatMap wre) {j : Nat} (hj : j < C.length) :
    (cur.toList.drop (j * 33)).take 33 = wre C[j] := by
  have h1 := flatMap_at wre 33 C (fun p hp => wr_len (hC p hp)) j hj
  rw [← ht, List.drop_take, List.take_take, Nat.min_eq_left (by have : (j + 1) * 33 ≤ C.length * 33 := Nat.mul_le_mul_right 33 hj; omega)] at h1
  exact h1

set_option maxHeartbeats 2000000 in
theorem settle_some {w : World} {B b gs gm g cap : Nat} {S : List (List Int)} {C : List (Int × List Int)} (h : DiskAt w B b gs gm (.slice (some ⟨g, 0, none⟩) C.length cap) S C) (m : Nat) (hm : m ≤ C.length) :
    Calls Try.prog 30 #[.pointer (some ⟨b, 0, none⟩), .int .i64 m] w fun e w' =>
      e = .returned (.tuple #[]) ∧ DiskAt w' B b gs gm (.slice none 0 0) (settled S (C.take m)) [] ∧ Mod (fun k => k = b ∨ k = gs ∨ k = gm) w w' := by
  obtain ⟨hcl, hcc⟩ := h.cache
  obtain ⟨hgB, cur, hgc, hnc, hmc, hsz, htk⟩ : B ≤ g ∧ ∃ cur, w.heap[g]? = some (.cells cur 63 (0, 0)) ∧ C.length ≤ cap ∧ cap ≤ maxLen ∧ cur.size = cap * 33 ∧ cur.toList.take (C.length * 33) = C.flatMap wre := by
    rcases hcc with ⟨hn, _⟩ | ⟨g', cap', cur, e, hb, hg, h1, h2, h3, h4⟩
    · cases hn
    · cases e
      exact ⟨hb, cur, hg, h1, h2, h3, h4⟩
  have hap := foot_apart h
  have hlt := h.lt
  have c1 := cells_at h.root 1
  have hmc' : cap ≤ 9223372036854775807 := by simpa [maxLen] using hmc
  clear hcc hcl
  go_enter Try.func30, Try.ntmps30
  go_wp2_with fail
  have c0 := cells_at h.root 0
  have hS32 : ∀ j, ∀ s ∈ settled S (C.take j), Sector s := fun j => settled_sec h.sec fun p hp => (h.wrs p (List.mem_of_mem_take hp)).1
  go_loopw [13] (fun i wre' => ∃ j : Nat, j ≤ m ∧ i = .int .i64 j ∧ wre'.heap[gs]? = some (.cells (flat (settled S (C.take j))).toArray 61 (0, 0)) ∧ Mod (fun k => k = gs) w wre') (fun i _ => m - (intOf i).toNat)
  case atStart => exact ⟨0, by omega, rfl, by simpa [settled] using h.safe, Mod.refl _ _⟩
  case round =>
    obtain ⟨j, hj, rfl, hsafe, hmod⟩ := hrel
    by_cases hlt' : j < m
    · have hgc' := (hmod.block g (hlt g (.inr (.inr (.inr rfl)))).2 (hap.2.2.2 g rfl).2.1).trans hgc
      have hr' := (hmod.block b (hlt b (.inl rfl)).2 (fun e => hap.1 e.symm)).trans h.root
      obtain ⟨p, hp⟩ : ∃ p, C[j]? = some p := ⟨_, List.getElem?_eq_getElem (by omega)⟩
      have hp' : C[j] = p := by have := List.getElem?_eq_getElem (l := C) (i := j) (by omega); rw [hp] at this; exact (Option.some.inj this).symm
      have hrow := row_at (fun p hp => (h.wrs p hp).1) htk (j := j) (by omega)
      rw [hp'] at hrow
      obtain ⟨hz, hp0, hp1⟩ := h.wrs p (List.mem_of_getElem? hp)
      have htake : C.take (j + 1) = C.take j ++ [p] := by rw [List.take_succ_eq_append_getElem (show j < C.length by omega), hp']
      have hset : settled S (C.take (j + 1)) = (settled S (C.take j)).set p.1.toNat p.2 := by rw [htake, settled_snoc]
      obtain ⟨at_, z⟩ := p
      simp only at hz hp0 hp1 hset
      have hSl := settled_len S (C.take j)
      have hfl : (flat (settled S (C.take j))).length = S.length * 32 := by rw [← hSl]; exact flatMap_len sct 32 _ fun s hs => by rw [sct_len]; exact (hS32 j s hs).1
      have hspl : splice (flat (settled S (C.take j))) (at_.toNat * 32) (sct z) = flat (settled S (C.take (j + 1))) := by
        rw [hset]
        exact flatMap_splice sct 32 _ (fun s hs => by rw [sct_len]; exact (hS32 j s hs).1) at_.toNat (by omega) z (by rw [sct_len, hz.1])
      have Hset := Lib.hid hset; clear hset
      have Hspl := Lib.hid hspl; clear hspl
      have HSl := Lib.hid hSl; clear hSl
      obtain ⟨L, hL⟩ : ∃ L, L = flat (settled S (C.take j)) := ⟨_, rfl⟩
      rw [← hL] at hsafe hfl Hspl
      clear hL htake hp hp'
      have i1 : (0 : Int) ≤ (j : Int) := by omega
      have i2 : (j : Int) < (m : Int) := by omega
      have Hhap := Lib.hid hap; clear hap
      clear c0 c1
      go_wp2_with (with_reducible refine stop_load 63 ?_)
      refine unpark ?_
      refine wpList_load_at rfl _ _ rfl g (j * 33) rfl _ _ _ hgc' 33 (wre (at_, z)) (wr_len hz) hrow _ Try.underlying63 rfl Try.sizeWr ?_
      go_wp2_with (with_reducible refine stop_store 63 ?_)
      refine unpark ?_
      refine wpList_store_at rfl _ _ _ rfl _ 0 rfl _ rfl _ rfl _ _ (heap_alloc_new _ _) 33 (wr_len hz) (by decide) (wr_one _) Try.sizeWr ?_
      intro w2 hw2 hg2 hs2
      clear hs2
      rw [splice_all _ _ (by rw [wr_len hz]; rfl)] at hw2
      have hal : Below wr.heap.size wr w2 := ((Below.refl _ _).alloc (Nat.le_refl _) _).grown hg2 (by simp) (fun k hk => by cases hk; exact Nat.le_refl _)
      have r2 := (hal.block b (Array.getElem?_eq_some_iff.1 hr').1).trans hr'
      have s2 := (hal.block gs (Array.getElem?_eq_some_iff.1 hsafe).1).trans hsafe
      have m2 : Mod (fun k => k = gs) w w2 := hmod.trans (Mod.of_below hal : Mod (fun k => k = gs) wr w2) (fun _ h => h) (fun _ _ h => h)
      clear hg2 hal hr' hsafe hmod hgc'
      have Hm2 := Lib.hid m2; clear m2
      go_wp2_with fail
      refine wp_region_free [0, 1, 2, 3, 4, 5, 6, 7, 8, 9] (by kernel_rfl) (by kernel_rfl) rfl (by kernel_rfl) (fun _ _ _ h => nomatch h.2.1) (fun _ _ h => nomatch h.1) ?_
      simp only [List.map_cons, List.map_nil, List.getD_cons_zero, List.getD_cons_succ]
      have r3 : w2.drew.heap[b]? = _ := r2
      have s3 : w2.drew.heap[gs]? = _ := s2
      have hw3 : w2.drew.heap[wr.heap.size]? = _ := hw2
      have m3 : Mod (fun k => k = gs) w w2.drew := ⟨Hm2.out.os, Hm2.out.tape, Hm2.out.output, Hm2.out.size, Hm2.out.block⟩
      clear r2 s2 hw2 Hm2
      generalize w2.drew = w3 at r3 s3 hw3 m3 ⊢
      have Hm3 := Lib.hid m3; clear m3
      have c0 := cells_at r3 0
      have ca : w3.cell? ⟨wr.heap.size, 0, none⟩ = some (.int .i64 at_) := cells_at hw3 0
      go_wp2_with (with_reducible refine stop_load 61 ?_)
      refine unpark ?_
      refine wpList_load_at rfl _ _ rfl wr.heap.size 1 rfl _ _ _ hw3 32 (sct z) (by rw [sct_len, hz.1]) (by show (sct z).take 32 = sct z; exact List.take_of_length_le (by rw [sct_len, hz.1]; exact Nat.le_refl _)) _ Try.underlying61 rfl Try.sizeSec ?_
      go_wp2_with (with_reducible refine stop_store 61 ?_)
      refine unpark ?_
      refine wpList_store_at rfl _ _ _ rfl gs (at_.toNat * 32) rfl _ rfl _ rfl _ _ s3 32 (by rw [sct_len]; exact hz.1) (by simp; omega) (sct_one _) Try.sizeSec ?_
      intro w4 hw4 hg4 hs4
      clear hs4 c0 ca
      simp only at hw4
      rw [Hspl.out] at hw4
      have m4 : Mod (fun k => k = gs) w w4 := Hm3.out.trans (Mod.of_grown hg4 (F := fun k => k = gs) fun x e => by cases e; rfl) (fun _ h => h) (fun _ _ h => h)
      have Hm4 := Lib.hid m4; clear m4
      clear hg4 r3 s3 hw3 Hm3
      go_wp2_with fail
      go_roundw
      case rel => exact ⟨j + 1, by omega, by go_num, hw4, Hm4.out⟩
      case measure => simp [intOf]; omega
    · obtain rfl : j = m := by omega
      have hr' := (hmod.block b (hlt b (.inl rfl)).2 (fun e => hap.1 e.symm)).trans h.root
      have n' := h.now.keep (w' := wr) (hmod.block gm (hlt gm (.inr (.inr (.inl rfl)))).2 hap.2.2.1)
      have Hhap := Lib.hid hap; clear hap
      have Hmod := Lib.hid hmod; clear hmod
      have c1 := cells_at hr' 1
      have c2 := cells_at hr' 2
      have f1 := frozen_of_row wr b 1 _ _ hr'
      clear c0
      go_wp2_with (with_reducible refine stop_call ?_)
      have bnd := Hhap.out
      obtain ⟨w5, hw5⟩ : ∃ w5, w5 = wr.setCell ⟨b, 1, none⟩ (.slice none 0 0) := ⟨_, rfl⟩
      have oth5 : ∀ x, x ≠ b → w5.heap[x]? = wr.heap[x]? := fun x hx => by rw [hw5]; exact heap_setCell_other wr _ x _ hx
      have r5 : w5.heap[b]? = some (.cells #[.slice (some ⟨gs, 0, none⟩) S.length S.length, .slice none 0 0, .map (some gm)] 58 (0, 0)) := by
        rw [hw5]
        exact heap_setCell_same wr b 1 _ _ _ hr'
      have s5 := (oth5 gs bnd.1).trans hsafe
      have n5 := n'.keep (w' := w5) (oth5 gm bnd.2.1)
      have m5 : Mod (fun k => k = b ∨ k = gs ∨ k = gm) w w5 := Hmod.out.trans (⟨by rw [hw5]; rfl, by rw [hw5]; rfl, by rw [hw5]; rfl, by rw [hw5]; simp, fun x _ hx => oth5 x hx⟩ : Mod (fun k => k = b) wr w5) (fun _ h => .inr (.inl h)) (fun _ _ h => .inl h)
      rw [← hw5]
      clear hw5 hr' n' c1 c2 f1 hsafe Hmod oth5
      refine unpark ?_
      refine wpList_clear_int rfl _ _ rfl .i64 gm _ n5 rfl _ _ Try.underlying55 ?_
      intro w6 n6 hg6 hs6
      clear hs6
      have oth6 : ∀ x, x < w5.heap.size → x ≠ gm → w6.heap[x]? = w5.heap[x]? := fun x hx hne => hg6.block x hx (fun e => hne (by injection e))
      have r6 := (oth6 b (Array.getElem?_eq_some_iff.1 r5).1 (Ne.symm bnd.2.1)).trans r5
      have s6 := (oth6 gs (Array.getElem?_eq_some_iff.1 s5).1 (Ne.symm bnd.2.2.1)).trans s5
      have m6 : Mod (fun k => k = b ∨ k = gs ∨ k = gm) w w6 := m5.trans (Mod.of_grown hg6 (F := fun k => k = b ∨ k = gs ∨ k = gm) fun x e => by cases e; exact .inr (.inr rfl)) (fun _ h => h) (fun _ _ h => h)
      have Hm6 := Lib.hid m6; clear m6 m5 hg6 oth6 bnd
      go_wp2
      go_end0
      have hlenS : (settled S (C.take j)).length = S.length := settled_len S _
      exact ⟨rfl, ⟨by rw [hlenS]; exact r6, s6, ⟨rfl, .inl ⟨rfl, rfl⟩⟩, n6, hS32 j, (fun _ h => by cases h), h.bb, h.bs, h.bm, by rw [hlenS]; exact h.pos, by rw [hlenS]; exact h.len⟩, Hm6.out⟩

set_option maxHeartbeats 1000000 in
theorem settle_none {w : World} {B b gs gm : Nat} {S : List (List Int)} (h : DiskAt w B b gs gm (.slice none 0 0) S []) :
    Calls Try.prog 30 #[.pointer (some ⟨b, 0, none⟩), .int .i64 0] w fun e w' =>
      e = .returned (.tuple #[]) ∧ DiskAt w' B b gs gm (.slice none 0 0) S [] ∧ Mod (fun k => k = b ∨ k = gs ∨ k = gm) w w' := by
  have hap := foot_apart h
  have hr := h.root
  have hs := h.safe
  have hn := h.now
  have c1 := cells_at hr 1
  have c2 := cells_at hr 2
  have f1 := frozen_of_row w b 1 _ _ hr
  have Hap := Lib.hid hap; clear hap
  go_enter Try.func30, Try.ntmps30
  go_wp2_with fail
  go_loopw [13] (fun i wr' => i = .int .i64 0 ∧ wr' = w) (fun _ _ => 0)
  case atStart => exact ⟨rfl, rfl⟩
  case round =>
    obtain ⟨rfl, rfl⟩ := hrel
    go_wp2_with (with_reducible refine stop_call ?_)
    have bnd := Hap.out
    obtain ⟨w5, hw5⟩ : ∃ w5, w5 = wr.setCell ⟨b, 1, none⟩ (.slice none 0 0) := ⟨_, rfl⟩
    have oth5 : ∀ x, x ≠ b → w5.heap[x]? = wr.heap[x]? := fun x hx => by rw [hw5]; exact heap_setCell_other wr _ x _ hx
    have r5 : w5.heap[b]? = some (.cells #[.slice (some ⟨gs, 0, none⟩) S.length S.length, .slice none 0 0, .map (some gm)] 58 (0, 0)) := by
      rw [hw5]
      exact heap_setCell_same wr b 1 _ _ _ hr
    have s5 := (oth5 gs bnd.1).trans hs
    have n5 := hn.keep (w' := w5) (oth5 gm bnd.2.1)
    have m5 : Mod (fun k => k = b ∨ k = gs ∨ k = gm) wr w5 := (⟨by rw [hw5]; rfl, by rw [hw5]; rfl, by rw [hw5]; rfl, by rw [hw5]; simp, fun x _ hx => oth5 x fun e => hx (.inl e)⟩ : Mod (fun k => k = b ∨ k = gs ∨ k = gm) wr w5)
    rw [← hw5]
    clear hw5 hr hn hs c1 c2 f1 oth5
    refine unpark ?_
    refine wpList_clear_int rfl _ _ rfl .i64 gm _ n5 rfl _ _ Try.underlying55 ?_
    intro w6 n6 hg6 hs6
    clear hs6
    have oth6 : ∀ x, x < w5.heap.size → x ≠ gm → w6.heap[x]? = w5.heap[x]? := fun x hx hne => hg6.block x hx (fun e => hne (by injection e))
    have r6 := (oth6 b (Array.getElem?_eq_some_iff.1 r5).1 (Ne.symm bnd.2.1)).trans r5
    have s6 := (oth6 gs (Array.getElem?_eq_some_iff.1 s5).1 (Ne.symm bnd.2.2.1)).trans s5
    have m6 : Mod (fun k => k = b ∨ k = gs ∨ k = gm) wr w6 := m5.trans (Mod.of_grown hg6 (F := fun k => k = b ∨ k = gs ∨ k = gm) fun x e => by cases e; exact .inr (.inr rfl)) (fun _ h => h) (fun _ _ h => h)
    have Hm6 := Lib.hid m6; clear m6 m5 hg6 oth6 bnd
    go_wp2
    go_end0
    exact ⟨rfl, ⟨r6, s6, ⟨rfl, .inl ⟨rfl, rfl⟩⟩, n6, h.sec, (fun _ h => by cases h), h.bb, h.bs, h.bm, h.pos, h.len⟩, Hm6.out⟩

theorem settle_calls {w : World} {B b gs gm : Nat} {cv : Value} {S : List (List Int)} {C : List (Int × List Int)} (h : DiskAt w B b gs gm cv S C) (m : Nat) (hm : m ≤ C.length) :
    Calls Try.prog 30 #[.pointer (some ⟨b, 0, none⟩), .int .i64 m] w fun e w' =>
      e = .returned (.tuple #[]) ∧ DiskAt w' B b gs gm (.slice none 0 0) (settled S (C.take m)) [] ∧ Mod (fun k => k = b ∨ k = gs ∨ k = gm) w w' := by
  rcases h.cache.2 with ⟨rfl, h0⟩ | ⟨g, cap, cur, rfl, _⟩
  · obtain rfl : C = [] := List.eq_nil_of_length_eq_zero h0
    obtain rfl : m = 0 := by simpa using hm
    exact settle_none h
  · exact settle_some h m hm

theorem Flush_calls {w : World} {B b gs gm : Nat} {cv : Value} {S : List (List Int)} {C : List (Int × List Int)} (h : DiskAt w B b gs gm cv S C) :
    Calls Try.prog 17 #[.pointer (some ⟨b, 0, none⟩)] w fun e w' =>
      e = .returned (.tuple #[]) ∧ DiskAt w' B b gs gm (.slice none 0 0) (settled S C) [] ∧ Mod (fun k => k = b ∨ k = gs ∨ k = gm) w w' := by
  have c1 := cells_at h.root 1
  obtain ⟨a, c, rfl⟩ : ∃ a c, cv = .slice a C.length c := by
    rcases h.cache.2 with ⟨rfl, h0⟩ | ⟨g, cap, cur, rfl, _⟩
    · rw [h0]; exact ⟨_, _, rfl⟩
    · exact ⟨_, _, rfl⟩
  have hs := settle_calls h C.length (Nat.le_refl _)
  rw [List.take_length] at hs
  go_enter Try.func17, Try.ntmps17
  go_wp2_with fail
  refine hs.mono ?_
  rintro e w1 ⟨rfl, h1, m1⟩
  have Hm1 := Lib.hid m1; clear m1
  go_wp2
  go_end0
  exact ⟨rfl, h1, Hm1.out⟩
end Go.Proofs.Ytpcekoimalafkaa
