/- The device: Write. -/
import Derived.Test.YtpcekoimalafkaaDisk1
namespace Go.Proofs.Ytpcekoimalafkaa
open Go.RowKit

theorem foot_cases {b gs gm : Nat} {cv : Value} {k : Nat} (h : foot b gs gm cv k) : k = b ∨ k = gs ∨ k = gm ∨ cv.ownBlock = some k := h

theorem Try.infoWr : ∃ i z, Try.prog.info? 63 = some i ∧ i.zero = some z ∧ i.size = 33 ∧ i.bytes = 40 ∧ z.cells.size = 33 ∧ z.cells.toList = wre (0, zsec) := by
  cases h : Try.prog.info? 63 with
  | none => exact absurd (show (Try.prog.info? 63).isSome = true by kernel_rfl) (by rw [h]; decide)
  | some i =>
    have hq : (Try.prog.info? 63).map (fun i => (i.zero, i.size, i.bytes)) = some (some (.agg (wre (0, zsec)).toArray), 33, 40) := by kernel_rfl
    rw [h] at hq
    simp only [Option.map_some, Option.some.injEq, Prod.mk.injEq] at hq
    exact ⟨i, _, rfl, hq.1, hq.2.1, hq.2.2, by decide, by simp [Value.cells]⟩

theorem list32 : ∀ (z : List Int), z.length = 32 → ∃ x0 x1 x2 x3 x4 x5 x6 x7 x8 x9 x10 x11 x12 x13 x14 x15 x16 x17 x18 x19 x20 x21 x22 x23 x24 x25 x26 x27 x28 x29 x30 x31, z = [x0, x1, x2, x3, x4, x5, x6, x7, x8, x9, x10, x11, x12, x13, x14, x15, x16, x17, x18, x19, x20, x21, x22, x23, x24, x25, x26, x27, x28, x29, x30, x31]
  | [x0, x1, x2, x3, x4, x5, x6, x7, x8, x9, x10, x11, x12, x13, x14, x15, x16, x17, x18, x19, x20, x21, x22, x23, x24, x25, x26, x27, x28, x29, x30, x31], _ => ⟨x0, x1, x2, x3, x4, x5, x6, x7, x8, x9, x10, x11, x12, x13, x14, x15, x16, x17, x18, x19, x20, x21, x22, x23, x24, x25, x26, x27, x28, x29, x30, x31, rfl⟩
theorem build_wr (w : World) (k : Int) {z : List Int} (hz : Sector z) :
    (Instr.build 63 #[(0, .int .i64 k), (1, .agg (sct z).toArray)]).run Try.prog w = .ok (.agg (wre (k, z)).toArray) w := by
  obtain ⟨x0, x1, x2, x3, x4, x5, x6, x7, x8, x9, x10, x11, x12, x13, x14, x15, x16, x17, x18, x19, x20, x21, x22, x23, x24, x25, x26, x27, x28, x29, x30, x31, rfl⟩ := list32 z hz.1
  kernel_rfl
theorem buildSlice_wr (w : World) (k : Int) {z : List Int} (hz : Sector z) :
    (Instr.buildSlice 56 1 #[(0, .agg (wre (k, z)).toArray)]).run Try.prog w = .ok (.slice (some ⟨w.heap.size, 0, none⟩) 1 1) (w.alloc (.cells (wre (k, z)).toArray 63)) := by
  obtain ⟨x0, x1, x2, x3, x4, x5, x6, x7, x8, x9, x10, x11, x12, x13, x14, x15, x16, x17, x18, x19, x20, x21, x22, x23, x24, x25, x26, x27, x28, x29, x30, x31, rfl⟩ := list32 z hz.1
  kernel_rfl

theorem foot_apart {w : World} {B b gs gm : Nat} {cv : Value} {S : List (List Int)} {C : List (Int × List Int)} (h : DiskAt w B b gs gm cv S C) :
    gs ≠ b ∧ gm ≠ b ∧ gm ≠ gs ∧ (∀ g, cv.ownBlock = some g → g ≠ b ∧ g ≠ gs ∧ g ≠ gm) := by
  have h1 := h.root
  have h2 := h.safe
  obtain ⟨es, cl, h3, _⟩ := h.now
  refine ⟨fun e => ?_, fun e => ?_, fun e => ?_, fun g hg => ?_⟩
  · subst e; rw [h1] at h2; simp at h2
  · subst e; rw [h1] at h3; simp at h3
  · subst e; rw [h2] at h3; simp at h3
  · rcases h.cache.2 with ⟨rfl, _⟩ | ⟨g', cap, cur, rfl, _, h4, _⟩
    · cases hg
    · simp only [Value.ownBlock, Option.some.injEq] at hg
      subst hg
      refine ⟨fun e => ?_, fun e => ?_, fun e => ?_⟩
      · subst e; rw [h1] at h4; simp at h4
      · subst e; rw [h2] at h4; simp at h4
      · subst e; rw [h3] at h4; simp at h4

def writeErr (S : List (List Int)) (k : Int) (n : Nat) : Int := if 0 ≤ k ∧ k < (S.length : Int) then (if n = 32 then 0 else 10) else 11
def written (S : List (List Int)) (C : List (Int × List Int)) (k : Int) (zs : List Int) : List (Int × List Int) :=
  if 0 ≤ k ∧ k < (S.length : Int) ∧ zs.length = 32 then C ++ [(k, zs)] else C

set_option maxHeartbeats 2000000 in
theorem Write_calls {w : World} {B b gs gm : Nat} {cv : Value} {S : List (List Int)} {C : List (Int × List Int)} (h : DiskAt w B b gs gm cv S C) (k : Int) {a : Option Addr} {n c : Nat} {zs : List Int} (hx : Ints w .u8 a n c zs) (hC : C.length ≤ 1000000) :
    Calls Try.prog 14 #[.pointer (some ⟨b, 0, none⟩), .int .i64 k, .slice a n c] w fun e w' =>
      ∃ cv', e = .returned (.int .i64 (writeErr S k n)) ∧ DiskAt w' B b gs gm cv' S (written S C k zs) ∧ Mod (foot b gs gm cv) w w' ∧ ∀ g, cv'.ownBlock = some g → cv.ownBlock = some g ∨ w.heap.size ≤ g := by
  have hth := there_calls h k
  have hlz := hx.len
  by_cases hin : 0 ≤ k ∧ k < (S.length : Int)
  · rw [decide_eq_true hin] at hth
    by_cases hn : n = 32
    · subst hn
      have hz : Sector zs := ⟨hlz, hx.fit⟩
      have he : writeErr S k 32 = 0 := by unfold writeErr; rw [if_pos hin, if_pos rfl]
      have hw : written S C k zs = C ++ [(k, zs)] := by unfold written; rw [if_pos ⟨hin.1, hin.2, hlz⟩]
      rw [he, hw]
      obtain ⟨bx, ox, rfl, cx⟩ := hx.cell (by decide)
      have hcx : ∀ j v, (sct zs)[j]? = some v → w.cell? ⟨bx, ox + j, none⟩ = some v := by
        intro j v hv
        have hj : j < 32 := by have := (List.getElem?_eq_some_iff.1 hv).1; rw [sct_len] at this; omega
        rw [cx j hj]
        simp only [sct, List.getElem?_map] at hv
        rw [List.getD_eq_getElem?_getD]
        cases hq : zs[j]? with
        | none => rw [hq] at hv; cases hv
        | some x => rw [hq] at hv; simpa using hv
      clear cx he hw hlz
      have harr : ∀ w, (Instr.arrayAt 61 (.slice (some ⟨bx, ox, none⟩) 32 c)).run Try.prog w = .ok (.pointer (some ⟨bx, ox, none⟩)) w := fun w => by
        simp [Instr.arrayAt, run_underlying (w := w) Try.underlying61]
      go_enter Try.func14, Try.ntmps14
      go_wp2_with fail
      refine hth.mono ?_
      rintro e w1 ⟨rfl, rfl⟩
      clear hth
      go_wp2_with (with_reducible refine stop_load 61 ?_)
      refine unpark ?_
      refine wpList_load_cells rfl _ _ rfl bx ox rfl (sct zs) hcx 32 (by rw [sct_len, hz.1]) _ Try.underlying61 rfl Try.sizeSec ?_
      go_wp2_with (with_reducible refine stop_store 61 ?_)
      refine unpark ?_
      refine wpList_store_at rfl _ _ _ rfl _ 0 rfl _ rfl _ rfl _ _ (heap_alloc_new _ _) 32 (by rw [sct_len]; exact hz.1) (by decide) (sct_one _) Try.sizeSec ?_
      intro w2 hw2 hg2 hs2
      clear hs2
      rw [splice_all _ _ (by rw [sct_len, hz.1]; rfl)] at hw2
      have hb2 : Below w1.heap.size w1 w2 := ((Below.refl _ _).alloc (Nat.le_refl _) _).grown hg2 (by simp) (fun k hk => by cases hk; exact Nat.le_refl _)
      have h2 := h.keep (w' := w2) fun k hk => hb2.block k (h.lt k hk).2
      have Hcl := h.lt
      clear hcx hg2
      go_wp2_with fail
      refine wp_region_free [0, 1, 2, 3, 4, 5, 6, 7, 8, 9, 10, 11, 12] (by kernel_rfl) (by kernel_rfl) rfl (by kernel_rfl) (fun _ _ _ h => by obtain ⟨_, _, h, _⟩ := h; cases h) (fun _ _ h => by obtain ⟨_, h, _⟩ := h; cases h) ?_
      simp only [List.map_cons, List.map_nil, List.getD_cons_zero, List.getD_cons_succ]
      have h3 : DiskAt w2.drew B b gs gm cv S C := h2.keep fun _ _ => rfl
      have hw3 : w2.drew.heap[w1.heap.size]? = some (.cells (sct zs).toArray 61 (0, 0)) := hw2
      have hb3 : Below w1.heap.size w1 w2.drew := hb2.trans ⟨rfl, rfl, rfl, Nat.le_refl _, fun _ _ => rfl⟩
      clear h2 hw2 hb2
      generalize w2.drew = w3 at h3 hw3 hb3 ⊢
      have c1 := cells_at h3.root 1
      have hbw := build_wr w3 k hz
      have hbs := buildSlice_wr w3 k hz
      go_wp2_with (with_reducible refine stop_load 61 ?_)
      refine unpark ?_
      refine wpList_load_at rfl _ _ rfl w1.heap.size 0 rfl _ _ _ hw3 32 (sct zs) (by rw [sct_len, hz.1]) (by rw [List.drop_zero]; exact List.take_of_length_le (by simp [sct_len, hz.1])) _ Try.underlying61 rfl Try.sizeSec ?_
      go_wp2_with (with_reducible refine stop_build 63 ?_)
      refine unpark ?_
      refine wpList_build2 rfl _ _ _ _ _ rfl _ _ rfl rfl _ hbw ?_
      go_wp2_with (with_reducible refine stop_buildSlice 56 ?_)
      refine unpark ?_
      refine wpList_buildSlice1 rfl _ _ _ _ rfl _ rfl _ hbs ?_
      go_wp2_with (at_builtin; refine park ?_)
      refine unpark ?_
      obtain ⟨iw, zw, hiw, hzw, hsz, hby, hzs, _⟩ := Try.infoWr
      have hcw : ∀ j u, (wre (k, zs))[j]? = some u → (w3.alloc (.cells (wre (k, zs)).toArray 63)).cell? ⟨w3.heap.size, 0 + j, none⟩ = some u := fun j u hu => by
        rw [Nat.zero_add]
        exact (cell_of_row (w3.alloc (.cells (wre (k, zs)).toArray 63)) w3.heap.size j (wre (k, zs)).toArray 63 (0, 0) (heap_alloc_new w3 _)).trans (by simpa using hu)
      refine wpList_append_row _ rfl _ _ 56 rfl B 63 iw zw 33 40 Try.underlying56 hiw hzw hsz hby hzs (by decide) cv C.length (C.flatMap wre) rfl (h3.cache.alloc _) w3.heap.size 0 1 1 (wre (k, zs)) (by rfl) (wr_len hz) (by decide)
        hcw (wr_one _) (by unfold maxLen; omega) (by omega) (by have := h3.bb; have := (h3.lt b (.inl rfl)).2; simp; omega) ?_
      intro cv' w4 hcache hg4 hne
      have hal : Below w3.heap.size w3 (w3.alloc (.cells (wre (k, zs)).toArray 63)) := (Below.refl _ _).alloc (Nat.le_refl _) _
      have hg1 : w1.heap.size ≤ w3.heap.size := hb3.size
      have hfr := foot_apart h3
      have hlt3 := h3.lt
      have same4 : ∀ x, x < w3.heap.size → cv.ownBlock ≠ some x → w4.heap[x]? = w3.heap[x]? := fun x hx hne =>
        (hg4.block x (by simp; omega) (fun e => hne e.symm)).trans (hal.block x hx)
      have r4 := (same4 b (hlt3 b (.inl rfl)).2 (fun e => (hfr.2.2.2 b e).1 rfl)).trans h3.root
      have s4 := (same4 gs (hlt3 gs (.inr (.inl rfl))).2 (fun e => (hfr.2.2.2 gs e).2.1 rfl)).trans h3.safe
      have n4 := h3.now.keep (w' := w4) (same4 gm (hlt3 gm (.inr (.inr (.inl rfl)))).2 (fun e => (hfr.2.2.2 gm e).2.2 rfl))
      have t4 := (same4 w1.heap.size (Array.getElem?_eq_some_iff.1 hw3).1 (fun e => by have := (Hcl _ (.inr (.inr (.inr e)))).2; omega)).trans hw3
      have m4 : Mod (foot b gs gm cv) w1 w4 := (Mod.of_below hb3 : Mod (foot b gs gm cv) w1 w3).trans ((Mod.of_below hal : Mod (foot b gs gm cv) _ _).trans (Mod.of_grown hg4 (F := foot b gs gm cv) fun x hx => .inr (.inr (.inr hx))) (fun _ h => h) (fun _ _ h => h)) (fun _ h => h) (fun _ _ h => h)
      have o4 : ∀ g, cv'.ownBlock = some g → cv.ownBlock = some g ∨ w1.heap.size ≤ g := fun g hg => by
        rcases hne with e | e
        · exact .inl (by rw [← e]; exact hg)
        · rw [e] at hg
          simp at hg
          exact .inr (by omega)
      have Hm4 := Lib.hid m4; clear m4
      have Ho4 := Lib.hid o4; clear o4
      have Hfr := Lib.hid hfr; clear hfr
      clear hcw hg4 hal same4 hbw hbs h3 hw3 hb3 c1 hlt3 hne hiw hzw
      have c1 := cells_at r4 1
      have f1 := frozen_of_row w4 b 1 _ _ r4
      obtain ⟨av, capv, rfl⟩ : ∃ av capv, cv' = .slice av (C.length + 1) capv := by
        rcases hcache.2 with ⟨_, h0⟩ | ⟨g, cap, cur, rfl, _⟩
        · omega
        · exact ⟨_, _, rfl⟩
      go_wp2_with fail
      have bnd := Hfr.out
      obtain ⟨w5, hw5⟩ : ∃ w5, w5 = w4.setCell ⟨b, 1, none⟩ (.slice av (C.length + 1) capv) := ⟨_, rfl⟩
      have oth5 : ∀ x, x ≠ b → w5.heap[x]? = w4.heap[x]? := fun x hx => by rw [hw5]; exact heap_setCell_other w4 _ x _ hx
      have r5 : w5.heap[b]? = some (.cells #[.slice (some ⟨gs, 0, none⟩) S.length S.length, .slice av (C.length + 1) capv, .map (some gm)] 58 (0, 0)) := by
        rw [hw5]
        exact heap_setCell_same w4 b 1 _ _ _ r4
      have s5 := (oth5 gs bnd.1).trans s4
      have n5 := n4.keep (w' := w5) (oth5 gm bnd.2.1)
      have t5 := (oth5 w1.heap.size (fun e => by have := (Hcl _ (.inl rfl)).2; omega)).trans t4
      have hsz5 : w5.heap.size = w4.heap.size := by rw [hw5]; simp
      have m5 : Mod (foot b gs gm cv) w1 w5 := Hm4.out.trans (⟨by rw [hw5]; rfl, by rw [hw5]; rfl, by rw [hw5]; rfl, by omega, fun x _ hx => oth5 x fun e => hx (.inl e)⟩ : Mod (foot b gs gm cv) w4 w5) (fun _ h => h) (fun _ _ h => h)
      have k5 : w5.ownsRow B 63 33 (.slice av (C.length + 1) capv) (C.length + 1) (C.flatMap wre ++ wre (k, zs)) := by
        refine ⟨hcache.1, ?_⟩
        rcases hcache.2 with hn | ⟨g, cap, cur, e, hb, hg, rest⟩
        · exact .inl hn
        · refine .inr ⟨g, cap, cur, e, hb, (oth5 g fun e2 => ?_).trans hg, rest⟩
          subst e2
          rw [r4] at hg
          simp at hg
      rw [← hw5]
      clear hw5 hcache r4 s4 n4 t4 c1 f1 hsz5 Hm4 oth5 bnd
      refine wp_region_free [0, 1, 2, 3, 4, 5, 6] (by kernel_rfl) (by kernel_rfl) rfl (by kernel_rfl) (fun _ _ _ h => by obtain ⟨_, _, h, _⟩ := h; cases h) (fun _ _ h => by obtain ⟨_, h, _⟩ := h; cases h) ?_
      simp only [List.map_cons, List.map_nil, List.getD_cons_zero, List.getD_cons_succ]
      have r6 : w5.drew.heap[b]? = _ := r5
      have s6 : w5.drew.heap[gs]? = _ := s5
      have n6 := n5.keep (w' := w5.drew) rfl
      have t6 : w5.drew.heap[w1.heap.size]? = _ := t5
      have m6 : Mod (foot b gs gm cv) w1 w5.drew := ⟨m5.os, m5.tape, m5.output, m5.size, m5.block⟩
      have k6 : w5.drew.ownsRow B 63 33 (.slice av (C.length + 1) capv) (C.length + 1) (C.flatMap wre ++ wre (k, zs)) := k5
      clear r5 s5 n5 t5 m5 k5
      generalize w5.drew = w6 at r6 s6 n6 t6 m6 k6 ⊢
      have Hm6 := Lib.hid m6; clear m6
      have c2 := cells_at r6 2
      go_wp2_with (with_reducible refine stop_load 61 ?_)
      refine unpark ?_
      refine wpList_load_at rfl _ _ rfl w1.heap.size 0 rfl _ _ _ t6 32 (sct zs) (by rw [sct_len, hz.1]) (by rw [List.drop_zero]; exact List.take_of_length_le (by simp [sct_len, hz.1])) _ Try.underlying61 rfl Try.sizeSec ?_
      go_wp2_with (with_reducible refine stop_mapUpdate 55 ?_)
      refine unpark ?_
      refine wpList_mapUpdate_int rfl _ _ _ _ rfl .i64 gm _ n6 k (.agg (sct zs).toArray) rfl rfl rfl _ _ Try.underlying55 Try.underlying3 ?_
      intro w7 n7 hg7 hs7
      clear hs7 c2
      have bnd := Hfr.out
      have oth7 : ∀ x, x < w6.heap.size → x ≠ gm → w7.heap[x]? = w6.heap[x]? := fun x hx hne => hg7.block x hx (fun e => hne (by injection e))
      have r7 := (oth7 b (Array.getElem?_eq_some_iff.1 r6).1 (Ne.symm bnd.2.1)).trans r6
      have s7 := (oth7 gs (Array.getElem?_eq_some_iff.1 s6).1 (Ne.symm bnd.2.2.1)).trans s6
      have m7 : Mod (foot b gs gm cv) w1 w7 := Hm6.out.trans (Mod.of_grown hg7 (F := foot b gs gm cv) fun x e => by cases e; exact .inr (.inr (.inl rfl))) (fun _ h => h) (fun _ _ h => h)
      have Hm7 := Lib.hid m7; clear m7
      clear hg7
      go_wp2
      go_ret
      refine ⟨_, rfl, ⟨r7, s7, ?_, ?_, h.sec, ?_, h.bb, h.bs, h.bm, h.pos, h.len⟩, Hm7.out, Ho4.out⟩
      · refine ⟨by have := k6.1; simpa using this, ?_⟩
        rcases k6.2 with hn | ⟨g, cap, cur, e, hb, hg, rest⟩
        · omega
        · refine .inr ⟨g, cap, cur, by rw [e]; simp, hb, (oth7 g (Array.getElem?_eq_some_iff.1 hg).1 fun e2 => ?_).trans hg, by simpa using rest⟩
          subst e2
          obtain ⟨es, cl, h3, _⟩ := n6
          rw [h3] at hg
          cases hg
      · have e : (fun k' => if k' = k then some (Value.agg (sct zs).toArray) else (lastOf C k').map fun z => .agg (sct z).toArray) = fun k' => (lastOf (C ++ [(k, zs)]) k').map fun z => .agg (sct z).toArray := by
          funext k'
          rw [lastOf_snoc]
          split <;> rfl
        rw [← e]
        exact n7
      · intro p hp
        rcases List.mem_append.1 hp with hp | hp
        · exact h.wrs p hp
        · obtain rfl : p = (k, zs) := by simpa using hp
          exact ⟨hz, hin⟩
    · have he : writeErr S k n = 10 := by unfold writeErr; rw [if_pos hin, if_neg hn]
      have hw : written S C k zs = C := by unfold written; rw [if_neg (fun hh => hn (by rw [← hlz]; exact hh.2.2))]
      rw [he, hw]
      have hnb : ((n : Int) != 32) = true := by simp; omega
      clear he hw hlz
      go_enter Try.func14, Try.ntmps14
      go_wp2_with fail
      refine hth.mono ?_
      rintro e w1 ⟨rfl, rfl⟩
      go_wp2
      go_ret
      exact ⟨cv, rfl, h, Mod.refl _ _, fun g hg => .inl hg⟩
  · rw [decide_eq_false hin] at hth
    have he : writeErr S k n = 11 := by unfold writeErr; rw [if_neg hin]
    have hw : written S C k zs = C := by unfold written; rw [if_neg (fun hh => hin ⟨hh.1, hh.2.1⟩)]
    rw [he, hw]
    clear he hw hlz
    go_enter Try.func14, Try.ntmps14
    go_wp2_with fail
    refine hth.mono ?_
    rintro e w1 ⟨rfl, rfl⟩
    go_wp2
    go_ret
    exact ⟨cv, rfl, h, Mod.refl _ _, fun g hg => .inl hg⟩
end Go.Proofs.Ytpcekoimalafkaa
