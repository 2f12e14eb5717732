/- The device: Crash. -/
import Derived.Test.YtpcekoimalafkaaDisk3
namespace Go.Proofs.Ytpcekoimalafkaa
open Go.RowKit

def clampTo (k : Int) (n : Nat) : Nat := (min (max k 0) (n : Int)).toNat
def torn (S : List (List Int)) (p : Int × List Int) (t : Nat) : List (List Int) := S.set p.1.toNat (p.2.take t ++ (S.getD p.1.toNat []).drop t)
def crashed (S : List (List Int)) (C : List (Int × List Int)) (keep tear : Int) : List (List Int) :=
  match C[clampTo keep C.length]? with
  | none => settled S (C.take (clampTo keep C.length))
  | some p => torn (settled S (C.take (clampTo keep C.length))) p (clampTo tear 31)

theorem clamp_run (k : Int) (n : Nat) : (if (if (0 : Int) > k then 0 else k) > (n : Int) then (n : Int) else (if (0 : Int) > k then 0 else k)) = ((clampTo k n : Nat) : Int) := by
  unfold clampTo
  split <;> split <;> omega

set_option maxHeartbeats 2000000 in
theorem Crash_some {w : World} {B b gs gm g cap : Nat} {S : List (List Int)} {C : List (Int × List Int)} (h : DiskAt w B b gs gm (.slice (some ⟨g, 0, none⟩) C.length cap) S C) (keep tear : Int) :
    Calls Try.prog 19 #[.pointer (some ⟨b, 0, none⟩), .int .i64 keep, .int .i64 tear] w fun e w' =>
      e = .returned (.tuple #[]) ∧ DiskAt w' B b gs gm (.slice none 0 0) (crashed S C keep tear) [] ∧ Mod (fun k => k = b ∨ k = gs ∨ k = gm) w w' := by
  obtain ⟨hcl, hcc⟩ := h.cache
  obtain ⟨hgB, cur, hgc, hnc, hmc, hsz, htk⟩ : B ≤ g ∧ ∃ cur, w.heap[g]? = some (.cells cur 63 (0, 0)) ∧ C.length ≤ cap ∧ cap ≤ maxLen ∧ cur.size = cap * 33 ∧ cur.toList.take (C.length * 33) = C.flatMap wre := by
    rcases hcc with ⟨hn, _⟩ | ⟨g', cap', cur, e, hb, hg, h1, h2, h3, h4⟩
    · cases hn
    · cases e
      exact ⟨hb, cur, hg, h1, h2, h3, h4⟩
  have hap := foot_apart h
  have hlt := h.lt
  have c1 := cells_at h.root 1
  have hmc' : cap ≤ 9223372036854775807 := by simpa [maxLen] using hmc
  clear hcc hcl
  obtain ⟨m, hm⟩ : ∃ m, m = clampTo keep C.length := ⟨_, rfl⟩
  have hmle : m ≤ C.length := by rw [hm]; unfold clampTo; omega
  have hrun := clamp_run keep C.length
  rw [← hm] at hrun
  have hmax : ∀ w, (Builtin.max_ #[3, 3] 3 #[.int .i64 keep, .int .i64 0]).run Try.prog w = .ok (.int .i64 (if (0 : Int) > keep then 0 else keep)) w := fun w => rfl
  obtain ⟨M, hM⟩ : ∃ M, M = (if (0 : Int) > keep then 0 else keep) := ⟨_, rfl⟩
  rw [← hM] at hrun hmax
  have hmin : ∀ w, (Builtin.min_ #[3, 3] 3 #[.int .i64 M, .int .i64 (C.length : Int)]).run Try.prog w = .ok (.int .i64 m) w := fun w => by rw [← hrun]; rfl
  have Hm := Lib.hid hm; clear hm
  have HM := Lib.hid hM; clear hM hrun
  obtain ⟨T, hT⟩ : ∃ T, T = clampTo tear 31 := ⟨_, rfl⟩
  have hT31 : T ≤ 31 := by rw [hT]; unfold clampTo; omega
  have hrunT := clamp_run tear 31
  rw [← hT] at hrunT
  have hmaxT : ∀ w, (Builtin.max_ #[3, 3] 3 #[.int .i64 tear, .int .i64 0]).run Try.prog w = .ok (.int .i64 (if (0 : Int) > tear then 0 else tear)) w := fun w => rfl
  obtain ⟨N, hN⟩ : ∃ N, N = (if (0 : Int) > tear then 0 else tear) := ⟨_, rfl⟩
  rw [← hN] at hrunT hmaxT
  have hminT : ∀ w, (Builtin.min_ #[3, 3] 3 #[.int .i64 N, .int .i64 31]).run Try.prog w = .ok (.int .i64 T) w := fun w => by rw [← hrunT]; rfl
  have HT := Lib.hid hT; clear hT
  clear hrunT hN
  by_cases hml : m < C.length
  · have hne : ¬ cap = m := by omega
    obtain ⟨p, hp⟩ : ∃ p, C[m]? = some p := ⟨_, List.getElem?_eq_getElem hml⟩
    have hp' : C[m] = p := by have := List.getElem?_eq_getElem (l := C) (i := m) hml; rw [hp] at this; exact (Option.some.inj this).symm
    have hrow := row_at (fun p hp => (h.wrs p hp).1) htk hml
    rw [hp'] at hrow
    obtain ⟨hz, hp0, hp1⟩ := h.wrs p (List.mem_of_getElem? hp)
    have hcr : crashed S C keep tear = torn (settled S (C.take m)) p T := by
      unfold crashed
      rw [← Hm.out, ← HT.out, hp]
    rw [hcr]
    obtain ⟨at_, z⟩ := p
    simp only at hz hp0 hp1
    obtain ⟨S1, hS1⟩ : ∃ S1, S1 = settled S (C.take m) := ⟨_, rfl⟩
    have hlen1 : S1.length = S.length := by rw [hS1]; exact settled_len S _
    have hset := settle_calls h m hmle
    rw [← hS1] at hset ⊢
    clear hS1 hcr hp hp'
    have Hlen1 := Lib.hid hlen1; clear hlen1
    have Hap := Lib.hid hap; clear hap
    go_enter Try.func19, Try.ntmps19
    go_wp2_with fail
    refine hset.mono ?_
    rintro e w1 ⟨rfl, h1, m1⟩
    have hgc1 := (m1.block g (hlt g (.inr (.inr (.inr rfl)))).2 (by have := Hap.out.2.2.2 g rfl; rintro (rfl | rfl | rfl) <;> simp at this)).trans hgc
    have Hm1 := Lib.hid m1; clear m1 hset c1
    go_wp2_with (with_reducible refine stop_load 63 ?_)
    refine unpark ?_
    refine wpList_load_at rfl _ _ rfl g (m * 33) rfl _ _ _ hgc1 33 (wre (at_, z)) (wr_len hz) hrow _ Try.underlying63 rfl Try.sizeWr ?_
    go_wp2_with (with_reducible refine stop_store 63 ?_)
    refine unpark ?_
    refine wpList_store_at rfl _ _ _ rfl _ 0 rfl _ rfl _ rfl _ _ (heap_alloc_new _ _) 33 (wr_len hz) (by decide) (wr_one _) Try.sizeWr ?_
    intro w2 hw2 hg2 hs2
    clear hs2
    rw [splice_all _ _ (by rw [wr_len hz]; rfl)] at hw2
    have hal : Below w1.heap.size w1 w2 := ((Below.refl _ _).alloc (Nat.le_refl _) _).grown hg2 (by simp) (fun k hk => by cases hk; exact Nat.le_refl _)
    have m2 : Mod (fun k => k = b ∨ k = gs ∨ k = gm) w w2 := Hm1.out.trans (Mod.of_below hal : Mod (fun k => k = b ∨ k = gs ∨ k = gm) w1 w2) (fun _ h => h) (fun _ _ h => h)
    have h2 := h1.keep (w' := w2) fun x hx => hal.block x (h1.lt x hx).2
    have Hm2 := Lib.hid m2; clear m2 hg2 hal hgc1 Hm1
    go_wp2_with fail
    refine wp_region_free [0, 1, 2, 3, 4, 5, 6, 7, 8, 9, 10, 11, 12, 13] (by kernel_rfl) (by kernel_rfl) rfl (by kernel_rfl) (fun _ _ _ h => nomatch h.2.1) (fun _ _ h => nomatch h.1) ?_
    simp only [List.map_cons, List.map_nil, List.getD_cons_zero, List.getD_cons_succ]
    have h3 : DiskAt w2.drew B b gs gm (.slice none 0 0) S1 [] := h2.keep fun _ _ => rfl
    have hw3 : w2.drew.heap[w1.heap.size]? = _ := hw2
    have m3 : Mod (fun k => k = b ∨ k = gs ∨ k = gm) w w2.drew := ⟨Hm2.out.os, Hm2.out.tape, Hm2.out.output, Hm2.out.size, Hm2.out.block⟩
    clear h2 hw2 Hm2
    generalize w2.drew = w3 at h3 hw3 m3 ⊢
    have Hm3 := Lib.hid m3; clear m3
    have c0 := cells_at h3.root 0
    have ca : w3.cell? ⟨w1.heap.size, 0, none⟩ = some (.int .i64 at_) := cells_at hw3 0
    have hp1' : at_ < (S1.length : Int) := by rw [Hlen1.out]; exact hp1
    have hs3 := h3.safe
    have hfl3 := h3.flat_len
    have hcz : ∀ j v, ((sct z).take T)[j]? = some v → w3.cell? ((⟨w1.heap.size, 1, none⟩ : Addr).add j) = some v := fun j v hv => by
      rw [add_none, cells_at hw3]
      rw [List.getElem?_take] at hv
      split at hv
      · simpa [wre, Nat.add_comm 1 j] using hv
      · cases hv
    have Hcz := Lib.hid hcz; clear hcz
    have hTi : (T : Int) ≤ 32 := by omega
    go_wp2_with (with_reducible refine stop_builtin .copy ?_)
    refine unpark ?_
    have hold := h3.sec_at (i := at_.toNat) (by omega)
    have hsec := h3.sec _ (List.getElem_mem (l := S1) (n := at_.toNat) (by omega))
    have hgd : S1.getD at_.toNat [] = S1[at_.toNat]'(by omega) := by rw [List.getD_eq_getElem?_getD, List.getElem?_eq_getElem (show at_.toNat < S1.length by omega)]; rfl
    have hlT : ((sct z).take T).length = T := by rw [List.length_take, sct_len, hz.1]; omega
    have hspl : splice (flat S1) (at_.toNat * 32) ((sct z).take T) = flat (torn S1 (at_, z) T) := by
      rw [splice_part hold hlT (by omega) (by omega)]
      have e : (sct z).take T ++ (sct (S1.getD at_.toNat [])).drop T = sct (z.take T ++ (S1.getD at_.toNat []).drop T) := by simp [sct]
      rw [e]
      exact flatMap_splice sct 32 S1 (fun s hs => by rw [sct_len]; exact (h3.sec s hs).1) at_.toNat (by omega) _ (by
        rw [sct_len, List.length_append, List.length_take, List.length_drop, hz.1, hgd, hsec.1]; omega)
    refine wpList_copy_own rfl _ _ _ _ rfl 5 Try.underlying32 (by kernel_rfl) gs (at_.toNat * 32) 32 32 ⟨w1.heap.size, 1, none⟩ T 32 rfl rfl _ _ hs3 ((sct z).take T) (by rw [hlT]; exact (Nat.min_eq_left (by omega)).symm)
      Hcz.out (by simp; omega) (fun u hu => sct_one _ u (List.mem_of_mem_take hu)) ?_
    obtain ⟨w4, hw4⟩ : ∃ w4, w4 = w3.setRow gs ((flat S1).toArray.toList.take (at_.toNat * 32) ++ ((sct z).take T ++ (flat S1).toArray.toList.drop (at_.toNat * 32 + ((sct z).take T).length))).toArray := ⟨_, rfl⟩
    rw [← hw4]
    have oth4 : ∀ x, x ≠ gs → w4.heap[x]? = w3.heap[x]? := fun x hx => by rw [hw4]; exact setRow_other w3 gs x _ hx
    have s4 : w4.heap[gs]? = some (.cells (flat (torn S1 (at_, z) T)).toArray 61 (0, 0)) := by
      rw [hw4, ← hspl]
      exact setRow_heap w3 gs _ _ _ _ hs3
    have bnd := Hap.out
    have r4 := (oth4 b (Ne.symm bnd.1)).trans h3.root
    have n4 := h3.now.keep (w' := w4) (oth4 gm bnd.2.2.1)
    have m4 : Mod (fun k => k = b ∨ k = gs ∨ k = gm) w w4 := Hm3.out.trans (⟨by rw [hw4]; rfl, by rw [hw4]; rfl, by rw [hw4]; rfl, by rw [hw4]; simp, fun x _ hx => oth4 x fun e => hx (.inr (.inl e))⟩ : Mod (fun k => k = b ∨ k = gs ∨ k = gm) w3 w4) (fun _ h => h) (fun _ _ h => h)
    have hTl : (torn S1 (at_, z) T).length = S1.length := by unfold torn; rw [List.length_set]
    have hTs : ∀ s ∈ torn S1 (at_, z) T, Sector s := by
      intro s hs
      unfold torn at hs
      rcases List.mem_or_eq_of_mem_set hs with hs | rfl
      · exact h3.sec s hs
      · refine ⟨by rw [List.length_append, List.length_take, List.length_drop, hz.1, hgd, hsec.1]; omega, fun x hx => ?_⟩
        rcases List.mem_append.1 hx with hx | hx
        · exact hz.2 x (List.mem_of_mem_take hx)
        · rw [hgd] at hx
          exact hsec.2 x (List.mem_of_mem_drop hx)
    have Hm4 := Lib.hid m4; clear m4
    have HTl := Lib.hid hTl; clear hTl
    clear hw4 oth4 hspl hold hgd hlT bnd
    go_wp2
    go_end0
    exact ⟨rfl, ⟨by rw [HTl.out]; exact r4, s4, ⟨rfl, .inl ⟨rfl, rfl⟩⟩, n4, hTs, (fun _ h => by cases h), h3.bb, h3.bs, h3.bm, by rw [HTl.out]; exact h3.pos, by rw [HTl.out]; exact h3.len⟩, Hm4.out⟩
  · obtain rfl : m = C.length := by omega
    have hcr : crashed S C keep tear = settled S C := by
      unfold crashed
      rw [← Hm.out, List.getElem?_eq_none (Nat.le_refl _), List.take_length]
    rw [hcr]
    have hset := settle_calls h C.length hmle
    rw [List.take_length] at hset
    clear hcr
    go_enter Try.func19, Try.ntmps19
    go_wp2_with fail
    all_goals
      refine hset.mono ?_
      rintro e w1 ⟨rfl, h1, m1⟩
      have Hm1 := Lib.hid m1; clear m1
      go_wp2
      go_end0
      exact ⟨rfl, h1, Hm1.out⟩

set_option maxHeartbeats 1000000 in
theorem Crash_none {w : World} {B b gs gm : Nat} {S : List (List Int)} (h : DiskAt w B b gs gm (.slice none 0 0) S []) (keep tear : Int) :
    Calls Try.prog 19 #[.pointer (some ⟨b, 0, none⟩), .int .i64 keep, .int .i64 tear] w fun e w' =>
      e = .returned (.tuple #[]) ∧ DiskAt w' B b gs gm (.slice none 0 0) S [] ∧ Mod (fun k => k = b ∨ k = gs ∨ k = gm) w w' := by
  have c1 := cells_at h.root 1
  have hmax : ∀ w, (Builtin.max_ #[3, 3] 3 #[.int .i64 keep, .int .i64 0]).run Try.prog w = .ok (.int .i64 (if (0 : Int) > keep then 0 else keep)) w := fun w => rfl
  have hrun := clamp_run keep 0
  have hc : clampTo keep 0 = 0 := by unfold clampTo; omega
  rw [hc] at hrun
  obtain ⟨M, hM⟩ : ∃ M, M = (if (0 : Int) > keep then 0 else keep) := ⟨_, rfl⟩
  rw [← hM] at hrun hmax
  have hmin : ∀ w, (Builtin.min_ #[3, 3] 3 #[.int .i64 M, .int .i64 0]).run Try.prog w = .ok (.int .i64 0) w := fun w => by
    have : (Builtin.min_ #[3, 3] 3 #[.int .i64 M, .int .i64 0]).run Try.prog w = .ok (.int .i64 (if (0 : Int) < M then 0 else M)) w := rfl
    rw [this]
    have e : (if (0 : Int) < M then 0 else M) = 0 := by simpa using hrun
    rw [e]
  clear hM hrun hc
  have hset := settle_calls h 0 (Nat.le_refl _)
  go_enter Try.func19, Try.ntmps19
  go_wp2_with fail
  refine hset.mono ?_
  rintro e w1 ⟨rfl, h1, m1⟩
  have Hm1 := Lib.hid m1; clear m1
  go_wp2
  go_end0
  exact ⟨rfl, h1, Hm1.out⟩

theorem Crash_calls {w : World} {B b gs gm : Nat} {cv : Value} {S : List (List Int)} {C : List (Int × List Int)} (h : DiskAt w B b gs gm cv S C) (keep tear : Int) :
    Calls Try.prog 19 #[.pointer (some ⟨b, 0, none⟩), .int .i64 keep, .int .i64 tear] w fun e w' =>
      e = .returned (.tuple #[]) ∧ DiskAt w' B b gs gm (.slice none 0 0) (crashed S C keep tear) [] ∧ Mod (fun k => k = b ∨ k = gs ∨ k = gm) w w' := by
  rcases h.cache.2 with ⟨rfl, h0⟩ | ⟨g, cap, cur, rfl, _⟩
  · obtain rfl : C = [] := List.eq_nil_of_length_eq_zero h0
    have e : crashed S [] keep tear = S := by simp [crashed, settled]
    rw [e]
    exact Crash_none h keep tear
  · exact Crash_some h keep tear
end Go.Proofs.Ytpcekoimalafkaa
