/- The document's device: Crash, Flush. -/
import Derived.Test.YtpcekoimalafkaaDiskR4
namespace Go.Proofs.Ytpcekoimalafkaa
open Go.RowKit

theorem crashed_past {S : List (List Int)} {C : List (Int × List Int)} {K : Nat} {keep : Int} (hK : (K : Int) = max keep 0) (h : C.length ≤ K) (tear : Int) : crashed S C keep tear = settled S C := by
  have hc : clampTo keep C.length = C.length := by unfold clampTo; omega
  unfold crashed
  rw [hc, List.getElem?_eq_none (Nat.le_refl _), List.take_length]
theorem crashed_at {S : List (List Int)} {C : List (Int × List Int)} {K : Nat} {keep : Int} (hK : (K : Int) = max keep 0) (h : K < C.length) (tear : Int) : crashed S C keep tear = torn (settled S (C.take K)) C[K] (clampTo tear 31) := by
  have hc : clampTo keep C.length = K := by unfold clampTo; omega
  unfold crashed
  rw [hc, List.getElem?_eq_getElem h]

theorem Try.sizeRW : (Try.prog.info? 65).map (·.size) = some 2 := by kernel_rfl

set_option maxHeartbeats 4000000 in
theorem RCrash_calls {w : World} {B b : Nat} {sv cv : Value} {S : List (List Int)} {C : List (Int × List Int)} {R : Nat → Prop} (h : RefAt w B b sv cv S C R) (hC : C.length ≤ 1000000) (keep tear : Int) :
    Calls Try.prog 20 #[.pointer (some ⟨b, 0, none⟩), .int .i64 keep, .int .i64 tear] w fun e w' => e = .returned (.tuple #[]) ∧ ∃ R',
      RefAt w' B b sv (.slice none 0 0) (crashed S C keep tear) [] R' ∧ (∀ x, R' x → R x ∨ w.heap.size ≤ x) ∧ Mod (rfoot b sv cv R) w w' := by
  obtain ⟨ca, cc, hcv⟩ := h.shape_c
  obtain ⟨L, hL⟩ : ∃ L, L = C.length := ⟨_, rfl⟩
  rw [← hL] at hcv hC
  subst hcv
  have HL := Lib.hid hL; clear hL
  obtain ⟨T, hT⟩ : ∃ T, T = clampTo tear 31 := ⟨_, rfl⟩
  have hT31 : T ≤ 31 := by rw [hT]; unfold clampTo; omega
  have hrunT := clamp_run tear 31
  rw [← hT] at hrunT
  have hmaxT : ∀ w, (Builtin.max_ #[3, 3] 3 #[.int .i64 tear, .int .i64 0]).run Try.prog w = .ok (.int .i64 (if (0 : Int) > tear then 0 else tear)) w := fun w => rfl
  obtain ⟨M, hM⟩ : ∃ M, M = (if (0 : Int) > tear then 0 else tear) := ⟨_, rfl⟩
  rw [← hM] at hrunT hmaxT
  have hminT : ∀ w, (Builtin.min_ #[3, 3] 3 #[.int .i64 M, .int .i64 31]).run Try.prog w = .ok (.int .i64 T) w := fun w => by rw [← hrunT]; rfl
  have HT := Lib.hid hT; clear hT hrunT hM
  obtain ⟨K, hK⟩ : ∃ K : Nat, (K : Int) = max keep 0 := ⟨(max keep 0).toNat, by omega⟩
  have hKk : (∀ j : Nat, j < K → (j : Int) < keep) ∧ (∀ j : Nat, K ≤ j → keep ≤ (j : Int)) ∧ (K ≠ 0 → (K : Int) = keep) := ⟨fun j hj => by omega, fun j hj => by omega, fun h => by omega⟩
  have HK := Lib.hid hK; clear hK
  have HKk := Lib.hid hKk; clear hKk
  have hSl := h.len
  have Hh := Lib.hid h; clear h
  go_enter Try.func20, Try.ntmps20
  go_wp2_with fail
  go_loopw [6] (fun i wr => ∃ j : Nat, j ≤ L ∧ j ≤ K ∧ i = .int .i64 j ∧ RefAt wr B b sv (.slice ca L cc) (settled S (C.take j)) C R ∧ Mod (rfoot b sv (.slice ca L cc) R) w wr) (fun i _ => L - (intOf i).toNat)
  case atStart => exact ⟨0, by omega, by omega, rfl, by simpa [settled] using Hh.out, Mod.refl _ _⟩
  case round =>
    obtain ⟨j, hj, hjK, rfl, hr, hmod⟩ := hrel
    have c1 := cells_at hr.root 1
    have Hmod := Lib.hid hmod; clear hmod
    have Hr := Lib.hid hr; clear hr
    by_cases hlt : j < L
    · have hjC : j < C.length := by rw [← HL.out]; exact hlt
      obtain ⟨gc, capc, q, c', e', hcc1, hcc2, hcat, hcda, hxj, hRq⟩ := Hr.out.wr_at hjC
      rw [← HL.out] at e' hcc1
      simp only [Value.slice.injEq, true_and] at e'
      obtain ⟨rfl, rfl⟩ := e'
      obtain ⟨hp0, hp1⟩ := Hr.out.wrs _ (List.getElem_mem hjC)
      rw [settled_len] at hp1
      have hsucc : settled S (C.take (j + 1)) = (settled S (C.take j)).set C[j].1.toNat C[j].2 := by rw [List.take_succ_eq_append_getElem hjC, settled_snoc]
      have hcr : K = j → crashed S C keep tear = torn (settled S (C.take j)) C[j] T := fun e => by subst e; rw [HT.out]; exact crashed_at HK.out hjC tear
      obtain ⟨Z, hZ⟩ : ∃ Z, Z = C[j] := ⟨_, rfl⟩
      rw [← hZ] at hcat hxj hp0 hp1 hsucc hcr
      clear hZ
      obtain ⟨x, z⟩ := Z
      simp only at hcat hxj hp0 hp1 hsucc
      obtain ⟨X, rfl⟩ : ∃ X : Nat, x = X := ⟨x.toNat, by omega⟩
      have hX : X < S.length := by omega
      simp only [Int.toNat_natCast] at hsucc
      have Hs := Lib.hid hsucc; clear hsucc
      have Hcr := Lib.hid hcr; clear hcr
      have Hxj := Lib.hid hxj; clear hxj
      have HRq := Lib.hid hRq; clear hRq
      clear hp0 hp1
      have i3 : (j : Int) < (L : Int) := by omega
      have i4 : (0 : Int) ≤ (j : Int) := by omega
      have hcs : ∀ i v, ([.int .i64 (X : Int), slv (q, c')] : List Value)[i]? = some v → wr.cell? ⟨gc, j * 2 + i, none⟩ = some v := fun i v hv => by
        match i, hv with
        | 0, hv => cases hv; exact hcat
        | 1, hv => cases hv; exact hcda
      clear hcat hcda
      go_wp2_with (with_reducible refine stop_load 65 ?_)
      refine unpark ?_
      refine wpList_load_cells rfl _ _ rfl gc (j * 2) rfl [.int .i64 (X : Int), slv (q, c')] hcs 2 rfl _ Try.underlying65 rfl Try.sizeRW ?_
      go_wp2_with (with_reducible refine stop_store 65 ?_)
      refine unpark ?_
      refine wpList_store_at rfl _ _ _ rfl _ 0 rfl _ rfl [.int .i64 (X : Int), slv (q, c')] rfl _ _ (heap_alloc_new _ _) 2 rfl (by decide) (by simp [Value.oneCell', slv]) Try.sizeRW ?_
      intro w7 hw7 hg7 hs7
      clear hs7 hcs
      replace hw7 : w7.heap[wr.heap.size]? = some (.cells #[.int .i64 (X : Int), slv (q, c')] 65 (0, 0)) := hw7
      have hal : Below wr.heap.size wr w7 := ((Below.refl _ _).alloc (Nat.le_refl _) _).grown hg7 (by simp) (fun k hk => by cases hk; exact Nat.le_refl _)
      have hr7 := Hr.out.below hal
      have hm7 : Mod (rfoot b sv (.slice (some ⟨gc, 0, none⟩) L cc) R) w w7 := Hmod.out.trans (Mod.of_below hal : Mod (fun _ => False) wr w7) (fun _ h => h) (fun _ _ h => h.elim)
      have hx7 := Hxj.out.keep hal
      have hlo : ∀ x, rfoot b sv (.slice (some ⟨gc, 0, none⟩) L cc) R x → x < wr.heap.size := fun x hx => (Hr.out.lt x hx).2
      have hwsz : wr.heap.size < w7.heap.size := (Array.getElem?_eq_some_iff.1 hw7).1
      have hge := Hmod.out.size
      clear hg7 hal Hr c1
      obtain ⟨ws, hws⟩ : ∃ ws, ws = wr.heap.size := ⟨_, rfl⟩
      rw [← hws] at hw7 hlo hwsz hge ⊢
      clear hws
      have Hlo := Lib.hid hlo; clear hlo
      have Hr7 := Lib.hid hr7; clear hr7
      have Hm7 := Lib.hid hm7; clear hm7
      have Hx7 := Lib.hid hx7; clear hx7
      have Hw7 := Lib.hid hw7; clear hw7
      by_cases hjk : j < K
      · have hjk' := HKk.out.1 j hjk
        have e5 : decide ((j : Int) < keep) = true := decide_eq_true hjk'
        go_wp2_with fail
        refine wp_region_free [0, 1, 2, 3, 4, 5, 6, 7, 8, 9] (by kernel_rfl) (by kernel_rfl) rfl (by kernel_rfl) (fun _ _ _ h => by obtain ⟨_, h, _⟩ := h; cases h) (fun _ _ h => by obtain ⟨h, _⟩ := h; cases h) ?_
        simp only [List.map_cons, List.map_nil, List.getD_cons_zero, List.getD_cons_succ]
        have hr8 := Hr7.out.drew
        have hw8 : w7.drew.heap[ws]? = _ := Hw7.out
        have hx8 := Hx7.out.drew
        have hm8 : Mod (rfoot b sv (.slice (some ⟨gc, 0, none⟩) L cc) R) w w7.drew := ⟨Hm7.out.os, Hm7.out.tape, Hm7.out.output, Hm7.out.size, Hm7.out.block⟩
        clear Hr7 Hw7 Hx7 Hm7
        generalize w7.drew = w8 at hr8 hw8 hx8 hm8 ⊢
        have hl8 : (settled S (C.take j)).length = S.length := settled_len _ _
        obtain ⟨S1, hS1⟩ : ∃ S1, S1 = settled S (C.take j) := ⟨_, rfl⟩
        rw [← hS1] at hr8 hl8 Hs
        clear hS1
        obtain ⟨gs, caps, q0, c0', hsv, hc1, hc2, hcell, hfro, _⟩ := hr8.sec_at (i := X) (by omega)
        subst hsv
        obtain ⟨hput, hmp⟩ := hr8.putSafe (i := X) (by omega) (p := (q, c')) (z := z) ⟨hx8, HRq.out⟩
        rw [← Hs.out] at hput
        have hm9 := hm8.trans hmp (fun _ h => h) (fun _ _ h => h)
        have c0 := cells_at hr8.root 0
        have d0 := cells_at hw8 0
        have d1 : w8.cell? ⟨ws, 1, none⟩ = some (.slice (some ⟨q, 0, none⟩) 32 c') := cells_at hw8 1
        have i5 : (0 : Int) ≤ (X : Int) := by omega
        have i6 : (X : Int) < (S1.length : Int) := by omega
        have Hput := Lib.hid hput; clear hput
        have Hm9 := Lib.hid hm9; clear hm9
        have Hl8 := Lib.hid hl8; clear hl8
        clear hr8 hw8 hx8 hm8 hmp
        go_wp2_with fail
        go_roundw
        case rel => exact ⟨j + 1, by omega, by omega, by go_num, by simpa only [Hl8.out, List.length_set, slv] using Hput.out, by simpa only [Hl8.out, slv] using Hm9.out⟩
        case measure => simp [intOf]; omega
      · obtain rfl : K = j := by omega
        have hKj := HKk.out.2.2
        have e5 : decide ((K : Int) < keep) = false := decide_eq_false (by have := HKk.out.2.1 K (by omega); omega)
        have hcr := Hcr.out rfl
        have Hcr' := Lib.hid hcr; clear hcr Hcr
        have e6 : (((K : Int) == 0) = true) ∨ (((K : Int) == 0) = false ∧ ((K : Int) == keep) = true) := by
          by_cases h0 : K = 0
          · exact .inl (by simp [h0])
          · exact .inr ⟨by simpa using h0, by simpa using hKj h0⟩
        clear hKj hjK hjk
        rcases e6 with e6 | ⟨e6, e7⟩
        all_goals
          go_wp2_with fail
          have hr8 := Hr7.out.drew
          have hw8 : w7.drew.heap[ws]? = _ := Hw7.out
          have hx8 := Hx7.out.drew
          have hm8 : Mod (rfoot b sv (.slice (some ⟨gc, 0, none⟩) L cc) R) w w7.drew := ⟨Hm7.out.os, Hm7.out.tape, Hm7.out.output, Hm7.out.size, Hm7.out.block⟩
          have hws8 : ws < w7.drew.heap.size := hwsz
          have hl8 : (settled S (C.take K)).length = S.length := settled_len _ _
          obtain ⟨S1, hS1⟩ : ∃ S1, S1 = settled S (C.take K) := ⟨_, rfl⟩
          rw [← hS1] at hr8 hl8 Hcr'
          clear hS1 Hs Hr7 Hw7 Hx7 Hm7
          obtain ⟨gs, caps, q0, c0', hsv, hc1, hc2, hcell, hfro, hold, hRq0⟩ := hr8.sec_at (i := X) (by omega)
          subst hsv
          have c0 := cells_at hr8.root 0
          have d0 := cells_at hw8 0
          have d1 : w7.drew.cell? ⟨ws, 1, none⟩ = some (.slice (some ⟨q, 0, none⟩) 32 c') := cells_at hw8 1
          have i5 : (0 : Int) ≤ (X : Int) := by omega
          have i6 : (X : Int) < (S1.length : Int) := by omega
          have hq1 := hx8.le
          have hq2 := hold.le
          have nq1 : ¬ c' = T := by omega
          have nq2 : ¬ c0' = T := by omega
          have mq1 := hx8.max
          have mq2 := hold.max
          have Hr8 := Lib.hid hr8; clear hr8
          have Hw8 := Lib.hid hw8; clear hw8
          have Hx8 := Lib.hid hx8; clear hx8
          have Hm8 := Lib.hid hm8; clear hm8
          have Hold := Lib.hid hold; clear hold
          have Hl8 := Lib.hid hl8; clear hl8
          have HS : Hid ((fun w' : World => w'.cell? ⟨b, 0, none⟩ = some (.slice (some ⟨gs, 0, none⟩) S1.length caps) ∧ w'.cell? ⟨ws, 0, none⟩ = some (.int .i64 (X : Int)) ∧ w'.cell? ⟨ws, 1, none⟩ = some (.slice (some ⟨q, 0, none⟩) 32 c') ∧ w'.cell? ⟨gs, X, none⟩ = some (.slice (some ⟨q0, 0, none⟩) 32 c0')) w7.drew) := Lib.hid ⟨c0, d0, d1, hcell⟩
          clear c0 d0 d1 hcell
          refine wp_region_held (fun w' : World => w'.cell? ⟨b, 0, none⟩ = some (.slice (some ⟨gs, 0, none⟩) S1.length caps) ∧ w'.cell? ⟨ws, 0, none⟩ = some (.int .i64 (X : Int)) ∧ w'.cell? ⟨ws, 1, none⟩ = some (.slice (some ⟨q, 0, none⟩) 32 c') ∧ w'.cell? ⟨gs, X, none⟩ = some (.slice (some ⟨q0, 0, none⟩) 32 c0'))
            [0, 1, 2, 3, 4, 5, 6, 7, 8, 9, 11, 12, 13, 14, 15, 16, 17, 18, 19, 20] [[10], [21], [22, 23]] (by kernel_rfl) (by kernel_rfl) rfl (by kernel_rfl) (fun _ _ _ h => by obtain ⟨_, h, _⟩ := h; cases h) (fun _ _ h => by obtain ⟨h, _⟩ := h; cases h) HS.out rfl ?_
          apply Exists.intro
          apply And.intro
          · rintro w' ⟨s1, s2, s3, s4⟩
            simp only [List.map_cons, List.map_nil, List.getD_cons_zero, List.getD_cons_succ]
            go_wp2_with fail
            exact pre_end
          · simp only [List.map_cons, List.map_nil, List.getD_cons_zero, List.getD_cons_succ]
            generalize w7.drew = w8 at Hr8 Hw8 Hx8 Hm8 Hold HS hws8 ⊢
            have keepS : ∀ w9 : World, Below w8.heap.size w8 w9 → (w9.cell? ⟨b, 0, none⟩ = some (.slice (some ⟨gs, 0, none⟩) S1.length caps) ∧ w9.cell? ⟨ws, 0, none⟩ = some (.int .i64 (X : Int)) ∧ w9.cell? ⟨ws, 1, none⟩ = some (.slice (some ⟨q, 0, none⟩) 32 c') ∧ w9.cell? ⟨gs, X, none⟩ = some (.slice (some ⟨q0, 0, none⟩) 32 c0')) := fun w9 hb => by
              obtain ⟨s1, s2, s3, s4⟩ := HS.out
              have hb1 := (Hr8.out.lt b (.inl rfl)).2
              have hb2 := (Hr8.out.lt gs (.inr (.inl rfl))).2
              exact ⟨(hb.cell (p := ⟨b, 0, none⟩) hb1).trans s1, (hb.cell (p := ⟨ws, 0, none⟩) hws8).trans s2, (hb.cell (p := ⟨ws, 1, none⟩) hws8).trans s3, (hb.cell (p := ⟨gs, X, none⟩) hb2).trans s4⟩
            have HkeepS := Lib.hid keepS; clear keepS
            refine segs_more ?_
            go_wp2_with fail
            refine (CopyBytes_calls (Hx8.out.take T (by omega)) (by omega)).mono ?_
            rintro e w9 ⟨v9, rfl, own9, _, b9⟩
            have Hb9 := Lib.hid b9; clear b9
            have Ho9 := Lib.hid own9; clear own9
            go_wp2_with fail
            refine seg_end (HkeepS.out w9 Hb9.out) (segs_more ?_)
            have hold9 := ((Hold.out.keep Hb9.out).dropAt T (by omega))
            rw [Nat.zero_add] at hold9
            have hlT : (z.take T).length = T := by rw [List.length_take, Hx8.out.len]; omega
            have HlT := Lib.hid hlT; clear hlT
            have Hold9 := Lib.hid hold9; clear hold9
            go_wp2_with (with_reducible refine stop_builtin .append ?_)
            refine unpark ?_
            refine wpList_append_ints _ rfl _ _ 32 rfl .u8 w8.heap.size 5 (.int .u8 0) 1 Try.underlying32 Try.infoU8 rfl v9 (z.take T) rfl Ho9.out _ (32 - T) (c0' - T) _ rfl Hold9.out (by rw [HlT.out]; omega) (by decide) Hb9.out.size ?_
            intro v10 w10 own10 gr10 _
            have b10 := Hb9.out.grown gr10 Hb9.out.size (fun k hk => (Ho9.out.block k hk).1)
            have hl10 : (z.take T ++ (S1.getD X []).drop T).length = 32 := by rw [List.length_append, HlT.out, List.length_drop, Hold.out.len]; omega
            obtain ⟨g, cg, rfl, x10⟩ := own10.ofInts hl10 (by decide)
            have hg10 := own10.block g rfl
            clear own10 gr10 Hold9 Ho9 Hb9 hl10
            have Hb10 := Lib.hid b10; clear b10
            have Hx10 := Lib.hid x10; clear x10
            go_wp2_with fail
            refine seg_end (HkeepS.out w10 Hb10.out) (segs_last ?_)
            have hr10 : RefAt w10 B b (.slice (some ⟨gs, 0, none⟩) S1.length caps) (.slice (some ⟨gc, 0, none⟩) L cc) S1 C (fun k => R k ∨ k = g) := (Hr8.out.below Hb10.out).wide (fun k hk => .inl hk) (fun k hk => hk.imp id fun e => by
              subst e
              exact ⟨fun x hx e => by have := Hlo.out x hx; omega, by have := Hr8.out.bb; have := (Hr8.out.lt b (.inl rfl)).2; omega, hg10.2⟩)
            obtain ⟨hput, hmp⟩ := hr10.putSafe (i := X) (by omega) (p := (g, cg)) ⟨Hx10.out, .inr rfl⟩
            obtain ⟨hfin, hmf⟩ := hput.forget
            have htorn : S1.set X (z.take T ++ (S1.getD X []).drop T) = torn S1 ((X : Int), z) T := by unfold torn; simp
            rw [htorn, ← Hcr'.out] at hfin
            have hbg : ¬ b = gs := fun e => (Hr8.out.sb gs rfl).1 e.symm
            have hbg' : ¬ gs = b := fun e => (Hr8.out.sb gs rfl).1 e
            have c1 := cells_at hr10.root 1
            have f1 := frozen_of_row w10 b 1 _ _ hr10.root
            obtain ⟨s1, s2, s3, s4⟩ := HkeepS.out w10 Hb10.out
            have f4 : w10.frozen? ⟨gs, X, none⟩ = false := by
              obtain ⟨gs', _, _, _, e, _, _, _, hf, _⟩ := hr10.sec_at (i := X) (by omega)
              cases e
              exact hf
            have hmod : Mod (rfoot b (.slice (some ⟨gs, 0, none⟩) S1.length caps) (.slice (some ⟨gc, 0, none⟩) L cc) R) w ((w10.setCell ⟨gs, X, none⟩ (slv (g, cg))).setCell ⟨b, 1, none⟩ (.slice none 0 0)) := by
              have h1 : Mod (rfoot b (.slice (some ⟨gs, 0, none⟩) S1.length caps) (.slice (some ⟨gc, 0, none⟩) L cc) R) w w10 := Hm8.out.trans (Mod.of_below Hb10.out : Mod (fun _ => False) w8 w10) (fun _ h => h) (fun _ _ h => h.elim)
              have h2 : Mod (fun k => k = gs) w10 (w10.setCell ⟨gs, X, none⟩ (slv (g, cg))) := ⟨rfl, rfl, rfl, by simp, fun k _ hn => heap_setCell_other w10 _ k _ hn⟩
              have h3 : Mod (fun k => k = b) (w10.setCell ⟨gs, X, none⟩ (slv (g, cg))) ((w10.setCell ⟨gs, X, none⟩ (slv (g, cg))).setCell ⟨b, 1, none⟩ (.slice none 0 0)) := ⟨rfl, rfl, rfl, by simp, fun k _ hn => heap_setCell_other _ _ k _ hn⟩
              exact (h1.trans h2 (fun _ h => h) (fun _ _ h => .inr (.inl (by rw [h]; rfl)))).trans h3 (fun _ h => h) (fun _ _ h => .inl h)
            have hR' : ∀ x, (R x ∨ x = g) → R x ∨ w.heap.size ≤ x := fun x hx => hx.imp id fun e => by have := Hm8.out.size; omega
            have Hfin := Lib.hid hfin; clear hfin
            have Hmod' := Lib.hid hmod; clear hmod
            have HR' := Lib.hid hR'; clear hR'
            clear hput hmp hmf htorn hr10 Hr8 HkeepS HS
            go_wp2_with fail
            go_end0
            exact ⟨rfl, _, Hfin.out, HR'.out, Hmod'.out⟩
    · obtain rfl : j = L := by omega
      have hcr : crashed S C keep tear = settled S (C.take j) := by rw [crashed_past HK.out (by rw [← HL.out]; exact hjK), List.take_of_length_le (by rw [HL.out]; exact Nat.le_refl _)]
      obtain ⟨hfin, hmf⟩ := Hr.out.forget
      rw [← hcr] at hfin
      have f1 := frozen_of_row wr b 1 _ _ Hr.out.root
      have hmod := Hmod.out.trans hmf (fun _ h => h) (fun _ _ h => h)
      have Hfin := Lib.hid hfin; clear hfin
      have Hmod' := Lib.hid hmod; clear hmod hmf hcr
      clear Hr Hh
      go_wp2_with fail
      go_end0
      exact ⟨rfl, _, Hfin.out, fun x hx => .inl hx, Hmod'.out⟩

theorem RFlush_calls {w : World} {B b : Nat} {sv cv : Value} {S : List (List Int)} {C : List (Int × List Int)} {R : Nat → Prop} (h : RefAt w B b sv cv S C R) (hC : C.length ≤ 1000000) :
    Calls Try.prog 18 #[.pointer (some ⟨b, 0, none⟩)] w fun e w' => e = .returned (.tuple #[]) ∧ ∃ R',
      RefAt w' B b sv (.slice none 0 0) (settled S C) [] R' ∧ (∀ x, R' x → R x ∨ w.heap.size ≤ x) ∧ Mod (rfoot b sv cv R) w w' := by
  obtain ⟨ca, cc, hcv⟩ := h.shape_c
  obtain ⟨L, hL⟩ : ∃ L, L = C.length := ⟨_, rfl⟩
  rw [← hL] at hcv hC
  subst hcv
  have hcr := RCrash_calls h (by rw [← hL]; exact hC) (L : Int) 0
  rw [crashed_past (K := L) (by omega) (by rw [hL]; exact Nat.le_refl _)] at hcr
  have c1 := cells_at h.root 1
  have Hcr := Lib.hid hcr; clear hcr
  clear h hL
  go_enter Try.func18, Try.ntmps18
  go_wp2_with fail
  refine Hcr.out.mono ?_
  rintro e w1 ⟨rfl, R', h1, h2, h3⟩
  have H1 := Lib.hid h1; clear h1
  have H2 := Lib.hid h2; clear h2
  have H3 := Lib.hid h3; clear h3 Hcr
  go_wp2_with fail
  go_end0
  exact ⟨rfl, _, H1.out, H2.out, H3.out⟩
end Go.Proofs.Ytpcekoimalafkaa
