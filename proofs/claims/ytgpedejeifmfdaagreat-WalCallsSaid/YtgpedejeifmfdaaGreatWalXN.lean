/- Merged by merge.py out of: WalX7, WalX8, WalX9, WalXA, WalXB, WalXC. -/
import Derived.Test.YtgpedejeifmfdaaGreatWalXM
import Derived.Lib.MinMax
import Derived.SizedLaws
/- The document's log within a law: Checkpoint. -/
namespace Go.Proofs.YtgpedejeifmfdaaGreat
open Go.RowKit Go.Sort

section
variable {w0 w w' : World} {lb b : Nat} {G : Nat → Prop} {s : State} {l : Lg}
set_option maxHeartbeats 8000000 in
set_option maxRecDepth 100000 in
theorem RCheckpoint_rl (h : Rl w0 w lb b G s l) {a : Option Addr} {L c : Nat} {list : List Rc} (hx : Recs rcF w a L c list) (hok : ∀ r ∈ list, r.ok) (hL : L ≤ 1000) (hC : s.2.length ≤ 990000) {spare : Int} (hsp : -9223372036854775808 ≤ spare ∧ spare ≤ 9223372036854775807) :
    Calls Tryz.prog 15 #[.pointer (some ⟨lb, 0, none⟩), .slice a L c, .int .i64 spare] w fun e w' => e = .returned (.int .i64 (fitE s.1.length l list 1 spare)) ∧ Rl w0 w' lb b (grownF G w w') (ckS s l list spare).1 (ckS s l list spare).2 ∧ Mod (fun k => G k ∨ k = lb) w w' := by
  have hfc := Rfits_calls h hx hok hL (more := 1) (by omega) hsp
  have hz := fit_zero (l := l) (N := s.1.length) (list := list) (more := 1) (spare := spare)
  have hel := encs_len list
  rw [hx.len] at hel
  unfold ckS
  generalize fitE s.1.length l list 1 spare = E at *
  have hlt := h.lt
  have hoff := h.off
  have hlow := h.ref.low
  have hww := h.ref.bel.size
  by_cases hE : E = 0
  · subst hE
    rw [if_pos rfl]
    obtain ⟨hz1, -, -, hz4⟩ := hz rfl
    have hjo := fun (w2 : World) (hb : Below w.heap.size w w2) => RJoin_calls (hx.keep hb) hok (by omega)
    rw [hz1, if_pos rfl] at hjo
    obtain ⟨NZ, hNZ⟩ : ∃ N, N = needZ (encs list) := ⟨_, rfl⟩
    obtain ⟨SS, hSS⟩ : ∃ S, S = layS s (chunks l.next l.first (encs list)) := ⟨_, rfl⟩
    have hSS1 : SS.1 = s.1 := by rw [hSS]; rfl
    have hSS2 : SS.2.length ≤ 1000000 := by
      have := layC_le s.1 (chunks l.next l.first (encs list)) s.2
      rw [chunks_len] at this
      rw [hSS]
      show (layC s.1 s.2 _).length ≤ _
      unfold needZ at this
      omega
    simp only
    rw [← hSS, ← hNZ]
    rw [← hNZ] at hz4
    have hwr := fun (w2 : World) (h2 : Rl w0 w2 lb b G s l) (a : Option Addr) (n c : Nat) (hi : Ints w2 .u8 a n c (encs list)) (hd : ∀ x o, a = some ⟨x, o, none⟩ → ¬ G x ∧ x ≠ lb) => Rlay_rl h2 hi (by have := hi.len; omega) (by unfold needZ; omega) hd (by omega)
    rw [← hSS, ← hNZ] at hwr
    have hn1 := h.n1
    have hfn := h.fn
    have hsn := h.sn
    clear hNZ hz hx hok hel hz1
    have HSS := Lib.hid hSS; clear hSS
    have HSS1 := Lib.hid hSS1; clear hSS1
    have Hwr := Lib.hid hwr; clear hwr
    have Hjo := Lib.hid hjo; clear hjo
    have HW := Lib.hid h; clear h
    have Hfc := Lib.hid hfc; clear hfc
    have Hoff := Lib.hid hoff; clear hoff
    have Hlow := Lib.hid hlow; clear hlow
    go_enter Tryz.func15, Tryz.ntmps15
    go_wp2_with fail
    refine Hfc.out.mono ?_
    rintro e w1 ⟨rfl, hb1⟩
    have hjo := Hjo.out w1 hb1
    have hl1 := HW.out.log.step hb1
    unfold RLogAt Lg.cells at hl1
    have c1 := cells_at hl1 1
    have Hj := Lib.hid hjo; clear hjo Hjo
    have HB1 := Lib.hid hb1; clear hb1 Hfc hl1
    go_wp2_with fail
    refine Hj.out.mono ?_
    rintro e w2 ⟨v, rfl, ho, hb2⟩
    clear c1
    have hb := HB1.out.trans (hb2.mono HB1.out.size)
    have ho := ho.mono HB1.out.size
    obtain ⟨va, vn, vc, rfl, hi, hbl⟩ := ho.read
    have hd : ∀ x o, va = some ⟨x, o, none⟩ → ¬ G x ∧ x ≠ lb := fun x o e => ⟨fun hf => by have := (Hlow.out x hf).2; have := (hbl x o e).1; omega, by have := (hbl x o e).1; omega⟩
    have hwr := Hwr.out w2 (HW.out.step hb) va vn vc hi hd
    have hsz := hb.size
    have HB := Lib.hid hb; clear hb
    have Hw2 := Lib.hid hwr; clear hwr ho hi hbl hd Hj Hwr HW HB1 hb2
    go_wp2_with fail
    refine Hw2.out.mono ?_
    rintro e w3 ⟨rfl, h3, m3⟩
    have hg : Rl w0 w3 lb b (grownF G w w3) SS ⟨l.next + NZ, l.first, l.sure⟩ := h3.regrow (fun k hk => hk.imp id fun h => ⟨by omega, h.2⟩) Hoff.out hlt Hlow.out hww (Nat.le_trans hsz m3.size)
    have hm : Mod (fun k => G k ∨ k = lb) w w3 := (Mod.of_below (F := fun k => G k ∨ k = lb) HB.out).trans m3 (fun x h => h) (fun x _ h => h)
    have l3 := hg.log
    unfold RLogAt Lg.cells at l3
    clear h3 m3 Hw2 HB hsz
    have HG := Lib.hid hg; clear hg
    have HM := Lib.hid hm; clear hm
    have L3 := Lib.hid l3; clear l3
    go_wp2_with (with_reducible refine stop_store 3 ?_)
    refine unpark ?_
    refine wpList_store_at rfl _ _ _ rfl lb 2 rfl (.int .i64 (l.next : Nat)) rfl [.int .i64 (l.next : Nat)] rfl _ _ L3.out 1 rfl (by simp) (by simp [Value.oneCell']) sizeIntR ?_
    intro w4 l4 g4 s4
    simp only [splice] at l4
    have hl4 : RLogAt w4 lb b ⟨l.next + NZ, l.next, l.sure⟩ := by
      unfold RLogAt
      rw [l4]
      simp [Lg.cells]
    obtain ⟨h4, m4⟩ := HG.out.put g4 hl4 (by simp only; omega) (by simp only; omega) (by simp only; omega) (by simp only; omega) (by simp only; omega)
    have hm4 : Mod (fun k => G k ∨ k = lb) w w4 := HM.out.trans m4 (fun x h => h) (fun x hx h => h.imp (fun h => h.elim id fun h => by omega) id)
    have hz34 := m4.size
    clear l4 g4 s4 hl4 m4 HG HM L3
    obtain ⟨NX, hNX⟩ : ∃ x, x = l.next + NZ := ⟨_, rfl⟩
    rw [← hNX] at h4
    have hNXb : NX + 1 ≤ 4294967296 := by omega
    have hNXn : l.next ≤ NX := by omega
    have hsl4 : l.sure ≤ NX := by omega
    obtain ⟨sv, cv, RR, hd, hf⟩ := h4.ref.ref
    obtain ⟨sa, sc, rfl⟩ := hd.shape_s
    have hr := hd.root
    have hpos := h4.pos
    have hle := h4.le
    obtain ⟨N, hN⟩ : ∃ N, N = SS.1.length := ⟨_, rfl⟩
    rw [← hN] at hr hpos hle
    have hok2 : (⟨NX, l.next, true, []⟩ : Sc).ok := ⟨by simp only; omega, by simp only; omega, by simp, fun z hz => by cases hz⟩
    have hsl := secZ_len hok2
    have hse := fun (W : World) => RSector_calls (w := W) (S := ⟨NX, l.next, true, []⟩) (by simp only; omega) (by simp only; omega) (a := none) (L := 0) (c := 0) (Ints.nil0 _ _) (by omega)
    simp only at hse
    obtain ⟨P, hP⟩ : ∃ P, P = (NX - 1) % N := ⟨_, rfl⟩
    have hPN : P < N := by rw [hP]; exact Nat.mod_lt _ (by omega)
    have hm2 := tmod_place (N := N) (n := NX) (by omega)
    rw [← hP] at hm2
    have hnx : (SS.1, written SS.1 SS.2 (P : Int) (secZ ⟨NX, l.next, true, []⟩)) = layS SS [⟨NX, l.next, true, []⟩] := by rw [hP, hN]; rfl
    obtain ⟨Z, hZ⟩ : ∃ Z, Z = secZ ⟨NX, l.next, true, []⟩ := ⟨_, rfl⟩
    rw [← hZ] at hnx hsl hse
    have hwe : writeErr SS.1 (P : Int) 32 = 0 := by unfold writeErr; rw [← hN, if_pos ⟨by omega, by omega⟩, if_pos rfl]
    have hwr := fun (W : World) (hb : Below w4.heap.size w4 W) {a : Option Addr} {c : Nat} (hx : Ints W .u8 a 32 c Z) => RWrite_calls (hd.below hb) (P : Int) hx hSS2
    rw [hwe] at hwr
    have hlg := h4.log
    unfold RLogAt Lg.cells at hlg
    simp only at hlg
    have hs1 : IntKind.i64.wrap ((NX : Int) - 1) = (NX : Int) - 1 := IntWalk.i64_in _ (by omega)
    have hs2 : IntKind.i64.wrap ((NX : Int) + 1) = (NX : Int) + 1 := IntWalk.i64_in _ (by omega)
    have hN0 : ¬ N = 0 := by omega
    have sd := below_drew w4
    have x0 := (sd.block _ (Array.getElem?_eq_some_iff.1 hlg).1).trans hlg
    have x1 := (sd.block _ (Array.getElem?_eq_some_iff.1 hr).1).trans hr
    obtain ⟨Q, hQ⟩ : ∃ Q : World → Prop, Q = fun w' => w'.heap[lb]? = some (.cells #[.pointer (some ⟨b, 0, none⟩), .int .i64 (NX : Nat), .int .i64 (l.next : Nat), .int .i64 (l.sure : Nat)] 48 (0, 0)) ∧ ∃ cv, w'.heap[b]? = some (.cells #[.slice sa N sc, cv] 54 (0, 0)) := ⟨_, rfl⟩
    have q3 : Q w4.drew := by rw [hQ]; exact ⟨x0, _, x1⟩
    have Hnx := Lib.hid hnx; clear hnx
    have Hse := Lib.hid hse; clear hse
    have Hwr := Lib.hid hwr; clear hwr
    have H4 := Lib.hid h4; clear h4
    have HM4 := Lib.hid hm4; clear hm4
    have HD := Lib.hid hd; clear hd
    have HF := Lib.hid hf; clear hf
    have HQ := Lib.hid hQ; clear hQ
    have HNX := Lib.hid hNX; clear hNX
    have HN := Lib.hid hN; clear hN
    have SD := Lib.hid sd; clear sd
    have Hsl := Lib.hid hsl; clear hsl
    clear hok2 hwe hr hlg x0 x1 hZ hP
    go_wp2_with fail
    refine wp_region_plan Q (.pre [0, 1, 2, 3, 4, 5, 6, 7] (.yld 8 (.pre [9, 10, 11, 12, 13, 14, 15, 16] (.yld 17 (.pre [18, 19, 20, 21, 22, 23, 24, 25] (.segs [[26], [27], []])))))) (by kernel_rfl) (by kernel_rfl) rfl (by kernel_rfl) (fun _ _ _ h => by obtain ⟨_, h, _⟩ := h; cases h) (fun _ _ h => by obtain ⟨h, _⟩ := h; cases h) q3 ?_
    generalize w4.drew = wd at SD q3 ⊢
    refine plan_pre (by kernel_rfl) ?_
    apply Exists.intro
    apply And.intro
    · intro w' s
      rw [HQ.out] at s
      obtain ⟨s1, cv1, s2⟩ := s
      have z0 := cells_at s1 0
      have z1 := cells_at s1 1
      have z2 := cells_at s1 2
      have y0 := cells_at s2 0
      clear s1 s2
      simp only [List.map_cons, List.map_nil, List.getD_cons_zero, List.getD_cons_succ]
      go_wp2_with fail
      exact pre_end
    refine yld_at (.int .i64 ((NX : Int) - 1)) rfl (fun w2 _ => (congrArg (fun z => Result.ok (Next.value (.int .i64 z)) w2) hs1)) ?_
    refine plan_pre (by kernel_rfl) ?_
    apply Exists.intro
    apply And.intro
    · intro w' s
      rw [HQ.out] at s
      obtain ⟨s1, cv1, s2⟩ := s
      have z0 := cells_at s1 0
      have z1 := cells_at s1 1
      have z2 := cells_at s1 2
      have y0 := cells_at s2 0
      clear s1 s2
      simp only [List.map_cons, List.map_nil, List.getD_cons_zero, List.getD_cons_succ]
      go_wp2_with fail
      exact pre_end
    refine yld_at (.int .i64 (P : Int)) rfl (fun w2 _ => (by
      rw [← hm2]
      exact (show _ = _ from by simp [execOp, hN0, go_sem, hm2]))) ?_
    refine plan_pre (by kernel_rfl) ?_
    apply Exists.intro
    apply And.intro
    · intro w' s
      rw [HQ.out] at s
      obtain ⟨s1, cv1, s2⟩ := s
      have z0 := cells_at s1 0
      have z1 := cells_at s1 1
      have z2 := cells_at s1 2
      have y0 := cells_at s2 0
      clear s1 s2
      simp only [List.map_cons, List.map_nil, List.getD_cons_zero, List.getD_cons_succ]
      go_wp2_with fail
      exact pre_end
    refine plan_segs (segs_more ?_)
    simp only [List.map_cons, List.map_nil, List.getD_cons_zero, List.getD_cons_succ]
    go_wp2_with fail
    refine (Hse.out _).mono ?_
    rintro e w5 ⟨v5, rfl, o5, k5⟩
    have b5 := SD.out.trans (k5.mono SD.out.size)
    obtain ⟨a5, c5, rfl, i5, -⟩ := own_len o5 Hsl.out
    have hwr := Hwr.out w5 b5 i5
    have q5 : Q w5 := by
      have h := q3
      rw [HQ.out] at h ⊢
      obtain ⟨h1, cv1, h2⟩ := h
      exact ⟨(k5.block _ (Array.getElem?_eq_some_iff.1 h1).1).trans h1, cv1, (k5.block _ (Array.getElem?_eq_some_iff.1 h2).1).trans h2⟩
    have Hwr2 := Lib.hid hwr; clear hwr Hwr
    have B5 := Lib.hid b5; clear b5
    clear q3 SD k5 o5 i5 Hse
    go_wp2_with fail
    refine seg_end q5 (segs_more ?_)
    clear q5
    go_wp2_with fail
    refine Hwr2.out.mono ?_
    rintro e w6 ⟨rfl, cv6, R6, d6, f6, m6⟩
    obtain ⟨r6, m6'⟩ := (H4.out.ref.step B5.out).after (s' := (SS.1, written SS.1 SS.2 (P : Int) Z)) HF.out d6 f6 m6
    have l6 : RLogAt w6 lb b ⟨NX, l.next, l.sure⟩ := (H4.out.log.step B5.out).keep (m6'.block lb (Nat.lt_of_lt_of_le H4.out.lt B5.out.size) H4.out.off)
    have q6 : Q w6 := by
      rw [HQ.out]
      refine ⟨l6, cv6, ?_⟩
      have h1 := d6.root
      rw [← HN.out] at h1
      exact h1
    have h6 : Rl w0 w6 lb b (grownF (grownF G w w3) w5 w6) (layS SS [⟨NX, l.next, true, []⟩]) ⟨NX, l.next, l.sure⟩ := by
      rw [← Hnx.out]
      exact ⟨r6, l6, grown_off H4.out.off (Nat.lt_of_lt_of_le H4.out.lt B5.out.size), H4.out.lo, H4.out.pos, H4.out.n1, H4.out.nb, H4.out.fn, H4.out.sn, H4.out.fb⟩
    have H6 := Lib.hid h6; clear h6
    have M6 := Lib.hid m6'; clear m6'
    unfold RLogAt Lg.cells at l6
    have L6 := Lib.hid l6; clear l6
    clear r6 d6 f6 m6 Hwr2
    go_wp2_with fail
    refine seg_end q6 (segs_last ?_)
    clear q6 HQ
    have z1 := cells_at L6.out 1
    go_wp2_with (with_reducible refine stop_store 3 ?_)
    refine unpark ?_
    refine wpList_store_at rfl _ _ _ rfl lb 1 rfl (.int .i64 ((NX : Int) + 1)) rfl [.int .i64 ((NX : Int) + 1)] rfl _ _ L6.out 1 rfl (by simp) (by simp [Value.oneCell']) sizeIntR ?_
    intro w7 l7 g7 s7
    simp only [splice] at l7
    have hl7 : RLogAt w7 lb b ⟨NX + 1, l.next, l.sure⟩ := by
      unfold RLogAt
      rw [l7]
      simp [Lg.cells]
    obtain ⟨h7, m7⟩ := H6.out.put g7 hl7 (by simp only; omega) (by simp only; omega) (by simp only; omega) (by simp only; omega) (by simp only; omega)
    have hz1 := HM4.out.size
    have hz2 := B5.out.size
    have hz3 := M6.out.size
    have hz4' := m7.size
    have hg : Rl w0 w7 lb b (grownF G w w7) (layS SS [⟨NX, l.next, true, []⟩]) ⟨NX + 1, l.next, l.sure⟩ := h7.regrow (fun k hk => by
      rcases hk with (hk | hk) | hk
      · exact .inl hk
      · exact .inr ⟨hk.1, by omega⟩
      · exact .inr ⟨by omega, by omega⟩) Hoff.out hlt Hlow.out hww (by omega)
    have hm : Mod (fun k => G k ∨ k = lb) w w7 := ((HM4.out.trans (Mod.of_below (F := fun k => G k ∨ k = lb) B5.out) (fun x h => h) (fun x _ h => h)).trans M6.out (fun x h => h) (fun x hx h => .inl (h.elim id fun h => by omega))).trans m7 (fun x h => h) (fun x hx h => h.imp (fun h => h.elim (fun h => h.elim id fun h => by omega) fun h => by omega) id)
    rw [HNX.out] at hg
    have HG := Lib.hid hg; clear hg
    have HM := Lib.hid hm; clear hm
    clear h7 m7 l7 g7 s7 hl7 z1 H6 M6 L6
    go_wp2
    go_ret
    exact ⟨rfl, HG.out, HM.out⟩
  · rw [if_neg hE]
    simp only
    clear hz hel hx hok
    have hd0 : (E == 0) = false := by simpa using hE
    have HW := Lib.hid h; clear h
    have Hfc := Lib.hid hfc; clear hfc
    have Hoff := Lib.hid hoff; clear hoff
    have Hlow := Lib.hid hlow; clear hlow
    go_enter Tryz.func15, Tryz.ntmps15
    go_wp2_with fail
    refine Hfc.out.mono ?_
    rintro e w2 ⟨rfl, hb⟩
    have hg : Rl w0 w2 lb b (grownF G w w2) s l := (HW.out.step hb).regrow (fun k hk => .inl hk) Hoff.out hlt Hlow.out hww hb.size
    have hm : Mod (fun k => G k ∨ k = lb) w w2 := Mod.of_below hb
    clear hb Hfc HW
    have HG := Lib.hid hg; clear hg
    have HM := Lib.hid hm; clear hm
    go_wp2
    go_ret
    exact ⟨rfl, HG.out, HM.out⟩
end
end Go.Proofs.YtgpedejeifmfdaaGreat
/- The document's log: Open, plain: what its loops come to. -/
namespace Go.Proofs.YtgpedejeifmfdaaGreat
open Go.RowKit Go.Sort

theorem parse_yes {z : List Int} (h : 1 ≤ (parseZ z).1.num) : (parseZ z).2 = true := by
  unfold parseZ at h ⊢
  split
  · split
    · rfl
    · rename_i h1 h2
      rw [if_pos h1, if_neg h2] at h
      exact absurd h (by decide)
  · rename_i h1
    rw [if_neg h1] at h
    exact absurd h (by decide)
theorem readS_two (s : State) (k : Nat) : (readS s k).2 = (decide (1 ≤ (pS s k).num) && decide (placeOf s (pS s k).num = k)) := by
  unfold readS pS
  simp only
  by_cases h : 1 ≤ (parseZ (readOf s.1 s.2 (k : Int))).1.num
  · rw [parse_yes h, Bool.true_and]
  · rw [decide_eq_false h, Bool.false_and, Bool.and_false]
theorem readS_one (s : State) (k : Nat) : (readS s k).1 = pS s k := rfl
/-- The greatest number, place by place. -/
theorem lastN_succ (s : State) (k : Nat) : (lastF s (k + 1)).num = if 1 ≤ (pS s k).num ∧ placeOf s (pS s k).num = k then max (lastF s k).num (pS s k).num else (lastF s k).num := by
  rw [lastF, readS_one, readS_two]
  by_cases h : 1 ≤ (pS s k).num ∧ placeOf s (pS s k).num = k
  · rw [if_pos h, decide_eq_true h.1, decide_eq_true h.2, Bool.true_and, Bool.true_and]
    by_cases h2 : (lastF s k).num < (pS s k).num
    · rw [if_pos (decide_eq_true h2)]; omega
    · rw [if_neg (by simpa using h2)]; omega
  · rw [if_neg h]
    have : (decide (1 ≤ (pS s k).num) && decide (placeOf s (pS s k).num = k)) = false := by
      rw [Bool.and_eq_false_iff, decide_eq_false_iff_not, decide_eq_false_iff_not]
      by_cases h1 : 1 ≤ (pS s k).num
      · exact .inr fun h2 => h ⟨h1, h2⟩
      · exact .inl h1
    rw [this, Bool.false_and, if_neg (by decide)]
theorem lastF_at (s : State) : ∀ k, (lastF s k).num ≠ 0 → pS s (placeOf s (lastF s k).num) = lastF s k
  | 0, h => absurd rfl h
  | k + 1, h => by
    have ih := lastF_at s k
    rw [lastF] at h ⊢
    split
    · rename_i hc
      rw [Bool.and_eq_true, readS_two, Bool.and_eq_true, decide_eq_true_eq, decide_eq_true_eq] at hc
      rw [readS_one, hc.1.2]
    · rename_i hc
      rw [if_neg hc] at h
      exact ih h
theorem secs_at {s : State} {n : Nat} (h : 1 ≤ n) : ((readS s (placeOf s n)).2 && decide ((readS s (placeOf s n)).1.num = n)) = decide ((pS s (placeOf s n)).num = n) := by
  rw [readS_two, readS_one]
  by_cases e : (pS s (placeOf s n)).num = n
  · rw [decide_eq_true e, e, decide_eq_true h, decide_eq_true rfl]; rfl
  · rw [decide_eq_false e, Bool.and_false]
end Go.Proofs.YtgpedejeifmfdaaGreat
/- The document's log: rows that are gathered, where an empty row has a block of its own. -/
namespace Go.Proofs.YtgpedejeifmfdaaGreat
open Go.RowKit Go.Sort

/-- Rows that are gathered: those that are done, and the last one. -/
structure Rw2 (w : World) (n0 : Nat) (g cap : Nat) (xs : List SlC) (x : SlC) (top : Nat) (ds : List (List Int)) (cur : List Int) : Prop where
  own : ROwn slF 39 w n0 (.slice (some ⟨g, 0, none⟩) (xs.length + 1) cap) (xs ++ [x])
  last : Own w top 5 .u8 (.slice x.1 x.2.1 x.2.2) cur
  len : xs.length = ds.length
  rd : ∀ i (h : i < xs.length) (h2 : i < ds.length), Ints w .u8 xs[i].1 xs[i].2.1 xs[i].2.2 ds[i] ∧ ∃ b o, xs[i].1 = some ⟨b, o, none⟩ ∧ b < top ∧ b ≠ g
  xb : ∃ b o, x.1 = some ⟨b, o, none⟩ ∧ top ≤ b ∧ b ≠ g
  n0t : n0 ≤ top
  tw : top ≤ w.heap.size
section
variable {w w' : World} {n0 g cap top : Nat} {xs : List SlC} {x : SlC} {ds : List (List Int)} {cur : List Int}
theorem Rw2.step (h : Rw2 w n0 g cap xs x top ds cur) (hb : Below w.heap.size w w') : Rw2 w' n0 g cap xs x top ds cur where
  own := h.own.below hb
  last := h.last.below hb
  len := h.len
  rd := fun i h1 h2 => ⟨(h.rd i h1 h2).1.keep hb, (h.rd i h1 h2).2⟩
  xb := h.xb
  n0t := h.n0t
  tw := Nat.le_trans h.tw hb.size
theorem Rw2.spine (h : Rw2 w n0 g cap xs x top ds cur) : ∃ cs : Array Value, w.heap[g]? = some (.cells cs 39 (0, 0)) ∧ xs.length + 1 ≤ cap ∧ cap ≤ 9223372036854775807 ∧ cs.size = cap ∧ cs.toList.take (xs.length + 1) = slF.row (xs ++ [x]) ∧ cs[xs.length]? = some (.slice x.1 x.2.1 x.2.2) ∧ n0 ≤ g ∧ g < w.heap.size := by
  have ho := h.own
  unfold ROwn at ho
  rcases ho.2 with ⟨h1, -⟩ | ⟨g', cap', cur', e, hb, hg, hn, hm, hs, ht⟩
  · cases h1
  · injection e with e1 e2 e3
    injection e1 with e1
    injection e1 with e1
    subst e1 e3
    have h1 : slF.m = 1 := rfl
    rw [h1, Nat.mul_one] at hs ht
    rw [List.length_append, List.length_singleton] at hn ht
    refine ⟨cur', hg, hn, by unfold maxLen at hm; omega, hs, ht, ?_, hb, (Array.getElem?_eq_some_iff.1 hg).1⟩
    have h3 : (cur'.toList.take (xs.length + 1))[xs.length]? = some (.slice x.1 x.2.1 x.2.2) := by rw [ht, slF_row]; simp
    rw [List.getElem?_take, if_pos (by omega)] at h3
    simpa using h3
/-- Another row begins: append made the spine anew, or not. -/
theorem Rw2.more (h : Rw2 w n0 g cap xs x top ds cur) {w5 : World} (hb5 : Below w.heap.size w w5) {E : Nat} (hE : w.heap.size ≤ E) (hE5 : E < w5.heap.size) (hemp : Own w5 E 5 .u8 (.slice (some ⟨E, 0, none⟩) 0 0) []) {v' : Value} (hown : ROwn slF 39 w' n0 v' (xs ++ [x] ++ [(some ⟨E, 0, none⟩, 0, 0)])) (hg : w5.grownBy w' (some g)) (hv : v'.ownBlock = some g ∨ v'.ownBlock = some w5.heap.size) :
    ∃ g' cap', v' = .slice (some ⟨g', 0, none⟩) (xs.length + 2) cap' ∧ Rw2 w' n0 g' cap' (xs ++ [x]) (some ⟨E, 0, none⟩, 0, 0) E (ds ++ [cur]) [] := by
  have hsh := hown
  unfold ROwn at hsh
  rcases hsh.2 with ⟨-, h1⟩ | ⟨g', cap', cur', e, hb, hg', hn, hm, hs, ht⟩
  · simp at h1
  · have e2 : (xs ++ [x] ++ [((some ⟨E, 0, none⟩, 0, 0) : SlC)]).length = xs.length + 2 := by simp
    rw [e2] at e
    refine ⟨g', cap', e, ?_⟩
    have hgg : g' = g ∨ g' = w5.heap.size := by
      rw [e] at hv
      simpa [Value.ownBlock] using hv
    obtain ⟨-, -, -, -, -, -, -, -, hltg⟩ := h.spine
    have hsz5 := hb5.size
    have hszw := hg.size
    obtain ⟨bx, ox, hbx, htx, hgx⟩ := h.xb
    have hlast : Ints w' .u8 x.1 x.2.1 x.2.2 cur ∧ bx < w.heap.size := by
      obtain ⟨a, c, e3, hi, hbl⟩ := h.last.ints
      injection e3 with e4 e5 e6
      rw [e4] at hbx
      have hlt := (hbl bx ox hbx).2
      rw [e4, e5, e6]
      exact ⟨(hi.keep hb5).keepOn (w' := w') fun x' o e7 hlt => hg.block x' hlt (by intro e8; injection e8 with e8; rw [hbx] at e7; cases e7; exact hgx e8), hlt⟩
    obtain ⟨hlast, hbxl⟩ := hlast
    refine ⟨by rw [e] at hown; simpa using hown, ⟨hemp.1.kept hg (.inr (by intro e8; simp only [Value.ownBlock] at e8; injection e8 with e8; omega)), hemp.2⟩, by simp [h.len], fun i h1 h2 => ?_, ⟨E, 0, rfl, Nat.le_refl _, by rcases hgg with rfl | rfl <;> omega⟩, Nat.le_trans h.n0t (Nat.le_trans h.tw hE), by omega⟩
    by_cases hi : i < xs.length
    · have hi2 : i < ds.length := by rw [← h.len]; exact hi
      simp only [List.getElem_append_left hi, List.getElem_append_left hi2]
      obtain ⟨hr, b, o, hbo, hbt, hbg⟩ := h.rd i hi hi2
      have h6 := h.tw
      refine ⟨(hr.keep hb5).keepOn (w' := w') fun x' o' e7 hlt => hg.block x' hlt (by intro e8; injection e8 with e8; rw [hbo] at e7; cases e7; exact hbg e8), b, o, hbo, by omega, by rcases hgg with rfl | rfl <;> omega⟩
    · rw [List.length_append, List.length_singleton] at h1
      obtain rfl : i = xs.length := by omega
      have hdl : xs.length = ds.length := h.len
      simp only [List.getElem_append_right (Nat.le_refl _), Nat.sub_self, List.getElem_singleton]
      have e3 : (ds ++ [cur])[xs.length]'h2 = cur := by simp [hdl]
      rw [e3]
      exact ⟨hlast, bx, ox, hbx, by omega, by rcases hgg with rfl | rfl <;> omega⟩
/-- The last row has grown, and stands in the spine. -/
theorem Rw2.put (h : Rw2 w n0 g cap xs x top ds cur) {w8 w9 : World} {v' : Value} {news : List Int} (hown : Own w8 top 5 .u8 v' news) (hg : w.grownBy w8 (Value.ownBlock (.slice x.1 x.2.1 x.2.2)))
    (hv : v'.ownBlock = Value.ownBlock (.slice x.1 x.2.1 x.2.2) ∨ v'.ownBlock = some w.heap.size)
    {cs : Array Value} (hcs : w.heap[g]? = some (.cells cs 39 (0, 0))) (hput : w9.heap[g]? = some (.cells (splice cs.toList xs.length [v']).toArray 39 (0, 0))) (hg9 : w8.grownBy w9 (some g)) :
    ∃ x', v' = .slice x'.1 x'.2.1 x'.2.2 ∧ Rw2 w9 n0 g cap xs x' top ds news := by
  obtain ⟨a, c, e3, hi, hbl⟩ := hown.ints
  refine ⟨(a, news.length, c), e3, ?_⟩
  obtain ⟨cs', hcs', hn, hm, hs, ht, hx, -, hltg⟩ := h.spine
  rw [hcs] at hcs'
  cases hcs'
  have hlb := World.ownsRow.lt h.last.1
  have hsz := Nat.le_trans hg.size hg9.size
  obtain ⟨bx, ox, hbx, htx, hgx⟩ := h.xb
  have hob : Value.ownBlock (.slice x.1 x.2.1 x.2.2) = some bx := by rw [hbx]; rfl
  rw [hob] at hg hv hlb
  obtain ⟨bn, hbn, hnt, hng⟩ : ∃ bn, v'.ownBlock = some bn ∧ top ≤ bn ∧ bn ≠ g := by
    rcases hv with hv | hv
    · exact ⟨bx, hv, htx, hgx⟩
    · exact ⟨_, hv, h.tw, by omega⟩
  have hxn : ∃ b o, a = some ⟨b, o, none⟩ ∧ top ≤ b ∧ b ≠ g := by
    rw [e3] at hbn
    cases a with
    | none => cases hbn
    | some ad =>
      have h1 : ad.block = bn := by injection hbn
      have h2 := hown.1
      rw [e3] at h2
      rcases h2.2 with ⟨h3, -⟩ | ⟨g', cap', cur', e, -⟩
      · cases h3
      · injection e with e1
        injection e1 with e1
        subst e1
        exact ⟨g', 0, rfl, by simp only at h1; omega, by simp only at h1; omega⟩
  refine ⟨?_, ?_, h.len, fun i h1 h2 => ?_, hxn, h.n0t, Nat.le_trans h.tw hsz⟩
  · have ho := h.own
    unfold ROwn at ho ⊢
    refine ⟨by rw [slF.row_len], ?_⟩
    rcases ho.2 with ⟨h1, -⟩ | ⟨g', cap', cur', e, hb, hg', hn', hm', hs', ht'⟩
    · cases h1
    injection e with e1 e2 e6
    injection e1 with e1
    injection e1 with e1
    subst e1 e6
    refine .inr ⟨g, cap, _, by simp, hb, hput, by simpa using hn', hm', ?_, ?_⟩
    · have h1 : slF.m = 1 := rfl
      rw [h1, Nat.mul_one]
      simp [splice]
      omega
    · have h1 : slF.m = 1 := rfl
      rw [h1, Nat.mul_one]
      rw [slF_row] at ht ⊢
      rw [e3]
      simp only [splice]
      have e5 : cs.toList.take xs.length = xs.map fun x => Value.slice x.1 x.2.1 x.2.2 := by
        have := congrArg (List.take xs.length) ht
        rw [List.take_take, Nat.min_eq_left (by omega)] at this
        rw [this]
        simp
      rw [e5]
      simp
      rw [List.append_cons, List.take_append_of_le_length (by simp), List.take_of_length_le (by simp)]
  · rw [← e3]
    exact ⟨hown.1.kept hg9 (.inr (by rw [hbn]; intro e8; injection e8 with e8; exact hng e8)), hown.2⟩
  · obtain ⟨hr, b, o, hbo, hbt, hbg⟩ := h.rd i h1 h2
    refine ⟨?_, b, o, hbo, hbt, hbg⟩
    have hr8 := hr.keepOn (w' := w8) fun x' o e7 hlt => hg.block x' hlt (by
      intro e8
      injection e8 with e8
      rw [hbo] at e7; cases e7
      omega)
    exact hr8.keepOn (w' := w9) fun x' o e7 hlt => hg9.block x' hlt (by intro e8; injection e8 with e8; rw [hbo] at e7; cases e7; exact hbg e8)
end
/-- Rows that are read, none of which is nil. -/
structure RowsR2 (w : World) (v : Value) (rs : List (List Int)) : Prop where
  rows : ∃ g cap, ∃ xs : List SlC, v = .slice (some ⟨g, 0, none⟩) rs.length cap ∧ rs.length ≤ cap ∧ cap ≤ 9223372036854775807 ∧ xs.length = rs.length ∧ ∀ i (h : i < xs.length) (h2 : i < rs.length), w.cell? ⟨g, i, none⟩ = some (.slice xs[i].1 xs[i].2.1 xs[i].2.2) ∧ Ints w .u8 xs[i].1 xs[i].2.1 xs[i].2.2 rs[i] ∧ ∃ b o, xs[i].1 = some ⟨b, o, none⟩
theorem Rw2.read {w : World} {n0 g cap top : Nat} {xs : List SlC} {x : SlC} {ds : List (List Int)} {cur : List Int} (h : Rw2 w n0 g cap xs x top ds cur) : RowsR2 w (.slice (some ⟨g, 0, none⟩) (xs.length + 1) cap) (ds ++ [cur]) := by
  obtain ⟨cs, hcs, hn, hm, hs, ht, hx, -, -⟩ := h.spine
  have hl := h.len
  refine ⟨g, cap, xs ++ [x], by simp [hl], by simp; omega, hm, by simp [hl], fun i h1 h2 => ⟨?_, ?_⟩⟩
  · have h3 : (cs.toList.take (xs.length + 1))[i]? = some (.slice (xs ++ [x])[i].1 (xs ++ [x])[i].2.1 (xs ++ [x])[i].2.2) := by rw [ht, slF_row, List.getElem?_map, List.getElem?_eq_getElem h1]; rfl
    rw [List.getElem?_take, if_pos (by simpa using h1)] at h3
    rw [cells_at hcs i]
    simpa using h3
  · by_cases hi : i < xs.length
    · have hi2 : i < ds.length := by rw [← hl]; exact hi
      simp only [List.getElem_append_left hi, List.getElem_append_left hi2]
      obtain ⟨hr, b, o, hbo, -, -⟩ := h.rd i hi hi2
      exact ⟨hr, b, o, hbo⟩
    · rw [List.length_append, List.length_singleton] at h1
      obtain rfl : i = xs.length := by omega
      simp only [List.getElem_append_right (Nat.le_refl _), Nat.sub_self, List.getElem_singleton]
      have e3 : (ds ++ [cur])[xs.length]'h2 = cur := by simp [hl]
      rw [e3]
      obtain ⟨b, o, hbo, -, -⟩ := h.xb
      obtain ⟨a, c, e4, hi4, -⟩ := h.last.ints
      injection e4 with e5 e6 e7
      rw [e5] at hbo
      rw [e5, e6, e7]
      exact ⟨hi4, b, o, hbo⟩
/-- Of records: none, in a block of their own. -/
theorem rown_empty {α : Type} {F : Fmt α} (w : World) (B : Nat) (E : TypeId) (hB : B ≤ w.heap.size) : ROwn F E (w.alloc (.cells #[] E)) B (.slice (some ⟨w.heap.size, 0, none⟩) 0 0) [] := by
  unfold ROwn
  exact ⟨by simp [Fmt.row], .inr ⟨w.heap.size, 0, #[], rfl, hB, heap_alloc_new w _, Nat.le_refl _, by unfold maxLen; decide, by simp, by simp [Fmt.row]⟩⟩
theorem lastF_sects {s : State} (hS : Sects s) : ∀ k, k ≤ s.1.length → (lastF s k).num < 4294967296 ∧ (lastF s k).first < 4294967296
  | 0, _ => ⟨(by decide : (0 : Nat) < 4294967296), (by decide : (0 : Nat) < 4294967296)⟩
  | k + 1, h => by
    rw [lastF_succ]
    split
    · have hb := parse_bound (b := readOf s.1 s.2 (k : Int)) fun z hz => wf_u8 ((hS.sec (k : Int) ⟨by omega, by omega⟩).2 z hz)
      exact ⟨hb.1, hb.2.1⟩
    · exact lastF_sects hS k (by omega)
theorem secsS_sects {s : State} (hS : Sects s) : ∀ (k n : Nat) {T : List Sc}, secsS s n k = some T → ∀ S ∈ T, S.data.length ≤ 16
  | 0, n, T, hs, S, hSm => by cases hs; cases hSm
  | k + 1, n, T, hs, S, hSm => by
    rw [secsS] at hs
    split at hs
    · cases h2 : secsS s (n + 1) k with
      | none => rw [h2] at hs; cases hs
      | some U =>
        rw [h2] at hs; cases hs
        rcases List.mem_cons.1 hSm with rfl | hSm
        · have hlt : placeOf s n < s.1.length := Nat.mod_lt _ hS.pos
          exact (parse_bound (b := readOf s.1 s.2 ((placeOf s n : Nat) : Int)) fun z hz => wf_u8 ((hS.sec ((placeOf s n : Nat) : Int) ⟨by omega, by omega⟩).2 z hz)).2.2
        · exact secsS_sects hS k (n + 1) h2 S hSm
    · cases hs
end Go.Proofs.YtgpedejeifmfdaaGreat
/- The document's log: Open. -/
namespace Go.Proofs.YtgpedejeifmfdaaGreat
open Go.RowKit Go.Sort

/-- What the document's Open answers. -/
def ROpened (w : World) (b : Nat) (o : Option ((Nat × Nat × Nat) × List Rc)) (e : Ending) (w' : World) : Prop :=
  ∃ p v k, e = .returned (.tuple #[p, v, .int .i64 k]) ∧ Below w.heap.size w w' ∧ ((o = none ∧ p = .pointer none ∧ v = .slice none 0 0 ∧ k = 21) ∨
    ∃ l rs, o = some (l, rs) ∧ p = .pointer (some ⟨w.heap.size, 0, none⟩) ∧ k = 0 ∧ RLogAt w' w.heap.size b ⟨l.1, l.2.1, l.2.2⟩ ∧ RcOwn w' (w.heap.size + 1) v rs)
section
variable {w0 w : World} {b : Nat} {G : Nat → Prop} {s : State}
set_option maxHeartbeats 16000000 in
set_option maxRecDepth 100000 in
theorem ROpen_calls (h : Ref w0 w b G s) (hS : Sects s) (hC : s.2.length ≤ 1000000) :
    Calls Tryz.prog 9 #[.pointer (some ⟨b, 0, none⟩)] w (ROpened w b (openS s)) := by
  have hp := hS.pos
  have hp2 := hS.le
  obtain ⟨N, hN⟩ : ∃ N, N = s.1.length := ⟨_, rfl⟩
  rw [← hN] at hp hp2
  obtain ⟨OS, hOS⟩ : ∃ O, O = openS s := ⟨_, rfl⟩
  rw [← hOS]
  have hlb := lastF_sects hS s.1.length (Nat.le_refl _)
  obtain ⟨w1, hw1⟩ : ∃ w1, w1 = w.alloc (.cells #[.pointer (some ⟨b, 0, none⟩), .int .i64 1, .int .i64 1, .int .i64 1] 48) := ⟨_, rfl⟩
  have x1 : RLogAt w1 w.heap.size b ⟨1, 1, 1⟩ := by rw [hw1]; exact heap_alloc_new w _
  have b1 : Below w.heap.size w w1 := by rw [hw1]; exact (Below.refl _ _).alloc (Nat.le_refl _) _
  have sz1 : w1.heap.size = w.heap.size + 1 := by rw [hw1, World.size_alloc]
  have h1 := h.step b1
  obtain ⟨sa, sc, cv, hr1⟩ := h1.root
  rw [← hN] at hr1
  obtain ⟨LS, hLS⟩ : ∃ L, L = lastS s := ⟨_, rfl⟩
  have hlat : LS.num ≠ 0 → pS s (placeOf s LS.num) = LS := fun h0 => by rw [hLS] at h0 ⊢; exact lastF_at s s.1.length h0
  have hop : openS s = if LS.num = 0 then some ((1, 1, 1), []) else
      if 1 ≤ LS.first ∧ LS.first ≤ LS.num ∧ LS.num - LS.first < N then
        match secsS s LS.first (LS.num - LS.first + 1) with
        | none => none
        | some T => match tellZ T with
          | none => none
          | some rs => some ((LS.num + 1, LS.first, LS.first), rs)
      else none := by rw [hLS, hN]; rfl
  rw [← hOS] at hop
  have hlb1 : LS.num < 4294967296 ∧ LS.first < 4294967296 := by rw [hLS]; exact ⟨hlb.1, hlb.2⟩
  obtain ⟨hlb1, hlb2⟩ := hlb1
  have hln : (lastF s N).num = LS.num := by rw [hLS, hN]; rfl
  clear hlb hLS hOS
  have HSS := Lib.hid hS; clear hS
  have H1 := Lib.hid h1; clear h1 h
  have HR1 := Lib.hid hr1; clear hr1
  have HN := Lib.hid hN; clear hN
  have X1 := Lib.hid x1; clear x1
  have B1 := Lib.hid b1; clear b1
  have Hop := Lib.hid hop; clear hop
  have Sz1 := Lib.hid sz1; clear sz1
  have Hlat := Lib.hid hlat; clear hlat
  have Hln := Lib.hid hln; clear hln
  go_enter Tryz.func9, Tryz.ntmps9
  go_wp2_with fail
  rw [← hw1]
  clear hw1
  go_loopw [6, 7] (fun m i wr => ∃ k : Nat, k ≤ N ∧ i = .int .i64 (k : Int) ∧ m = .int .i64 (((lastF s k).num : Nat) : Int) ∧ Below w1.heap.size w1 wr) (fun _ i _ => N - (intOf i).toNat)
  case atStart => exact ⟨0, Nat.zero_le _, rfl, rfl, Below.refl _ _⟩
  case round =>
    obtain ⟨k, hk, rfl, rfl, hb⟩ := hrel
    obtain ⟨wo, rfl⟩ : ∃ wo, wo = wr := ⟨_, rfl⟩
    by_cases hlt : k < N
    · have hkN : k < s.1.length := by rw [← HN.out]; exact hlt
      have hse := HSS.out.sec (k : Int) ⟨by omega, by omega⟩
      have hpb := parse_bound (b := readOf s.1 s.2 (k : Int)) fun z hz => wf_u8 (hse.2 z hz)
      have hre : readErr s (k : Int) = 0 := by unfold readErr; rw [if_pos ⟨by omega, by omega⟩]
      have hsuc := lastN_succ s k
      unfold pS at hsuc
      have hrd := RRead_ref (H1.out.step hb) hC (k : Int)
      rw [hre] at hrd
      have hpl : ∀ n : Nat, 1 ≤ n → ((n : Int) - 1).tmod (N : Int) = ((placeOf s n : Nat) : Int) := fun n hn => by rw [HN.out]; exact tmod_place hn
      obtain ⟨Z, hZ⟩ : ∃ Z, Z = readOf s.1 s.2 (k : Int) := ⟨_, rfl⟩
      rw [← hZ] at hse hpb hrd hsuc
      have hpa := fun (w : World) (a : Option Addr) (c : Nat) (h : Ints w .u8 a 32 c Z) => Rread_calls h
      obtain ⟨PZ, hPZ⟩ : ∃ PZ, PZ = (parseZ Z).1 := ⟨_, rfl⟩
      rw [← hPZ] at hpa hpb hsuc
      obtain ⟨num, first, beg, data⟩ := PZ
      unfold RdPost at hpa
      simp only at hpa hpb hsuc
      obtain ⟨M, hM⟩ : ∃ M, M = (lastF s k).num := ⟨_, rfl⟩
      obtain ⟨M', hM'⟩ : ∃ M, M = (lastF s (k + 1)).num := ⟨_, rfl⟩
      rw [← hM, ← hM'] at hsuc
      rw [← hM]
      clear hPZ hZ hM
      have HM' := Lib.hid hM'; clear hM'
      have Hsuc := Lib.hid hsuc; clear hsuc
      have Hpl := Lib.hid hpl; clear hpl
      have Hpa := Lib.hid hpa; clear hpa
      have Hrd := Lib.hid hrd; clear hrd
      have Hse := Lib.hid hse; clear hse
      obtain ⟨hb1, hb2, hb3⟩ := hpb
      have y1 := (hb.block _ (Array.getElem?_eq_some_iff.1 HR1.out).1).trans HR1.out
      have Hb := Lib.hid hb; clear hb
      have Y1 := Lib.hid y1; clear y1
      have z0 := cells_at Y1.out 0
      have hl1 : decide ((k : Int) < (N : Int)) = true := decide_eq_true (by omega)
      have hl2 : decide (k < N) = true := decide_eq_true hlt
      go_wp2_with fail
      refine Hrd.out.mono ?_
      rintro e w2 ⟨v, rfl, hv, hb2', -⟩
      obtain ⟨a2, c2, rfl, hi, -⟩ := own_len hv Hse.out.1
      have hb2 := Hb.out.trans (hb2'.mono Hb.out.size)
      have y2 := (hb2'.block _ (Array.getElem?_eq_some_iff.1 Y1.out).1).trans Y1.out
      have hpa := Hpa.out _ _ _ hi
      clear Hrd hv hi Hpa z0 hb2'
      have Hpa := Lib.hid hpa; clear hpa
      have Hb2 := Lib.hid hb2; clear hb2 Hb Y1 Hse
      have Y2 := Lib.hid y2; clear y2
      go_wp2_with fail
      refine Hpa.out.mono ?_
      rintro e w3 ⟨a3, c3, rfl, -, -, hb3'⟩
      have hb3 := Hb2.out.trans (hb3'.mono Hb2.out.size)
      have y3 := (hb3'.block _ (Array.getElem?_eq_some_iff.1 Y2.out).1).trans Y2.out
      have z0 := cells_at y3 0
      clear Hpa Hb2 hb3' Y2 y3
      have Hb3 := Lib.hid hb3; clear hb3
      by_cases h1 : 1 ≤ num
      · have d1 : decide ((1 : Int) ≤ (num : Int)) = true := decide_eq_true (by omega)
        have d1' : decide (1 ≤ num) = true := decide_eq_true h1
        have d1'' : decide ((num : Int) ≥ 1) = true := decide_eq_true (by omega)
        have s1 : IntKind.i64.wrap ((num : Int) - 1) = (num : Int) - 1 := IntWalk.i64_in _ (by omega)
        have s2 := Hpl.out num h1
        obtain ⟨P, hP⟩ : ∃ P, P = placeOf s num := ⟨_, rfl⟩
        rw [← hP] at s2
        have hsuc := Hsuc.out
        rw [← hP] at hsuc
        have hN0 : ¬ N = 0 := by omega
        clear hP Hsuc Hpl
        by_cases hPk : P = k
        · rw [if_pos ⟨h1, hPk⟩] at hsuc
          have hmx : max (M : Int) (num : Int) = (M' : Int) := by omega
          have hmx2 : max M num = M' := hsuc.symm
          have Hsuc := Lib.hid hsuc; clear hsuc
          subst hPk
          have Hb4 := Hb3
          go_wp2_with fail
          go_roundw
          case rel => exact ⟨P + 1, by omega, by go_num, by rw [HM'.out], Hb4.out⟩
          case measure => simp [intOf]; omega
        · rw [if_neg fun h => hPk h.2] at hsuc
          have dq : decide ((P : Int) = (k : Int)) = false := decide_eq_false (by omega)
          have dq1 : ((P : Int) == (k : Int)) = false := by rw [beq_eq_false_iff_ne]; omega
          have dq2 : decide (P = k) = false := decide_eq_false hPk
          have dq3 : (P == k) = false := by rw [beq_eq_false_iff_ne]; exact hPk
          have Hsuc := Lib.hid hsuc; clear hsuc
          have Hb4 := Hb3
          go_wp2_with fail
          go_roundw
          case rel => exact ⟨k + 1, by omega, by go_num, by rw [← HM'.out, Hsuc.out], Hb4.out⟩
          case measure => simp [intOf]; omega
      · have d1 : decide ((1 : Int) ≤ (num : Int)) = false := decide_eq_false (by omega)
        have d1' : decide (1 ≤ num) = false := decide_eq_false h1
        have d1'' : decide ((num : Int) ≥ 1) = false := decide_eq_false (by omega)
        have hsuc := Hsuc.out
        rw [if_neg fun h => h1 h.1] at hsuc
        clear Hsuc Hpl
        have Hsuc := Lib.hid hsuc; clear hsuc
        have Hb4 := Hb3
        go_wp2_with fail
        go_roundw
        case rel => exact ⟨k + 1, by omega, by go_num, by rw [← HM'.out, Hsuc.out], Hb4.out⟩
        case measure => simp [intOf]; omega
    · obtain rfl : k = N := by omega
      have hln := Hln.out
      rw [hln]
      clear hln Hln
      have h1 := H1.out.step hb
      have l1 := X1.out.step hb
      have y1 := (hb.block _ (Array.getElem?_eq_some_iff.1 HR1.out).1).trans HR1.out
      have bb := B1.out.trans (hb.mono B1.out.size)
      have szo := hb.size
      rw [Sz1.out] at szo
      clear H1 X1 HR1 B1 hb
      have H1 := Lib.hid h1; clear h1
      have L1 := Lib.hid l1; clear l1
      have Y1 := Lib.hid y1; clear y1
      have BB := Lib.hid bb; clear bb
      obtain ⟨num, first, beg, data⟩ := LS
      simp only at Hop Hlat hlb1 hlb2 ⊢
      have z0 := cells_at Y1.out 0
      by_cases h0 : num = 0
      · subst h0
        have hop := Hop.out
        rw [if_pos rfl] at hop
        clear Hop Hlat
        have Hop := Lib.hid hop; clear hop
        have x4 := (L1.out.step ((Below.refl _ _).alloc (Nat.le_refl _) (.cells #[] 63)))
        have b4 := BB.out.trans (((Below.refl wo.heap.size wo).alloc (Nat.le_refl _) (.cells #[] 63)).mono BB.out.size)
        have r4 := rown_empty (F := rcF) wo (w.heap.size + 1) 63 szo
        have X4 := Lib.hid x4; clear x4
        have B4 := Lib.hid b4; clear b4
        have R4 := Lib.hid r4; clear r4
        go_wp2
        go_ret3
        exact ⟨_, _, _, rfl, B4.out, .inr ⟨(1, 1, 1), [], Hop.out, rfl, rfl, X4.out, R4.out⟩⟩
      have hop := Hop.out
      rw [if_neg h0] at hop
      have hlat := Hlat.out h0
      clear Hop Hlat
      have hat := RAt_calls H1.out L1.out HSS.out hC (n := num) (by omega) (by omega)
      rw [hlat] at hat
      unfold AtPost at hat
      simp only [decide_true] at hat
      have Hop := Lib.hid hop; clear hop hlat
      have Hat := Lib.hid hat; clear hat
      have dn0 : ((num : Int) == 0) = false := by rw [beq_eq_false_iff_ne]; omega
      have dn1 : decide ((num : Int) = 0) = false := decide_eq_false (by omega)
      go_wp2_with fail
      refine Hat.out.mono ?_
      rintro e w2 ⟨a2, c2, rfl, -, -, hb2⟩
      have h2 := H1.out.step hb2
      have l2 := L1.out.step hb2
      have y2 := (hb2.block _ (Array.getElem?_eq_some_iff.1 Y1.out).1).trans Y1.out
      have bb := BB.out.trans (hb2.mono BB.out.size)
      have szo2 := Nat.le_trans szo hb2.size
      clear H1 L1 Y1 BB Hat hb2 z0 szo
      have z0 := cells_at y2 0
      have H2 := Lib.hid h2; clear h2
      have L2 := Lib.hid l2; clear l2
      have BB := Lib.hid bb; clear bb y2

      by_cases f1 : first < 1
      · have d1 : decide ((first : Int) < 1) = true := decide_eq_true (by omega)
        have d1' : decide (first < 1) = true := decide_eq_true f1
        have hop := Hop.out
        rw [if_neg (by omega)] at hop
        have Hop := Lib.hid hop; clear hop
        go_wp2
        go_ret3
        exact ⟨_, _, _, rfl, BB.out, .inl ⟨Hop.out, rfl, rfl, rfl⟩⟩
      have d1 : decide ((first : Int) < 1) = false := decide_eq_false (by omega)
      have d1' : decide (first < 1) = false := decide_eq_false f1
      by_cases f2 : num < first
      · have d2 : decide ((num : Int) < (first : Int)) = true := decide_eq_true (by omega)
        have d2' : decide (num < first) = true := decide_eq_true f2
        have hop := Hop.out
        rw [if_neg (by omega)] at hop
        have Hop := Lib.hid hop; clear hop
        go_wp2
        go_ret3
        exact ⟨_, _, _, rfl, BB.out, .inl ⟨Hop.out, rfl, rfl, rfl⟩⟩
      have d2 : decide ((num : Int) < (first : Int)) = false := decide_eq_false (by omega)
      have d2' : decide (num < first) = false := decide_eq_false f2
      have s3 : IntKind.i64.wrap ((num : Int) - (first : Int)) = (num : Int) - (first : Int) := IntWalk.i64_in _ (by omega)
      by_cases f3 : k ≤ num - first
      · have d3 : decide ((k : Int) ≤ (num : Int) - (first : Int)) = true := decide_eq_true (by omega)
        have d3' : decide ((num : Int) - (first : Int) ≥ (k : Int)) = true := decide_eq_true (by omega)
        have hop := Hop.out
        rw [if_neg (by omega)] at hop
        have Hop := Lib.hid hop; clear hop
        go_wp2
        go_ret3
        exact ⟨_, _, _, rfl, BB.out, .inl ⟨Hop.out, rfl, rfl, rfl⟩⟩
      have d3 : decide ((k : Int) ≤ (num : Int) - (first : Int)) = false := decide_eq_false (by omega)
      have d3' : decide ((num : Int) - (first : Int) ≥ (k : Int)) = false := decide_eq_false (by omega)
      have hop := Hop.out
      rw [if_pos ⟨by omega, by omega, by omega⟩] at hop
      clear Hop
      have Hop := Lib.hid hop; clear hop
      have hNN := HN.out
      obtain ⟨N, rfl⟩ : ∃ N, N = k := ⟨_, rfl⟩
      have h3 := H2.out
      have l3 := L2.out
      have hb3 := BB.out
      obtain ⟨w3, rfl⟩ : ∃ w3, w3 = w2 := ⟨_, rfl⟩
      have szo := szo2
      clear BB H2 L2 szo2
      -- the first row
      obtain ⟨w4, hw4⟩ : ∃ w4, w4 = (w3.alloc (.cells #[] 5)).alloc (.cells #[.slice (some ⟨w3.heap.size, 0, none⟩) 0 0] 39) := ⟨_, rfl⟩
      have sz4 : w4.heap.size = w3.heap.size + 2 := by rw [hw4, World.size_alloc, World.size_alloc]
      have e4 := own_empty w3 w3.heap.size 5 .u8 (Nat.le_refl _)
      have b34 : Below w3.heap.size w3 w4 := by rw [hw4]; exact ((Below.refl _ _).alloc (Nat.le_refl _) _).alloc (by rw [World.size_alloc]; omega) _
      have r4 : Rw2 w4 w3.heap.size (w3.heap.size + 1) 1 [] (some ⟨w3.heap.size, 0, none⟩, 0, 0) w3.heap.size [] [] := by
        have hn4 : w4.heap[w3.heap.size + 1]? = some (.cells #[.slice (some ⟨w3.heap.size, 0, none⟩) 0 0] 39 (0, 0)) := by
          have := heap_alloc_new (w3.alloc (.cells #[] 5)) (.cells #[.slice (some ⟨w3.heap.size, 0, none⟩) 0 0] 39)
          rw [World.size_alloc] at this
          rw [hw4]; exact this
        refine ⟨⟨by rw [slF.row_len], .inr ⟨w3.heap.size + 1, 1, _, rfl, by omega, hn4, by simp, by unfold maxLen; omega, rfl, rfl⟩⟩, ?_, rfl, fun i h => absurd h (Nat.not_lt_zero _), ⟨w3.heap.size, 0, rfl, Nat.le_refl _, by omega⟩, Nat.le_refl _, by omega⟩
        have h5 := e4.below (w' := w4) (by rw [hw4]; exact (Below.refl _ _).alloc (Nat.le_refl _) _)
        exact h5
      have R4 := Lib.hid r4; clear r4
      have H3 := Lib.hid h3; clear h3
      have L3 := Lib.hid l3; clear l3
      have BB3 := Lib.hid hb3; clear hb3
      have B34 := Lib.hid b34; clear b34
      clear e4
      go_wp2_with fail
      rw [← hw4]
      clear hw4
      obtain ⟨cnt, hcnt⟩ : ∃ c, c = num - first + 1 := ⟨_, rfl⟩
      rw [← hcnt] at Hop
      have hc1 : first + cnt = num + 1 := by omega
      have hc2 : cnt ≤ 512 := by omega
      clear hcnt
      obtain ⟨RS, hRS⟩ : ∃ R, R = secsS s first cnt := ⟨_, rfl⟩
      rw [← hRS] at Hop
      have HRS := Lib.hid hRS; clear hRS
      have HNN := Lib.hid hNN; clear hNN
      go_loopw [18, 19] (fun u i wr => ∃ k : Nat, k ≤ cnt ∧ i = .int .i64 ((first + k : Nat) : Int) ∧ ∃ (T : List Sc) (ds : List (List Int)) (cur : List Int) (xs : List SlC) (x : SlC) (g cap top : Nat),
        secsS s first k = some T ∧ rowsZ T = ds ++ [cur] ∧ (∃ LK, LK = xs.length + 1 ∧ u = .slice (some ⟨g, 0, none⟩) LK cap) ∧ Rw2 wr w3.heap.size g cap xs x top ds cur ∧ xs.length ≤ k ∧ cur.length ≤ 16 * k ∧ Below w3.heap.size w3 wr) (fun _ i _ => (num + 1 - intOf i).toNat)
      case atStart => exact ⟨0, Nat.zero_le _, rfl, [], [], [], [], (some ⟨w3.heap.size, 0, none⟩, 0, 0), w3.heap.size + 1, 1, w3.heap.size, rfl, rfl, ⟨1, rfl, rfl⟩, R4.out, Nat.zero_le _, Nat.zero_le _, B34.out⟩
      case round =>
        obtain ⟨k, hk, rfl, T, ds, cur, xs, x, g, cap, top, hsec, hrz, ⟨LK, hLK, rfl⟩, hrw, hxk, hck, hb⟩ := hrel
        have HLK := Lib.hid hLK; clear hLK
        obtain ⟨wo2, rfl⟩ : ∃ wo, wo = wr := ⟨_, rfl⟩
        by_cases hlt : k < cnt
        · have hat := RAt_calls (H3.out.step hb) (L3.out.step hb) HSS.out hC (n := first + k) (by omega) (by omega)
          have hPl : placeOf s (first + k) < s.1.length := Nat.mod_lt _ (by rw [← HNN.out]; exact hp)
          have hpb := parse_bound (b := readOf s.1 s.2 ((placeOf s (first + k) : Nat) : Int)) fun z hz => wf_u8 ((HSS.out.sec ((placeOf s (first + k) : Nat) : Int) ⟨by omega, by omega⟩).2 z hz)
          have hsn := secsS_snoc s k first
          rw [hsec, secs_at (s := s) (n := first + k) (by omega)] at hsn
          simp only at hsn
          rw [show (readS s (placeOf s (first + k))).1 = pS s (placeOf s (first + k)) from rfl] at hsn
          unfold pS at hat hsn
          obtain ⟨R, hR⟩ : ∃ R, R = (parseZ (readOf s.1 s.2 ((placeOf s (first + k) : Nat) : Int))).1 := ⟨_, rfl⟩
          rw [← hR] at hat hsn hpb
          clear hR hPl
          obtain ⟨num2, first2, beg2, data2⟩ := R
          unfold AtPost at hat
          simp only at hat hsn hpb
          obtain ⟨-, -, hdl⟩ := hpb
          obtain ⟨OKB, hOKB⟩ : ∃ o, o = decide (num2 = first + k) := ⟨_, rfl⟩
          rw [← hOKB] at hat hsn
          have hle : decide (((first + k : Nat) : Int) ≤ (num : Int)) = true := decide_eq_true (by omega)
          have hle2 : decide (first + k ≤ num) = true := decide_eq_true (by omega)
          have Hat := Lib.hid hat; clear hat
          have Hsn := Lib.hid hsn; clear hsn
          have Hsec := Lib.hid hsec; clear hsec
          have Hrz := Lib.hid hrz; clear hrz
          have Hrw := Lib.hid hrw; clear hrw
          have Hb := Lib.hid hb; clear hb
          obtain ⟨NK, hNK⟩ : ∃ NK : Nat, NK = first + k := ⟨_, rfl⟩
          rw [← hNK] at Hat hle hle2 hOKB ⊢
          have hnkb : NK ≤ 4294967295 := by omega
          have HNK := Lib.hid hNK; clear hNK
          go_wp2_with fail
          refine Hat.out.mono ?_
          rintro e w4 ⟨a3, c3, rfl, hd3, hn3, hb3⟩
          clear Hat
          obtain ⟨xa, xn, xc⟩ := x
          obtain ⟨-, -, -, -, -, -, -, hg0, hgl⟩ := Hrw.out.spine
          have rw4 := Hrw.out.step hb3
          have hb4 := Hb.out.trans (hb3.mono Hb.out.size)
          have hg3 : wo2.heap.size ≤ w4.heap.size := hb3.size
          have htw := Hrw.out.tw
          clear Hb Hrw hb3
          have Hb4 := Lib.hid hb4; clear hb4
          have Hrw4 := Lib.hid rw4; clear rw4
          have Hdn4 := Lib.hid hd3; clear hd3
          have Hn3 := Lib.hid hn3; clear hn3
          cases OKB with
          | false =>
            have hsn := Hsn.out
            simp only [Bool.false_eq_true, if_false] at hsn
            clear Hsn
            have hno : RS = none := by
              rw [HRS.out]
              have := secsS_none s hsn (cnt - (k + 1))
              rwa [show k + 1 + (cnt - (k + 1)) = cnt by omega] at this
            have hop := Hop.out
            rw [hno] at hop
            simp only at hop
            have bb := BB3.out.trans (Hb4.out.mono BB3.out.size)
            clear Hop hno
            have Hop := Lib.hid hop; clear hop hsn
            have BB := Lib.hid bb; clear bb Hb4 hOKB
            go_wp2
            go_ret3
            exact ⟨_, _, _, rfl, BB.out, .inl ⟨Hop.out, rfl, rfl, rfl⟩⟩
          | true =>
            have hsn := Hsn.out
            simp only [if_true] at hsn
            have hnn := of_decide_eq_true hOKB.symm
            clear Hsn hOKB
            have Hsn := Lib.hid hsn; clear hsn
            have hrs := rowsF_snoc (S := ⟨num2, first2, beg2, data2⟩) (c := []) Hrz.out
            have Hnn := Lib.hid hnn; clear hnn
            cases beg2 with
            | true =>
              simp only [if_true] at hrs
              have Hrs := Lib.hid hrs; clear hrs
              go_wp2_with (with_reducible refine stop_builtin .append ?_)
              refine unpark ?_
              obtain ⟨w5, hw5⟩ : ∃ w5, w5 = (w4.alloc (.cells #[] 5)).alloc (.cells #[.slice (some ⟨w4.heap.size, 0, none⟩) 0 0] 39) := ⟨_, rfl⟩
              have sz5 : w5.heap.size = w4.heap.size + 2 := by rw [hw5, World.size_alloc, World.size_alloc]
              have e5 : Own w5 w4.heap.size 5 .u8 (.slice (some ⟨w4.heap.size, 0, none⟩) 0 0) [] := by
                have h5 := (own_empty w4 w4.heap.size 5 .u8 (Nat.le_refl _)).below (w' := w5) (by rw [hw5]; exact (Below.refl _ _).alloc (Nat.le_refl _) _)
                exact h5
              have b5 : Below w4.heap.size w4 w5 := by rw [hw5]; exact ((Below.refl _ _).alloc (Nat.le_refl _) _).alloc (by rw [World.size_alloc]; omega) _
              have x5 : w5.heap[w4.heap.size + 1]? = some (.cells #[.slice (some ⟨w4.heap.size, 0, none⟩) 0 0] 39 (0, 0)) := by
                have := heap_alloc_new (w4.alloc (.cells #[] 5)) (.cells #[.slice (some ⟨w4.heap.size, 0, none⟩) 0 0] 39)
                rw [World.size_alloc] at this
                rw [hw5]; exact this
              rw [← hw5]
              clear hw5
              have d5 := Hdn4.out.keep b5
              have rw5 := Hrw4.out.step b5
              have bb5 := Hb4.out.trans (b5.mono Hb4.out.size)
              rw [HLK.out]
              refine wpList_append_rec1 slElem w5 rfl _ _ rfl w3.heap.size (.slice (some ⟨g, 0, none⟩) (xs.length + 1) cap) (xs ++ [(xa, xn, xc)]) rfl rw5.own (w4.heap.size + 1) 1 (by decide) (by decide) (some ⟨w4.heap.size, 0, none⟩, 0, 0) rfl x5 (fun j u hu => by simpa [slF] using hu) (by simp; omega) bb5.size ?_
              intro v6 w6 own6 g6 hv6
              have g6' : w5.grownBy w6 (some g) := g6
              obtain ⟨g', cap', rfl, rw6⟩ := Hrw4.out.more b5 (Nat.le_refl _) (by omega) e5 own6 g6' hv6
              have d6 := d5.keepOn (w' := w6) fun x' o e7 hlt => g6'.block x' hlt (by intro e8; injection e8 with e8; have := Hn3.out x' o e7; omega)
              have bb6 := bb5.grown g6' bb5.size (fun k hk => by cases hk; exact hg0)
              clear Hb4 Hrw4 Hdn4 HLK own6 g6 g6' hv6 rw5 d5 bb5 b5 x5 e5
              obtain ⟨EB, hEB⟩ : ∃ d, d = w4.heap.size := ⟨_, rfl⟩
              rw [← hEB] at rw6
              clear hEB
              obtain ⟨LK', hLK'⟩ : ∃ L, L = xs.length + 2 := ⟨_, rfl⟩
              obtain ⟨K, hK⟩ : ∃ L, L = xs.length + 1 := ⟨_, rfl⟩
              rw [← hLK']
              have i1 : (0 : Int) ≤ (K : Int) := by omega
              have i2 : (K : Int) < (LK' : Int) := by omega
              have i3 : (LK' : Int) - 1 = (K : Int) := by omega
              have i4 : K < LK' := by omega
              have i6 : K < 1000 := by omega
              have hK2 : K = (xs ++ [((xa, xn, xc) : SlC)]).length := by simp [hK]
              have hLK2 : LK' = (xs ++ [((xa, xn, xc) : SlC)]).length + 1 := by simp [hLK']
              have HLK2 := Lib.hid hLK2; clear hLK2
              clear hLK'
              have R6 := Lib.hid rw6; clear rw6
              have B6 := Lib.hid bb6; clear bb6
              have D6 := Lib.hid d6; clear d6
              have HK := Lib.hid hK2; clear hK2 hK
              obtain ⟨cs, hcs, hn9, hm9, hs9, -, hx9, -, -⟩ := R6.out.spine
              rw [← HK.out] at hn9 hx9
              have i5 : (K : Int) < (cap' : Int) := by omega
              have y0 : w6.cell? ⟨g', K, none⟩ = some (.slice (some ⟨EB, 0, none⟩) 0 0) := by rw [cells_at hcs K]; exact hx9
              have hKs : K < cs.size := by omega
              clear hx9 hn9 hm9 hs9
              have Hcs := Lib.hid hcs; clear hcs
              obtain ⟨w7, rfl⟩ : ∃ w7, w7 = w6 := ⟨_, rfl⟩
              have C7 := Hcs; have R7 := R6; have B7 := B6; have D7 := D6
              clear Hcs R6 B6 D6
              go_wp2_with (with_reducible refine stop_builtin .append ?_)
              refine unpark ?_
              refine wpList_append_nums byteElem w7 rfl _ _ rfl EB (.slice (some ⟨EB, 0, none⟩) 0 0) ([] : List Int) rfl R7.out.last a3 data2.length c3 data2 rfl D7.out (by first | omega | (simp; omega)) R7.out.tw ?_
              intro v8 w8 own8 g8 hv8
              obtain ⟨bx, ox, hbx, htx, hgx⟩ := R7.out.xb
              have hob : ∀ k, (Value.slice (some ⟨EB, 0, none⟩) 0 0).ownBlock = some k → k ≠ g' ∧ EB ≤ k := fun k hk => by
                have hbx : (some ⟨EB, 0, none⟩ : Option Addr) = some ⟨bx, ox, none⟩ := hbx
                rw [hbx] at hk
                injection hk with hk
                exact ⟨by rw [← hk]; exact hgx, by rw [← hk]; exact htx⟩
              have c8 := (g8.block g' (Array.getElem?_eq_some_iff.1 C7.out).1 (by intro e8; exact (hob _ e8.symm).1 rfl)).trans C7.out
              have b8 := B7.out.grown g8 B7.out.size (fun k hk => Nat.le_trans R7.out.n0t (hob k hk).2)
              obtain ⟨va, vc, hv9, -, -⟩ := own8.ints
              obtain ⟨M, hM⟩ : ∃ M, M = (([] : List Int) ++ data2).length := ⟨_, rfl⟩
              rw [← hM] at hv9
              clear hM
              subst hv9
              clear hob hbx htx hgx y0
              have Own8 := Lib.hid own8; clear own8
              have G8 := Lib.hid g8; clear g8
              have V8 := Lib.hid hv8; clear hv8
              have B8 := Lib.hid b8; clear b8
              have C8 := Lib.hid c8; clear c8
              go_wp2_with (with_reducible refine stop_store 39 ?_)
              refine unpark ?_
              refine wpList_store_at rfl _ _ _ rfl g' K rfl (.slice va M vc) rfl [.slice va M vc] rfl _ cs C8.out 1 rfl hKs (by simp [Value.oneCell']) sizeBytes ?_
              intro w9 hw9 g9 s9
              have hput := R7.out.put Own8.out G8.out V8.out C7.out (by rw [← HK.out]; exact hw9) g9
              obtain ⟨⟨x1, x2, x3⟩, e9, r9⟩ := hput
              have b9 := B8.out.grown g9 B8.out.size (fun k hk => by cases hk; exact (World.ownsRow.lt R7.out.own g' rfl).1)
              clear hw9 g9 s9 Own8 G8 V8 C8 C7 B8 B7 D7 R7
              have R9 := Lib.hid r9; clear r9
              have B9 := Lib.hid b9; clear b9
              clear e9
              go_wp2_with fail
              go_roundw
              case rel => exact ⟨k + 1, by omega, by rw [HNK.out]; go_num, T ++ [⟨num2, first2, true, data2⟩], (ds ++ [cur]), ([] : List Int) ++ data2, (xs ++ [((xa, xn, xc) : SlC)]), (x1, x2, x3), g', cap', EB, Hsn.out, by exact Hrs.out, ⟨LK', by exact HLK2.out, rfl⟩, R9.out, by first | omega | (simp; omega), by first | omega | (simp; omega), B9.out⟩
              case measure => have := of_decide_eq_true hle2; simp [intOf]; omega
            | false =>
              simp only [Bool.false_eq_true, if_false] at hrs
              have Hrs := Lib.hid hrs; clear hrs
              obtain ⟨K, hK⟩ : ∃ L, L = xs.length := ⟨_, rfl⟩
              have hLK := HLK.out
              have i1 : (0 : Int) ≤ (K : Int) := by omega
              have i2 : (K : Int) < (LK : Int) := by omega
              have i3 : (LK : Int) - 1 = (K : Int) := by omega
              have i4 : K < LK := by omega
              have i6 : K < 1000 := by omega
              clear hLK
              have HK := Lib.hid hK; clear hK
              have R6 := Hrw4
              have B6 := Hb4
              have D6 := Hdn4
              clear Hrw4 Hb4 Hdn4
              obtain ⟨cs, hcs, hn9, hm9, hs9, -, hx9, -, -⟩ := R6.out.spine
              rw [← HK.out] at hn9 hx9
              have i5 : (K : Int) < (cap : Int) := by omega
              have y0 : w4.cell? ⟨g, K, none⟩ = some (.slice xa xn xc) := by rw [cells_at hcs K]; exact hx9
              have hKs : K < cs.size := by omega
              clear hx9 hn9 hm9 hs9
              have Hcs := Lib.hid hcs; clear hcs
              obtain ⟨w7, rfl⟩ : ∃ w7, w7 = w4 := ⟨_, rfl⟩
              have C7 := Hcs; have R7 := R6; have B7 := B6; have D7 := D6
              clear Hcs R6 B6 D6
              go_wp2_with (with_reducible refine stop_builtin .append ?_)
              refine unpark ?_
              refine wpList_append_nums byteElem w7 rfl _ _ rfl top (.slice xa xn xc) cur rfl R7.out.last a3 data2.length c3 data2 rfl D7.out (by first | omega | (simp; omega)) R7.out.tw ?_
              intro v8 w8 own8 g8 hv8
              obtain ⟨bx, ox, hbx, htx, hgx⟩ := R7.out.xb
              have hob : ∀ k, (Value.slice xa xn xc).ownBlock = some k → k ≠ g ∧ top ≤ k := fun k hk => by
                have hbx : xa = some ⟨bx, ox, none⟩ := hbx
                rw [hbx] at hk
                injection hk with hk
                exact ⟨by rw [← hk]; exact hgx, by rw [← hk]; exact htx⟩
              have c8 := (g8.block g (Array.getElem?_eq_some_iff.1 C7.out).1 (by intro e8; exact (hob _ e8.symm).1 rfl)).trans C7.out
              have b8 := B7.out.grown g8 B7.out.size (fun k hk => Nat.le_trans R7.out.n0t (hob k hk).2)
              obtain ⟨va, vc, hv9, -, -⟩ := own8.ints
              obtain ⟨M, hM⟩ : ∃ M, M = (cur ++ data2).length := ⟨_, rfl⟩
              rw [← hM] at hv9
              clear hM
              subst hv9
              clear hob hbx htx hgx y0
              have Own8 := Lib.hid own8; clear own8
              have G8 := Lib.hid g8; clear g8
              have V8 := Lib.hid hv8; clear hv8
              have B8 := Lib.hid b8; clear b8
              have C8 := Lib.hid c8; clear c8
              go_wp2_with (with_reducible refine stop_store 39 ?_)
              refine unpark ?_
              refine wpList_store_at rfl _ _ _ rfl g K rfl (.slice va M vc) rfl [.slice va M vc] rfl _ cs C8.out 1 rfl hKs (by simp [Value.oneCell']) sizeBytes ?_
              intro w9 hw9 g9 s9
              have hput := R7.out.put Own8.out G8.out V8.out C7.out (by rw [← HK.out]; exact hw9) g9
              obtain ⟨⟨x1, x2, x3⟩, e9, r9⟩ := hput
              have b9 := B8.out.grown g9 B8.out.size (fun k hk => by cases hk; exact (World.ownsRow.lt R7.out.own g rfl).1)
              clear hw9 g9 s9 Own8 G8 V8 C8 C7 B8 B7 D7 R7
              have R9 := Lib.hid r9; clear r9
              have B9 := Lib.hid b9; clear b9
              clear e9
              go_wp2_with fail
              go_roundw
              case rel => exact ⟨k + 1, by omega, by rw [HNK.out]; go_num, T ++ [⟨num2, first2, false, data2⟩], ds, cur ++ data2, xs, (x1, x2, x3), g, cap, top, Hsn.out, by exact Hrs.out, ⟨LK, HLK.out, rfl⟩, R9.out, by first | omega | (simp; omega), by first | omega | (simp; omega), B9.out⟩
              case measure => have := of_decide_eq_true hle2; simp [intOf]; omega
        · obtain rfl : k = cnt := by omega
          have hRS2 : RS = some T := by rw [HRS.out, hsec]
          have hop := Hop.out
          rw [hRS2] at hop
          simp only at hop
          have hsd := secsS_sects HSS.out k first hsec
          obtain ⟨hfl, hfn⟩ := rows_flat (T := T) [] hsd
          have hsl := secsS_len s k first hsec
          have hfl : (rowsZ T).flatten.length ≤ 0 + 16 * T.length := hfl
          have hfn : (rowsZ T).length ≤ T.length + 1 := hfn
          have hte : tellZ T = tellRows (rowsZ T) := rfl
          rw [hte] at hop
          have hrd := hrw.read
          rw [← hrz] at hrd
          have hln : (rowsZ T).length = LK := by rw [hrz, HLK.out, hrw.len]; simp
          rw [← HLK.out] at hrd
          generalize rowsZ T = RZ at hrd hfl hfn hop hln
          clear Hop hRS2 HRS hsec hrz hsd hte hrw hxk hck HLK
          have l5 := L3.out.step hb
          have bb5 := BB3.out.trans (hb.mono BB3.out.size)
          have szo5 := Nat.le_trans szo hb.size
          clear L3 H3 hb szo
          obtain ⟨g, cap, xs, e, hcap1, hcap2, hxl, hcel⟩ := hrd.rows
          injection e with e1 e2 e3
          injection e1 with e1
          injection e1 with e1
          clear e2
          subst e3 e1
          have hRL5 : LK ≤ 513 := by omega
          have hfl2 : RZ.flatten.length ≤ 8192 := by omega
          have Hop := Lib.hid hop; clear hop
          clear hfl hfn hrd
          have Hcel := Lib.hid hcel; clear hcel
          have HRL := Lib.hid hln; clear hln
          have HXL := Lib.hid (hxl.trans HRL.out); clear hxl
          have L5 := Lib.hid l5; clear l5
          have BB5 := Lib.hid bb5; clear bb5
          have hlo : w.heap.size < wo2.heap.size := by omega
          clear hsl
          obtain ⟨w6, hw6⟩ : ∃ w6, w6 = wo2.alloc (.cells #[] 63) := ⟨_, rfl⟩
          have b6 : Below wo2.heap.size wo2 w6 := by rw [hw6]; exact (Below.refl _ _).alloc (Nat.le_refl _) _
          have r6 : RcOwn w6 wo2.heap.size (.slice (some ⟨wo2.heap.size, 0, none⟩) 0 0) [] := by rw [hw6]; exact rown_empty (F := rcF) wo2 wo2.heap.size 63 (Nat.le_refl _)
          have B6 := Lib.hid b6; clear b6
          have R6 := Lib.hid r6; clear r6
          have dnl : decide (((first + k : Nat) : Int) ≤ (num : Int)) = false := decide_eq_false (by omega)
          have dnl2 : decide (first + k ≤ num) = false := decide_eq_false (by omega)
          go_wp2_with fail
          rw [← hw6]
          clear hw6
          go_loopw [25, 26] (fun u i wr => ∃ j : Nat, j ≤ LK ∧ i = .int .i64 j ∧ ∃ out : List Rc, RcOwn wr wo2.heap.size u out ∧ tellRows (RZ.take j) = some out ∧ out.length ≤ (RZ.take j).flatten.length ∧ Below wo2.heap.size wo2 wr) (fun _ i _ => LK - (intOf i).toNat)
          case atStart => exact ⟨0, Nat.zero_le _, rfl, [], R6.out, rfl, Nat.zero_le _, B6.out⟩
          case round =>
            obtain ⟨j, hj, rfl, out, hout, htl, hol, hb⟩ := hrel
            obtain ⟨wo, rfl⟩ : ∃ wo, wo = wr := ⟨_, rfl⟩
            by_cases hlt : j < LK
            · have hjx : j < xs.length := by rw [HXL.out]; exact hlt
              have hjr : j < RZ.length := by rw [HRL.out]; exact hlt
              obtain ⟨hc, hi, gb, go_, hgb⟩ := Hcel.out j hjx hjr
              have hc2 : wo.cell? ⟨g, j, none⟩ = some (.slice xs[j].1 xs[j].2.1 xs[j].2.2) := (hb.cell (World.block_lt_of_cell? _ _ hc)).trans hc
              have hi2 := hi.keep hb
              clear hc hi
              obtain ⟨hf1', hf2'⟩ := rows_flat_take RZ hjr
              have hrl := hi2.len
              have htk : tellRows (RZ.take (j + 1)) = match tellRow RZ[j] with | none => none | some a => some (out ++ a) := by
                rw [List.take_succ_eq_append_getElem hjr]
                cases ha : tellRow RZ[j] with
                | none => exact tellRows_none ha (List.mem_append.2 (.inr (List.mem_singleton.2 rfl)))
                | some a => exact tellRows_append htl (tellRows_one ha)
              have hnone : tellRow RZ[j] = none → tellRows RZ = none := fun h => tellRows_none h (List.getElem_mem hjr)
              have hale := all_le _ RZ[j] (Nat.le_refl _)
              have halr := allR_len _ RZ[j] (Nat.le_refl _)
              have htr : tellRow RZ[j] = if RZ[j].length - (allR RZ[j]).2 ≤ 23 then some (allR RZ[j]).1 else none := rfl
              rw [htr] at htk hnone
              generalize RZ[j] = R at hi2 hf1' hf2' hrl htk hnone hale halr htr
              generalize xs[j] = X at hc2 hi2 hrl hgb
              obtain ⟨xa, xn, xc⟩ := X
              simp only at hc2 hi2 hrl hgb
              subst hgb
              have hal := RAll_calls hi2 (by omega)
              have i6 := hi2.le
              have i7 := hi2.max
              obtain ⟨⟨AL, AN⟩, hA⟩ : ∃ A, A = allR R := ⟨_, rfl⟩
              rw [← hA] at hal hale halr htk hnone
              rw [hrl] at hale htk hnone hf1' hf2'
              simp only at hal hale halr htk hnone
              clear htr hA hi2 hrl htl
              have i1 : (0 : Int) ≤ (j : Int) := by omega
              have i2 : (j : Int) < (LK : Int) := by omega
              have i3 : decide ((j : Int) < (LK : Int)) = true := decide_eq_true i2
              have i4 : decide (j < LK) = true := decide_eq_true hlt
              have Hal := Lib.hid hal; clear hal
              have Hout := Lib.hid hout; clear hout
              have Hb := Lib.hid hb; clear hb
              have Htk := Lib.hid htk; clear htk
              have Hnone := Lib.hid hnone; clear hnone
              have Hf2 := Lib.hid hf2'; clear hf2'
              have Hc2 := Lib.hid hc2
              go_wp2_with fail
              refine Hal.out.mono ?_
              rintro e w6 ⟨v6, rfl, hr6, hb6⟩
              clear Hal hc2
              have hc6 := (hb6.cell (World.block_lt_of_cell? _ _ Hc2.out)).trans Hc2.out
              have hb56 := Hb.out.trans (hb6.mono Hb.out.size)
              have hout6 := Hout.out.below hb6
              clear Hb Hout Hc2 hb6
              have i5 : (AN : Int) ≤ (xn : Int) := by omega
              have s5 : IntKind.i64.wrap ((xn : Int) - (AN : Int)) = (xn : Int) - (AN : Int) := IntWalk.i64_in _ (by omega)
              by_cases h23 : xn - AN ≤ 23
              · have dg : decide ((xn : Int) - (AN : Int) > 23) = false := decide_eq_false (by omega)
                have dg2 : decide (23 < (xn : Int) - (AN : Int)) = false := decide_eq_false (by omega)
                have htk := Htk.out
                rw [if_pos h23] at htk
                simp only at htk
                clear Htk Hnone
                have Htk := Lib.hid htk; clear htk
                obtain ⟨a6, c6, rfl, hre6, -⟩ := hr6.recs
                have hol2 : out.length + AL.length ≤ (RZ.take (j + 1)).flatten.length := by have := Hf2.out; omega
                have hmx : out.length + AL.length ≤ 1000000 := by omega
                have Hb56 := Lib.hid hb56; clear hb56
                clear Hf2 hr6
                go_wp2_with (with_reducible refine stop_builtin .append ?_)
                refine unpark ?_
                refine wpList_append_recs rcElem w6 rfl _ _ rfl wo2.heap.size _ out rfl hout6 a6 AL.length c6 AL rfl hre6 hmx Hb56.out.size ?_
                intro v7 w7 own7 g7 _
                have hb7 := Hb56.out.grown g7 Hb56.out.size (fun k hk => (hout6.lt k hk).1)
                clear hout6 g7 hre6 Hb56 hc6
                have Own7 := Lib.hid own7; clear own7
                have Hb7 := Lib.hid hb7; clear hb7
                go_wp2_with fail
                go_roundw
                case rel => exact ⟨j + 1, by omega, by go_num, out ++ AL, Own7.out, Htk.out, by rw [List.length_append]; exact hol2, Hb7.out⟩
                case measure => simp [intOf]; omega
              · have dg : decide ((xn : Int) - (AN : Int) > 23) = true := decide_eq_true (by omega)
                have dg2 : decide (23 < (xn : Int) - (AN : Int)) = true := decide_eq_true (by omega)
                have hno := Hnone.out (by rw [if_neg h23])
                have hop := Hop.out
                rw [hno] at hop
                simp only at hop
                have bb6 := BB5.out.trans (hb56.mono BB5.out.size)
                clear Htk Hnone Hop hno
                have Hop := Lib.hid hop; clear hop
                have BB6 := Lib.hid bb6; clear bb6 hb56 hout6 hr6
                go_wp2
                go_ret3
                exact ⟨_, _, _, rfl, BB6.out, .inl ⟨Hop.out, rfl, rfl, rfl⟩⟩
            · obtain rfl : j = LK := by omega
              have htl2 : tellRows RZ = some out := by
                rw [List.take_of_length_le (by rw [HRL.out]; exact Nat.le_refl _)] at htl
                exact htl
              have hop := Hop.out
              rw [htl2] at hop
              simp only at hop
              clear Hop htl htl2 hol
              have Hop := Lib.hid hop; clear hop
              have hbb := BB5.out.trans (hb.mono BB5.out.size)
              have l6 := L5.out.step hb
              clear L5 BB5 Hcel
              have i3 : decide ((j : Int) < (j : Int)) = false := decide_eq_false (by omega)
              have s6 : IntKind.i64.wrap ((num : Int) + 1) = (num : Int) + 1 := IntWalk.i64_in _ (by omega)
              unfold RLogAt Lg.cells at l6
              obtain ⟨oa, oc, rfl⟩ := hout.shape
              obtain ⟨OL, hOL⟩ : ∃ O, O = out.length := ⟨_, rfl⟩
              rw [← hOL] at hout ⊢
              clear hOL
              have OW := Lib.hid hout; clear hout
              have BW := Lib.hid hbb; clear hbb hb
              have LW := Lib.hid l6; clear l6

              go_wp2_with (with_reducible refine stop_store 3 ?_)
              refine unpark ?_
              refine wpList_store_at rfl _ _ _ rfl w.heap.size 1 rfl (.int .i64 ((num : Int) + 1)) rfl [.int .i64 ((num : Int) + 1)] rfl _ _ LW.out 1 rfl (by simp) (by simp [Value.oneCell']) sizeIntR ?_
              intro w8 lw gw sw
              have ow := OW.out.keep fun g hg _ => gw.block g (World.ownsRow.lt OW.out g hg).2 (by intro e; injection e with e; have := (World.ownsRow.lt OW.out g hg).1; omega)
              have bw := BW.out.grown gw BW.out.size (fun k hk => by cases hk; exact Nat.le_refl _)
              simp only [splice] at lw
              clear gw sw LW OW BW
              have LW1 := Lib.hid lw; clear lw
              have OW1 := Lib.hid ow; clear ow
              have BW1 := Lib.hid bw; clear bw
              go_wp2_with (with_reducible refine stop_store 3 ?_)
              refine unpark ?_
              refine wpList_store_at rfl _ _ _ rfl w.heap.size 2 rfl (.int .i64 (first : Nat)) rfl [.int .i64 (first : Nat)] rfl _ _ LW1.out 1 rfl (by simp) (by simp [Value.oneCell']) sizeIntR ?_
              intro w9 lw gw sw
              have ow := OW1.out.keep fun g hg _ => gw.block g (World.ownsRow.lt OW1.out g hg).2 (by intro e; injection e with e; have := (World.ownsRow.lt OW1.out g hg).1; omega)
              have bw := BW1.out.grown gw BW1.out.size (fun k hk => by cases hk; exact Nat.le_refl _)
              simp only [splice] at lw
              clear gw sw LW1 OW1 BW1
              have LW2 := Lib.hid lw; clear lw
              have OW2 := Lib.hid ow; clear ow
              have BW2 := Lib.hid bw; clear bw
              go_wp2_with (with_reducible refine stop_store 3 ?_)
              refine unpark ?_
              refine wpList_store_at rfl _ _ _ rfl w.heap.size 3 rfl (.int .i64 (first : Nat)) rfl [.int .i64 (first : Nat)] rfl _ _ LW2.out 1 rfl (by simp) (by simp [Value.oneCell']) sizeIntR ?_
              intro w10 lw gw sw
              have ow := OW2.out.keep fun g hg _ => gw.block g (World.ownsRow.lt OW2.out g hg).2 (by intro e; injection e with e; have := (World.ownsRow.lt OW2.out g hg).1; omega)
              have bw := BW2.out.grown gw BW2.out.size (fun k hk => by cases hk; exact Nat.le_refl _)
              simp only [splice] at lw
              clear gw sw LW2 OW2 BW2
              have LW3 := Lib.hid lw; clear lw
              have OW3 := Lib.hid ow; clear ow
              have BW3 := Lib.hid bw; clear bw
              go_wp2
              go_ret3
              refine ⟨_, _, _, rfl, BW3.out, .inr ⟨(num + 1, first, first), out, Hop.out, rfl, rfl, ?_, OW3.out.mono (by omega)⟩⟩
              have hz := LW3.out
              unfold RLogAt
              rw [hz]
              simp [Lg.cells]
end
end Go.Proofs.YtgpedejeifmfdaaGreat
/- Rows of calls on a log, as they came in, with the weights of what they hold; great. -/
namespace Go.Proofs.YtgpedejeifmfdaaGreat
open Go.RowKit Go.ChangeShapes Go.WideShapes

section
variable {H : Type} {enc : TypeId × Value → H} {P : Program} {w : World} {base : Nat} {held : Bool}
theorem weights_all {e : TypeId} : ∀ {l : List (DataW H)} {d : DataW H}, d ∈ l → ∀ n ∈ d.weights P e, n ∈ DataW.weightsAll P e l
  | x :: l, d, h, n, hn => by
    simp only [DataW.weightsAll, List.mem_append]
    rcases List.mem_cons.1 h with rfl | h
    · exact .inl hn
    · exact .inr (weights_all h n hn)
theorem open_rows_w {t e : TypeId} {m : Nat} {fuel : Nat} {cs : List Value} {x : DataW H × List MemPlace} (ht : P.underlying t = some (.slice e)) (hm : P.cellsOf e = m) (h0 : 0 < m)
    (h : DataW.trod enc P w base (fun _ => true) held fuel t cs = some x) :
    ∃ a n c rs, cs = [.slice a n c] ∧ Rows w m a n c rs ∧ (∀ r ∈ rs, ∃ f y, DataW.trod enc P w base (fun _ => true) held f e r = some y ∧ ∀ k ∈ y.1.weights P e, k ∈ x.1.weights P t) ∧ (n = 0 ∨ ∃ sp, (n + sp) * P.bytesOf e ∈ x.1.weights P t) := by
  rcases Deep.open_slice ht h with ⟨rfl, _⟩ | ⟨a, len, cap, mm, n, D, Pl, rfl, _, hle, hmx, hmm, hx, hall⟩
  · exact ⟨none, 0, 0, [], rfl, ⟨rfl, Nat.le_refl _, by omega, fun _ h => (by cases h), fun h => absurd h (by omega)⟩, (fun _ h => by cases h), .inl rfl⟩
  · simp only [if_true] at hmm
    subst hmm
    rw [hm] at hall
    obtain ⟨rs, hl, hp⟩ := list_choose (List.range len) (p := fun i (r : List Value) => w.cells? base (a.add (i * m)) m = some r ∧ DataW.trod enc P w base (fun _ => true) held n e r = some (D i, Pl i)) fun i hi => hall i (by have := List.mem_range.1 hi; omega)
    rw [List.length_range] at hl
    have hp' : ∀ i (h : i < rs.length), w.cells? base (a.add (i * m)) m = some rs[i] ∧ DataW.trod enc P w base (fun _ => true) held n e rs[i] = some (D i, Pl i) := fun i h => by
      have := hp i (by simpa [hl] using h) h
      simpa using this
    refine ⟨some a, len, mm, rs, rfl, ⟨hl, hle, by unfold maxLen at hmx; omega, fun r hr => ?_, fun hn => ?_⟩, fun r hr => ?_, .inr ⟨mm - len, ?_⟩⟩
    · obtain ⟨i, hi, rfl⟩ := List.mem_iff_getElem.1 hr
      exact (World.cells?_some (hp' i hi).1).2.1
    · obtain ⟨b, o, spot⟩ := a
      have hz := World.cells?_some (hp' 0 (by omega)).1
      obtain ⟨_, hl0, hc0⟩ := hz
      have h00 := hc0 0 (by omega)
      have hs : spot = none := by
        have e : (rs[0]'(by omega))[0]? = some ((rs[0]'(by omega))[0]'(by omega)) := List.getElem?_eq_getElem _
        rw [e] at h00
        simpa [Addr.add] using World.cell?_spot h00
      subst hs
      refine ⟨b, o, rfl, fun j hj k hk => ?_⟩
      have hadd : ∀ q, (⟨b, o, none⟩ : Addr).add q = ⟨b, o + q, none⟩ := fun q => by unfold Addr.add; split <;> simp_all
      have := (World.cells?_some (hp' j hj).1).2.2 k hk
      rw [Deep.add_add, hadd] at this
      exact this
    · obtain ⟨i, hi, rfl⟩ := List.mem_iff_getElem.1 hr
      refine ⟨n, _, (hp' i hi).2, fun k hk => ?_⟩
      have : D i ∈ (List.range len).map D := List.mem_map.2 ⟨i, List.mem_range.2 (by omega), rfl⟩
      rw [hx]
      simp only [DataW.weights, ht]
      exact List.mem_cons_of_mem _ (List.mem_append_left _ (weights_all this k hk))
    · rw [hx]
      simp [DataW.weights, ht]
theorem open_parts_w {t : TypeId} {fs : Array Field} {fuel : Nat} {cs : List Value} {x : DataW H × List MemPlace} (ht : P.underlying t = some (.struct fs)) (h : DataW.trod enc P w base (fun _ => true) held fuel t cs = some x) :
    cs.length = P.cellsOf t ∧ ∀ (i : Nat) (f : Field), fs[i]? = some f → ∃ n y, DataW.trod enc P w base (fun _ => true) held n f.type ((cs.drop f.offset).take (P.cellsOf f.type)) = some y ∧ ∀ k ∈ y.1.weights P f.type, k ∈ x.1.weights P t := by
  obtain ⟨xs, n, _, hx0, hl, hx, hf⟩ := DataW.trod_struct ht h
  refine ⟨hl, fun i f hi => ?_⟩
  have hlt : i < fs.size := (Array.getElem?_eq_some_iff.1 hi).1
  rw [← hx] at hlt
  refine ⟨n, xs[i], by rw [hf i f hi, List.getElem?_eq_getElem hlt], fun k hk => ?_⟩
  rw [hx0]
  simp only [DataW.weights, ht]
  refine DataW.weights_mem_each (j := i) (t := f.type) (d := xs[i].1) ?_ ?_ k hk
  · rw [List.getElem?_map]
    have : fs.toList[i]? = some f := by simpa using hi
    rw [this]; rfl
  · rw [List.getElem?_map, List.getElem?_eq_getElem hlt]; rfl
end

structure CallW where
  what : Int
  spare : Int
  keep : Int
  tear : Int
  ra : Option Addr
  rn : Nat
  rc : Nat
  rs : List Rc
  da : Option Addr
  dn : Nat
  dc : Nat
  ds : List Int
def CallW.cells (x : CallW) : List Value := [.int .i64 x.what, .int .i64 x.spare, .int .i64 x.keep, .int .i64 x.tear, .slice x.ra x.rn x.rc, .slice x.da x.dn x.dc]
structure CallW.ok (w : World) (x : CallW) : Prop where
  what : (Lit.int .i64 x.what).wf = true
  spare : (Lit.int .i64 x.spare).wf = true
  keep : (Lit.int .i64 x.keep).wf = true
  tear : (Lit.int .i64 x.tear).wf = true
  recs : RRow w x.ra x.rn x.rc x.rs
  data : Ints w .u8 x.da x.dn x.dc x.ds
  size : x.rn ≤ 140737488351232
def callWF : Fmt CallW := ⟨CallW.cells, 6, fun _ => rfl, by decide, fun x u hu => by simp [CallW.cells] at hu; rcases hu with rfl | rfl | rfl | rfl | rfl | rfl <;> rfl⟩
structure WRow (w : World) (a : Option Addr) (n c : Nat) (xs : List CallW) : Prop where
  recs : Recs callWF w a n c xs
  ok : ∀ x ∈ xs, x.ok w
theorem rrow_keep {w w' : World} {a : Option Addr} {n c : Nat} {xs : List Rc} (h : RRow w a n c xs) (hb : Below w.heap.size w w') : RRow w' a n c xs := ⟨h.recs.keep hb, h.ok⟩
theorem CallW.ok.step {w w' : World} {x : CallW} (h : x.ok w) (hb : Below w.heap.size w w') : x.ok w' := ⟨h.what, h.spare, h.keep, h.tear, rrow_keep h.recs hb, h.data.keep hb, h.size⟩
theorem WRow.keep {w w' : World} {a : Option Addr} {n c : Nat} {xs : List CallW} (h : WRow w a n c xs) (hb : Below w.heap.size w w') : WRow w' a n c xs := ⟨h.recs.keep hb, fun x hx => (h.ok x hx).step hb⟩

section
variable {H : Type} {enc : TypeId × Value → H} {w : World} {base : Nat} {held : Bool} {fuel : Nat}
set_option maxRecDepth 100000 in
theorem open_callW {cs : List Value} {x : DataW H × List MemPlace} (h : DataW.trod enc Tryz.prog w base (fun _ => true) held fuel 41 cs = some x) (hw : ∀ k ∈ x.1.weights Tryz.prog 41, k ≤ reachBytes) : ∃ v : CallW, cs = v.cells ∧ v.ok w := by
  obtain ⟨hl, hf⟩ := open_parts_w Tryz.underlying41 h
  have hl6 : cs.length = 6 := hl.trans (by kernel_rfl)
  obtain ⟨n0, y0, h0, -⟩ := hf 0 _ rfl
  obtain ⟨n1, y1, h1, -⟩ := hf 1 _ rfl
  obtain ⟨n2, y2, h2, -⟩ := hf 2 _ rfl
  obtain ⟨n3, y3, h3, -⟩ := hf 3 _ rfl
  obtain ⟨n4, y4, h4, g4⟩ := hf 4 _ rfl
  obtain ⟨n5, y5, h5, -⟩ := hf 5 _ rfl
  obtain ⟨z0, e0, _, w0⟩ := DataW.trod_int Tryz.underlying3 h0
  obtain ⟨z1, e1, _, w1⟩ := DataW.trod_int Tryz.underlying3 h1
  obtain ⟨z2, e2, _, w2⟩ := DataW.trod_int Tryz.underlying3 h2
  obtain ⟨z3, e3, _, w3⟩ := DataW.trod_int Tryz.underlying3 h3
  obtain ⟨ra, rn, rc, rrs, e4, -, -, hz⟩ := open_rows_w Tryz.underlying33 (m := 11) (by kernel_rfl) (by decide) h4
  obtain ⟨da, dn, dc, ds, e5, i5⟩ := piece_ints Tryz.underlying39 Tryz.underlying5 (by kernel_rfl) h5
  have c1 : Tryz.prog.cellsOf 3 = 1 := by kernel_rfl
  have c2 : Tryz.prog.cellsOf 33 = 1 := by kernel_rfl
  have c3 : Tryz.prog.cellsOf 39 = 1 := by kernel_rfl
  have hsz : rn ≤ 140737488351232 := by
    rcases hz with rfl | ⟨sp, hz⟩
    · omega
    · have h6 := hw _ (g4 _ hz)
      have hb : 1 ≤ Tryz.prog.bytesOf 63 := of_decide_eq_true (by kernel_rfl)
      have h7 : (rn + sp) * 1 ≤ (rn + sp) * Tryz.prog.bytesOf 63 := Nat.mul_le_mul_left _ hb
      have h8 : reachBytes = 140737488351232 - 4096 + 4096 - 0 := by decide
      omega
  match cs, hl6 with
  | [v0, v1, v2, v3, v4, v5], _ =>
    replace h4 : DataW.trod enc Tryz.prog w base (fun _ => true) held n4 33 (([v0, v1, v2, v3, v4, v5].drop 4).take (Tryz.prog.cellsOf 33)) = some y4 := h4
    replace e4 : ([v0, v1, v2, v3, v4, v5].drop 4).take (Tryz.prog.cellsOf 33) = [.slice ra rn rc] := e4
    rw [e4] at h4
    simp [c1, c2, c3] at e0 e1 e2 e3 e4 e5
    obtain ⟨rs, hr⟩ := open_rrow h4
    subst e0 e1 e2 e3 e4 e5
    exact ⟨⟨z0, z1, z2, z3, ra, rn, rc, rs, da, dn, dc, ds⟩, rfl, w0, w1, w2, w3, hr, i5, hsz⟩
theorem open_wrow {a : Option Addr} {n c : Nat} {x : DataW H × List MemPlace}
    (h : DataW.trod enc Tryz.prog w base (fun _ => true) held fuel 22 [.slice a n c] = some x) (hw : ∀ k ∈ x.1.weights Tryz.prog 22, k ≤ reachBytes) : ∃ xs, WRow w a n c xs := by
  obtain ⟨a', n', c', rs, e, hr, hx, -⟩ := open_rows_w Tryz.underlying22 (m := 6) (by kernel_rfl) (by decide) h
  cases e
  obtain ⟨xs, rfl, hok⟩ := list_map_choose (f := CallW.cells) (p := CallW.ok w) rs fun r hr => by
    obtain ⟨f, y, h, hk⟩ := hx r hr
    exact open_callW h fun k hk2 => hw k (hk k hk2)
  exact ⟨xs, recs_of_rows (F := callWF) hr, hok⟩
end

def sumR (l : List CallW) : Nat := (l.map (·.rn)).sum
theorem sumR_snoc (l : List CallW) (x : CallW) : sumR (l ++ [x]) = sumR l + x.rn := by simp [sumR]
set_option maxHeartbeats 2000000 in
theorem great_calls {w : World} {a : Option Addr} {n c : Nat} {xs : List CallW} (hx : WRow w a n c xs) : Calls Tryz.prog 5 #[.slice a n c] w fun e w' =>
    ∃ G : Bool, e = .returned (.bool G) ∧ w' = w ∧ (G = false → n ≤ 50 ∧ ∀ x ∈ xs, x.rn ≤ 200) := by
  have hl := hx.recs.len
  have Hx := Lib.hid hx; clear hx
  have Hl := Lib.hid hl; clear hl
  go_enter Tryz.func5, Tryz.ntmps5
  by_cases h0 : 50 < n
  · have e0 : decide ((50 : Int) < (n : Int)) = true := decide_eq_true (by omega)
    go_wp2
    go_ret
    exact ⟨true, rfl, rfl, fun h => by cases h⟩
  have e0 : decide ((50 : Int) < (n : Int)) = false := decide_eq_false (by omega)
  have hn : n ≤ 50 := by omega
  clear h0
  go_wp2_with fail
  go_loopw [3, 4] (fun v i wr => ∃ j : Nat, j ≤ n ∧ i = .int .i64 j ∧ (∃ S : Nat, S = sumR (xs.take j) ∧ v = .int .i64 (S : Int) ∧ S ≤ 200) ∧ wr = w ∧ ∀ x ∈ xs.take j, x.rn ≤ 200) (fun _ i _ => n - (intOf i).toNat)
  case atStart => exact ⟨0, by omega, rfl, ⟨0, rfl, rfl, by omega⟩, rfl, by simp⟩
  case round =>
    obtain ⟨j, hj, rfl, ⟨S, hS, rfl, hS2⟩, rfl, hs⟩ := hrel
    have Hs := Lib.hid hs; clear hs
    have HS := Lib.hid hS; clear hS
    by_cases hlt : j < n
    · have hxr := Hx.out.recs
      obtain ⟨bx, ox, rfl⟩ := hxr.addr (by omega)
      have hjx : j < xs.length := by rw [Hl.out]; exact hlt
      have hcx := hxr.at hjx
      have x4 := hcx 4 _ rfl
      have x5 := hcx 5 _ rfl
      have hsz := (Hx.out.ok _ (List.getElem_mem hjx)).size
      have hds := (Hx.out.ok _ (List.getElem_mem hjx)).data.le
      have hdm := (Hx.out.ok _ (List.getElem_mem hjx)).data.max
      have hnext : xs[j].rn ≤ 200 → ∀ x ∈ xs.take (j + 1), x.rn ≤ 200 := fun h x hx => by
        rw [List.take_add_one, List.getElem?_eq_getElem hjx] at hx
        rcases List.mem_append.1 hx with hx | hx
        · exact Hs.out x hx
        · simp at hx; rw [hx]; exact h
      have hsum : sumR (xs.take (j + 1)) = S + xs[j].rn := by
        rw [List.take_succ_eq_append_getElem hjx, sumR_snoc, ← HS.out]
      obtain ⟨m, hm⟩ : ∃ m, m = xs[j] := ⟨_, rfl⟩
      rw [← hm] at hnext x4 x5 hsz hds hdm hsum
      clear hm hxr hcx
      have Hnext := Lib.hid hnext; clear hnext
      have Hsum := Lib.hid hsum; clear hsum
      have i1 : (0 : Int) ≤ (j : Int) := by omega
      have i2 : (j : Int) < (n : Int) := by omega
      have s1 : IntKind.i64.wrap ((S : Int) + (m.rn : Int)) = (S : Int) + (m.rn : Int) := IntWalk.i64_in _ (by omega)
      simp only [callWF] at x4 x5
      by_cases h200 : 200 < S + m.rn
      · have e1 : decide ((200 : Int) < (S : Int) + (m.rn : Int)) = true := decide_eq_true (by omega)
        have e1' : decide ((S : Int) + (m.rn : Int) > 200) = true := decide_eq_true (by omega)
        go_wp2
        go_ret
        exact ⟨true, rfl, rfl, fun h => by cases h⟩
      have e1 : decide ((200 : Int) < (S : Int) + (m.rn : Int)) = false := decide_eq_false (by omega)
      have e1' : decide ((S : Int) + (m.rn : Int) > 200) = false := decide_eq_false (by omega)
      by_cases h100 : 100 < m.dn
      · have e2 : decide ((100 : Int) < (m.dn : Int)) = true := decide_eq_true (by omega)
        have e2' : decide (100 < m.dn) = true := decide_eq_true h100
        go_wp2
        go_ret
        exact ⟨true, rfl, rfl, fun h => by cases h⟩
      · have e2 : decide ((100 : Int) < (m.dn : Int)) = false := decide_eq_false (by omega)
        have e2' : decide (100 < m.dn) = false := decide_eq_false h100
        go_wp2_with fail
        go_roundw
        case rel => exact ⟨j + 1, by omega, by go_num, ⟨S + m.rn, Hsum.out.symm, by go_num, by omega⟩, trivial, Hnext.out (by omega)⟩
        case measure => simp [intOf]; omega
    · obtain rfl : j = n := by omega
      go_wp2
      go_ret
      exact ⟨false, rfl, rfl, fun _ => ⟨hn, fun x hx => Hs.out x (by rw [List.take_of_length_le (by rw [Hl.out]; exact Nat.le_refl _)]; exact hx)⟩⟩
end Go.Proofs.YtgpedejeifmfdaaGreat
/- Both logs within the law WalCalls. -/
namespace Go.Proofs.YtgpedejeifmfdaaGreat
open Go.RowKit Go.Sort

/-- Both devices. -/
structure Two (w0 w : World) (b rb : Nat) (F G : Nat → Prop) (s s' : State) : Prop where
  dev : Dev w0 w b F s
  ref : Ref w0 w rb G s'
  dis : ∀ k, F k → ¬ G k
/-- Both logs. -/
structure Logs (w0 w : World) (b rb : Nat) (F G : Nat → Prop) (lb xb : Nat) (s : State) (l : Lg) (s' : State) (l' : Lg) : Prop where
  wl : Wl w0 w lb b F s l
  rl : Rl w0 w xb rb G s' l'
  dis : ∀ k, F k ∨ k = lb → ¬ (G k ∨ k = xb)
/-- What stands aside. -/
structure Asd (w : World) (ws : Nat) (cs : Array Value) (A B : Nat → Prop) : Prop where
  is : w.heap[ws]? = some (.cells cs 41 (0, 0))
  na : ¬ A ws
  nb : ¬ B ws
section
variable {w0 w w' : World} {b rb lb xb ws : Nat} {F F' G G' A B A' B' : Nat → Prop} {s s' s1 : State} {l l' l1 : Lg} {cs : Array Value}
theorem Logs.two (h : Logs w0 w b rb F G lb xb s l s' l') : Two w0 w b rb F G s s' := ⟨h.wl.dev, h.rl.ref, fun _ hf hg => h.dis _ (.inl hf) (.inl hg)⟩
theorem Two.step (h : Two w0 w b rb F G s s') (hb : Below w.heap.size w w') : Two w0 w' b rb F G s s' := ⟨h.dev.step hb, h.ref.step hb, h.dis⟩
theorem Logs.step (h : Logs w0 w b rb F G lb xb s l s' l') (hb : Below w.heap.size w w') : Logs w0 w' b rb F G lb xb s l s' l' := ⟨h.wl.step hb, h.rl.step hb, h.dis⟩
theorem Logs.lowF (h : Logs w0 w b rb F G lb xb s l s' l') : ∀ k, F k ∨ k = lb → w0.heap.size ≤ k ∧ k < w.heap.size := fun k hk => hk.elim (h.wl.dev.low k) fun e => by rw [e]; exact ⟨h.wl.lo, h.wl.lt⟩
theorem Logs.lowG (h : Logs w0 w b rb F G lb xb s l s' l') : ∀ k, G k ∨ k = xb → w0.heap.size ≤ k ∧ k < w.heap.size := fun k hk => hk.elim (h.rl.ref.low k) fun e => by rw [e]; exact ⟨h.rl.lo, h.rl.lt⟩
theorem Logs.left (h : Logs w0 w b rb F G lb xb s l s' l') (hw : Wl w0 w' lb b F' s1 l1) (hm : Mod (fun k => F k ∨ k = lb) w w') (hF : ∀ k, F' k → grownF F w w' k) : Logs w0 w' b rb F' G lb xb s1 l1 s' l' :=
  ⟨hw, h.rl.aside hm (fun k hk hf => h.dis k hf hk) fun k hk => (h.lowF k hk).1, fun k hk hg => by
    have h1 := (h.lowG k hg).2
    rcases hk with hk | hk
    · rcases hF k hk with h2 | h2
      · exact h.dis k (.inl h2) hg
      · omega
    · exact h.dis k (.inr hk) hg⟩
theorem Logs.right (h : Logs w0 w b rb F G lb xb s l s' l') (hw : Rl w0 w' xb rb G' s1 l1) (hm : Mod (fun k => G k ∨ k = xb) w w') (hG : ∀ k, G' k → grownF G w w' k) : Logs w0 w' b rb F G' lb xb s l s1 l1 :=
  ⟨h.wl.aside hm (fun k hk hg => h.dis k hk hg) fun k hk => (h.lowG k hk).1, hw, fun k hk hg => by
    have h1 := (h.lowF k hk).2
    rcases hg with hg | hg
    · rcases hG k hg with h2 | h2
      · exact h.dis k hk (.inl h2)
      · omega
    · exact h.dis k hk (.inr hg)⟩
theorem Two.left (h : Two w0 w b rb F G s s') (hd : Dev w0 w' b F' s1) (hm : Mod F w w') (hF : ∀ k, F' k → grownF F w w' k) : Two w0 w' b rb F' G s1 s' :=
  ⟨hd, h.ref.aside hm (fun k hk hf => h.dis k hf hk) fun k hk => (h.dev.low k hk).1, fun k hk hg => by
    have h1 := (h.ref.low k hg).2
    rcases hF k hk with h2 | h2
    · exact h.dis k h2 hg
    · omega⟩
theorem Two.right (h : Two w0 w b rb F G s s') (hd : Ref w0 w' rb G' s1) (hm : Mod G w w') (hG : ∀ k, G' k → grownF G w w' k) : Two w0 w' b rb F G' s s1 :=
  ⟨h.dev.aside hm (fun k hk hg => h.dis k hk hg) fun k hk => (h.ref.low k hk).1, hd, fun k hk hg => by
    have h1 := (h.dev.low k hk).2
    rcases hG k hg with h2 | h2
    · exact h.dis k hk h2
    · omega⟩
theorem Asd.step (h : Asd w ws cs A B) (hb : Below w.heap.size w w') : Asd w' ws cs A B := ⟨(hb.block ws (Array.getElem?_eq_some_iff.1 h.is).1).trans h.is, h.na, h.nb⟩
theorem Asd.left (h : Asd w ws cs A B) (hm : Mod A w w') (hA : ∀ k, A' k → A k ∨ w.heap.size ≤ k) : Asd w' ws cs A' B :=
  ⟨(hm.block ws (Array.getElem?_eq_some_iff.1 h.is).1 h.na).trans h.is, fun hk => (hA ws hk).elim h.na fun h2 => by have := (Array.getElem?_eq_some_iff.1 h.is).1; omega, h.nb⟩
theorem Asd.right (h : Asd w ws cs A B) (hm : Mod B w w') (hB : ∀ k, B' k → B k ∨ w.heap.size ≤ k) : Asd w' ws cs A B' :=
  ⟨(hm.block ws (Array.getElem?_eq_some_iff.1 h.is).1 h.nb).trans h.is, h.na, fun hk => (hB ws hk).elim h.nb fun h2 => by have := (Array.getElem?_eq_some_iff.1 h.is).1; omega⟩
theorem Asd.imp (h : Asd w ws cs A B) (hA : ∀ k, A' k → A k) (hB : ∀ k, B' k → B k) : Asd w ws cs A' B' := ⟨h.is, fun hk => h.na (hA ws hk), fun hk => h.nb (hB ws hk)⟩
theorem Asd.new (h : Asd w ws cs A B) (hA : ∀ k, A' k → A k ∨ w.heap.size ≤ k) (hB : ∀ k, B' k → B k ∨ w.heap.size ≤ k) : Asd w ws cs A' B' :=
  ⟨h.is, fun hk => (hA ws hk).elim h.na fun h2 => by have := (Array.getElem?_eq_some_iff.1 h.is).1; omega, fun hk => (hB ws hk).elim h.nb fun h2 => by have := (Array.getElem?_eq_some_iff.1 h.is).1; omega⟩
theorem grown_or {F : Nat → Prop} {lb : Nat} {w w' : World} : ∀ k, grownF F w w' k ∨ k = lb → (F k ∨ k = lb) ∨ w.heap.size ≤ k := fun _ hk => hk.elim (fun h => h.elim (fun h => .inl (.inl h)) fun h => .inr h.1) fun h => .inl (.inr h)
theorem Dev.sects (h : Dev w0 w b F s) : Sects s := ⟨h.len.1, h.len.2, fun _ hk => h.sector hk⟩
theorem openS_le {rs : List Rc} {n f sr : Nat} (ho : openS s = some ((n, f, sr), rs)) : f ≤ n ∧ sr ≤ n := by
  unfold openS at ho
  split at ho
  · cases ho; exact ⟨by decide, by decide⟩
  · split at ho
    · split at ho
      · cases ho
      · split at ho
        · cases ho
        · cases ho
          omega
    · cases ho
/-- Both are opened. -/
theorem logs_open {w2 w3 w4 : World} (h : Two w0 w2 b rb F G s s) (h23 : Below w2.heap.size w2 w3) (hl : LogAt w3 w2.heap.size b l) (h34 : Below w3.heap.size w3 w4) (hx : RLogAt w4 w3.heap.size rb l) {rs : List Rc} (ho : openS s = some ((l.next, l.first, l.sure), rs)) :
    Logs w0 w4 b rb F G w2.heap.size w3.heap.size s l s l := by
  have hb := openS_bound h.dev ho
  have hle := openS_le ho
  have hlt : w2.heap.size < w3.heap.size := (Array.getElem?_eq_some_iff.1 hl).1
  have h1 := h.dev.bel.size
  refine ⟨⟨(h.dev.step h23).step h34, hl.step h34, fun hf => by have := (h.dev.low _ hf).2; omega, h1, hb.1, hb.2.1, hb.2.2.1, hb.2.2.2⟩, ⟨(h.ref.step h23).step h34, hx, fun hg => by have := (h.ref.low _ hg).2; omega, by omega, h.dev.len.1, hb.1, hb.2.1, hle.1, hle.2, hb.2.2.1⟩, ?_⟩
  rintro k (hk | hk) (hg | hg)
  · exact h.dis k hk hg
  · have := (h.dev.low k hk).2; omega
  · have := (h.ref.low k hg).2; omega
  · omega
theorem Wl.dev_write (h : Wl w0 w lb b F s l) (hd : Dev w0 w' b (grownF F w w') s1) (hm : Mod F w w') : Wl w0 w' lb b (grownF F w w') s1 l :=
  ⟨hd, h.log.keep (hm.block lb h.lt h.off), fun hk => hk.elim h.off fun hk => by have := h.lt; omega, h.lo, h.n1, h.nb, h.fb, h.sb⟩
theorem Rl.ref_write (h : Rl w0 w xb rb G s l) (hd : Ref w0 w' rb (grownF G w w') s1) (hm : Mod G w w') (hp : 1 ≤ s1.1.length) : Rl w0 w' xb rb (grownF G w w') s1 l :=
  ⟨hd, h.log.keep (hm.block xb h.lt h.off), fun hk => hk.elim h.off fun hk => by have := h.lt; omega, h.lo, hp, h.n1, h.nb, h.fn, h.sn, h.fb⟩
end
theorem need_le {list : List Rc} (h : list.length ≤ 200) : needZ (encs list) ≤ 301 := by
  have := encs_len list
  unfold needZ
  omega
theorem appS_len {s : State} {l : Lg} {list : List Rc} {spare : Int} (h : list.length ≤ 200) : (appS s l list spare).1.1.length = s.1.length ∧ (appS s l list spare).1.2.length ≤ s.2.length + 310 := by
  unfold appS
  split
  · refine ⟨rfl, ?_⟩
    have h1 := layC_le s.1 (chunks l.next l.first (encs list)) s.2
    rw [chunks_len] at h1
    have h2 := need_le h
    show (layC s.1 s.2 _).length ≤ _
    omega
  · exact ⟨rfl, Nat.le_add_right _ _⟩
theorem ckS_len {s : State} {l : Lg} {list : List Rc} {spare : Int} (h : list.length ≤ 200) : (ckS s l list spare).1.1.length = s.1.length ∧ (ckS s l list spare).1.2.length ≤ s.2.length + 310 := by
  unfold ckS
  split
  · refine ⟨rfl, ?_⟩
    have h1 := layC_le s.1 (chunks l.next l.first (encs list)) s.2
    rw [chunks_len] at h1
    have h2 := need_le h
    have h3 := layC_le s.1 [⟨l.next + needZ (encs list), l.next, true, []⟩] (layC s.1 s.2 (chunks l.next l.first (encs list)))
    show (layC s.1 (layC s.1 s.2 _) _).length ≤ _
    simp only [List.length_singleton] at h3
    omega
  · exact ⟨rfl, Nat.le_add_right _ _⟩
end Go.Proofs.YtgpedejeifmfdaaGreat
