/- WalRing: the walk of the law. -/
import Derived.Test.YtgpedejeifmfdaaWalK
namespace Go.Proofs.Ytgpedejeifmfdaa
open Go.RowKit Go.Sort

theorem tell_mark (n f : Nat) : tellZ [⟨n, f, true, []⟩] = some [] := by
  show tellRows (rowsF [] [⟨n, f, true, []⟩]) = some []
  rw [rowsF_cons, if_pos rfl]
  show tellRows [[], []] = some []
  unfold tellRows
  rw [tellRow_nil]
  unfold tellRows
  rw [tellRow_nil]
  rfl
/-- What the k-th round leaves: so many checkpoints of K sectors each. -/
structure RG (w0 w : World) (lb b : Nat) (F : Nat → Prop) (N : Nat) (base : List Rc) (K k : Nat) : Prop where
  is : ∃ s T, Wl w0 w lb b F s ⟨k * K + 1, (k - 1) * K + 1, (k - 1) * K + 1⟩ ∧ s.1.length = N ∧ s.2 = [] ∧ Seen s T ∧ Good T ∧ T.length = k * K ∧ (0 < k → K ≤ N ∧ (∀ h : T.length - 1 < T.length, T[T.length - 1].first = (k - 1) * K + 1) ∧ tellZ (T.drop ((k - 1) * K)) = some base)
  n : 1 ≤ N ∧ N ≤ 512
section
variable {w0 w w' : World} {lb b N K k : Nat} {F : Nat → Prop} {base : List Rc}
theorem RG.step (h : RG w0 w lb b F N base K k) (hb : Below w.heap.size w w') : RG w0 w' lb b F N base K k := by
  obtain ⟨s, T, h1, h2⟩ := h.is
  exact ⟨⟨s, T, h1.step hb, h2⟩, h.n⟩
theorem RG.bel (h : RG w0 w lb b F N base K k) : Below w0.heap.size w0 w := by
  obtain ⟨s, T, h1, h2⟩ := h.is
  exact h1.dev.bel
theorem begin_rg {N : Nat} (hw : Below w0.heap.size w0 w) (h1 : 1 ≤ N) (h2 : N ≤ 512) :
    Calls Try.prog 9 #[.int .i64 (N : Nat)] w fun e w' => ∃ b lb F, e = .returned (.tuple #[.pointer (some ⟨b, 0, none⟩), .pointer (some ⟨lb, 0, none⟩)]) ∧ RG w0 w' lb b F N base K 0 ∧ Below w.heap.size w w' := by
  refine (begin_wl hw h1 h2).mono ?_
  rintro e w' ⟨b, lb, F, rfl, h3, h4, h5⟩
  refine ⟨b, lb, F, rfl, ⟨⟨_, [], ?_, by simp [fresh], rfl, seen_fresh N, fun i hi => absurd hi (Nat.not_lt_zero _), by simp, fun h => absurd h (Nat.lt_irrefl 0)⟩, h1, h2⟩, h5⟩
  simpa using h3
theorem free_rg (h : RG w0 w lb b F N base K k) :
    Calls Try.prog 17 #[.pointer (some ⟨lb, 0, none⟩)] w fun e w' => e = .returned (.int .i64 ((N : Int) - ((k * K + 1 : Nat) : Int) + (((k - 1) * K + 1 : Nat) : Int))) ∧ Below w.heap.size w w' := by
  obtain ⟨s, T, h1, h2, -⟩ := h.is
  exact Free_wl h1 (by rw [h2])
theorem append_bad (h : RG w0 w lb b F N base K k) {a : Option Addr} {L c : Nat} (hx : RRow w a L c base) (hL : L ≤ 1000) (hr : rightAll base = false) :
    Calls Try.prog 10 #[.pointer (some ⟨lb, 0, none⟩), .slice a L c, .int .i64 0] w fun e w' => e = .returned (.int .i64 10) ∧ Below w0.heap.size w0 w' := by
  obtain ⟨s, T, h1, h2, h3, -⟩ := h.is
  refine (Append_wl h1 hx.recs hx.ok hL (by rw [h3]; exact Nat.zero_le _) (spare := 0) (by decide)).mono ?_
  rintro e w' ⟨rfl, g1, g2⟩
  have hE : fitE s.1.length ⟨k * K + 1, (k - 1) * K + 1, (k - 1) * K + 1⟩ base 0 0 = 10 := by
    unfold fitE
    rw [if_neg (by rw [hr]; decide)]
  rw [hE]
  exact ⟨rfl, g1.dev.bel⟩
/-- A checkpoint, and a force behind it. -/
theorem round_rg (h : RG w0 w lb b F N base K k) {a : Option Addr} {L c : Nat} (hx : RRow w a L c base) (hL : L ≤ 1000) (hK : K = needZ (encs base) + 1) (hk : (k + 2) * K ≤ 100000) :
    Calls Try.prog 15 #[.pointer (some ⟨lb, 0, none⟩), .slice a L c, .int .i64 0] w fun e w' => ∃ E : Int, e = .returned (.int .i64 E) ∧ (rightAll base = true → 2 * K ≤ N → E = 0) ∧ Below w0.heap.size w0 w' ∧
      Calls Try.prog 11 #[.pointer (some ⟨lb, 0, none⟩)] w' fun e w'' => e = .returned (.tuple #[]) ∧ ∃ G, RG w0 w'' lb b G N base K (if E = 0 then k + 1 else k) := by
  obtain ⟨s, T, h1, hl, hs2, h3, hg, hT, hkk⟩ := h.is
  have hN := h.n
  refine (Checkpoint_wl h1 hx.recs hx.ok hL (by rw [hs2]; exact Nat.zero_le _) (spare := 0) (by decide)).mono ?_
  rintro e w' ⟨rfl, g1, g2⟩
  have e2 : (k + 2) * K = k * K + 2 * K := by rw [Nat.add_mul]
  have e1 : (k + 1) * K = k * K + K := by rw [Nat.add_mul, Nat.one_mul]
  have e00 : (k - 1) * K ≤ k * K := Nat.mul_le_mul_right K (Nat.sub_le k 1)
  have e0 : k * K ≤ (k - 1) * K + K := by
    cases k with
    | zero => simp
    | succ k => rw [Nat.add_sub_cancel, Nat.add_mul, Nat.one_mul]; exact Nat.le_refl _
  refine ⟨_, rfl, fun hr hf => ?_, g1.dev.bel, ?_⟩
  · unfold fitE
    rw [if_pos hr, if_neg (by decide), if_neg]
    rw [hl, ← hK]
    simp only
    rintro (h | h) <;> omega
  have hz := fit_zero (l := ⟨k * K + 1, (k - 1) * K + 1, (k - 1) * K + 1⟩) (N := s.1.length) (list := base) (more := 1) (spare := 0)
  unfold ckS at g1
  generalize fitE s.1.length ⟨k * K + 1, (k - 1) * K + 1, (k - 1) * K + 1⟩ base 1 0 = E at *
  have hw := g1.dev.wrs
  refine (Force_wl g1).mono ?_
  rintro e w'' ⟨rfl, q1, q2⟩
  refine ⟨rfl, grownF F w w', ?_⟩
  by_cases hE : E = 0
  · rw [if_pos hE] at q1 hw ⊢
    obtain ⟨z1, z2, z3, z4⟩ := hz hE
    have hR := right_all z1 hx.ok
    rw [hl, ← hK] at z3
    have z3' : (0 : Int) ≤ (N : Int) - ((k * K + 1 : Nat) : Int) + (((k - 1) * K + 1 : Nat) : Int) - (K : Int) := z3
    have hKN : K ≤ N := by omega
    have hfl : (k - 1) * K + 1 < 4294967296 := by omega
    have hnum : Nums T.length (chunks (k * K + 1) ((k - 1) * K + 1) (encs base)) := by rw [hT]; exact nums_chunks (encs_fit hR) (by omega) hfl
    have hl1 : (T ++ chunks (k * K + 1) ((k - 1) * K + 1) (encs base)).length = k * K + needZ (encs base) := by rw [List.length_append, chunks_len, hT]
    have hmk : Nums (T ++ chunks (k * K + 1) ((k - 1) * K + 1) (encs base)).length [⟨k * K + 1 + needZ (encs base), k * K + 1, true, []⟩] := by
      rw [hl1, show k * K + 1 + needZ (encs base) = k * K + needZ (encs base) + 1 by omega]
      exact nums_mark (by omega) (by omega)
    have hpos : 0 < s.1.length := by omega
    have s1 := h3.lays hpos hnum
    have s2 := s1.lays hpos hmk
    have g3 := (hg.app hnum).app hmk
    have hl2 : (T ++ chunks (k * K + 1) ((k - 1) * K + 1) (encs base) ++ [(⟨k * K + 1 + needZ (encs base), k * K + 1, true, []⟩ : Sc)]).length = (k + 1) * K := by rw [List.length_append, hl1, List.length_singleton, e1, hK]; omega
    have hkm : (k + 1 - 1) * K = k * K := by rw [Nat.add_sub_cancel]
    refine ⟨⟨_, _, ?_, ?_, rfl, s2.flush hpos (fun p hp => (hw p hp).2.1), g3, hl2, fun _ => ⟨hKN, fun hh => ?_, ?_⟩⟩, hN⟩
    · simp only at q1
      rw [hkm, e1]
      have : k * K + K + 1 = k * K + 1 + needZ (encs base) + 1 := by omega
      rw [this]
      exact q1
    · simp only [settled_len]; exact hl
    · rw [hkm]
      simp
    · rw [hkm, List.append_assoc, ← hT, List.drop_left, hT]
      have := tell_append (T2 := [⟨k * K + 1 + needZ (encs base), k * K + 1, true, []⟩]) (fun S T' e => by cases e; rfl) (tell_whole (k * K + 1) ((k - 1) * K + 1) hR) (tell_mark _ _)
      rw [List.append_nil] at this
      exact this
  · rw [if_neg hE] at q1 hw ⊢
    have hse : settled s.1 s.2 = s.1 := by rw [hs2]; rfl
    simp only at q1
    rw [hse] at q1
    have hs : (s.1, ([] : List (Int × List Int))) = s := by rw [← hs2]
    rw [hs] at q1
    exact ⟨⟨s, T, q1, hl, hs2, h3, hg, hT, hkk⟩, hN⟩
theorem open_rg (h : RG w0 w lb b F N base K k) (hK : 0 < K) :
    Calls Try.prog 13 #[.pointer (some ⟨b, 0, none⟩)] w fun e w' => ∃ v, e = .returned (.tuple #[.pointer (some ⟨w.heap.size, 0, none⟩), v, .int .i64 0]) ∧ RcOwn w' (w.heap.size + 1) v (if k = 0 then [] else base) ∧ Below w0.heap.size w0 w' ∧ Below w.heap.size w w' := by
  obtain ⟨s, T, h1, hl, hs2, h3, hg, hT, hkk⟩ := h.is
  have hN := h.n
  by_cases hk : k = 0
  · subst hk
    obtain rfl : T = [] := List.eq_nil_of_length_eq_zero (by rw [hT]; simp)
    refine (Open_wl h1.dev (open_none h3)).mono ?_
    rintro e w' ⟨v, rfl, g1, g2, g3⟩
    exact ⟨v, rfl, g2, g1.dev.bel, g3⟩
  · obtain ⟨hKN, hf, ht⟩ := hkk (by omega)
    have hpos : 0 < k * K := Nat.mul_pos (by omega) hK
    have e0 : k * K = (k - 1) * K + K := by
      obtain ⟨k', rfl⟩ : ∃ k', k = k' + 1 := ⟨k - 1, by omega⟩
      rw [Nat.add_sub_cancel, Nat.add_mul, Nat.one_mul]
    have hop := open_seen h3 hg (by omega) (by omega) (hf (by omega)) (by omega) (by omega) (by omega) (by rw [Nat.add_sub_cancel]; exact ht)
    refine (Open_wl h1.dev hop).mono ?_
    rintro e w' ⟨v, rfl, g1, g2, g3⟩
    rw [if_neg hk]
    exact ⟨v, rfl, g2, g1.dev.bel, g3⟩
end
set_option maxHeartbeats 8000000 in
set_option maxRecDepth 100000 in
theorem lawWalRing {w : World} {n : Int} (_hn : (Lit.int .i64 n).wf = true) {rounds : Int} (_hr : (Lit.int .i64 rounds).wf = true) {a : Option Addr} {m c : Nat} {base : List Rc} (hx : RRow w a m c base) :
    Calls Try.prog 6 #[.int .i64 n, .int .i64 rounds, .slice a m c] w fun e w' => e = .returned (.bool true) ∧ Below w.heap.size w w' := by
  have hlen := hx.recs.len
  have HX := Lib.hid hx; clear hx
  have HLen := Lib.hid hlen; clear hlen
  go_enter Try.func6, Try.ntmps6
  go_wp2_with fail
  refine alive_wal.mono ?_
  rintro e w1 ⟨rfl, b1⟩
  have B1 := Lib.hid b1; clear b1
  by_cases h1 : n < 1
  · have d1 : decide (n < 1) = true := decide_eq_true h1
    go_wp2
    go_ret
    exact ⟨rfl, B1.out⟩
  have d1 : decide (n < 1) = false := decide_eq_false h1
  by_cases h2 : 60 < n
  · have d2 : decide (n > 60) = true := decide_eq_true h2
    have d2' : decide (60 < n) = true := decide_eq_true h2
    go_wp2
    go_ret
    exact ⟨rfl, B1.out⟩
  have d2 : decide (n > 60) = false := decide_eq_false h2
  have d2' : decide (60 < n) = false := decide_eq_false h2
  by_cases h3 : rounds < 0
  · have d3 : decide (rounds < 0) = true := decide_eq_true h3
    go_wp2
    go_ret
    exact ⟨rfl, B1.out⟩
  have d3 : decide (rounds < 0) = false := decide_eq_false h3
  by_cases h4 : 60 < rounds
  · have d4 : decide (rounds > 60) = true := decide_eq_true h4
    have d4' : decide (60 < rounds) = true := decide_eq_true h4
    go_wp2
    go_ret
    exact ⟨rfl, B1.out⟩
  have d4 : decide (rounds > 60) = false := decide_eq_false h4
  have d4' : decide (60 < rounds) = false := decide_eq_false h4
  by_cases h5 : 10 < m
  · have d5 : decide ((m : Int) > 10) = true := decide_eq_true (by omega)
    have d5' : decide (10 < m) = true := decide_eq_true h5
    go_wp2
    go_ret
    exact ⟨rfl, B1.out⟩
  have d5 : decide ((m : Int) > 10) = false := decide_eq_false (by omega)
  have d5' : decide (10 < m) = false := decide_eq_false h5
  obtain ⟨N, rfl⟩ : ∃ N : Nat, n = N := ⟨n.toNat, by omega⟩
  obtain ⟨R, rfl⟩ : ∃ R : Nat, rounds = R := ⟨rounds.toNat, by omega⟩
  have hN1 : 1 ≤ N := by omega
  have hN2 : N ≤ 60 := by omega
  have hR2 : R ≤ 60 := by omega
  have hbg := begin_rg (base := base) (K := needZ (encs base) + 1) (N := N) B1.out (by omega) (by omega)
  have Hbg := Lib.hid hbg; clear hbg
  have hel := encs_len base
  rw [HLen.out] at hel
  have hnz : needZ (encs base) ≤ 15 := by unfold needZ; omega
  clear hel
  go_wp2_with fail
  refine Hbg.out.mono ?_
  rintro e w2 ⟨b, lb, F, rfl, h6, -⟩
  clear Hbg d1 d2 d2' d3 d4 d4' d5 d5' h1 h2 h3 h4
  have hx2 := HX.out.keep h6.bel
  have hse := Sectors_log hx2.recs hx2.ok (by omega)
  unfold sectorsS at hse
  have H6 := Lib.hid h6; clear h6 hx2
  cases hra : rightAll base with
  | false =>
    rw [if_neg (by rw [hra]; decide)] at hse
    have Hse := Lib.hid hse; clear hse
    have HRa := Lib.hid hra; clear hra
    go_wp2_with fail
    refine Hse.out.mono ?_
    rintro e w3 ⟨rfl, b3⟩
    have h7 := H6.out.step b3
    have hap := append_bad h7 (HX.out.keep h7.bel) (by omega) HRa.out
    clear Hse H6 b3 h7
    have Hap := Lib.hid hap; clear hap
    go_wp2_with fail
    refine Hap.out.mono ?_
    rintro e w4 ⟨rfl, b4⟩
    have B4 := Lib.hid b4; clear b4 Hap
    go_wp2
    go_ret
    exact ⟨rfl, B4.out⟩
  | true =>
    rw [if_pos hra] at hse
    obtain ⟨nz, hnz2⟩ : ∃ nz, nz = needZ (encs base) := ⟨_, rfl⟩
    obtain ⟨K, hK⟩ : ∃ K, K = nz + 1 := ⟨_, rfl⟩
    rw [← hnz2] at hse H6 hnz
    rw [← hK] at H6
    have hK2 : K = needZ (encs base) + 1 := by rw [hK, hnz2]
    have HK2 := Lib.hid hK2; clear hK2 hnz2
    have Hse := Lib.hid hse; clear hse
    have HRa := Lib.hid hra; clear hra
    have HK := Lib.hid hK; clear hK
    have hnn : decide ((nz : Int) < 0) = false := decide_eq_false (by omega)
    go_wp2_with fail
    refine Hse.out.mono ?_
    rintro e w3 ⟨rfl, b3⟩
    have h7 := H6.out.step b3
    clear Hse H6 b3
    have H7 := Lib.hid h7; clear h7
    obtain ⟨FT, hFT⟩ : ∃ FT, FT = decide (2 * ((nz : Int) + 1) ≤ (N : Int)) := ⟨_, rfl⟩
    have hFT' : decide (2 * ((nz : Int) + 1) ≤ (N : Int)) = FT := hFT.symm
    have hft1 : FT = true → 2 * K ≤ N := fun h => by
      have := of_decide_eq_true (hFT.symm.trans h)
      have := HK.out
      omega
    clear hFT
    have HF1 := Lib.hid hft1; clear hft1
    go_wp2_with fail
    clear hFT'
    go_loopw [11] (fun i wr => ∃ j : Nat, j ≤ R ∧ i = .int .i64 j ∧ ∃ (k : Nat) (F : Nat → Prop), RG w wr lb b F N base K k ∧ k ≤ j ∧ (FT = true → k = j)) (fun i _ => R - (intOf i).toNat)
    case atStart => exact ⟨0, Nat.zero_le _, rfl, 0, F, H7.out, Nat.le_refl _, fun _ => rfl⟩
    case round =>
      clear H7
      obtain ⟨j, hj, rfl, k, F, h8, hkj, hkf⟩ := hrel
      obtain ⟨wo, rfl⟩ : ∃ wo, wo = wr := ⟨_, rfl⟩
      by_cases hlt : j < R
      · have hKb : K ≤ 16 := by have := HK.out; omega
        have hkK : (k + 2) * K ≤ 100000 := Nat.le_trans (Nat.mul_le_mul (show k + 2 ≤ 62 by omega) hKb) (by decide)
        have hro := round_rg h8 (HX.out.keep h8.bel) (by omega) HK2.out hkK
        clear hkK h8
        have Hro := Lib.hid hro; clear hro
        go_wp2_with fail
        refine Hro.out.mono ?_
        rintro e w9 ⟨E, rfl, hE, -, hfo⟩
        have hE := hE HRa.out
        clear Hro
        have Hfo := Lib.hid hfo; clear hfo
        have HE := Lib.hid hE; clear hE
        go_wp2_with fail
        refine Hfo.out.mono ?_
        rintro e w10 ⟨rfl, G, h10⟩
        clear Hfo
        cases FT with
        | true =>
          have hE0 := HE.out (HF1.out rfl)
          subst hE0
          rw [if_pos rfl] at h10
          have hfr := free_rg h10
          have hfv : (N : Int) - (((k + 1) * K + 1 : Nat) : Int) + (((k + 1 - 1) * K + 1 : Nat) : Int) = (N : Int) - (nz : Int) - 1 := by
            have := HK.out
            rw [Nat.add_sub_cancel, Nat.add_mul, Nat.one_mul]
            omega
          rw [hfv] at hfr
          clear HE hfv
          have Hfr := Lib.hid hfr; clear hfr
          have H10 := Lib.hid h10; clear h10
          have hkj2 := hkf rfl
          clear hkf
          go_wp2_with fail
          refine Hfr.out.mono ?_
          rintro e w11 ⟨rfl, b11⟩
          have h11 := H10.out.step b11
          clear Hfr H10 b11
          have H11 := Lib.hid h11; clear h11
          have hne : (((N : Int) - (nz : Int) - 1) != ((N : Int) - (nz : Int) - 1)) = false := by simp
          go_wp2_with fail
          go_roundw
          case rel => exact ⟨j + 1, by omega, by go_num, k + 1, G, H11.out, by omega, fun _ => by omega⟩
          case measure => simp [intOf]; omega
        | false =>
          have hkk : (if E = 0 then k + 1 else k) ≤ j + 1 := by split <;> omega
          generalize (if E = 0 then k + 1 else k) = k2 at h10 hkk
          clear HE
          have H10 := Lib.hid h10; clear h10
          go_wp2_with fail
          go_roundw
          case rel => exact ⟨j + 1, by omega, by go_num, k2, G, H10.out, hkk, fun h => by cases h⟩
          case measure => simp [intOf]; omega
      · obtain rfl : j = R := by omega
        have hop := open_rg h8 (by have := HK.out; omega)
        have Hop := Lib.hid hop; clear hop h8
        go_wp2_with fail
        refine Hop.out.mono ?_
        rintro e w9 ⟨v, rfl, r9, b9, -⟩
        clear Hop
        have B9 := Lib.hid b9; clear b9
        cases FT with
        | false =>
          clear r9
          go_wp2
          go_ret
          exact ⟨rfl, B9.out⟩
        | true =>
          have hkj2 := hkf rfl
          subst hkj2
          by_cases hj0 : k = 0
          · subst hj0
            clear r9
            go_wp2
            go_ret
            exact ⟨rfl, B9.out⟩
          · have hne : ((k : Int) == 0) = false := by simp; omega
            rw [if_neg hj0] at r9
            obtain ⟨ra, rc, rfl, hre, -⟩ := r9.recs
            rw [HLen.out] at hre ⊢
            have hsr := SameRecs_calls hre ((HX.out.keep B9.out).recs) rfl
            clear r9 hre
            have Hsr := Lib.hid hsr; clear hsr
            go_wp2_with fail
            refine Hsr.out.mono ?_
            rintro e w10 ⟨rfl, nd, rfl⟩
            have hb := B9.out.trans ((below_drawn w9 nd).mono B9.out.size)
            generalize w9.drewN nd = w10 at hb ⊢
            have HB10 := Lib.hid hb; clear hb B9 Hsr
            go_wp2
            go_ret
            exact ⟨rfl, HB10.out⟩
end Go.Proofs.Ytgpedejeifmfdaa
