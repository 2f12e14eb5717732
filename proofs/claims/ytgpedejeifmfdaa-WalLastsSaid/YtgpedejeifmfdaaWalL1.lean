/- WalLasts: the walk of the law. -/
import Derived.Test.YtgpedejeifmfdaaWalME
namespace Go.Proofs.Ytgpedejeifmfdaa
open Go.RowKit Go.Sort

/-- What the log's history is, with what was told. -/
structure LS (w0 w : World) (lb b : Nat) (F : Nat → Prop) (N : Nat) (all : List Rc) (safe : Nat) : Prop where
  is : ∃ s T m, Wl w0 w lb b F s ⟨T.length + 1, 1, 1⟩ ∧ Hist s T m N ∧ Seen s T ∧ Tells T all m safe ∧ ∀ S ∈ T, S.first = 1
  n : 1 ≤ N ∧ N ≤ 512
theorem Hist.wrs {s : State} {T : List Sc} {m N : Nat} (h : Hist s T m N) : ∀ p ∈ s.2, 0 ≤ p.1 := fun p hp => by
  rw [h.cache] at hp
  obtain ⟨S, -, rfl⟩ := List.mem_map.1 hp
  exact Int.natCast_nonneg _
section
variable {w0 w w' : World} {lb b N safe : Nat} {F : Nat → Prop} {all : List Rc}
theorem LS.step (h : LS w0 w lb b F N all safe) (hb : Below w.heap.size w w') : LS w0 w' lb b F N all safe := by
  obtain ⟨s, T, m, h1, h2⟩ := h.is
  exact ⟨⟨s, T, m, h1.step hb, h2⟩, h.n⟩
theorem LS.bel (h : LS w0 w lb b F N all safe) : Below w0.heap.size w0 w := by
  obtain ⟨s, T, m, h1, h2⟩ := h.is
  exact h1.dev.bel
theorem LS.low (h : LS w0 w lb b F N all safe) : (∀ k, F k → w0.heap.size ≤ k ∧ k < w.heap.size) ∧ w0.heap.size ≤ lb ∧ lb < w.heap.size := by
  obtain ⟨s, T, m, h1, h2⟩ := h.is
  exact ⟨h1.dev.low, h1.lo, h1.lt⟩
theorem LS.aside {K : Nat → Prop} (h : LS w0 w lb b F N all safe) (hm : Mod K w w') (ha : ∀ k, F k ∨ k = lb → ¬ K k) (hK : ∀ k, K k → w0.heap.size ≤ k) : LS w0 w' lb b F N all safe := by
  obtain ⟨s, T, m, h1, h2⟩ := h.is
  exact ⟨⟨s, T, m, h1.aside hm ha hK, h2⟩, h.n⟩
theorem begin_ls {N : Nat} (hw : Below w0.heap.size w0 w) (h1 : 1 ≤ N) (h2 : N ≤ 512) :
    Calls Try.prog 9 #[.int .i64 (N : Nat)] w fun e w' => ∃ b lb F, e = .returned (.tuple #[.pointer (some ⟨b, 0, none⟩), .pointer (some ⟨lb, 0, none⟩)]) ∧ LS w0 w' lb b F N [] 0 ∧ (∀ k, F k ∨ k = lb → w.heap.size ≤ k) ∧ Below w.heap.size w w' := by
  refine (begin_wl hw h1 h2).mono ?_
  rintro e w' ⟨b, lb, F, rfl, h3, h4, h5⟩
  exact ⟨b, lb, F, rfl, ⟨⟨_, [], 0, h3, hist_fresh N, seen_fresh N, tells_nil, fun S hS => by cases hS⟩, h1, h2⟩, h4, h5⟩
/-- Append within a history: the records are told, or nothing is turned. -/
theorem append_ls (h : LS w0 w lb b F N all safe) {a : Option Addr} {L c : Nat} {list : List Rc} (hx : RRow w a L c list) (hL : L ≤ 1000) {spare : Int} (hsp : -9223372036854775808 ≤ spare ∧ spare ≤ 9223372036854775807) :
    Calls Try.prog 10 #[.pointer (some ⟨lb, 0, none⟩), .slice a L c, .int .i64 spare] w fun e w' => ∃ E : Int, e = .returned (.int .i64 E) ∧ LS w0 w' lb b (grownF F w w') N (if E = 0 then all ++ list else all) safe ∧ Mod (fun k => F k ∨ k = lb) w w' := by
  obtain ⟨s, T, m, h1, h2, h3, h4, h5⟩ := h.is
  have hl := h2.len
  have hN := h.n
  have hm := h2.le
  have hc : s.2.length ≤ 990000 := by rw [h2.cache]; simp; have := h2.fits; omega
  refine (Append_wl h1 hx.recs hx.ok hL hc hsp).mono ?_
  rintro e w' ⟨rfl, g1, g2⟩
  refine ⟨_, rfl, ?_, g2⟩
  have hz := fit_zero (l := ⟨T.length + 1, 1, 1⟩) (N := s.1.length) (list := list) (more := 0) (spare := spare)
  unfold appS at g1
  generalize fitE s.1.length ⟨T.length + 1, 1, 1⟩ list 0 spare = E at *
  by_cases hE : E = 0
  · rw [if_pos hE] at g1
    rw [if_pos hE]
    obtain ⟨z1, z2, z3, z4⟩ := hz hE
    have hR := right_all z1 hx.ok
    have hnum : Nums T.length (chunks (T.length + 1) 1 (encs list)) := nums_chunks (encs_fit hR) (by simpa using z4) (by decide)
    have hle : T.length + (chunks (T.length + 1) 1 (encs list)).length ≤ N := by
      rw [chunks_len]
      have : spare ≤ (N : Int) - ((T.length + 1 : Nat) : Int) + ((1 : Nat) : Int) - ((needZ (encs list) + 0 : Nat) : Int) := by rw [← hl]; exact z3
      omega
    have hlen : (T ++ chunks (T.length + 1) 1 (encs list)).length = T.length + needZ (encs list) := by rw [List.length_append, chunks_len]
    refine ⟨⟨_, T ++ chunks (T.length + 1) 1 (encs list), m, ?_, h2.lays hle hnum, h3.lays (by omega) hnum, h4.app hR h2.le, fun S hS => ?_⟩, hN⟩
    · have := g1
      rw [hlen]
      simp only at this
      rw [show T.length + needZ (encs list) + 1 = T.length + 1 + needZ (encs list) by omega]
      exact this
    · rcases List.mem_append.1 hS with hS | hS
      · exact h5 S hS
      · exact chunks_first S hS
  · rw [if_neg hE] at g1
    rw [if_neg hE]
    exact ⟨⟨s, T, m, g1, h2, h3, h4, h5⟩, hN⟩
theorem force_ls (h : LS w0 w lb b F N all safe) :
    Calls Try.prog 11 #[.pointer (some ⟨lb, 0, none⟩)] w fun e w' => e = .returned (.tuple #[]) ∧ LS w0 w' lb b F N all all.length ∧ Mod (fun k => F k ∨ k = lb) w w' := by
  obtain ⟨s, T, m, h1, h2, h3, h4, h5⟩ := h.is
  have hl := h2.len
  have hN := h.n
  refine (Force_wl h1).mono ?_
  rintro e w' ⟨rfl, g1, g2⟩
  exact ⟨rfl, ⟨⟨_, T, T.length, g1, h2.flush, h3.flush (by omega) h2.wrs, h4.force, h5⟩, hN⟩, g2⟩
/-- Behind a crash: a disk that Open tells a beginning of all. -/
theorem crash_ls (h : LS w0 w lb b F N all safe) (kp te : Int) :
    Calls Try.prog 12 #[.pointer (some ⟨b, 0, none⟩), .int .i64 kp, .int .i64 te] w fun e w' => e = .returned (.tuple #[]) ∧ (∃ S T q, Dev w0 w' b F (S, []) ∧ S.length = N ∧ Seen (S, []) T ∧ Good T ∧ T.length ≤ N ∧ (∀ S ∈ T, S.first = 1) ∧ tellZ T = some (all.take q) ∧ q ≤ all.length ∧ safe ≤ q ∧ openS (S, []) = some ((T.length + 1, 1, 1), all.take q)) ∧ Mod F w w' := by
  obtain ⟨s, T, m, h1, h2, h3, h4, h5⟩ := h.is
  have hl := h2.len
  have hN := h.n
  refine (Crash_dev h1.dev kp te).mono ?_
  rintro e w' ⟨rfl, g1, g2⟩
  obtain ⟨j, j1, j2, j3⟩ := h2.crash kp te
  obtain ⟨q, q1, q2, q3, -⟩ := h4 j j2
  have hcl : (crashed s.1 s.2 kp te).length = N := by rw [crashed_len, hl]
  have hfit := h2.fits
  have hTl : (T.take j).length ≤ N := by rw [List.length_take]; omega
  have hf : ∀ S ∈ T.take j, S.first = 1 := fun S hS => h5 S (List.mem_of_mem_take hS)
  have hg := h2.good.take j
  exact ⟨rfl, ⟨_, T.take j, q, g1, hcl, j3, hg, hTl, hf, q2, q1, q3 j1, open_first j3 hg (by simp only [hcl]; omega) (by simp only [hcl]; exact hTl) hf q2⟩, g2⟩
end
set_option maxHeartbeats 8000000 in
set_option maxRecDepth 100000 in
theorem lawWalLasts {w : World} {n : Int} (_hn : (Lit.int .i64 n).wf = true) {a : Option Addr} {m c : Nat} {xs : List (SlC × List Rc)} (hx : RRows w a m c xs)
    {forced : Int} (_hf : (Lit.int .i64 forced).wf = true) {keep : Int} (_hk : (Lit.int .i64 keep).wf = true) {tear : Int} (_ht : (Lit.int .i64 tear).wf = true) :
    Calls Try.prog 3 #[.int .i64 n, .slice a m c, .int .i64 forced, .int .i64 keep, .int .i64 tear] w fun e w' => e = .returned (.bool true) ∧ Below w.heap.size w w' := by
  have hlen := hx.len
  have hle := hx.recs.le
  have hmx := hx.recs.max
  have HX := Lib.hid hx; clear hx
  have HLen := Lib.hid hlen; clear hlen
  go_enter Try.func3, Try.ntmps3
  go_wp2_with fail
  refine alive_wal.mono ?_
  rintro e w1 ⟨rfl, b1⟩
  have B1 := Lib.hid b1; clear b1
  by_cases h1 : n < 1
  · have d1 : decide (n < 1) = true := decide_eq_true h1
    go_wp2
    go_ret
    exact ⟨rfl, B1.out⟩
  have d1 : decide (n < 1) = false := decide_eq_false h1
  by_cases h2 : 200 < n
  · have d2 : decide (n > 200) = true := decide_eq_true h2
    have d2' : decide (200 < n) = true := decide_eq_true h2
    go_wp2
    go_ret
    exact ⟨rfl, B1.out⟩
  have d2 : decide (n > 200) = false := decide_eq_false h2
  have d2' : decide (200 < n) = false := decide_eq_false h2
  by_cases h3 : 30 < m
  · have d3 : decide ((m : Int) > 30) = true := decide_eq_true (by omega)
    have d3' : decide (30 < m) = true := decide_eq_true h3
    go_wp2
    go_ret
    exact ⟨rfl, B1.out⟩
  have d3 : decide ((m : Int) > 30) = false := decide_eq_false (by omega)
  have d3' : decide (30 < m) = false := decide_eq_false h3
  obtain ⟨N, rfl⟩ : ∃ N : Nat, n = N := ⟨n.toNat, by omega⟩
  have hbg := begin_ls (N := N) B1.out (by omega) (by omega)
  have Hbg := Lib.hid hbg; clear hbg
  have hN1 : 1 ≤ N := by omega
  have hN2 : N ≤ 200 := by omega
  go_wp2_with fail
  refine Hbg.out.mono ?_
  rintro e w2 ⟨b, lb, F, rfl, h4, hf4, b4⟩
  clear Hbg d1 d2 d2' d3 d3' h1 h2 hf4 b4
  have b5 : Below w2.heap.size w2 (w2.alloc (.cells #[] rcE)) := (Below.refl _ _).alloc (Nat.le_refl _) _
  have o5 : RcOwn (w2.alloc (.cells #[] rcE)) w.heap.size (.slice (some ⟨w2.heap.size, 0, none⟩) 0 0) [] := (ROwn.made w2).mono h4.bel.size
  have h5 := h4.step b5
  have hA5 : ∀ g, (Value.slice (some ⟨w2.heap.size, 0, none⟩) 0 0).ownBlock = some g → ¬ (F g ∨ g = lb) := fun g hg => by
    have e : w2.heap.size = g := by simpa [Value.ownBlock] using hg
    rintro (h | h)
    · have := (h4.low.1 g h).2; omega
    · have := h4.low.2.2; omega
  have H5 := Lib.hid h5; clear h5 h4 b5
  have O5 := Lib.hid o5; clear o5
  have HA5 := Lib.hid hA5; clear hA5
  go_wp2_with fail
  go_loopw [13, 14, 15] (fun A sf i wr => ∃ j : Nat, j ≤ m ∧ i = .int .i64 j ∧ ∃ (all : List Rc) (safe : Nat), sf = .int .i64 (safe : Nat) ∧ ∃ F, LS w wr lb b F N all safe ∧ RcOwn wr w.heap.size A all ∧ (∀ g, A.ownBlock = some g → ¬ (F g ∨ g = lb)) ∧ all.length ≤ 20 * j ∧ safe ≤ all.length) (fun _ _ i _ => m - (intOf i).toNat)
  case atStart => exact ⟨0, Nat.zero_le _, rfl, [], 0, rfl, F, H5.out, O5.out, HA5.out, Nat.le_refl _, Nat.le_refl _⟩
  case round =>
    clear H5 O5 HA5
    obtain ⟨j, hj, rfl, all, safe, rfl, F, h6, o6, hA6, hal, hsf⟩ := hrel
    obtain ⟨wo, rfl⟩ : ∃ wo, wo = wr := ⟨_, rfl⟩
    obtain ⟨aa, ac, rfl⟩ := o6.shape
    obtain ⟨AL, hAL⟩ : ∃ L, L = all.length := ⟨_, rfl⟩
    rw [← hAL] at o6 hA6 hal hsf ⊢
    have HAL := Lib.hid hAL; clear hAL
    by_cases hlt : j < m
    · have hjx : j < xs.length := by rw [HLen.out]; exact hlt
      have hx6 := HX.out.keep h6.bel
      obtain ⟨ga, oa, rfl⟩ := hx6.recs.addr (by omega)
      have hc := hx6.at hjx
      have hro := hx6.row _ (List.getElem_mem hjx)
      have hcw := HX.out.at hjx
      have hrw := HX.out.row _ (List.getElem_mem hjx)
      obtain ⟨X, hX⟩ : ∃ X, X = xs[j] := ⟨_, rfl⟩
      rw [← hX] at hc hro hcw hrw
      clear hX hx6
      obtain ⟨⟨xa, xn, xc⟩, row⟩ := X
      simp only at hc hro hcw hrw
      have hxn := hro.recs.len
      have i1 : (0 : Int) ≤ (j : Int) := by omega
      have i2 : (j : Int) < (m : Int) := by omega
      by_cases h20 : 20 < xn
      · have d1 : decide ((xn : Int) > 20) = true := decide_eq_true (by omega)
        have d1' : decide (20 < xn) = true := decide_eq_true h20
        have hbel := h6.bel
        clear h6 o6 hA6 hro hxn hcw hrw
        have HB := Lib.hid hbel; clear hbel
        go_wp2
        go_ret
        exact ⟨rfl, HB.out⟩
      have d1 : decide ((xn : Int) > 20) = false := decide_eq_false (by omega)
      have d1' : decide (20 < xn) = false := decide_eq_false h20
      have hap := append_ls h6 hro (by omega) (spare := 0) (by decide)
      have hlow := h6.low
      have hcell : ∀ w', Below w.heap.size w w' → w'.cell? ⟨ga, oa + j, none⟩ = some (.slice xa xn xc) := fun w' hb => (hb.cell (World.block_lt_of_cell? _ _ hcw)).trans hcw
      have Hap := Lib.hid hap; clear hap
      have O6 := Lib.hid o6; clear o6
      have HA6 := Lib.hid hA6; clear hA6
      have HRo := Lib.hid hro; clear hro
      have HLo := Lib.hid hlow; clear hlow
      have HCe := Lib.hid hcell; clear hcell hcw
      have HRw := Lib.hid hrw; clear hrw
      clear h6
      go_wp2_with fail
      refine Hap.out.mono ?_
      rintro e w7 ⟨E, rfl, h7, m7⟩
      have o7 := O6.out.grown m7 (fun g hg => HA6.out g hg)
      have hc7 := HCe.out w7 h7.bel
      have hA7 : ∀ g, (Value.slice aa AL ac).ownBlock = some g → ¬ (grownF F wo w7 g ∨ g = lb) := fun g hg => by
        have hlt := (O6.out.lt g hg).2
        rintro ((h | h) | h)
        · exact HA6.out g hg (.inl h)
        · omega
        · exact HA6.out g hg (.inr h)
      clear Hap O6 HA6 HLo hc
      generalize grownF F wo w7 = G at h7 hA7
      by_cases hE : E = 0
      · subst hE
        rw [if_pos rfl] at h7
        have hro7 := HRw.out.keep h7.bel
        have hlow := h7.low
        have H7 := Lib.hid h7; clear h7 m7 HCe HRo HRw
        have HA7 := Lib.hid hA7; clear hA7
        have O7 := Lib.hid o7; clear o7
        go_wp2_with (with_reducible refine stop_builtin .append ?_)
        refine unpark ?_
        refine wpList_append_recs rcElem w7 rfl _ _ rfl w.heap.size (.slice aa AL ac) all rfl O7.out xa xn xc row rfl hro7.recs (by rw [← HAL.out]; omega) H7.out.bel.size ?_
        intro v8 w8 own8 g8 hv8
        have h8 := H7.out.aside (Mod.of_grown (F := fun k => (Value.slice aa AL ac).ownBlock = some k) g8 fun k e => e) (fun k hk e => HA7.out k e hk) (fun k e => (O7.out.lt k e).1)
        obtain ⟨aa8, ac8, rfl⟩ := own8.shape
        obtain ⟨AL8, hAL8⟩ : ∃ L, L = (all ++ row).length := ⟨_, rfl⟩
        rw [← hAL8] at own8 hv8 ⊢
        have hA8 : ∀ g, (Value.slice aa8 AL8 ac8).ownBlock = some g → ¬ (G g ∨ g = lb) := fun g hg => by
          rcases hv8 with h | h
          · exact HA7.out g (by rw [← h]; exact hg)
          · rw [hg] at h
            injection h with h
            subst h
            rintro (h | h)
            · have := (hlow.1 _ h).2; omega
            · have := hlow.2.2; omega
        have hAL8' : AL8 = AL + xn := by rw [hAL8, List.length_append, ← HAL.out, hxn]
        clear H7 O7 HA7 hro7 g8 hv8 hlow
        have H7 := Lib.hid h8; clear h8
        have O7 := Lib.hid own8; clear own8
        have HA := Lib.hid hA8; clear hA8
        have HAL8 := Lib.hid hAL8; clear hAL8
        have hAL9 : AL8 ≤ AL + xn := Nat.le_of_eq hAL8'
        have hAL10 : AL + xn ≤ AL8 := Nat.le_of_eq hAL8'.symm
        clear hAL8'
        by_cases hfo : (j : Int) < forced
        · have d2 : decide ((j : Int) < forced) = true := decide_eq_true hfo
          have hfc := force_ls H7.out
          rw [← HAL8.out] at hfc
          have Hfc := Lib.hid hfc; clear hfc
          go_wp2_with fail
          refine Hfc.out.mono ?_
          rintro e w9 ⟨rfl, h9, m9⟩
          have o9 := O7.out.grown m9 (fun g hg => HA.out g hg)
          clear H7 O7 Hfc m9
          have H9 := Lib.hid h9; clear h9
          have O9 := Lib.hid o9; clear o9
          go_wp2_with fail
          go_roundw
          case rel => exact ⟨j + 1, by omega, by go_num, (all ++ row), AL8, rfl, G, H9.out, O9.out, HA.out, by rw [← HAL8.out]; omega, by rw [HAL8.out]; exact Nat.le_refl _⟩
          case measure => simp [intOf]; omega
        · have d2 : decide ((j : Int) < forced) = false := decide_eq_false hfo
          go_wp2_with fail
          go_roundw
          case rel => exact ⟨j + 1, by omega, by go_num, (all ++ row), safe, rfl, G, H7.out, O7.out, HA.out, by rw [← HAL8.out]; omega, by rw [← HAL8.out]; omega⟩
          case measure => simp [intOf]; omega
      · have hE0 : (E == 0) = false := by simpa using hE
        rw [if_neg hE] at h7
        have HA := Lib.hid hA7; clear hA7
        have H7 := Lib.hid h7; clear h7
        have O7 := Lib.hid o7; clear o7
        clear hc7 m7 HCe HRo HRw
        by_cases hfo : (j : Int) < forced
        · have d2 : decide ((j : Int) < forced) = true := decide_eq_true hfo
          have hfc := force_ls H7.out
          rw [← HAL.out] at hfc
          have Hfc := Lib.hid hfc; clear hfc
          go_wp2_with fail
          refine Hfc.out.mono ?_
          rintro e w9 ⟨rfl, h9, m9⟩
          have o9 := O7.out.grown m9 (fun g hg => HA.out g hg)
          clear H7 O7 Hfc m9
          have H9 := Lib.hid h9; clear h9
          have O9 := Lib.hid o9; clear o9
          go_wp2_with fail
          go_roundw
          case rel => exact ⟨j + 1, by omega, by go_num, all, AL, rfl, G, H9.out, O9.out, HA.out, by rw [← HAL.out]; omega, by rw [HAL.out]; exact Nat.le_refl _⟩
          case measure => simp [intOf]; omega
        · have d2 : decide ((j : Int) < forced) = false := decide_eq_false hfo
          go_wp2_with fail
          go_roundw
          case rel => exact ⟨j + 1, by omega, by go_num, all, safe, rfl, G, H7.out, O7.out, HA.out, by rw [← HAL.out]; omega, by rw [← HAL.out]; omega⟩
          case measure => simp [intOf]; omega
    · obtain rfl : j = m := by omega
      have hcr := crash_ls h6 keep tear
      have Hcr := Lib.hid hcr; clear hcr h6
      have O6 := Lib.hid o6; clear o6
      have HA6 := Lib.hid hA6; clear hA6
      go_wp2_with fail
      refine Hcr.out.mono ?_
      rintro e w7 ⟨rfl, ⟨S, T, q, d7, -, -, -, -, -, -, hq1, hq2, hop⟩, m7⟩
      have o7 := O6.out.grown m7 (fun g hg h => HA6.out g hg (.inl h))
      have ho := Open_wl d7 hop
      clear Hcr O6 HA6 m7 d7 hop
      have Ho := Lib.hid ho; clear ho
      have O7 := Lib.hid o7; clear o7
      go_wp2_with fail
      refine Ho.out.mono ?_
      rintro e w8 ⟨v8, rfl, h8, r8, b8⟩
      have o8 := O7.out.below b8
      have hbel := h8.dev.bel
      obtain ⟨ra, rc, rfl, hre, -⟩ := r8.recs
      obtain ⟨ta, tc, e9, hte, -⟩ := o8.recs
      injection e9 with e91 e92 e93
      subst e91 e93
      rw [← HAL.out] at hte
      have hut := hte.upto (i := q) (by rw [HAL.out]; exact hq1)
      have hql : (all.take q).length = q := by rw [List.length_take]; omega
      rw [hql] at hre ⊢
      have hsr := SameRecs_calls hre hut rfl
      have hqA : q ≤ AL := by rw [HAL.out]; exact hq1
      have hAc : AL ≤ ac := hte.le
      have k1 : decide ((q : Int) < (safe : Int)) = false := decide_eq_false (by omega)
      have k1' : decide (q < safe) = false := decide_eq_false (by omega)
      have k2 : decide ((q : Int) > (AL : Int)) = false := decide_eq_false (by omega)
      have k2' : decide (AL < q) = false := decide_eq_false (by omega)
      have i1 : (0 : Int) ≤ (q : Int) := by omega
      have i2 : (q : Int) ≤ (ac : Int) := by omega
      clear Ho O7 r8 hre hte hut h8 o8 b8 hql
      have Hsr := Lib.hid hsr; clear hsr
      have HB := Lib.hid hbel; clear hbel
      go_wp2_with fail
      refine Hsr.out.mono ?_
      rintro e w9 ⟨rfl, nd, rfl⟩
      have hb := HB.out.trans ((below_drawn w8 nd).mono HB.out.size)
      generalize w8.drewN nd = w9 at hb ⊢
      have HB9 := Lib.hid hb; clear hb HB Hsr
      go_wp2
      go_ret
      exact ⟨rfl, HB9.out⟩
end Go.Proofs.Ytgpedejeifmfdaa
