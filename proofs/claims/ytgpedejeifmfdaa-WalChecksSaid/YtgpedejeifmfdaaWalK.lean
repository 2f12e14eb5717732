/- The log within the laws: a history and what it tells; behind a crash. -/
import Derived.Test.YtgpedejeifmfdaaWalME
namespace Go.Proofs.Ytgpedejeifmfdaa
open Go.RowKit Go.Sort

/-- What the log's history is, with what was told. -/
structure LS (w0 w : World) (lb b : Nat) (F : Nat → Prop) (N : Nat) (all : List Rc) (safe : Nat) : Prop where
  is : ∃ s T m, Wl w0 w lb b F s ⟨T.length + 1, 1, 1⟩ ∧ Hist s T m N ∧ Seen s T ∧ Tells T all m safe ∧ ∀ S ∈ T, S.first = 1
  n : 1 ≤ N ∧ N ≤ 512
theorem Hist.wrs {s : State} {T : List Sc} {m N : Nat} (h : Hist s T m N) : ∀ p ∈ s.2, 0 ≤ p.1 := fun p hp => by
  rw [h.cache] at hp
  obtain ⟨S, -, rfl⟩ := List.mem_map.1 hp
  exact Int.natCast_nonneg _
section
variable {w0 w w' : World} {lb b N safe : Nat} {F : Nat → Prop} {all : List Rc}
theorem LS.step (h : LS w0 w lb b F N all safe) (hb : Below w.heap.size w w') : LS w0 w' lb b F N all safe := by
  obtain ⟨s, T, m, h1, h2⟩ := h.is
  exact ⟨⟨s, T, m, h1.step hb, h2⟩, h.n⟩
theorem LS.bel (h : LS w0 w lb b F N all safe) : Below w0.heap.size w0 w := by
  obtain ⟨s, T, m, h1, h2⟩ := h.is
  exact h1.dev.bel
theorem LS.low (h : LS w0 w lb b F N all safe) : (∀ k, F k → w0.heap.size ≤ k ∧ k < w.heap.size) ∧ w0.heap.size ≤ lb ∧ lb < w.heap.size := by
  obtain ⟨s, T, m, h1, h2⟩ := h.is
  exact ⟨h1.dev.low, h1.lo, h1.lt⟩
theorem LS.aside {K : Nat → Prop} (h : LS w0 w lb b F N all safe) (hm : Mod K w w') (ha : ∀ k, F k ∨ k = lb → ¬ K k) (hK : ∀ k, K k → w0.heap.size ≤ k) : LS w0 w' lb b F N all safe := by
  obtain ⟨s, T, m, h1, h2⟩ := h.is
  exact ⟨⟨s, T, m, h1.aside hm ha hK, h2⟩, h.n⟩
theorem begin_ls {N : Nat} (hw : Below w0.heap.size w0 w) (h1 : 1 ≤ N) (h2 : N ≤ 512) :
    Calls Try.prog 9 #[.int .i64 (N : Nat)] w fun e w' => ∃ b lb F, e = .returned (.tuple #[.pointer (some ⟨b, 0, none⟩), .pointer (some ⟨lb, 0, none⟩)]) ∧ LS w0 w' lb b F N [] 0 ∧ (∀ k, F k ∨ k = lb → w.heap.size ≤ k) ∧ Below w.heap.size w w' := by
  refine (begin_wl hw h1 h2).mono ?_
  rintro e w' ⟨b, lb, F, rfl, h3, h4, h5⟩
  exact ⟨b, lb, F, rfl, ⟨⟨_, [], 0, h3, hist_fresh N, seen_fresh N, tells_nil, fun S hS => by cases hS⟩, h1, h2⟩, h4, h5⟩
/-- Append within a history: the records are told, or nothing is turned. -/
theorem append_ls (h : LS w0 w lb b F N all safe) {a : Option Addr} {L c : Nat} {list : List Rc} (hx : RRow w a L c list) (hL : L ≤ 1000) {spare : Int} (hsp : -9223372036854775808 ≤ spare ∧ spare ≤ 9223372036854775807) :
    Calls Try.prog 10 #[.pointer (some ⟨lb, 0, none⟩), .slice a L c, .int .i64 spare] w fun e w' => ∃ E : Int, e = .returned (.int .i64 E) ∧ LS w0 w' lb b (grownF F w w') N (if E = 0 then all ++ list else all) safe ∧ Mod (fun k => F k ∨ k = lb) w w' := by
  obtain ⟨s, T, m, h1, h2, h3, h4, h5⟩ := h.is
  have hl := h2.len
  have hN := h.n
  have hm := h2.le
  have hc : s.2.length ≤ 990000 := by rw [h2.cache]; simp; have := h2.fits; omega
  refine (Append_wl h1 hx.recs hx.ok hL hc hsp).mono ?_
  rintro e w' ⟨rfl, g1, g2⟩
  refine ⟨_, rfl, ?_, g2⟩
  have hz := fit_zero (l := ⟨T.length + 1, 1, 1⟩) (N := s.1.length) (list := list) (more := 0) (spare := spare)
  unfold appS at g1
  generalize fitE s.1.length ⟨T.length + 1, 1, 1⟩ list 0 spare = E at *
  by_cases hE : E = 0
  · rw [if_pos hE] at g1
    rw [if_pos hE]
    obtain ⟨z1, z2, z3, z4⟩ := hz hE
    have hR := right_all z1 hx.ok
    have hnum : Nums T.length (chunks (T.length + 1) 1 (encs list)) := nums_chunks (encs_fit hR) (by simpa using z4) (by decide)
    have hle : T.length + (chunks (T.length + 1) 1 (encs list)).length ≤ N := by
      rw [chunks_len]
      have : spare ≤ (N : Int) - ((T.length + 1 : Nat) : Int) + ((1 : Nat) : Int) - ((needZ (encs list) + 0 : Nat) : Int) := by rw [← hl]; exact z3
      omega
    have hlen : (T ++ chunks (T.length + 1) 1 (encs list)).length = T.length + needZ (encs list) := by rw [List.length_append, chunks_len]
    refine ⟨⟨_, T ++ chunks (T.length + 1) 1 (encs list), m, ?_, h2.lays hle hnum, h3.lays (by omega) hnum, h4.app hR h2.le, fun S hS => ?_⟩, hN⟩
    · have := g1
      rw [hlen]
      simp only at this
      rw [show T.length + needZ (encs list) + 1 = T.length + 1 + needZ (encs list) by omega]
      exact this
    · rcases List.mem_append.1 hS with hS | hS
      · exact h5 S hS
      · exact chunks_first S hS
  · rw [if_neg hE] at g1
    rw [if_neg hE]
    exact ⟨⟨s, T, m, g1, h2, h3, h4, h5⟩, hN⟩
theorem force_ls (h : LS w0 w lb b F N all safe) :
    Calls Try.prog 11 #[.pointer (some ⟨lb, 0, none⟩)] w fun e w' => e = .returned (.tuple #[]) ∧ LS w0 w' lb b F N all all.length ∧ Mod (fun k => F k ∨ k = lb) w w' := by
  obtain ⟨s, T, m, h1, h2, h3, h4, h5⟩ := h.is
  have hl := h2.len
  have hN := h.n
  refine (Force_wl h1).mono ?_
  rintro e w' ⟨rfl, g1, g2⟩
  exact ⟨rfl, ⟨⟨_, T, T.length, g1, h2.flush, h3.flush (by omega) h2.wrs, h4.force, h5⟩, hN⟩, g2⟩
/-- Behind a crash: a disk that Open tells a beginning of all. -/
theorem crash_ls (h : LS w0 w lb b F N all safe) (kp te : Int) :
    Calls Try.prog 12 #[.pointer (some ⟨b, 0, none⟩), .int .i64 kp, .int .i64 te] w fun e w' => e = .returned (.tuple #[]) ∧ (∃ S T q, Dev w0 w' b F (S, []) ∧ S.length = N ∧ Seen (S, []) T ∧ Good T ∧ T.length ≤ N ∧ (∀ S ∈ T, S.first = 1) ∧ tellZ T = some (all.take q) ∧ q ≤ all.length ∧ safe ≤ q ∧ openS (S, []) = some ((T.length + 1, 1, 1), all.take q)) ∧ Mod F w w' := by
  obtain ⟨s, T, m, h1, h2, h3, h4, h5⟩ := h.is
  have hl := h2.len
  have hN := h.n
  refine (Crash_dev h1.dev kp te).mono ?_
  rintro e w' ⟨rfl, g1, g2⟩
  obtain ⟨j, j1, j2, j3⟩ := h2.crash kp te
  obtain ⟨q, q1, q2, q3, -⟩ := h4 j j2
  have hcl : (crashed s.1 s.2 kp te).length = N := by rw [crashed_len, hl]
  have hfit := h2.fits
  have hTl : (T.take j).length ≤ N := by rw [List.length_take]; omega
  have hf : ∀ S ∈ T.take j, S.first = 1 := fun S hS => h5 S (List.mem_of_mem_take hS)
  have hg := h2.good.take j
  exact ⟨rfl, ⟨_, T.take j, q, g1, hcl, j3, hg, hTl, hf, q2, q1, q3 j1, open_first j3 hg (by simp only [hcl]; omega) (by simp only [hcl]; exact hTl) hf q2⟩, g2⟩
end

/-- A log behind a crash, or ahead of one: what is seen on its disk tells all. -/
structure LR (w0 w : World) (lb b : Nat) (F : Nat → Prop) (N : Nat) (all : List Rc) : Prop where
  is : ∃ s T, Wl w0 w lb b F s ⟨T.length + 1, 1, 1⟩ ∧ s.1.length = N ∧ Seen s T ∧ Good T ∧ T.length ≤ N ∧ (∀ S ∈ T, S.first = 1) ∧ tellZ T = some all ∧ s.2.length ≤ T.length
  n : 1 ≤ N ∧ N ≤ 512
section
variable {w0 w w' : World} {lb b N : Nat} {F : Nat → Prop} {all : List Rc}
theorem LR.step (h : LR w0 w lb b F N all) (hb : Below w.heap.size w w') : LR w0 w' lb b F N all := by
  obtain ⟨s, T, h1, h2⟩ := h.is
  exact ⟨⟨s, T, h1.step hb, h2⟩, h.n⟩
theorem LR.aside {K : Nat → Prop} (h : LR w0 w lb b F N all) (hm : Mod K w w') (ha : ∀ k, F k ∨ k = lb → ¬ K k) (hK : ∀ k, K k → w0.heap.size ≤ k) : LR w0 w' lb b F N all := by
  obtain ⟨s, T, h1, h2⟩ := h.is
  exact ⟨⟨s, T, h1.aside hm ha hK, h2⟩, h.n⟩
theorem LR.bel (h : LR w0 w lb b F N all) : Below w0.heap.size w0 w := by
  obtain ⟨s, T, h1, h2⟩ := h.is
  exact h1.dev.bel
theorem LR.low (h : LR w0 w lb b F N all) : (∀ k, F k → w0.heap.size ≤ k ∧ k < w.heap.size) ∧ w0.heap.size ≤ lb ∧ lb < w.heap.size := by
  obtain ⟨s, T, h1, h2⟩ := h.is
  exact ⟨h1.dev.low, h1.lo, h1.lt⟩
theorem layC_len (S : List (List Int)) : ∀ (X : List Sc) (C : List (Int × List Int)), (layC S C X).length ≤ C.length + X.length
  | [], C => Nat.le_refl _
  | T :: X, C => by
    have h1 := layC_len S X (written S C (((T.num - 1) % S.length : Nat) : Int) (secZ T))
    have h2 := written_len S C (((T.num - 1) % S.length : Nat) : Int) (secZ T)
    show (layC S (written S C _ _) X).length ≤ _
    rw [List.length_cons]
    omega
theorem append_lr (h : LR w0 w lb b F N all) {a : Option Addr} {L c : Nat} {list : List Rc} (hx : RRow w a L c list) (hL : L ≤ 1000) {spare : Int} (hsp : -9223372036854775808 ≤ spare ∧ spare ≤ 9223372036854775807) :
    Calls Try.prog 10 #[.pointer (some ⟨lb, 0, none⟩), .slice a L c, .int .i64 spare] w fun e w' => ∃ E : Int, e = .returned (.int .i64 E) ∧ LR w0 w' lb b (grownF F w w') N (if E = 0 then all ++ list else all) ∧ Mod (fun k => F k ∨ k = lb) w w' := by
  obtain ⟨s, T, h1, hl, h3, hg, hTN, h5, ht, hc⟩ := h.is
  have hN := h.n
  refine (Append_wl h1 hx.recs hx.ok hL (by omega) hsp).mono ?_
  rintro e w' ⟨rfl, g1, g2⟩
  refine ⟨_, rfl, ?_, g2⟩
  have hz := fit_zero (l := ⟨T.length + 1, 1, 1⟩) (N := s.1.length) (list := list) (more := 0) (spare := spare)
  unfold appS at g1
  generalize fitE s.1.length ⟨T.length + 1, 1, 1⟩ list 0 spare = E at *
  by_cases hE : E = 0
  · rw [if_pos hE] at g1
    rw [if_pos hE]
    obtain ⟨z1, z2, z3, z4⟩ := hz hE
    have hR := right_all z1 hx.ok
    have hnum : Nums T.length (chunks (T.length + 1) 1 (encs list)) := nums_chunks (encs_fit hR) (by simpa using z4) (by decide)
    have hle : T.length + (chunks (T.length + 1) 1 (encs list)).length ≤ N := by
      rw [chunks_len]
      have : spare ≤ (N : Int) - ((T.length + 1 : Nat) : Int) + ((1 : Nat) : Int) - ((needZ (encs list) + 0 : Nat) : Int) := by rw [← hl]; exact z3
      omega
    have hlen : (T ++ chunks (T.length + 1) 1 (encs list)).length = T.length + needZ (encs list) := by rw [List.length_append, chunks_len]
    refine ⟨⟨layS s (chunks (T.length + 1) 1 (encs list)), T ++ chunks (T.length + 1) 1 (encs list), ?_, hl, h3.lays (by omega) hnum, hg.app hnum, by rw [List.length_append]; exact hle, fun S hS => ?_, tell_append (begins_chunks _ _ _) ht (tell_whole _ _ hR), ?_⟩, hN⟩
    · have := g1
      rw [hlen]
      simp only at this
      rw [show T.length + needZ (encs list) + 1 = T.length + 1 + needZ (encs list) by omega]
      exact this
    · rcases List.mem_append.1 hS with hS | hS
      · exact h5 S hS
      · exact chunks_first S hS
    · have := layC_len s.1 (chunks (T.length + 1) 1 (encs list)) s.2
      rw [List.length_append]
      exact Nat.le_trans this (by omega)
  · rw [if_neg hE] at g1
    rw [if_neg hE]
    exact ⟨⟨s, T, g1, hl, h3, hg, hTN, h5, ht, hc⟩, hN⟩
theorem force_lr (h : LR w0 w lb b F N all) :
    Calls Try.prog 11 #[.pointer (some ⟨lb, 0, none⟩)] w fun e w' => e = .returned (.tuple #[]) ∧ LR w0 w' lb b F N all ∧ Mod (fun k => F k ∨ k = lb) w w' := by
  obtain ⟨s, T, h1, hl, h3, hg, hTN, h5, ht, hc⟩ := h.is
  have hN := h.n
  have hw := h1.dev.wrs
  refine (Force_wl h1).mono ?_
  rintro e w' ⟨rfl, g1, g2⟩
  exact ⟨rfl, ⟨⟨_, T, g1, by simp only [settled_len]; exact hl, h3.flush (by omega) (fun p hp => (hw p hp).2.1), hg, hTN, h5, ht, Nat.zero_le _⟩, hN⟩, g2⟩
theorem open_lr (h : LR w0 w lb b F N all) :
    Calls Try.prog 13 #[.pointer (some ⟨b, 0, none⟩)] w fun e w' => ∃ v, e = .returned (.tuple #[.pointer (some ⟨w.heap.size, 0, none⟩), v, .int .i64 0]) ∧ LR w0 w' w.heap.size b F N all ∧ RcOwn w' (w.heap.size + 1) v all ∧ Below w.heap.size w w' := by
  obtain ⟨s, T, h1, hl, h3, hg, hTN, h5, ht, hc⟩ := h.is
  have hN := h.n
  have hop := open_first h3 hg (by omega) (by omega) h5 ht
  refine (Open_wl h1.dev hop).mono ?_
  rintro e w' ⟨v, rfl, g1, g2, g3⟩
  exact ⟨v, rfl, ⟨⟨s, T, g1, hl, h3, hg, hTN, h5, ht, hc⟩, hN⟩, g2, g3⟩
end
end Go.Proofs.Ytgpedejeifmfdaa
