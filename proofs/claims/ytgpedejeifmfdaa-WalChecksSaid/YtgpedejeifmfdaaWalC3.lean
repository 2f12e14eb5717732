/- WalChecks, plain: what a crash behind a checkpoint leaves. -/
import Derived.Test.YtgpedejeifmfdaaWalK
namespace Go.Proofs.Ytgpedejeifmfdaa
open Go.RowKit

def wc1 (N : Nat) (old : List Rc) : State := layS (fresh N, []) (chunks 1 1 (encs old))
def wc2 (N : Nat) (old : List Rc) : State := (settled (wc1 N old).1 (wc1 N old).2, [])
def wc3 (N : Nat) (old base : List Rc) : State := layS (layS (wc2 N old) (chunks (1 + needZ (encs old)) 1 (encs base))) [⟨1 + needZ (encs old) + needZ (encs base), 1 + needZ (encs old), true, []⟩]
def wc4 (N : Nat) (old base more : List Rc) : State := layS (wc3 N old base) (chunks (1 + needZ (encs old) + needZ (encs base) + 1) (1 + needZ (encs old)) (encs more))
def lc1 (old : List Rc) : Lg := ⟨1 + needZ (encs old), 1, 1⟩
def lc3 (old base : List Rc) : Lg := ⟨1 + needZ (encs old) + needZ (encs base) + 1, 1 + needZ (encs old), 1⟩
def lc4 (old base more : List Rc) : Lg := ⟨1 + needZ (encs old) + needZ (encs base) + 1 + needZ (encs more), 1 + needZ (encs old), 1⟩
def T1 (old : List Rc) : List Sc := chunks 1 1 (encs old)
def T2 (old base : List Rc) : List Sc := T1 old ++ chunks (1 + needZ (encs old)) 1 (encs base)
def mkS (old base : List Rc) : Sc := ⟨1 + needZ (encs old) + needZ (encs base), 1 + needZ (encs old), true, []⟩
def T4 (old base more : List Rc) : List Sc := T2 old base ++ [mkS old base] ++ chunks (1 + needZ (encs old) + needZ (encs base) + 1) (1 + needZ (encs old)) (encs more)
theorem tell_mark' (n f : Nat) : tellZ [⟨n, f, true, []⟩] = some [] := by
  show tellRows (rowsF [] [⟨n, f, true, []⟩]) = some []
  rw [rowsF_cons, if_pos rfl]
  show tellRows [[], []] = some []
  unfold tellRows
  rw [tellRow_nil]
  unfold tellRows
  rw [tellRow_nil]
  rfl
section
variable {N : Nat} {old base more : List Rc}
theorem wc_hist (ho : ∀ r ∈ old, r.ok) (hb : ∀ r ∈ base, r.ok) (hm : ∀ r ∈ more, r.ok) (e1 : fitE N ⟨1, 1, 1⟩ old 0 0 = 0) (e2 : fitE N (lc1 old) base 1 0 = 0) (e3 : fitE N (lc3 old base) more 0 0 = 0) :
    Hist (wc4 N old base more) (T4 old base more) (needZ (encs old)) N ∧ Seen (wc4 N old base more) (T4 old base more) ∧ (T4 old base more).length = needZ (encs old) + needZ (encs base) + 1 + needZ (encs more) ∧ (T4 old base more).length ≤ N := by
  obtain ⟨a1, -, a3, a4⟩ := fit_zero e1
  obtain ⟨b1, -, b3, b4⟩ := fit_zero e2
  obtain ⟨c1, -, c3, c4⟩ := fit_zero e3
  have ro := right_all a1 ho
  have rb := right_all b1 hb
  have rm := right_all c1 hm
  generalize hno : needZ (encs old) = no at *
  generalize hnb : needZ (encs base) = nb at *
  generalize hnm : needZ (encs more) = nm at *
  simp only [lc1, lc3, hno, hnb] at b3 b4 c3 c4
  have a3' : (0 : Int) ≤ (N : Int) - ((1 : Nat) : Int) + ((1 : Nat) : Int) - ((no + 0 : Nat) : Int) := a3
  have hN : no + nb + 1 + nm ≤ N := by omega
  have l1 : (T1 old).length = no := by unfold T1; rw [chunks_len, hno]
  have l2 : (T2 old base).length = no + nb := by unfold T2; rw [List.length_append, l1, chunks_len, hnb]
  have l3 : (T2 old base ++ [mkS old base]).length = no + nb + 1 := by rw [List.length_append, l2, List.length_singleton]
  have l4 : (T4 old base more).length = no + nb + 1 + nm := by unfold T4; rw [List.length_append, l3, chunks_len, hnm]
  have n1 : Nums ([] : List Sc).length (chunks 1 1 (encs old)) := nums_chunks (encs_fit ro) (by simp only [List.length_nil]; rw [hno]; omega) (by decide)
  have n2 : Nums (T1 old).length (chunks (1 + no) 1 (encs base)) := by
    rw [l1, show 1 + no = no + 1 by omega]
    exact nums_chunks (encs_fit rb) (by rw [hnb]; omega) (by decide)
  have n3 : Nums (T2 old base).length [mkS old base] := by
    rw [l2]
    unfold mkS
    rw [hno, hnb, show 1 + no + nb = no + nb + 1 by omega]
    exact nums_mark (by omega) (by omega)
  have n4 : Nums (T2 old base ++ [mkS old base]).length (chunks (1 + no + nb + 1) (1 + no) (encs more)) := by
    rw [l3, show 1 + no + nb + 1 = no + nb + 1 + 1 by omega]
    exact nums_chunks (encs_fit rm) (by rw [hnm]; omega) (by omega)
  have h1 : Hist (wc1 N old) (T1 old) 0 N := by
    have := (hist_fresh N).lays (X := chunks 1 1 (encs old)) (by rw [chunks_len, hno, List.length_nil]; omega) n1
    exact this
  have s1 : Seen (wc1 N old) (T1 old) := (seen_fresh N).lays (by simp [fresh]; omega) n1
  have h2 : Hist (wc2 N old) (T1 old) no N := by
    have := h1.flush
    rw [l1] at this
    exact this
  have hl1 := h1.len
  have s2 : Seen (wc2 N old) (T1 old) := s1.flush (by omega) h1.wrs
  have hl2 := h2.len
  have h3 : Hist (layS (wc2 N old) (chunks (1 + no) 1 (encs base))) (T2 old base) no N := by
    have := h2.lays (X := chunks (1 + no) 1 (encs base)) (by rw [l1, chunks_len, hnb]; omega) n2
    unfold T2
    rw [hno]
    exact this
  have s3 : Seen (layS (wc2 N old) (chunks (1 + no) 1 (encs base))) (T2 old base) := by
    have := s2.lays (by omega) n2
    unfold T2
    rw [hno]
    exact this
  have h4 : Hist (wc3 N old base) (T2 old base ++ [mkS old base]) no N := by
    have := h3.lays (X := [mkS old base]) (by rw [l2, List.length_singleton]; omega) n3
    unfold wc3
    rw [hno]
    unfold mkS at this ⊢
    rw [hno] at this ⊢
    exact this
  have hl3 := h3.len
  have s4 : Seen (wc3 N old base) (T2 old base ++ [mkS old base]) := by
    have := s3.lays (by omega) n3
    unfold wc3
    rw [hno]
    unfold mkS at this ⊢
    rw [hno] at this ⊢
    exact this
  have hl4 := h4.len
  refine ⟨?_, ?_, l4, by rw [l4]; exact hN⟩
  · have := h4.lays (X := chunks (1 + no + nb + 1) (1 + no) (encs more)) (by rw [l3, chunks_len, hnm]; omega) n4
    unfold wc4 T4
    rw [hno, hnb]
    exact this
  · have := s4.lays (by omega) n4
    unfold wc4 T4
    rw [hno, hnb]
    exact this
/-- What Open tells of a beginning of the history. -/
theorem wc_open (ho : ∀ r ∈ old, r.ok) (hb : ∀ r ∈ base, r.ok) (hm : ∀ r ∈ more, r.ok) (e1 : fitE N ⟨1, 1, 1⟩ old 0 0 = 0) (e2 : fitE N (lc1 old) base 1 0 = 0) (e3 : fitE N (lc3 old base) more 0 0 = 0) {s : State} (hl : s.1.length = N) (hN1 : 1 ≤ N) {j : Nat} (hj : needZ (encs old) ≤ j) (hj2 : j ≤ (T4 old base more).length) (h : Seen s ((T4 old base more).take j)) :
    ∃ l rs, openS s = some (l, rs) ∧ ((j < needZ (encs old) + needZ (encs base) + 1 ∧ ∃ q, old.length ≤ q ∧ q ≤ (old ++ base).length ∧ rs = (old ++ base).take q) ∨ ∃ q, base.length ≤ q ∧ q ≤ (base ++ more).length ∧ rs = (base ++ more).take q ∧ (j = (T4 old base more).length → q = (base ++ more).length)) := by
  obtain ⟨hh, -, l4, hle⟩ := wc_hist ho hb hm e1 e2 e3
  have hg := hh.good
  have ro := right_all (fit_zero e1).1 ho
  have rb := right_all (fit_zero e2).1 hb
  have rm := right_all (fit_zero e3).1 hm
  have l1 : (T1 old).length = needZ (encs old) := by unfold T1; rw [chunks_len]
  have l2 : (T2 old base).length = needZ (encs old) + needZ (encs base) := by unfold T2; rw [List.length_append, l1, chunks_len]
  have l3 : (T2 old base ++ [mkS old base]).length = needZ (encs old) + needZ (encs base) + 1 := by rw [List.length_append, l2, List.length_singleton]
  by_cases hlt : j < needZ (encs old) + needZ (encs base) + 1
  · have et : (T4 old base more).take j = (T2 old base).take j := by
      unfold T4
      rw [List.append_assoc, List.take_append_of_le_length (by omega)]
    rw [et] at h
    have hte : Tells (T2 old base) (old ++ base) (T1 old).length old.length := by
      have h0 : Tells (T1 old) old 0 0 := by
        have := tells_nil.app (n := 1) (f := 1) ro (Nat.le_refl _)
        rw [List.nil_append, List.nil_append] at this
        exact this
      exact h0.force.app rb (Nat.le_refl _)
    obtain ⟨q, q1, q2, q3, -⟩ := hte j (by omega)
    have hf : ∀ S ∈ (T2 old base).take j, S.first = 1 := fun S hS => by
      have hS := List.mem_of_mem_take hS
      unfold T2 T1 at hS
      rcases List.mem_append.1 hS with hS | hS
      · exact chunks_first S hS
      · exact chunks_first S hS
    have hg2 : Good ((T2 old base).take j) := by rw [← et]; exact hg.take j
    have hlen : ((T2 old base).take j).length ≤ s.1.length := by rw [List.length_take]; omega
    exact ⟨_, _, open_first h hg2 (by omega) hlen hf q2, .inl ⟨hlt, q, q3 (by omega), q1, rfl⟩⟩
  · obtain ⟨d, rfl⟩ : ∃ d, j = needZ (encs old) + needZ (encs base) + 1 + d := ⟨j - (needZ (encs old) + needZ (encs base) + 1), by omega⟩
    obtain ⟨q, q1, q2, q3⟩ := tell_chunks (1 + needZ (encs old) + needZ (encs base) + 1) (1 + needZ (encs old)) rm d
    have et : (T4 old base more).take (needZ (encs old) + needZ (encs base) + 1 + d) = T2 old base ++ [mkS old base] ++ (chunks (1 + needZ (encs old) + needZ (encs base) + 1) (1 + needZ (encs old)) (encs more)).take d := by
      unfold T4
      rw [List.take_append, List.take_of_length_le (by omega), l3]
      congr 2
      omega
    have hlen : ((T4 old base more).take (needZ (encs old) + needZ (encs base) + 1 + d)).length = needZ (encs old) + needZ (encs base) + 1 + d := by rw [List.length_take]; omega
    have hdr : ((T4 old base more).take (needZ (encs old) + needZ (encs base) + 1 + d)).drop (1 + needZ (encs old) - 1) = chunks (1 + needZ (encs old)) 1 (encs base) ++ ([mkS old base] ++ (chunks (1 + needZ (encs old) + needZ (encs base) + 1) (1 + needZ (encs old)) (encs more)).take d) := by
      rw [et]
      unfold T2
      rw [List.append_assoc, List.append_assoc, Nat.add_sub_cancel_left, ← l1, List.drop_left]
    have ht : tellZ (((T4 old base more).take (needZ (encs old) + needZ (encs base) + 1 + d)).drop (1 + needZ (encs old) - 1)) = some (base ++ ([] ++ more.take q)) := by
      rw [hdr]
      refine tell_append (fun S T' e => by cases e; rfl) (tell_whole _ _ rb) ?_
      exact tell_append (chunks_begin _ _ _ d) (tell_mark' _ _) q2
    have hlast : ∀ hh : ((T4 old base more).take (needZ (encs old) + needZ (encs base) + 1 + d)).length - 1 < ((T4 old base more).take (needZ (encs old) + needZ (encs base) + 1 + d)).length, (((T4 old base more).take (needZ (encs old) + needZ (encs base) + 1 + d))[((T4 old base more).take (needZ (encs old) + needZ (encs base) + 1 + d)).length - 1]).first = 1 + needZ (encs old) := fun hh => by
      have hmem : ((T4 old base more).take (needZ (encs old) + needZ (encs base) + 1 + d)).drop (needZ (encs old) + needZ (encs base)) = mkS old base :: (chunks (1 + needZ (encs old) + needZ (encs base) + 1) (1 + needZ (encs old)) (encs more)).take d := by
        rw [et, List.append_assoc, ← l2, List.drop_left]; rfl
      have hin : ((T4 old base more).take (needZ (encs old) + needZ (encs base) + 1 + d))[((T4 old base more).take (needZ (encs old) + needZ (encs base) + 1 + d)).length - 1] ∈ ((T4 old base more).take (needZ (encs old) + needZ (encs base) + 1 + d)).drop (needZ (encs old) + needZ (encs base)) := by
        rw [List.mem_iff_getElem]
        refine ⟨d, by rw [List.length_drop]; omega, ?_⟩
        rw [List.getElem_drop]
        congr 1
        omega
      rw [hmem] at hin
      rcases List.mem_cons.1 hin with e | hin
      · rw [e]; rfl
      · exact chunks_first _ (List.mem_of_mem_take hin)
    refine ⟨_, _, open_seen h (hg.take _) (by omega) (by omega) (hlast (by omega)) (by omega) (by omega) (by omega) ht, .inr ⟨base.length + q, by omega, by rw [List.length_append]; omega, ?_, fun hje => ?_⟩⟩
    · rw [List.nil_append, List.take_append, List.take_of_length_le (Nat.le_add_right _ _), Nat.add_sub_cancel_left]
    · rw [q3 (by omega), List.length_append]
end
end Go.Proofs.Ytgpedejeifmfdaa
