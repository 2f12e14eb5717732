/- A region that draws its order: a part that may go in order (quiet operations, loads that nothing can come ahead of, operations that are alone ready), then an operation i that runs to one value in every world, then the rest. Of no program. -/
import Derived.Test.YtgpedejeifmfdaaGreatSeq
namespace Go.Proofs.YtgpedejeifmfdaaGreat
open Go.RowKit

section
variable {P : Program} {ops : Array Oper} {Q : Exit → Act → World → Prop}

def preB (P : Program) (ops : Array Oper) : List Nat → Array Bool → Bool
  | [], _ => true
  | i :: rest, listed =>
    (match ops[i]? with
     | some o => if quiet2 P o.op then (Region.ready .any ops listed).contains i && Region.free .any ops listed i
                 else if readOp o.op then (Region.ready .any ops listed).contains i && Region.free .any ops listed i && barredB P ops listed i
                 else decide (Region.ready .any ops listed = [i])
     | none => false) && preB P ops rest (listed.setIfInBounds i true)

theorem wpAny_pre (hs : Region.noSelect ops = true) (hP : ∀ c a w, ¬ Q (.panic c) a w) (hO : ¬ LetsOut Q) {k : Nat} {K : Act → World → Prop} :
    ∀ (π : List Nat) (listed : Array Bool) (a : Act) (w : World), Closed ops listed → preB P ops π listed = true →
    (∀ a' w', Closed ops (listAll π listed) → K a' w' → wpAny P .any ops Q k (listAll π listed) a' w') →
    wpList P ops (SegQ K) (π.map fun i => ops.getD i default) a w → wpAny P .any ops Q (π.length + k) listed a w := by
  intro π
  induction π with
  | nil =>
    intro listed a w hcl _ hk h
    rw [List.length_nil, Nat.zero_add]
    exact hk a w hcl h
  | cons i rest ih =>
    intro listed a w hcl hB hk h
    simp only [preB, Bool.and_eq_true] at hB
    obtain ⟨h1, h2⟩ := hB
    rw [List.length_cons, show rest.length + 1 + k = (rest.length + k) + 1 by omega]
    cases ho : ops[i]? with
    | none => rw [ho] at h1; cases h1
    | some o =>
      rw [ho] at h1
      have hg : ops.getD i default = o := by rw [Array.getD_eq_getD_getElem?, ho]; rfl
      simp only [List.map_cons, hg, wpList] at h
      by_cases hq : quiet2 P o.op = true
      · simp only [hq, if_true, Bool.and_eq_true] at h1
        have hcl' := hcl.set (by simpa using h1.1)
        by_cases hw : Region.wanted o (yielded ops a.tmps) = true
        · rw [if_pos hw] at h
          rcases h with h | ⟨_, hl⟩
          · unfold Oper.wp at h
            cases hr : (execOp a.eval o).run P w with
            | halt x w' =>
              rw [hr] at h
              cases x <;> simp only [Oper.upon] at h
              exact (h : False).elim
            | ok n w' =>
              obtain ⟨rfl, ⟨v, rfl⟩, hall⟩ := quiet2_wless (P := P) (ρ := a.eval) hq _ _ _ hr
              rw [hr] at h
              exact wpAny_take ho hs h1.2 h1.1 (fun c a w hh => absurd hh (hP _ _ _)) (.inl ⟨hw, hall⟩) (ih _ _ _ hcl' h2 hk h)
          · exact absurd hl segQ_out
        · rw [if_neg hw] at h
          exact wpAny_take ho hs h1.2 h1.1 (fun c a w hh => absurd hh (hP _ _ _)) (.inr ⟨by simpa using hw, rfl⟩) (ih _ _ _ hcl' h2 hk h)
      · simp only [hq, Bool.false_eq_true, if_false] at h1
        by_cases hrd : readOp o.op = true
        · simp only [hrd, if_true, Bool.and_eq_true] at h1
          have hin : i ∈ Region.ready .any ops listed := by simpa using h1.1.1
          have hcl' := hcl.set hin
          have hbar : ∀ j oj, ops[j]? = some oj → j ≠ i → listed.getD j true = false → (mildOp P oj.op || reachB ops i ops.size j) = true := by
            intro j oj hj hji hun
            have := h1.2
            simp only [barredB, List.all_eq_true, List.mem_range] at this
            have := this j (Array.getElem?_eq_some_iff.1 hj).1
            simpa only [hj, Bool.or_eq_true, beq_iff_eq, hji, false_or, hun, Bool.false_eq_true] using this
          by_cases hw : Region.wanted o (yielded ops a.tmps) = true
          · rw [if_pos hw] at h
            rcases h with h | ⟨_, hl⟩
            · unfold Oper.wp at h
              cases hr : (execOp a.eval o).run P w with
              | halt x w' =>
                rw [hr] at h
                cases x <;> simp only [Oper.upon] at h
                exact (h : False).elim
              | ok n w' =>
                obtain ⟨rfl, ⟨v, rfl⟩, hall⟩ := readOp_reads (P := P) (ρ := a.eval) hrd _ _ _ hr
                rw [hr] at h
                exact wpAny_read ho (Region.noSelect_spec hs) hP hO _ _ _ _ hcl hbar (Region.free_spec ho h1.1.2) hin (.inl ⟨hw, hall⟩) (ih _ _ _ hcl' h2 hk h)
            · exact absurd hl segQ_out
          · rw [if_neg hw] at h
            exact wpAny_read ho (Region.noSelect_spec hs) hP hO _ _ _ _ hcl hbar (Region.free_spec ho h1.1.2) hin (.inr ⟨by simpa using hw, rfl⟩) (ih _ _ _ hcl' h2 hk h)
        · simp only [hrd, Bool.false_eq_true, if_false, decide_eq_true_eq] at h1
          have hin : i ∈ Region.ready .any ops listed := by rw [h1]; simp
          have hcl' := hcl.set hin
          refine wpAny_all h1 (by simp) fun j hj => ?_
          obtain rfl : j = i := by simpa using hj
          unfold wpOp
          simp only [ho]
          split
          · rename_i hw
            rw [if_pos hw] at h
            rcases h with h | ⟨_, hl⟩
            · exact .inl (wp_of_seg (fun a w hh => ih _ _ _ hcl' h2 hk hh) h)
            · exact absurd hl segQ_out
          · rename_i hw
            rw [if_neg hw] at h
            exact ih _ _ _ hcl' h2 hk h

def YieldAt (P : Program) (l : List Oper) (Q : Exit → Act → World → Prop) (i : Nat) (π : List Nat) (a : Act) (w : World) : Prop :=
  ∃ v, (Region.wanted (l.getD i default) (yielded l.toArray a.tmps) = true ∧ ∀ w2, (execOp a.eval (l.getD i default)).run P w2 = .ok (.value v) w2) ∧
    wpList P l.toArray Q (π.map fun i => l.getD i default) (a.put (l.getD i default).dst v) w
theorem yield_at {l : List Oper} {i : Nat} {π : List Nat} {a : Act} {w : World} (v : Value) (hw : Region.wanted (l.getD i default) (yielded l.toArray a.tmps) = true)
    (hr : ∀ w2, (execOp a.eval (l.getD i default)).run P w2 = .ok (.value v) w2) (h : wpList P l.toArray Q (π.map fun i => l.getD i default) (a.put (l.getD i default).dst v) w) :
    SegQ (fun a' w' => YieldAt P l Q i π a' w') .normal a w := ⟨v, ⟨hw, hr⟩, h⟩

end
end Go.Proofs.YtgpedejeifmfdaaGreat
