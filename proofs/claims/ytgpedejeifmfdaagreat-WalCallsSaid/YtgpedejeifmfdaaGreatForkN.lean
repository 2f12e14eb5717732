/- A drawn region whose loads are taken first (under what S holds), then parts once: each operation that may come next, with the pieces behind it. Of no program. -/
import Derived.Test.YtgpedejeifmfdaaGreatPhase
namespace Go.Proofs.YtgpedejeifmfdaaGreat
open Go.RowKit

section
variable {P : Program} {ops : Array Oper} {Q : Exit → Act → World → Prop} {S : World → Prop} {need : Nat → Bool}
abbrev Branch := Nat × List (List Nat)
def forkNB (P : Program) (ops : Array Oper) (need : Nat → Bool) (fuel : Nat) (bs : List Branch) (listed : Array Bool) : Bool :=
  !(Region.ready .any ops listed).isEmpty && (Region.ready .any ops listed).all fun i => (ops[i]?).isSome && bs.any fun b => b.1 == i && heldSegs P ops need b.2 (listed.setIfInBounds i true) && b.2.flatten.length == fuel
theorem forkN_any (hs : Region.noSelect ops = true) (hP : ∀ c a w, ¬ Q (.panic c) a w) (hO : ¬ LetsOut Q) {fuel : Nat} (bs : List Branch) (listed : Array Bool) (a : Act) (w : World) (hcl : Closed ops listed)
    (hB : forkNB P ops need fuel bs listed = true)
    (h : ∀ b ∈ bs, wpList P ops (SegQ fun a' w' => S w' ∧ wpSegs P ops Q S (b.2.map fun π => π.map fun i => ops.getD i default) a' w') [ops.getD b.1 default] a w) :
    wpAnyN P ops Q S need (fuel + 1) listed a w := by
  unfold forkNB at hB
  rw [Bool.and_eq_true, Bool.not_eq_true', List.all_eq_true] at hB
  obtain ⟨hne, hall⟩ := hB
  refine ⟨fun h0 => (by rw [h0] at hne; cases hne), fun j hj => ?_⟩
  have hj2 := hall j hj
  rw [Bool.and_eq_true, List.any_eq_true] at hj2
  obtain ⟨hsome, b, hb, hb2⟩ := hj2
  simp only [Bool.and_eq_true, beq_iff_eq] at hb2
  obtain ⟨⟨rfl, hseg⟩, rfl⟩ := hb2
  obtain ⟨o, ho⟩ := Option.isSome_iff_exists.1 hsome
  have hg : ops.getD b.1 default = o := by rw [Array.getD_eq_getD_getElem?, ho]; rfl
  have h := h b hb
  rw [hg] at h
  simp only [wpList] at h
  have hcl' := hcl.set hj
  have fin : ∀ a' w', S w' ∧ wpSegs P ops Q S (b.2.map fun π => π.map fun i => ops.getD i default) a' w' → (need b.1 = true → S w → S w') ∧ wpAnyN P ops Q S need b.2.flatten.length (listed.setIfInBounds b.1 true) a' w' := fun a' w' hh =>
    ⟨fun _ _ => hh.1, segs_any hs hP hO b.2 _ a' w' hcl' hseg hh.2⟩
  unfold wpOp
  simp only [ho]
  split
  · rename_i hw
    rw [if_pos hw] at h
    rcases h with h | ⟨_, hl⟩
    · exact .inl (wp_of_seg (fun a' w' hh => fin a' w' hh) h)
    · exact absurd hl segQ_out
  · rename_i hw
    rw [if_neg hw] at h
    exact fin _ _ h
end
end Go.Proofs.YtgpedejeifmfdaaGreat
