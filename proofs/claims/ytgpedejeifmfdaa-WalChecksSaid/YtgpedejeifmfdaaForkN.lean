/- A drawn region whose loads are taken first (under what S holds), then parts once: each operation that may come next, with the pieces behind it. Of no program. -/
import Derived.Test.YtgpedejeifmfdaaPhase
namespace Go.Proofs.Ytgpedejeifmfdaa
open Go.RowKit

section
variable {P : Program} {ops : Array Oper} {Q : Exit → Act → World → Prop} {S : World → Prop} {need : Nat → Bool}
abbrev Branch := Nat × List (List Nat)
def forkNB (P : Program) (ops : Array Oper) (need : Nat → Bool) (fuel : Nat) (bs : List Branch) (listed : Array Bool) : Bool :=
  !(Region.ready .any ops listed).isEmpty && (Region.ready .any ops listed).all fun i => (ops[i]?).isSome && bs.any fun b => b.1 == i && heldSegs P ops need b.2 (listed.setIfInBounds i true) && b.2.flatten.length == fuel
theorem forkN_any (hs : Region.noSelect ops = true) (hP : ∀ c a w, ¬ Q (.panic c) a w) (hO : ¬ LetsOut Q) {fuel : Nat} (bs : List Branch) (listed : Array Bool) (a : Act) (w : World) (hcl : Closed ops listed)
    (hB : forkNB P ops need fuel bs listed = true)
    (h : ∀ b ∈ bs, wpList P ops (SegQ fun a' w' => S w' ∧ wpSegs P ops Q S (b.2.map fun π => π.map fun i => ops.getD i default) a' w') [ops.getD b.1 default] a w) :
    wpAnyN P ops Q S need (fuel + 1) listed a w := by
  unfold forkNB at hB
  rw [Bool.and_eq_true, Bool.not_eq_true', List.all_eq_true] at hB
  obtain ⟨hne, hall⟩ := hB
  refine ⟨fun h0 => (by rw [h0] at hne; cases hne), fun j hj => ?_⟩
  have hj2 := hall j hj
  rw [Bool.and_eq_true, List.any_eq_true] at hj2
  obtain ⟨hsome, b, hb, hb2⟩ := hj2
  simp only [Bool.and_eq_true, beq_iff_eq] at hb2
  obtain ⟨⟨rfl, hseg⟩, rfl⟩ := hb2
  obtain ⟨o, ho⟩ := Option.isSome_iff_exists.1 hsome
  have hg : ops.getD b.1 default = o := by rw [Array.getD_eq_getD_getElem?, ho]; rfl
  have h := h b hb
  rw [hg] at h
  simp only [wpList] at h
  have hcl' := hcl.set hj
  have fin : ∀ a' w', S w' ∧ wpSegs P ops Q S (b.2.map fun π => π.map fun i => ops.getD i default) a' w' → (need b.1 = true → S w → S w') ∧ wpAnyN P ops Q S need b.2.flatten.length (listed.setIfInBounds b.1 true) a' w' := fun a' w' hh =>
    ⟨fun _ _ => hh.1, segs_any hs hP hO b.2 _ a' w' hcl' hseg hh.2⟩
  unfold wpOp
  simp only [ho]
  split
  · rename_i hw
    rw [if_pos hw] at h
    rcases h with h | ⟨_, hl⟩
    · exact .inl (wp_of_seg (fun a' w' hh => fin a' w' hh) h)
    · exact absurd hl segQ_out
  · rename_i hw
    rw [if_neg hw] at h
    exact fin _ _ h
theorem wp_region_forkN {id : Nat} {l : List Oper} {a : Act} {w : World} (S : World → Prop) (pre : List Nat) (fuel : Nat) (bs : List Branch) (hm : P.follows .mixedOrders = true)
    (hs : Region.noSelect l.toArray = true) (hn : pre.length + (fuel + 1) = l.length)
    (hB : (heldPre P l.toArray (fun _ => true) pre (Array.replicate l.length false) && forkNB P l.toArray (fun _ => true) fuel bs (listAll pre (Array.replicate l.length false))) = true)
    (hP : ∀ c a w, ¬ Q (.panic c) a w) (hO : ∀ a w, ¬ Q .outgrown a w) (h0 : S w.drew)
    (hf : preFits l.toArray pre a.tmps.size = true)
    (h : ∃ A, (∀ w', S w' → wpList P l.toArray (PreQ A w') (pre.map fun i => l.getD i default) a w') ∧
      ∀ b ∈ bs, wpList P l.toArray (SegQ fun a' w' => S w' ∧ wpSegs P l.toArray Q S (b.2.map fun π => π.map fun i => l.getD i default) a' w') [l.getD b.1 default] A w.drew) : (Code.region id l.toArray true).wp P Q a w := by
  obtain ⟨A, h1, h2⟩ := h
  refine wp_region_any hm ?_
  have e : ∀ ns : List Nat, (ns.map fun i => l.getD i default) = ns.map fun i => l.toArray.getD i default := fun ns => by
    apply List.map_congr_left; intro i _; simp [List.getD_eq_getElem?_getD, Array.getD_eq_getD_getElem?]
  have e1 : ∀ i : Nat, l.toArray.getD i default = l.getD i default := fun i => by simp [List.getD_eq_getElem?_getD, Array.getD_eq_getD_getElem?]
  have hcl : Closed l.toArray (Array.replicate l.length false) := by
    intro k o _ hl
    simp [Array.getD_eq_getD_getElem?, Array.getElem?_replicate] at hl
    split at hl <;> simp at hl
  rw [Bool.and_eq_true] at hB
  have key := pre_any (P := P) (ops := l.toArray) (Q := Q) (S := S) (need := fun _ => true) hs hP h0 (fuel := fuel + 1) pre (Array.replicate l.length false) a hcl hB.1
    (fun i hi d hd => by
      have := List.all_eq_true.1 hf i hi
      rw [hd] at this
      simpa using this)
    (fun w' hS => by rw [← e]; exact h1 w' hS)
    (fun hc' => forkN_any hs hP (fun ⟨a, w, h⟩ => hO a w h) bs _ A w.drew hc' hB.2 (fun b hb => by
      have : (b.2.map fun π => π.map fun i => l.toArray.getD i default) = b.2.map fun π => π.map fun i => l.getD i default := List.map_congr_left fun π _ => (e π).symm
      rw [this, e1]
      exact h2 b hb))
  rw [hn] at key
  have := wpAny_of_need _ _ _ _ key
  simpa using this
end
end Go.Proofs.Ytgpedejeifmfdaa
