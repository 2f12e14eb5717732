/- A region that draws its order but has at first no choice: the operations π0, one at a time, each the only one that is ready; then loads beside calls, as in Held. Of no program. -/
import Derived.Test.YtgpedejeifmfdaaHeld
namespace Go.Proofs.Ytgpedejeifmfdaa
open Go.RowKit

section
variable {P : Program} {ops : Array Oper} {Q : Exit → Act → World → Prop}

def seqB (ops : Array Oper) : List Nat → Array Bool → Bool
  | [], _ => true
  | i :: rest, listed => (ops[i]?).isSome && decide (Region.ready .any ops listed = [i]) && seqB ops rest (listed.setIfInBounds i true)

theorem wpAny_seq {k : Nat} {K : Array Bool → Act → World → Prop} : ∀ (π : List Nat) (listed : Array Bool) (a : Act) (w : World), Closed ops listed → seqB ops π listed = true →
    (∀ a' w', Closed ops (listAll π listed) → K (listAll π listed) a' w' → wpAny P .any ops Q k (listAll π listed) a' w') →
    wpList P ops (SegQ (K (listAll π listed))) (π.map fun i => ops.getD i default) a w → wpAny P .any ops Q (π.length + k) listed a w := by
  intro π
  induction π with
  | nil =>
    intro listed a w hcl _ hk h
    rw [List.length_nil, Nat.zero_add]
    exact hk a w hcl h
  | cons i rest ih =>
    intro listed a w hcl hB hk h
    simp only [seqB, Bool.and_eq_true, decide_eq_true_eq] at hB
    obtain ⟨⟨h0, h1⟩, h2⟩ := hB
    obtain ⟨o, ho⟩ := Option.isSome_iff_exists.1 h0
    have hg : ops.getD i default = o := by rw [Array.getD_eq_getD_getElem?, ho]; rfl
    have hin : i ∈ Region.ready .any ops listed := by rw [h1]; simp
    have hcl' := hcl.set hin
    rw [List.length_cons, show rest.length + 1 + k = (rest.length + k) + 1 by omega]
    simp only [List.map_cons, hg, wpList] at h
    refine wpAny_all h1 (by simp) fun j hj => ?_
    obtain rfl : j = i := by simpa using hj
    unfold wpOp
    simp only [ho]
    split
    · rename_i hw
      rw [if_pos hw] at h
      rcases h with h | ⟨_, hl⟩
      · exact .inl (wp_of_seg (fun a' w' hh => ih _ a' w' hcl' h2 hk hh) h)
      · exact absurd hl segQ_out
    · rename_i hw
      rw [if_neg hw] at h
      exact ih _ _ w hcl' h2 hk h

/-- What stands behind the sequence: as in wp_region_held. -/
def HeldAt (P : Program) (l : List Oper) (Q : Exit → Act → World → Prop) (S : World → Prop) (n : Nat) (pre : List Nat) (σ : List (List Nat)) (a : Act) (w : World) : Prop :=
  a.tmps.size = n ∧ S w ∧ ∃ A, (∀ w', S w' → wpList P l.toArray (PreQ A w') (pre.map fun i => l.getD i default) a w') ∧ wpSegs P l.toArray Q S (σ.map fun π => π.map fun i => l.getD i default) A w

theorem wp_region_seq {id : Nat} {l : List Oper} {a : Act} {w : World} (need : Nat → Bool) (S : World → Prop) (n : Nat) (π : List Nat) (pre : List Nat) (σ : List (List Nat)) (hm : P.follows .mixedOrders = true)
    (hs : Region.noSelect l.toArray = true) (hn : π.length + (pre.length + σ.flatten.length) = l.length)
    (hB : (seqB l.toArray π (Array.replicate l.length false) && (heldPre P l.toArray need pre (listAll π (Array.replicate l.length false)) &&
      heldSegs P l.toArray need σ (listAll pre (listAll π (Array.replicate l.length false))))) = true)
    (hP : ∀ c a w, ¬ Q (.panic c) a w) (hO : ∀ a w, ¬ Q .outgrown a w) (hf : preFits l.toArray pre n = true)
    (h : wpList P l.toArray (SegQ fun a' w' => HeldAt P l Q S n pre σ a' w') (π.map fun i => l.getD i default) a w.drew) : (Code.region id l.toArray true).wp P Q a w := by
  refine wp_region_any hm ?_
  have e : ∀ ns : List Nat, (ns.map fun i => l.getD i default) = ns.map fun i => l.toArray.getD i default := fun ns => by
    apply List.map_congr_left; intro i _; simp [List.getD_eq_getElem?_getD, Array.getD_eq_getD_getElem?]
  have hcl : Closed l.toArray (Array.replicate l.length false) := by
    intro k o _ hl
    simp [Array.getD_eq_getD_getElem?, Array.getElem?_replicate] at hl
    split at hl <;> simp at hl
  simp only [Bool.and_eq_true] at hB
  rw [e] at h
  have key := wpAny_seq (P := P) (ops := l.toArray) (Q := Q) (k := pre.length + σ.flatten.length) (K := fun _ a' w' => HeldAt P l Q S n pre σ a' w') π (Array.replicate l.length false) a w.drew hcl hB.1
    (fun a' w' hcl1 ⟨hsz, h0, A, h1, h2⟩ => wpAny_of_need _ _ _ _ (pre_any (P := P) (ops := l.toArray) (Q := Q) (S := S) (need := need) hs hP h0 (fuel := σ.flatten.length) pre _ a' hcl1 hB.2.1
      (fun i hi d hd => by
        have := List.all_eq_true.1 hf i hi
        rw [hd] at this
        rw [hsz]
        simpa using this)
      (fun w' hS => by rw [← e]; exact h1 w' hS)
      (fun hc' => segs_any hs hP (fun ⟨a, w, h⟩ => hO a w h) σ _ A w' hc' hB.2.2 (by
        have : (σ.map fun π => π.map fun i => l.toArray.getD i default) = σ.map fun π => π.map fun i => l.getD i default := List.map_congr_left fun π _ => (e π).symm
        rw [this]
        exact h2)))) h
  rw [hn] at key
  simpa using key
theorem held_at {l : List Oper} {S : World → Prop} {n : Nat} {pre : List Nat} {σ : List (List Nat)} {a : Act} {w : World} (hs : a.tmps.size = n) (h0 : S w)
    (h : ∃ A, (∀ w', S w' → wpList P l.toArray (PreQ A w') (pre.map fun i => l.getD i default) a w') ∧ wpSegs P l.toArray Q S (σ.map fun π => π.map fun i => l.getD i default) A w) :
    SegQ (fun a' w' => HeldAt P l Q S n pre σ a' w') .normal a w := ⟨hs, h0, h⟩
end
end Go.Proofs.Ytgpedejeifmfdaa
