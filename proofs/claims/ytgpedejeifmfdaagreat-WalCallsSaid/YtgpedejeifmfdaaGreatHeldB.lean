/- A drawn region with loads beside calls in two phases: pre1, pieces σ1 (each ends in a loud operation), pre2, pieces σ2. Of no program. -/
import Derived.Test.YtgpedejeifmfdaaGreatSeq
namespace Go.Proofs.YtgpedejeifmfdaaGreat
open Go.RowKit

section
variable {P : Program} {ops : Array Oper} {Q : Exit → Act → World → Prop} {S : World → Prop} {need : Nat → Bool}

def wpSegsK (P : Program) (ops : Array Oper) (S : World → Prop) (K : Act → World → Prop) : List (List Oper) → Act → World → Prop
  | [], a, w => K a w
  | s :: rest, a, w => wpList P ops (SegQ fun a' w' => S w' ∧ wpSegsK P ops S K rest a' w') s a w
def heldSegsK (P : Program) (ops : Array Oper) (need : Nat → Bool) : List (List Nat) → Array Bool → Bool
  | [], _ => true
  | s :: rest, listed => heldSeg P ops need true s listed && heldSegsK P ops need rest (listAll s listed)

theorem listAll_append (a b : List Nat) (l : Array Bool) : listAll (a ++ b) l = listAll b (listAll a l) := by
  induction a generalizing l with
  | nil => rfl
  | cons i a ih => exact ih _

theorem segsK_any (hs : Region.noSelect ops = true) (hP : ∀ c a w, ¬ Q (.panic c) a w) {k : Nat} {K : Act → World → Prop} :
    ∀ (σ : List (List Nat)) (listed : Array Bool) (a : Act) (w : World), Closed ops listed → heldSegsK P ops need σ listed = true → S w →
      (∀ a' w', Closed ops (listAll σ.flatten listed) → S w' → K a' w' → wpAnyN P ops Q S need k (listAll σ.flatten listed) a' w') →
      wpSegsK P ops S K (σ.map fun π => π.map fun i => ops.getD i default) a w → wpAnyN P ops Q S need (σ.flatten.length + k) listed a w
  | [], _, a, w, hcl, _, h0, hk, h => by
    rw [List.flatten_nil, List.length_nil, Nat.zero_add]
    exact hk a w hcl h0 h
  | s :: rest, listed, a, w, hcl, hB, h0, hk, h => by
    simp only [heldSegsK, Bool.and_eq_true] at hB
    rw [List.flatten_cons, List.length_append, Nat.add_assoc]
    rw [List.flatten_cons] at hk
    exact seg_more hs hP s listed a w hcl hB.1 (fun a' w' hc' hS hk' => segsK_any hs hP rest _ a' w' hc' hB.2 hS (by rw [← listAll_append]; exact hk) hk') h

theorem segsK_more {s : List Oper} {rest : List (List Oper)} {K : Act → World → Prop} {a : Act} {w : World} (h : wpList P ops (SegQ fun a' w' => S w' ∧ wpSegsK P ops S K rest a' w') s a w) : wpSegsK P ops S K (s :: rest) a w := h
theorem segsK_end {K : Act → World → Prop} {a : Act} {w : World} (h : K a w) : wpSegsK P ops S K [] a w := h
end
end Go.Proofs.YtgpedejeifmfdaaGreat
