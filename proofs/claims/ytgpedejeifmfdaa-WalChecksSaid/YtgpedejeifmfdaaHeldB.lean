/- A drawn region with loads beside calls in two phases: pre1, pieces σ1 (each ends in a loud operation), pre2, pieces σ2. Of no program. -/
import Derived.Test.YtgpedejeifmfdaaSeq
namespace Go.Proofs.Ytgpedejeifmfdaa
open Go.RowKit

section
variable {P : Program} {ops : Array Oper} {Q : Exit → Act → World → Prop} {S : World → Prop} {need : Nat → Bool}

def wpSegsK (P : Program) (ops : Array Oper) (S : World → Prop) (K : Act → World → Prop) : List (List Oper) → Act → World → Prop
  | [], a, w => K a w
  | s :: rest, a, w => wpList P ops (SegQ fun a' w' => S w' ∧ wpSegsK P ops S K rest a' w') s a w
def heldSegsK (P : Program) (ops : Array Oper) (need : Nat → Bool) : List (List Nat) → Array Bool → Bool
  | [], _ => true
  | s :: rest, listed => heldSeg P ops need true s listed && heldSegsK P ops need rest (listAll s listed)

theorem listAll_append (a b : List Nat) (l : Array Bool) : listAll (a ++ b) l = listAll b (listAll a l) := by
  induction a generalizing l with
  | nil => rfl
  | cons i a ih => exact ih _

theorem segsK_any (hs : Region.noSelect ops = true) (hP : ∀ c a w, ¬ Q (.panic c) a w) {k : Nat} {K : Act → World → Prop} :
    ∀ (σ : List (List Nat)) (listed : Array Bool) (a : Act) (w : World), Closed ops listed → heldSegsK P ops need σ listed = true → S w →
      (∀ a' w', Closed ops (listAll σ.flatten listed) → S w' → K a' w' → wpAnyN P ops Q S need k (listAll σ.flatten listed) a' w') →
      wpSegsK P ops S K (σ.map fun π => π.map fun i => ops.getD i default) a w → wpAnyN P ops Q S need (σ.flatten.length + k) listed a w
  | [], _, a, w, hcl, _, h0, hk, h => by
    rw [List.flatten_nil, List.length_nil, Nat.zero_add]
    exact hk a w hcl h0 h
  | s :: rest, listed, a, w, hcl, hB, h0, hk, h => by
    simp only [heldSegsK, Bool.and_eq_true] at hB
    rw [List.flatten_cons, List.length_append, Nat.add_assoc]
    rw [List.flatten_cons] at hk
    exact seg_more hs hP s listed a w hcl hB.1 (fun a' w' hc' hS hk' => segsK_any hs hP rest _ a' w' hc' hB.2 hS (by rw [← listAll_append]; exact hk) hk') h

theorem wp_region_held2 {id : Nat} {l : List Oper} {a : Act} {w : World} (S : World → Prop) (n : Nat) (pre1 : List Nat) (σ1 : List (List Nat)) (pre2 : List Nat) (σ2 : List (List Nat)) (hm : P.follows .mixedOrders = true)
    (hs : Region.noSelect l.toArray = true) (hn : pre1.length + (σ1.flatten.length + (pre2.length + σ2.flatten.length)) = l.length)
    (hB : (heldPre P l.toArray (fun _ => true) pre1 (Array.replicate l.length false) && (heldSegsK P l.toArray (fun _ => true) σ1 (listAll pre1 (Array.replicate l.length false)) &&
      (heldPre P l.toArray (fun _ => true) pre2 (listAll σ1.flatten (listAll pre1 (Array.replicate l.length false))) &&
        heldSegs P l.toArray (fun _ => true) σ2 (listAll pre2 (listAll σ1.flatten (listAll pre1 (Array.replicate l.length false))))))) = true)
    (hP : ∀ c a w, ¬ Q (.panic c) a w) (hO : ∀ a w, ¬ Q .outgrown a w) (h0 : S w.drew)
    (hf1 : preFits l.toArray pre1 a.tmps.size = true) (hf2 : preFits l.toArray pre2 n = true)
    (h : ∃ A, (∀ w', S w' → wpList P l.toArray (PreQ A w') (pre1.map fun i => l.getD i default) a w') ∧
      wpSegsK P l.toArray S (fun a' w' => HeldAt P l Q S n pre2 σ2 a' w') (σ1.map fun π => π.map fun i => l.getD i default) A w.drew) : (Code.region id l.toArray true).wp P Q a w := by
  obtain ⟨A, h1, h2⟩ := h
  refine wp_region_any hm ?_
  have e : ∀ ns : List Nat, (ns.map fun i => l.getD i default) = ns.map fun i => l.toArray.getD i default := fun ns => by
    apply List.map_congr_left; intro i _; simp [List.getD_eq_getElem?_getD, Array.getD_eq_getD_getElem?]
  have e2 : ∀ σ : List (List Nat), (σ.map fun π => π.map fun i => l.toArray.getD i default) = σ.map fun π => π.map fun i => l.getD i default := fun σ => List.map_congr_left fun π _ => (e π).symm
  have hcl : Closed l.toArray (Array.replicate l.length false) := by
    intro k o _ hl
    simp [Array.getD_eq_getD_getElem?, Array.getElem?_replicate] at hl
    split at hl <;> simp at hl
  simp only [Bool.and_eq_true] at hB
  obtain ⟨b1, b2, b3, b4⟩ := hB
  have fits : ∀ (pre : List Nat) (m : Nat), preFits l.toArray pre m = true → ∀ i ∈ pre, ∀ d, dstOf l.toArray i = some d → d < m := fun pre m hf i hi d hd => by
    have := List.all_eq_true.1 hf i hi
    rw [hd] at this
    simpa using this
  have key := pre_any (P := P) (ops := l.toArray) (Q := Q) (S := S) (need := fun _ => true) hs hP h0 (fuel := σ1.flatten.length + (pre2.length + σ2.flatten.length)) pre1 _ a hcl b1
    (fits pre1 _ hf1) (fun w' hS => by rw [← e]; exact h1 w' hS)
    (fun hc1 => segsK_any hs hP (K := fun a' w' => HeldAt P l Q S n pre2 σ2 a' w') σ1 _ A w.drew hc1 b2 h0
      (fun a' w' hc2 _ ⟨hsz, hS, A2, g1, g2⟩ => pre_any hs hP hS (fuel := σ2.flatten.length) pre2 _ a' hc2 b3 (by rw [hsz]; exact fits pre2 n hf2) (fun w'' hS => by rw [← e]; exact g1 w'' hS)
        (fun hc3 => segs_any hs hP (fun ⟨a, w, h⟩ => hO a w h) σ2 _ A2 w' hc3 b4 (by rw [e2]; exact g2)))
      (by rw [e2]; exact h2))
  rw [hn] at key
  have := wpAny_of_need _ _ _ _ key
  simpa using this
theorem segsK_more {s : List Oper} {rest : List (List Oper)} {K : Act → World → Prop} {a : Act} {w : World} (h : wpList P ops (SegQ fun a' w' => S w' ∧ wpSegsK P ops S K rest a' w') s a w) : wpSegsK P ops S K (s :: rest) a w := h
theorem segsK_end {K : Act → World → Prop} {a : Act} {w : World} (h : K a w) : wpSegsK P ops S K [] a w := h
theorem heldAt_of {l : List Oper} {n : Nat} {pre : List Nat} {σ : List (List Nat)} {a : Act} {w : World} (hs : a.tmps.size = n) (h0 : S w)
    (h : ∃ A, (∀ w', S w' → wpList P l.toArray (PreQ A w') (pre.map fun i => l.getD i default) a w') ∧ wpSegs P l.toArray Q S (σ.map fun π => π.map fun i => l.getD i default) A w) : HeldAt P l Q S n pre σ a w := ⟨hs, h0, h⟩
end
end Go.Proofs.Ytgpedejeifmfdaa
