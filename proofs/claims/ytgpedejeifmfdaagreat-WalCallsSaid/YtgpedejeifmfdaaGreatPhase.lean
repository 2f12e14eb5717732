/- A drawn region in any number of phases: in each the loads are taken first (under what S holds), then pieces, each of which ends in an operation that is alone ready. Of no program. -/
import Derived.Test.YtgpedejeifmfdaaGreatHeldB
namespace Go.Proofs.YtgpedejeifmfdaaGreat
open Go.RowKit

abbrev Phase := List Nat × List (List Nat)
section
variable {P : Program} {ops : Array Oper} {Q : Exit → Act → World → Prop} {S : World → Prop}
def phB (P : Program) (ops : Array Oper) : List Phase → Array Bool → Bool
  | [], listed => (Region.ready .any ops listed).isEmpty
  | p :: rest, listed => heldPre P ops (fun _ => true) p.1 listed && (heldSegsK P ops (fun _ => true) p.2 (listAll p.1 listed) && phB P ops rest (listAll p.2.flatten (listAll p.1 listed)))
def wpPh (P : Program) (l : List Oper) (Q : Exit → Act → World → Prop) (S : World → Prop) (n : Nat) : List Phase → Act → World → Prop
  | [], a, w => Q .normal a w
  | p :: rest, a, w => a.tmps.size = n ∧ ∃ A, (∀ w', S w' → wpList P l.toArray (PreQ A w') (p.1.map fun i => l.getD i default) a w') ∧
      wpSegsK P l.toArray S (fun a' w' => wpPh P l Q S n rest a' w') (p.2.map fun π => π.map fun i => l.getD i default) A w
def phLen (φ : List Phase) : Nat := (φ.map fun p => p.1.length + p.2.flatten.length).sum
theorem ph_any {l : List Oper} {n : Nat} (hs : Region.noSelect l.toArray = true) (hP : ∀ c a w, ¬ Q (.panic c) a w) :
    ∀ (φ : List Phase) (listed : Array Bool) (a : Act) (w : World), Closed l.toArray listed → phB P l.toArray φ listed = true → φ.all (fun p => preFits l.toArray p.1 n) = true → S w →
      wpPh P l Q S n φ a w → wpAnyN P l.toArray Q S (fun _ => true) (phLen φ) listed a w
  | [], listed, a, w, _, hB, _, _, h => ⟨by simpa [phB] using hB, h⟩
  | p :: rest, listed, a, w, hcl, hB, hf, h0, h => by
    simp only [phB, Bool.and_eq_true] at hB
    obtain ⟨b1, b2, b3⟩ := hB
    simp only [List.all_cons, Bool.and_eq_true] at hf
    obtain ⟨f1, f2⟩ := hf
    obtain ⟨hsz, A, h1, h2⟩ := h
    have e : ∀ ns : List Nat, (ns.map fun i => l.getD i default) = ns.map fun i => l.toArray.getD i default := fun ns => by
      apply List.map_congr_left; intro i _; simp [List.getD_eq_getElem?_getD, Array.getD_eq_getD_getElem?]
    have e2 : ∀ σ : List (List Nat), (σ.map fun π => π.map fun i => l.toArray.getD i default) = σ.map fun π => π.map fun i => l.getD i default := fun σ => List.map_congr_left fun π _ => (e π).symm
    have fits : ∀ i ∈ p.1, ∀ d, dstOf l.toArray i = some d → d < a.tmps.size := fun i hi d hd => by
      have := List.all_eq_true.1 f1 i hi
      rw [hd] at this
      rw [hsz]
      simpa using this
    have hl : phLen (p :: rest) = p.1.length + (p.2.flatten.length + phLen rest) := by unfold phLen; rw [List.map_cons, List.sum_cons, Nat.add_assoc]
    rw [hl]
    exact pre_any (P := P) (ops := l.toArray) (Q := Q) (S := S) (need := fun _ => true) hs hP h0 (fuel := p.2.flatten.length + phLen rest) p.1 listed a hcl b1 fits (fun w' hS => by rw [← e]; exact h1 w' hS)
      (fun hc1 => segsK_any hs hP (K := fun a' w' => wpPh P l Q S n rest a' w') p.2 _ A w hc1 b2 h0
        (fun a' w' hc2 hS hK => ph_any hs hP rest _ a' w' hc2 b3 f2 hS hK) (by rw [e2]; exact h2))
theorem wp_region_phases {id : Nat} {l : List Oper} {a : Act} {w : World} (S : World → Prop) (n : Nat) (φ : List Phase) (hm : P.follows .mixedOrders = true)
    (hs : Region.noSelect l.toArray = true) (hn : phLen φ = l.length) (hB : (phB P l.toArray φ (Array.replicate l.length false) && φ.all (fun p => preFits l.toArray p.1 n)) = true)
    (hP : ∀ c a w, ¬ Q (.panic c) a w) (h0 : S w.drew) (h : wpPh P l Q S n φ a w.drew) : (Code.region id l.toArray true).wp P Q a w := by
  refine wp_region_any hm ?_
  have hcl : Closed l.toArray (Array.replicate l.length false) := by
    intro k o _ hl
    simp [Array.getD_eq_getD_getElem?, Array.getElem?_replicate] at hl
    split at hl <;> simp at hl
  rw [Bool.and_eq_true] at hB
  have key := ph_any (P := P) (l := l) (Q := Q) (S := S) (n := n) hs hP φ _ a w.drew hcl hB.1 hB.2 h0 h
  rw [hn] at key
  have := wpAny_of_need _ _ _ _ key
  simpa using this
theorem ph_more {l : List Oper} {n : Nat} {pre : List Nat} {σ : List (List Nat)} {rest : List Phase} {a : Act} {w : World} (hs : a.tmps.size = n)
    (h : ∃ A, (∀ w', S w' → wpList P l.toArray (PreQ A w') (pre.map fun i => l.getD i default) a w') ∧ wpSegsK P l.toArray S (fun a' w' => wpPh P l Q S n rest a' w') (σ.map fun π => π.map fun i => l.getD i default) A w) :
    wpPh P l Q S n ((pre, σ) :: rest) a w := ⟨hs, h⟩
theorem ph_end {l : List Oper} {n : Nat} {a : Act} {w : World} (h : Q .normal a w) : wpPh P l Q S n [] a w := h
end
end Go.Proofs.YtgpedejeifmfdaaGreat
