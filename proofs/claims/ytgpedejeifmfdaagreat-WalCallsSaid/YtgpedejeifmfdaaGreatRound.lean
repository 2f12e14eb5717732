/- A region that draws its order within a round of a range over a function (the wide fence): the lone laws serve. Of no program. -/
import Derived.RangeFuncCalls
import Derived.OrdersIn
import Derived.ControlIn
import Derived.TacticsIn
import Derived.Test.YtgpedejeifmfdaaGreatYield
namespace Go.Proofs.YtgpedejeifmfdaaGreat
open Go.RowKit

section
variable {P : Program} {ops : Array Oper} {Q : Exit → Act → World → Prop} {md : Region.Mode}
def plainOp (op : Op) : Bool := match op with | .defer _ => false | _ => true
theorem op_in {l n : Nat} {o : Oper} (hd : plainOp o.op = true) {a : Act} {w : World} {K : Act → World → Prop} (h : o.wp P a w K Q) : o.wpIn (Fence.wide.inRound l) n P a w K Q := by
  refine ⟨fun _ _ => trivial, ?_⟩
  have e : o.semAt (Fence.wide.inRound l).round a.eval = execOp a.eval o := Oper.semAt_some l _ _ fun c hc => by rw [hc] at hd; cases hd
  rw [e]
  unfold Oper.wp at h
  generalize (execOp a.eval o).run P w = r at h ⊢
  cases r with
  | ok x w' =>
    cases x <;> simp only [Oper.upon, Oper.uponIn] at h ⊢
    all_goals first
      | exact h
      | exact ⟨fun h => (by cases h), CallsIn.inRound l (callsIn_wide.2 h)⟩
      | exact ⟨fun h => (by cases h), fun c cs _ => let ⟨v, w', r, s⟩ := h c cs; ⟨v, w', r, stepsIn_wide.2 s⟩⟩
  | halt x w' => cases x <;> simp only [Oper.upon, Oper.uponIn] at h ⊢ <;> exact h
theorem any_in {l n : Nat} (hO : ¬ LetsOut Q) (hd : ∀ o ∈ ops.toList, plainOp o.op = true) : ∀ (fuel : Nat) (listed : Array Bool) (a : Act) (w : World), wpAny P md ops Q fuel listed a w → wpAnyIn (Fence.wide.inRound l) n P md ops Q fuel listed a w
  | 0, _, _, _, h => h
  | fuel + 1, listed, a, w, h => by
    refine ⟨h.1, fun i hi => ?_⟩
    have hh := h.2 i hi
    unfold wpOp at hh
    unfold wpOpIn
    cases ho : ops[i]? with
    | none =>
      rw [ho] at hh
      exact any_in hO hd fuel _ _ _ hh
    | some o =>
      rw [ho] at hh
      simp only at hh ⊢
      by_cases hw : Region.wanted o (yielded ops a.tmps) = true
      · rw [if_pos hw] at hh ⊢
        have hmem : o ∈ ops.toList := by
          obtain ⟨h1, h2⟩ := Array.getElem?_eq_some_iff.1 ho
          rw [← h2]
          simp
        exact Oper.wpIn_mono (fun a w h => any_in hO hd fuel _ a w h) (op_in (hd o hmem) (hh.resolve_right fun h => hO h.2))
      · rw [if_neg hw] at hh ⊢
        exact ⟨fun _ _ => trivial, any_in hO hd fuel _ _ _ hh⟩

theorem wpIn_region_yield {l0 n0 : Nat} {id : Nat} {l : List Oper} {a : Act} {w : World} (π1 : List Nat) (i : Nat) (π2 : List Nat) (hm : P.follows .mixedOrders = true)
    (hd : l.all (fun o => plainOp o.op) = true)
    (hs : Region.noSelect l.toArray = true) (hn : π1.length + (π2.length + 1) = l.length)
    (hB : (preB P l.toArray π1 (Array.replicate l.length false) && ((Region.ready .any l.toArray (listAll π1 (Array.replicate l.length false))).contains i && Region.free .any l.toArray (listAll π1 (Array.replicate l.length false)) i &&
      freeB P l.toArray π2 ((listAll π1 (Array.replicate l.length false)).setIfInBounds i true))) = true)
    (hP : ∀ c a w, ¬ Q (.panic c) a w) (hO : ∀ a w, ¬ Q .outgrown a w)
    (h : wpList P l.toArray (SegQ fun a' w' => YieldAt P l Q i π2 a' w') (π1.map fun i => l.getD i default) a w.drew) : (Code.region id l.toArray true).wpIn (Fence.wide.inRound l0) n0 P Q a w := by
  have hO' : ¬ LetsOut Q := fun ⟨a, w, h⟩ => hO a w h
  refine wpIn_region_any hm (any_in hO' (fun o ho => List.all_eq_true.1 hd o (by simpa using ho)) _ _ _ _ ?_)
  have e : ∀ ns : List Nat, (ns.map fun i => l.getD i default) = ns.map fun i => l.toArray.getD i default := fun ns => by
    apply List.map_congr_left; intro i _; simp [List.getD_eq_getElem?_getD, Array.getD_eq_getD_getElem?]
  have hcl : Closed l.toArray (Array.replicate l.length false) := by
    intro k o _ hl
    simp [Array.getD_eq_getD_getElem?, Array.getElem?_replicate] at hl
    split at hl <;> simp at hl
  simp only [Bool.and_eq_true] at hB
  obtain ⟨h1, ⟨h2, h3⟩, h4⟩ := hB
  rw [e] at h
  have key := wpAny_pre (P := P) (ops := l.toArray) (Q := Q) hs hP hO' (k := π2.length + 1) (K := fun a' w' => YieldAt P l Q i π2 a' w') π1 (Array.replicate l.length false) a w.drew hcl h1
    (fun a' w' hcl1 ⟨v, hy, h5⟩ => by
      have hin : i ∈ Region.ready .any l.toArray (listAll π1 (Array.replicate l.length false)) := by simpa using h2
      obtain ⟨_, o, ho, _⟩ := mem_ready.1 hin
      have hg : l.getD i default = o := by
        have : l.toArray.getD i default = o := by rw [Array.getD_eq_getD_getElem?, ho]; rfl
        rw [← this]; simp [List.getD_eq_getElem?_getD, Array.getD_eq_getD_getElem?]
      rw [hg] at hy h5
      rw [e] at h5
      exact wpAny_take ho hs h3 h2 (fun c a w hh => absurd hh (hP _ _ _)) (.inl hy) (wpAny_free hs hP hO' π2 _ _ _ (hcl1.set hin) h4 h5)) h
  rw [hn] at key
  simpa using key
end
end Go.Proofs.YtgpedejeifmfdaaGreat
