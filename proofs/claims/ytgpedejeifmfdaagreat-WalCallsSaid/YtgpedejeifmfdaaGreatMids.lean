/- A drawn region: loads first (under what S holds), then operations that yield a value whatever the world under S (arithmetic, max, min), then it parts once. Of no program. -/
import Derived.Test.YtgpedejeifmfdaaGreatForkN
namespace Go.Proofs.YtgpedejeifmfdaaGreat
open Go.RowKit

section
variable {P : Program} {ops : Array Oper} {Q : Exit → Act → World → Prop} {S : World → Prop}
/-- Operations, each of which yields a value in every world under S. -/
def Mids (P : Program) (ops : Array Oper) (S : World → Prop) : List Oper → Act → Act → Prop
  | [], a, A => A = a
  | o :: r, a, A => ∃ v, YieldsIf P ops S o v a ∧ Mids P ops S r (a.put o.dst v) A
theorem mids_end {a : Act} : Mids P ops S [] a a := rfl
theorem mids_more {o : Oper} {r : List Oper} {a A : Act} (v : Value) (hw : Region.wanted o (yielded ops a.tmps) = true) (hv : ∀ w, S w → (execOp a.eval o).run P w = .ok (.value v) w) (h : Mids P ops S r (a.put o.dst v) A) : Mids P ops S (o :: r) a A := ⟨v, .inl ⟨hw, hv⟩, h⟩
def midsB (ops : Array Oper) : List Nat → Array Bool → Bool
  | [], _ => true
  | i :: rest, listed => (ops[i]?).isSome && (Region.ready .any ops listed).contains i && Region.free .any ops listed i && midsB ops rest (listed.setIfInBounds i true)
theorem mids_any (hs : Region.noSelect ops = true) (hP : ∀ c a w, ¬ Q (.panic c) a w) {fuel : Nat} {w : World} (h0 : S w) {A : Act} :
    ∀ (π : List Nat) (listed : Array Bool) (a : Act), Closed ops listed → midsB ops π listed = true → Mids P ops S (π.map fun i => ops.getD i default) a A →
      (Closed ops (listAll π listed) → wpAnyN P ops Q S (fun _ => true) fuel (listAll π listed) A w) → wpAnyN P ops Q S (fun _ => true) (π.length + fuel) listed a w
  | [], listed, a, hcl, _, h, hk => by
    obtain rfl := h
    rw [List.length_nil, Nat.zero_add]
    exact hk hcl
  | i :: rest, listed, a, hcl, hB, h, hk => by
    unfold midsB at hB
    simp only [Bool.and_eq_true] at hB
    obtain ⟨⟨⟨hsome, hr⟩, hf⟩, h2⟩ := hB
    obtain ⟨o, ho⟩ := Option.isSome_iff_exists.1 hsome
    have hg : ops.getD i default = o := by rw [Array.getD_eq_getD_getElem?, ho]; rfl
    simp only [List.map_cons, hg] at h
    obtain ⟨v, hy, h⟩ := h
    have hin : i ∈ Region.ready .any ops listed := by simpa using hr
    rw [List.length_cons, show rest.length + 1 + fuel = (rest.length + fuel) + 1 by omega]
    exact wpAnyN_take (T := S) ho (Region.noSelect_spec hs) hP _ _ _ _ hcl (fun j oj _ _ _ => .inr fun _ _ hh hS => hh rfl hS) (Region.free_spec ho hf) hin hy h0
      (mids_any hs hP h0 rest _ _ (hcl.set hin) h2 h hk)
theorem run_max2 {ρ : Operand → Value} {dst : Option Tmp} {ty t s : TypeId} {pos : String} {after : Array Edge} {guard : Option (Nat × Bool)} {x y : Operand} {a b : Int} (hx : ρ x = .int .i64 a) (hy : ρ y = .int .i64 b) (w : World) :
    (execOp ρ ⟨dst, .call { callee := .builtin .max, args := #[x, y], argTypes := #[t, s] }, ty, pos, after, guard⟩).run P w = .ok (.value (.int .i64 (if b > a then b else a))) w := by
  simp [go_sem, hx, hy]
theorem wp_region_mids {id : Nat} {l : List Oper} {a : Act} {w : World} (S : World → Prop) (pre mids : List Nat) (fuel : Nat) (bs : List Branch) (hm : P.follows .mixedOrders = true)
    (hs : Region.noSelect l.toArray = true) (hn : pre.length + (mids.length + (fuel + 1)) = l.length)
    (hB : (heldPre P l.toArray (fun _ => true) pre (Array.replicate l.length false) && (midsB l.toArray mids (listAll pre (Array.replicate l.length false)) && forkNB P l.toArray (fun _ => true) fuel bs (listAll mids (listAll pre (Array.replicate l.length false))))) = true)
    (hP : ∀ c a w, ¬ Q (.panic c) a w) (hO : ∀ a w, ¬ Q .outgrown a w) (h0 : S w.drew)
    (hf : preFits l.toArray pre a.tmps.size = true)
    (h : ∃ A, (∀ w', S w' → wpList P l.toArray (PreQ A w') (pre.map fun i => l.getD i default) a w') ∧ ∃ B, Mids P l.toArray S (mids.map fun i => l.getD i default) A B ∧
      ∀ b ∈ bs, wpList P l.toArray (SegQ fun a' w' => S w' ∧ wpSegs P l.toArray Q S (b.2.map fun π => π.map fun i => l.getD i default) a' w') [l.getD b.1 default] B w.drew) : (Code.region id l.toArray true).wp P Q a w := by
  obtain ⟨A, h1, B, hmid, h2⟩ := h
  refine wp_region_any hm ?_
  have e : ∀ ns : List Nat, (ns.map fun i => l.getD i default) = ns.map fun i => l.toArray.getD i default := fun ns => by
    apply List.map_congr_left; intro i _; simp [List.getD_eq_getElem?_getD, Array.getD_eq_getD_getElem?]
  have e1 : ∀ i : Nat, l.toArray.getD i default = l.getD i default := fun i => by simp [List.getD_eq_getElem?_getD, Array.getD_eq_getD_getElem?]
  have hcl : Closed l.toArray (Array.replicate l.length false) := by
    intro k o _ hl
    simp [Array.getD_eq_getD_getElem?, Array.getElem?_replicate] at hl
    split at hl <;> simp at hl
  rw [Bool.and_eq_true, Bool.and_eq_true] at hB
  have key := pre_any (P := P) (ops := l.toArray) (Q := Q) (S := S) (need := fun _ => true) hs hP h0 (fuel := mids.length + (fuel + 1)) pre (Array.replicate l.length false) a hcl hB.1
    (fun i hi d hd => by
      have := List.all_eq_true.1 hf i hi
      rw [hd] at this
      simpa using this)
    (fun w' hS => by rw [← e]; exact h1 w' hS)
    (fun hc' => mids_any hs hP h0 mids _ A hc' hB.2.1 (by rw [← e]; exact hmid) fun hc2 => forkN_any hs hP (fun ⟨a, w, h⟩ => hO a w h) bs _ B w.drew hc2 hB.2.2 (fun b hb => by
      have : (b.2.map fun π => π.map fun i => l.toArray.getD i default) = b.2.map fun π => π.map fun i => l.getD i default := List.map_congr_left fun π _ => (e π).symm
      rw [this, e1]
      exact h2 b hb))
  rw [hn] at key
  have := wpAny_of_need _ _ _ _ key
  simpa using this
end
end Go.Proofs.YtgpedejeifmfdaaGreat
