/- A region that draws its order, in pieces: each piece is all the orders that its operations may come in (a tree of sequences: nothing is said to be quiet); between two pieces stands whatever holds behind each of its orders. Of no program. -/
import Derived.Test.YtdccocgdgcjfcaaSeq
namespace Go.Proofs.Ytdccocgdgcjfcaa
open Go.RowKit

/-- A sequence, behind which all is done or two operations are ready: those with which the two branches begin. -/
inductive Ord where
  | last (π : List Nat)
  | fork (π : List Nat) (l r : Ord)
def Ord.hd : Ord → Nat
  | .last π => π.headD 0
  | .fork π _ _ => π.headD 0
def Ord.len : Ord → Nat
  | .last π => π.length
  | .fork π l _ => π.length + l.len

section
variable {P : Program} {ops : Array Oper} {Q : Exit → Act → World → Prop}

/-- Its first operation is one of those that are ready, each other one the only one. -/
def seqF (ops : Array Oper) : List Nat → Array Bool → Bool
  | [], _ => false
  | i :: rest, listed => (ops[i]?).isSome && (Region.ready .any ops listed).contains i && seqB ops rest (listed.setIfInBounds i true)
def seqG (ops : Array Oper) (fr : Bool) (π : List Nat) (listed : Array Bool) : Bool := if fr then seqF ops π listed else seqB ops π listed
def ordB (ops : Array Oper) (L : Array Bool) : Bool → Ord → Array Bool → Bool
  | fr, .last π, listed => seqG ops fr π listed && decide (listAll π listed = L)
  | fr, .fork π l r, listed => seqG ops fr π listed && (decide (Region.ready .any ops (listAll π listed) = [l.hd, r.hd]) && decide (l.len = r.len) &&
      (ordB ops L true l (listAll π listed) && ordB ops L true r (listAll π listed)))

def wpOrd (P : Program) (ops : Array Oper) (K : Act → World → Prop) : Ord → Act → World → Prop
  | .last π, a, w => wpList P ops (SegQ K) (π.map fun i => ops.getD i default) a w
  | .fork π l r, a, w => wpList P ops (SegQ fun a' w' => wpOrd P ops K l a' w' ∧ wpOrd P ops K r a' w') (π.map fun i => ops.getD i default) a w

/-- One branch, where its first operation is chosen. -/
theorem wpOp_seqF {k : Nat} {K : Act → World → Prop} {i : Nat} {rest : List Nat} {listed : Array Bool} {a : Act} {w : World} (hcl : Closed ops listed) (hB : seqF ops (i :: rest) listed = true)
    (hk : ∀ a' w', Closed ops (listAll (i :: rest) listed) → K a' w' → wpAny P .any ops Q k (listAll (i :: rest) listed) a' w')
    (h : wpList P ops (SegQ K) ((i :: rest).map fun i => ops.getD i default) a w) : wpOp P ops Q i (wpAny P .any ops Q (rest.length + k) (listed.setIfInBounds i true)) a w := by
  simp only [seqF, Bool.and_eq_true] at hB
  obtain ⟨⟨h0, h1⟩, h2⟩ := hB
  obtain ⟨o, ho⟩ := Option.isSome_iff_exists.1 h0
  have hg : ops.getD i default = o := by rw [Array.getD_eq_getD_getElem?, ho]; rfl
  have hcl' := hcl.set (i := i) (by simpa using h1)
  simp only [List.map_cons, hg, wpList] at h
  have step : ∀ a' w', wpList P ops (SegQ K) (rest.map fun i => ops.getD i default) a' w' → wpAny P .any ops Q (rest.length + k) (listed.setIfInBounds i true) a' w' := fun a' w' hh =>
    wpAny_seq (K := fun _ => K) rest (listed.setIfInBounds i true) a' w' hcl' h2 (fun a2 w2 hc hK => hk a2 w2 hc hK) hh
  unfold wpOp
  simp only [ho]
  split
  · rename_i hw
    rw [if_pos hw] at h
    rcases h with h | ⟨_, hl⟩
    · exact .inl (wp_of_seg step h)
    · exact absurd hl segQ_out
  · rename_i hw
    rw [if_neg hw] at h
    exact step _ w h

theorem ord_seq {k : Nat} {K : Act → World → Prop} {π : List Nat} {listed : Array Bool} {a : Act} {w : World} (hcl : Closed ops listed) (hB : seqB ops π listed = true)
    (hk : ∀ a' w', Closed ops (listAll π listed) → K a' w' → wpAny P .any ops Q k (listAll π listed) a' w')
    (h : wpList P ops (SegQ K) (π.map fun i => ops.getD i default) a w) : wpAny P .any ops Q (π.length + k) listed a w :=
  wpAny_seq (K := fun _ => K) π listed a w hcl hB (fun a2 w2 hc hK => hk a2 w2 hc hK) h

theorem wpAny_ordT {k : Nat} {K : Act → World → Prop} {L : Array Bool} (hk : ∀ a' w', Closed ops L → K a' w' → wpAny P .any ops Q k L a' w') :
    ∀ (o : Ord) (listed : Array Bool) (a : Act) (w : World), Closed ops listed → ordB ops L true o listed = true → wpOrd P ops K o a w → ∃ m, o.len = m + 1 ∧ wpOp P ops Q o.hd (wpAny P .any ops Q (m + k) (listed.setIfInBounds o.hd true)) a w := by
  intro o
  induction o with
  | last π =>
    intro listed a w hcl hB h
    simp only [ordB, Bool.and_eq_true, decide_eq_true_eq] at hB
    obtain ⟨h1, rfl⟩ := hB
    cases π with
    | nil => cases h1
    | cons i rest => exact ⟨rest.length, rfl, wpOp_seqF hcl h1 hk h⟩
  | fork π l r ihl ihr =>
    intro listed a w hcl hB h
    simp only [ordB, Bool.and_eq_true, decide_eq_true_eq] at hB
    obtain ⟨h1, ⟨h2, h3⟩, h4, h5⟩ := hB
    cases π with
    | nil => cases h1
    | cons i rest =>
      refine ⟨rest.length + l.len, by simp [Ord.len]; omega, ?_⟩
      rw [Nat.add_assoc]
      refine wpOp_seqF hcl h1 (fun a' w' hc ⟨hl, hr⟩ => ?_) h
      obtain ⟨m1, e1, w1⟩ := ihl _ a' w' hc h4 hl
      obtain ⟨m2, e2, w2⟩ := ihr _ a' w' hc h5 hr
      obtain rfl : m1 = m2 := by omega
      rw [e1, show m1 + 1 + k = (m1 + k) + 1 by omega]
      refine wpAny_all h2 (by simp) fun j hj => ?_
      simp only [List.mem_cons, List.not_mem_nil, or_false] at hj
      rcases hj with rfl | rfl
      · exact w1
      · exact w2
theorem wpAny_ord {k : Nat} {K : Act → World → Prop} {L : Array Bool} (hk : ∀ a' w', Closed ops L → K a' w' → wpAny P .any ops Q k L a' w') :
    ∀ (o : Ord) (listed : Array Bool) (a : Act) (w : World), Closed ops listed → ordB ops L false o listed = true → wpOrd P ops K o a w → wpAny P .any ops Q (o.len + k) listed a w
  | .last π, listed, a, w, hcl, hB, h => by
    simp only [ordB, Bool.and_eq_true, decide_eq_true_eq] at hB
    obtain ⟨h1, rfl⟩ := hB
    exact ord_seq hcl h1 hk h
  | .fork π l r, listed, a, w, hcl, hB, h => by
    simp only [ordB, Bool.and_eq_true, decide_eq_true_eq] at hB
    obtain ⟨h1, ⟨h2, h3⟩, h4, h5⟩ := hB
    show wpAny P .any ops Q (π.length + l.len + k) listed a w
    rw [Nat.add_assoc]
    refine ord_seq hcl h1 (fun a' w' hc ⟨hl, hr⟩ => ?_) h
    obtain ⟨m1, e1, w1⟩ := wpAny_ordT hk l _ a' w' hc h4 hl
    obtain ⟨m2, e2, w2⟩ := wpAny_ordT hk r _ a' w' hc h5 hr
    obtain rfl : m1 = m2 := by omega
    rw [e1, show m1 + 1 + k = (m1 + k) + 1 by omega]
    refine wpAny_all h2 (by simp) fun j hj => ?_
    simp only [List.mem_cons, List.not_mem_nil, or_false] at hj
    rcases hj with rfl | rfl
    · exact w1
    · exact w2

/-- Pieces one behind the other; L: what is listed behind each. -/
def ordsB (ops : Array Oper) : List (Ord × Array Bool) → Array Bool → Bool
  | [], listed => (Region.ready .any ops listed).isEmpty
  | p :: rest, listed => ordB ops p.2 false p.1 listed && ordsB ops rest p.2
def wpOrds (P : Program) (ops : Array Oper) (Q : Exit → Act → World → Prop) : List Ord → Act → World → Prop
  | [], a, w => Q .normal a w
  | o :: rest, a, w => ∃ K, wpOrd P ops K o a w ∧ ∀ a' w', K a' w' → wpOrds P ops Q rest a' w'
theorem ords_more {o : Ord} {rest : List Ord} {a : Act} {w : World} (h : wpOrd P ops (wpOrds P ops Q rest) o a w) : wpOrds P ops Q (o :: rest) a w := ⟨_, h, fun _ _ h => h⟩
theorem ords_any : ∀ (ps : List (Ord × Array Bool)) (listed : Array Bool) (a : Act) (w : World), Closed ops listed → ordsB ops ps listed = true → wpOrds P ops Q (ps.map (·.1)) a w → wpAny P .any ops Q ((ps.map (·.1.len)).sum) listed a w
  | [], listed, a, w, _, hB, h => wpAny_done (by simpa [ordsB] using hB) h _
  | p :: rest, listed, a, w, hcl, hB, h => by
    simp only [ordsB, Bool.and_eq_true] at hB
    obtain ⟨K, h1, h2⟩ := h
    rw [List.map_cons, List.sum_cons]
    exact wpAny_ord (fun a' w' hc hK => ords_any rest _ a' w' hc hB.2 (h2 a' w' hK)) p.1 listed a w hcl hB.1 h1

/-- What is listed behind a piece: by any of its ways. -/
def Ord.way : Ord → List Nat
  | .last π => π
  | .fork π l _ => π ++ l.way
def marks : List Ord → Array Bool → List (Ord × Array Bool)
  | [], _ => []
  | o :: rest, listed => (o, listAll o.way listed) :: marks rest (listAll o.way listed)
theorem marks_map : ∀ (σ : List Ord) (listed : Array Bool), (marks σ listed).map (·.1) = σ
  | [], _ => rfl
  | o :: rest, listed => by simp [marks, marks_map rest]
theorem wp_region_ords {id : Nat} {l : List Oper} {a : Act} {w : World} (σ : List Ord) (hm : P.follows .mixedOrders = true)
    (hn : ((marks σ (Array.replicate l.length false)).map (·.1.len)).sum = l.length) (hB : ordsB l.toArray (marks σ (Array.replicate l.length false)) (Array.replicate l.length false) = true)
    (h : wpOrds P l.toArray Q σ a w.drew) : (Code.region id l.toArray true).wp P Q a w := by
  refine wp_region_any hm ?_
  have hcl : Closed l.toArray (Array.replicate l.length false) := by
    intro k o _ hl
    simp [Array.getD_eq_getD_getElem?, Array.getElem?_replicate] at hl
    split at hl <;> simp at hl
  have := ords_any (P := P) (ops := l.toArray) (Q := Q) (marks σ (Array.replicate l.length false)) (Array.replicate l.length false) a w.drew hcl hB (by rw [marks_map]; exact h)
  rw [hn] at this
  simpa using this
theorem ord_last {K : Act → World → Prop} {π : List Nat} {a : Act} {w : World} {l : List Oper} (h : wpList P l.toArray (SegQ K) (π.map fun i => l.getD i default) a w) : wpOrd P l.toArray K (.last π) a w := by
  have e : (π.map fun i => l.getD i default) = π.map fun i => l.toArray.getD i default := by
    apply List.map_congr_left; intro i _; simp [List.getD_eq_getElem?_getD, Array.getD_eq_getD_getElem?]
  rw [e] at h
  exact h
theorem ord_fork {K : Act → World → Prop} {π : List Nat} {x y : Ord} {a : Act} {w : World} {l : List Oper} (h : wpList P l.toArray (SegQ fun a' w' => wpOrd P l.toArray K x a' w' ∧ wpOrd P l.toArray K y a' w') (π.map fun i => l.getD i default) a w) : wpOrd P l.toArray K (.fork π x y) a w := by
  have e : (π.map fun i => l.getD i default) = π.map fun i => l.toArray.getD i default := by
    apply List.map_congr_left; intro i _; simp [List.getD_eq_getElem?_getD, Array.getD_eq_getD_getElem?]
  rw [e] at h
  exact h
theorem seg_is {K : Act → World → Prop} {a : Act} {w : World} (h : K a w) : SegQ K .normal a w := h
end
end Go.Proofs.Ytdccocgdgcjfcaa
