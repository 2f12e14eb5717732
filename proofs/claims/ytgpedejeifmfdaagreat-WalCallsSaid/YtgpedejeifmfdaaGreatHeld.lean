/- A region that draws its order and holds loads beside calls that write elsewhere: the loads are taken first, under a condition S on the world that every loud operation that may come ahead of one of them keeps; the rest goes in pieces. Of no program. -/
import Derived.Test.YtgpedejeifmfdaaGreatFree
import Derived.OrdersHeld
namespace Go.Proofs.YtgpedejeifmfdaaGreat
open Go.RowKit

def SegQ (k : Act → World → Prop) : Exit → Act → World → Prop
  | .normal, a, w => k a w
  | _, _, _ => False
theorem segQ_out {k : Act → World → Prop} : ¬ LetsOut (SegQ k) := fun ⟨_, _, h⟩ => h
theorem seg_end {k : Act → World → Prop} {S : World → Prop} {a : Act} {w : World} (h1 : S w) (h2 : k a w) : SegQ (fun a w => S w ∧ k a w) .normal a w := ⟨h1, h2⟩
theorem pre_end {a : Act} {w : World} : SegQ (fun a' w' => a' = a ∧ w' = w) .normal a w := ⟨rfl, rfl⟩

theorem wp_of_seg {P : Program} {o : Oper} {a : Act} {w : World} {k K K' : Act → World → Prop} {Q : Exit → Act → World → Prop} (h : ∀ a w, K a w → K' a w) (hh : o.wp P a w K (SegQ k)) : o.wp P a w K' Q := by
  unfold Oper.wp at *
  generalize (execOp a.eval o).run P w = r at *
  cases r with
  | ok n w' =>
    cases n <;> simp only [Oper.upon] at hh ⊢ <;>
      first
        | exact h _ _ hh
        | exact Calls.mono hh (fun e w'' he => by cases e <;> first | exact h _ _ he | exact (he : False).elim | exact absurd he segQ_out)
        | exact Rows.mono hh (fun _ _ he => h _ _ he)
  | halt x w' => cases x <;> simp only [Oper.upon] at hh ⊢ <;> first | exact hh | exact (hh : False).elim

section
variable {P : Program} {ops : Array Oper} {Q : Exit → Act → World → Prop} {S : World → Prop} {need : Nat → Bool}

def wpAnyN (P : Program) (ops : Array Oper) (Q : Exit → Act → World → Prop) (S : World → Prop) (need : Nat → Bool) : Nat → Array Bool → Act → World → Prop
  | 0, listed, a, w => Region.ready .any ops listed = [] ∧ Q .normal a w
  | fuel + 1, listed, a, w =>
    (Region.ready .any ops listed = [] → Q .normal a w) ∧
    ∀ i ∈ Region.ready .any ops listed, wpOp P ops Q i (fun a' w' => (need i = true → S w → S w') ∧ wpAnyN P ops Q S need fuel (listed.setIfInBounds i true) a' w') a w

theorem wpAny_of_need : ∀ (fuel : Nat) (listed : Array Bool) (a : Act) (w : World), wpAnyN P ops Q S need fuel listed a w → wpAny P .any ops Q fuel listed a w
  | 0, _, _, _, h => h
  | fuel + 1, _, _, _, h => ⟨h.1, fun i hi => wpOp_mono (fun a' w' h' => wpAny_of_need fuel _ a' w' h'.2) (h.2 i hi)⟩

theorem wpAnyN_take {T : World → Prop} {i : Nat} {oi : Oper} {v : Value} (hi : ops[i]? = some oi) (hsel : ∀ (j : Nat) (o : Oper) cs b, ops[j]? = some o → o.op ≠ .select cs b)
    (hQ : ∀ c a w, ¬ Q (.panic c) a w) :
    ∀ (fuel : Nat) (listed : Array Bool) (a : Act) (w : World), Closed ops listed →
      (∀ j oj, ops[j]? = some oj → j ≠ i → listed.getD j true = false → reachB ops i ops.size j = true ∨ ∀ w w', (need j = true → S w → S w') → T w → T w') →
      (∀ j oj, ops[j]? = some oj → j ≠ i → listed.getD j true = false → (∀ e ∈ oj.after, Region.binds .any e = true → e.on ≠ i) → oi.apart ops oj = true) →
      i ∈ Region.ready .any ops listed → YieldsIf P ops T oi v a → T w →
      wpAnyN P ops Q S need fuel (listed.setIfInBounds i true) (a.put oi.dst v) w → wpAnyN P ops Q S need (fuel + 1) listed a w := by
  intro fuel
  induction fuel with
  | zero =>
    intro listed a w _ _ _ hr hy hT H
    refine ⟨fun h => (by rw [h] at hr; cases hr), fun j hj => ?_⟩
    by_cases hji : j = i
    · subst hji; exact hy.wpOp hi hT ⟨fun _ h => h, H⟩
    · have := ready_mono hj hji
      rw [H.1] at this
      cases this
  | succ fuel ih =>
    intro listed a w hcl hbar hfree hr hy hT H
    refine ⟨fun h => (by rw [h] at hr; cases hr), fun j hj => ?_⟩
    by_cases hji : j = i
    · subst hji; exact hy.wpOp hi hT ⟨fun _ h => h, H⟩
    · have h1 := H.2 j (ready_mono hj hji)
      obtain ⟨hjun, oj, hoj, hall⟩ := mem_ready.1 hj
      have hiun : listed.getD i false = false := by
        have h0 := (mem_ready.1 hr).1
        rcases Nat.lt_or_ge i listed.size with h' | h'
        · simp [h'] at h0 ⊢; exact h0
        · simp [Array.getElem?_eq_none h']
      have hnot : ∀ e ∈ oj.after, Region.binds .any e = true → e.on ≠ i := fun e he hb heq => by
        have h1 := hall e he hb
        rw [heq, hiun] at h1
        cases h1
      have hTj : ∀ w w', (need j = true → S w → S w') → T w → T w' := by
        rcases hbar j oj hoj hji hjun with h | h
        · have := reach_listed hcl _ j oj hoj hall h
          rw [hiun] at this
          cases this
        · exact h
      have h2 := wpOp_putIf hoj (hfree j oj hoj hji hjun hnot) (fun cs b => hsel i oi cs b hi) (fun cs b => hsel j oj cs b hoj) (fun c a w h => absurd h (hQ _ _ _)) hy h1
      have back : ∀ k, (listed.setIfInBounds j true).getD k true = false → listed.getD k true = false := fun k hun => by
        by_cases hjk : j = k
        · subst hjk; exact hjun
        · rw [getD_set_ne true hjk] at hun; exact hun
      refine wpOp_mono (fun a' w' h3 => ⟨h3.2.1, ih (listed.setIfInBounds j true) a' w' (hcl.set hj) (fun k ok hk hki hun => hbar k ok hk hki (back k hun))
        (fun k ok hk hki hun hno => hfree k ok hk hki (back k hun) hno) (ready_mono hr (Ne.symm hji)) h3.1 (hTj w w' h3.2.1 hT) ?_⟩) h2
      rw [Array.setIfInBounds_comm _ _ hji]
      exact h3.2.2

/-! ### what comes first -/
def softOp (P : Program) (o : Oper) : Bool := quiet2 P o.op || readOp o.op
theorem soft_value {ρ : Operand → Value} {o : Oper} (h : softOp P o = true) {w : World} {n : Next} {w1 : World} (hr : (execOp ρ o).run P w = .ok n w1) : w1 = w ∧ ∃ v, n = .value v := by
  unfold softOp at h
  rw [Bool.or_eq_true] at h
  rcases h with h | h
  · have := quiet2_wless (P := P) (ρ := ρ) h _ _ _ hr
    exact ⟨this.1, this.2.1⟩
  · have := readOp_reads (P := P) (ρ := ρ) h _ _ _ hr
    exact ⟨this.1, this.2.1⟩
def PreQ (A : Act) (w' : World) : Exit → Act → World → Prop := SegQ fun a w => a = A ∧ w = w'

theorem pre_run {o : Oper} {k : Act → World → Prop} {K : Act → World → Prop} (hs : softOp P o = true) {a : Act} {w : World} (h : o.wp P a w K (SegQ k)) :
    ∃ v, (execOp a.eval o).run P w = .ok (.value v) w ∧ K (a.put o.dst v) w := by
  unfold Oper.wp at h
  cases hr : (execOp a.eval o).run P w with
  | halt x w' =>
    rw [hr] at h
    cases x <;> simp only [Oper.upon] at h
    exact (h : False).elim
  | ok n w' =>
    obtain ⟨rfl, v, rfl⟩ := soft_value (P := P) hs hr
    rw [hr] at h
    exact ⟨v, rfl, h⟩

theorem pre_keeps {A : Act} {w' : World} {d : Nat} : ∀ (rest : List Oper) (a : Act), (∀ o ∈ rest, softOp P o = true ∧ o.dst ≠ some d) → wpList P ops (PreQ A w') rest a w' → A.tmps[d]? = a.tmps[d]?
  | [], a, _, h => by rw [← h.1]
  | o :: rest, a, hs, h => by
    have ho := hs o (.head _)
    have keep : ∀ v, (a.put o.dst v).tmps[d]? = a.tmps[d]? := fun v => by
      unfold Act.put
      cases hd : o.dst with
      | none => rfl
      | some x =>
        have : x ≠ d := fun e => ho.2 (by rw [hd, e])
        simp [Array.getElem?_setIfInBounds_ne this]
    simp only [wpList] at h
    split at h
    · rcases h with h | ⟨_, hl⟩
      · obtain ⟨v, _, h⟩ := pre_run ho.1 h
        rw [pre_keeps rest _ (fun x hx => hs x (.tail _ hx)) h, keep]
      · exact absurd hl segQ_out
    · rw [pre_keeps rest _ (fun x hx => hs x (.tail _ hx)) h, keep]

theorem pre_step {A : Act} {w0 : World} (h0 : S w0) {o : Oper} (ho : softOp P o = true) {d : Nat} (hd : o.dst = some d) {rest : List Oper} (hr : ∀ x ∈ rest, softOp P x = true ∧ x.dst ≠ some d) {a : Act} (hlt : d < a.tmps.size)
    (h : ∀ w', S w' → wpList P ops (PreQ A w') (o :: rest) a w') : ∃ v, YieldsIf P ops S o v a ∧ ∀ w', S w' → wpList P ops (PreQ A w') rest (a.put o.dst v) w' := by
  by_cases hw : Region.wanted o (yielded ops a.tmps) = true
  · have each : ∀ w', S w' → ∃ v, (execOp a.eval o).run P w' = .ok (.value v) w' ∧ wpList P ops (PreQ A w') rest (a.put o.dst v) w' ∧ A.tmps[d]? = some v := fun w' hS => by
      have := h w' hS
      simp only [wpList] at this
      rw [if_pos hw] at this
      rcases this with h | ⟨_, hl⟩
      · obtain ⟨v, h1, h2⟩ := pre_run ho h
        refine ⟨v, h1, h2, ?_⟩
        rw [pre_keeps rest _ hr h2, hd]
        simp [Act.put, hlt]
      · exact absurd hl segQ_out
    obtain ⟨v, _, _, hv⟩ := each w0 h0
    have same : ∀ w', S w' → (execOp a.eval o).run P w' = .ok (.value v) w' ∧ wpList P ops (PreQ A w') rest (a.put o.dst v) w' := fun w' hS => by
      obtain ⟨u, h1, h2, h3⟩ := each w' hS
      rw [hv] at h3
      cases h3
      exact ⟨h1, h2⟩
    exact ⟨v, .inl ⟨hw, fun w' hS => (same w' hS).1⟩, fun w' hS => (same w' hS).2⟩
  · refine ⟨undef, .inr ⟨by simpa using hw, rfl⟩, fun w' hS => ?_⟩
    have := h w' hS
    simp only [wpList] at this
    rwa [if_neg hw] at this

/-! ### the check -/
def isRead (ops : Array Oper) (i : Nat) : Bool := match ops[i]? with | some o => readOp o.op | none => false
def needOf (ops : Array Oper) (pre : List Nat) (j : Nat) : Bool := pre.any fun i => isRead ops i && i != j && !reachB ops i ops.size j
def dstOf (ops : Array Oper) (i : Nat) : Option Nat := match ops[i]? with | some o => o.dst | none => none
def softAt (P : Program) (ops : Array Oper) (i : Nat) : Bool := match ops[i]? with | some o => softOp P o | none => false
def heldPre (P : Program) (ops : Array Oper) (need : Nat → Bool) : List Nat → Array Bool → Bool
  | [], _ => true
  | i :: rest, listed =>
    softAt P ops i && (dstOf ops i).isSome && (rest.all fun j => softAt P ops j && dstOf ops j != dstOf ops i) &&
      (Region.ready .any ops listed).contains i && Region.free .any ops listed i &&
      (!isRead ops i || (List.range ops.size).all fun j => j == i || listed.getD j true || need j || reachB ops i ops.size j) && heldPre P ops need rest (listed.setIfInBounds i true)
def listAll : List Nat → Array Bool → Array Bool
  | [], listed => listed
  | i :: rest, listed => listAll rest (listed.setIfInBounds i true)
def quietAt (P : Program) (ops : Array Oper) (i : Nat) : Bool := match ops[i]? with | some o => quiet2 P o.op | none => false
/-- A piece: quiet operations as soon as they may come, a loud one where nothing else may come; 'last': the piece's last operation shows S. -/
def heldSeg (P : Program) (ops : Array Oper) (need : Nat → Bool) (more : Bool) : List Nat → Array Bool → Bool
  | [], _ => !more
  | i :: rest, listed =>
    (ops[i]?).isSome &&
    (if more && rest.isEmpty then decide (Region.ready .any ops listed = [i])
     else (if quietAt P ops i then (Region.ready .any ops listed).contains i && Region.free .any ops listed i
     else !more && decide (Region.ready .any ops listed = [i]) && !need i) && heldSeg P ops need more rest (listed.setIfInBounds i true))
def heldSegs (P : Program) (ops : Array Oper) (need : Nat → Bool) : List (List Nat) → Array Bool → Bool
  | [], listed => (Region.ready .any ops listed).isEmpty
  | [s], listed => heldSeg P ops need false s listed && (Region.ready .any ops (listAll s listed)).isEmpty
  | s :: s2 :: rest, listed => heldSeg P ops need true s listed && heldSegs P ops need (s2 :: rest) (listAll s listed)

theorem closed_all {listed : Array Bool} (hc : Closed ops listed) {i : Nat} (h : (Region.ready .any ops listed).contains i = true) : Closed ops (listed.setIfInBounds i true) := hc.set (by simpa using h)

/-- The last piece. -/
theorem seg_last (hs : Region.noSelect ops = true) (hP : ∀ c a w, ¬ Q (.panic c) a w) (hO : ¬ LetsOut Q) :
    ∀ (π : List Nat) (listed : Array Bool) (a : Act) (w : World), Closed ops listed → heldSeg P ops need false π listed = true → (Region.ready .any ops (listAll π listed)).isEmpty = true →
      wpList P ops Q (π.map fun i => ops.getD i default) a w → wpAnyN P ops Q S need π.length listed a w := by
  intro π
  induction π with
  | nil =>
    intro listed a w _ _ he h
    exact ⟨by simpa [listAll] using he, h⟩
  | cons i rest ih =>
    intro listed a w hcl hB he h
    simp only [heldSeg, Bool.and_eq_true, Bool.false_and, Bool.false_eq_true, if_false, Bool.not_false, Bool.true_and] at hB
    obtain ⟨h0, h1, h2⟩ := hB
    cases ho : ops[i]? with
    | none => rw [ho] at h0; cases h0
    | some o =>
      have hg : ops.getD i default = o := by rw [Array.getD_eq_getD_getElem?, ho]; rfl
      simp only [List.map_cons, hg, wpList] at h
      by_cases hq : quietAt P ops i = true
      · rw [if_pos hq, Bool.and_eq_true] at h1
        have hq' : quiet2 P o.op = true := by unfold quietAt at hq; rw [ho] at hq; exact hq
        have hcl' := closed_all hcl h1.1
        have tk : ∀ v, YieldsIf P ops (fun _ => True) o v a → wpAnyN P ops Q S need rest.length (listed.setIfInBounds i true) (a.put o.dst v) w → wpAnyN P ops Q S need (rest.length + 1) listed a w := fun v hy hk =>
          wpAnyN_take (T := fun _ => True) ho (Region.noSelect_spec hs) hP _ _ _ _ hcl (fun j oj _ _ _ => .inr fun _ _ _ _ => trivial) (Region.free_spec ho h1.2) (by simpa using h1.1) hy trivial hk
        split at h
        · rename_i hw
          rcases h with h | ⟨_, hl⟩
          · unfold Oper.wp at h
            cases hr : (execOp a.eval o).run P w with
            | halt x w' =>
              rw [hr] at h
              cases x <;> simp only [Oper.upon] at h
              exact absurd h (hP _ _ _)
            | ok n w' =>
              obtain ⟨rfl, ⟨v, rfl⟩, hall⟩ := quiet2_wless (P := P) (ρ := a.eval) hq' _ _ _ hr
              rw [hr] at h
              exact tk v (.inl ⟨hw, fun w2 _ => hall w2⟩) (ih _ _ _ hcl' h2 he h)
          · exact absurd hl hO
        · rename_i hw
          exact tk undef (.inr ⟨by simpa using hw, rfl⟩) (ih _ _ _ hcl' h2 he h)
      · rw [if_neg hq] at h1
        simp only [Bool.and_eq_true, decide_eq_true_eq, Bool.not_eq_true'] at h1
        obtain ⟨hr, hn⟩ := h1
        have hin : i ∈ Region.ready .any ops listed := by rw [hr]; simp
        have hcl' := hcl.set hin
        refine ⟨fun h0 => (by rw [h0] at hr; cases hr), fun j hj => ?_⟩
        obtain rfl : j = i := by rw [hr] at hj; simpa using hj
        have nn : need j = true → S w → ∀ w', S w' := fun e => by rw [hn] at e; cases e
        unfold wpOp
        simp only [ho]
        split
        · rename_i hw
          rw [if_pos hw] at h
          exact h.imp (Oper.wp_mono fun a w' hh => ⟨fun e hS => nn e hS w', ih _ _ _ hcl' h2 he hh⟩) id
        · rename_i hw
          rw [if_neg hw] at h
          exact ⟨fun e hS => nn e hS w, ih _ _ _ hcl' h2 he h⟩

theorem seg_more (hs : Region.noSelect ops = true) (hP : ∀ c a w, ¬ Q (.panic c) a w) {k : Act → World → Prop} {fuel : Nat} :
    ∀ (π : List Nat) (listed : Array Bool) (a : Act) (w : World), Closed ops listed → heldSeg P ops need true π listed = true →
      (∀ a' w', Closed ops (listAll π listed) → S w' → k a' w' → wpAnyN P ops Q S need fuel (listAll π listed) a' w') →
      wpList P ops (SegQ fun a' w' => S w' ∧ k a' w') (π.map fun i => ops.getD i default) a w → wpAnyN P ops Q S need (π.length + fuel) listed a w := by
  intro π
  induction π with
  | nil => intro listed a w _ hB; simp [heldSeg] at hB
  | cons i rest ih =>
    intro listed a w hcl hB hk h
    simp only [heldSeg, Bool.true_and] at hB
    rw [Bool.and_eq_true] at hB
    obtain ⟨h0, h1⟩ := hB
    cases ho : ops[i]? with
    | none => rw [ho] at h0; cases h0
    | some o =>
      have hg : ops.getD i default = o := by rw [Array.getD_eq_getD_getElem?, ho]; rfl
      rw [List.length_cons, show rest.length + 1 + fuel = (rest.length + fuel) + 1 by omega]
      simp only [List.map_cons, hg, wpList] at h
      by_cases he : rest.isEmpty = true
      · rw [if_pos he, decide_eq_true_eq] at h1
        obtain rfl : rest = [] := by simpa using he
        have hin : i ∈ Region.ready .any ops listed := by rw [h1]; simp
        have hcl' := hcl.set hin
        refine ⟨fun h0 => (by rw [h0] at h1; cases h1), fun j hj => ?_⟩
        obtain rfl : j = i := by rw [h1] at hj; simpa using hj
        have fin : ∀ a' w', S w' ∧ k a' w' → (need j = true → S w → S w') ∧ wpAnyN P ops Q S need (([] : List Nat).length + fuel) (listed.setIfInBounds j true) a' w' := fun a' w' hh =>
          ⟨fun _ _ => hh.1, by rw [List.length_nil, Nat.zero_add]; exact hk a' w' hcl' hh.1 hh.2⟩
        unfold wpOp
        simp only [ho]
        split
        · rename_i hw
          rw [if_pos hw] at h
          rcases h with h | ⟨_, hl⟩
          · exact .inl (wp_of_seg (fun a' w' hh => fin a' w' hh) h)
          · exact absurd hl segQ_out
        · rename_i hw
          rw [if_neg hw] at h
          exact fin _ _ h
      · rw [if_neg he, Bool.and_eq_true] at h1
        obtain ⟨h1, h2⟩ := h1
        split at h1
        · rename_i hq
          rw [Bool.and_eq_true] at h1
          have hq' : quiet2 P o.op = true := by unfold quietAt at hq; rw [ho] at hq; exact hq
          have hcl' := closed_all hcl h1.1
          have tk : ∀ v, YieldsIf P ops (fun _ => True) o v a → wpAnyN P ops Q S need (rest.length + fuel) (listed.setIfInBounds i true) (a.put o.dst v) w → wpAnyN P ops Q S need (rest.length + fuel + 1) listed a w := fun v hy hk =>
            wpAnyN_take (T := fun _ => True) ho (Region.noSelect_spec hs) hP _ _ _ _ hcl (fun j oj _ _ _ => .inr fun _ _ _ _ => trivial) (Region.free_spec ho h1.2) (by simpa using h1.1) hy trivial hk
          split at h
          · rename_i hw
            rcases h with h | ⟨_, hl⟩
            · have hsoft : softOp P o = true := by unfold softOp; rw [hq']; rfl
              unfold Oper.wp at h
              cases hr : (execOp a.eval o).run P w with
              | halt x w' =>
                rw [hr] at h
                cases x <;> simp only [Oper.upon] at h
                exact (h : False).elim
              | ok n w' =>
                obtain ⟨rfl, ⟨v, rfl⟩, hall⟩ := quiet2_wless (P := P) (ρ := a.eval) hq' _ _ _ hr
                rw [hr] at h
                exact tk v (.inl ⟨hw, fun w2 _ => hall w2⟩) (ih _ _ _ hcl' h2 hk h)
            · exact absurd hl segQ_out
          · rename_i hw
            exact tk undef (.inr ⟨by simpa using hw, rfl⟩) (ih _ _ _ hcl' h2 hk h)
        · simp at h1

def wpSegs (P : Program) (ops : Array Oper) (Q : Exit → Act → World → Prop) (S : World → Prop) : List (List Oper) → Act → World → Prop
  | [], a, w => Q .normal a w
  | [s], a, w => wpList P ops Q s a w
  | s :: s2 :: rest, a, w => wpList P ops (SegQ fun a' w' => S w' ∧ wpSegs P ops Q S (s2 :: rest) a' w') s a w
theorem segs_last {s : List Oper} {a : Act} {w : World} (h : wpList P ops Q s a w) : wpSegs P ops Q S [s] a w := h
theorem segs_more {s s2 : List Oper} {rest : List (List Oper)} {a : Act} {w : World} (h : wpList P ops (SegQ fun a' w' => S w' ∧ wpSegs P ops Q S (s2 :: rest) a' w') s a w) : wpSegs P ops Q S (s :: s2 :: rest) a w := h

theorem segs_any (hs : Region.noSelect ops = true) (hP : ∀ c a w, ¬ Q (.panic c) a w) (hO : ¬ LetsOut Q) :
    ∀ (σ : List (List Nat)) (listed : Array Bool) (a : Act) (w : World), Closed ops listed → heldSegs P ops need σ listed = true →
      wpSegs P ops Q S (σ.map fun π => π.map fun i => ops.getD i default) a w → wpAnyN P ops Q S need σ.flatten.length listed a w
  | [], listed, a, w, _, hB, h => ⟨by simpa [heldSegs] using hB, h⟩
  | [s], listed, a, w, hcl, hB, h => by
    simp only [heldSegs, Bool.and_eq_true] at hB
    simp only [List.flatten_cons, List.flatten_nil, List.append_nil]
    exact seg_last hs hP hO s listed a w hcl hB.1 hB.2 h
  | s :: s2 :: rest, listed, a, w, hcl, hB, h => by
    simp only [heldSegs, Bool.and_eq_true] at hB
    rw [List.flatten_cons, List.length_append]
    exact seg_more hs hP s listed a w hcl hB.1 (fun a' w' hc' _ hk => segs_any hs hP hO (s2 :: rest) _ a' w' hc' hB.2 hk) h

theorem pre_any (hs : Region.noSelect ops = true) (hP : ∀ c a w, ¬ Q (.panic c) a w) {A : Act} {w0 : World} (h0 : S w0) {fuel : Nat} :
    ∀ (π : List Nat) (listed : Array Bool) (a : Act), Closed ops listed → heldPre P ops need π listed = true → (∀ i ∈ π, ∀ d, dstOf ops i = some d → d < a.tmps.size) →
      (∀ w', S w' → wpList P ops (PreQ A w') (π.map fun i => ops.getD i default) a w') →
      (Closed ops (listAll π listed) → wpAnyN P ops Q S need fuel (listAll π listed) A w0) → wpAnyN P ops Q S need (π.length + fuel) listed a w0 := by
  intro π
  induction π with
  | nil =>
    intro listed a hcl _ _ h hk
    have : a = A := (h w0 h0).1
    subst this
    simpa [listAll] using hk hcl
  | cons i rest ih =>
    intro listed a hcl hB hd h hk
    simp only [heldPre, Bool.and_eq_true] at hB
    obtain ⟨⟨⟨⟨⟨⟨h1, h2⟩, h3⟩, h4⟩, h5⟩, h6⟩, h7⟩ := hB
    cases ho : ops[i]? with
    | none => unfold softAt at h1; rw [ho] at h1; cases h1
    | some o =>
      have hg : ops.getD i default = o := by rw [Array.getD_eq_getD_getElem?, ho]; rfl
      have hsoft : softOp P o = true := by unfold softAt at h1; rw [ho] at h1; exact h1
      obtain ⟨d, hdo⟩ : ∃ d, o.dst = some d := by unfold dstOf at h2; rw [ho] at h2; exact Option.isSome_iff_exists.1 h2
      have hdi : dstOf ops i = some d := by unfold dstOf; rw [ho]; exact hdo
      rw [List.length_cons, show rest.length + 1 + fuel = (rest.length + fuel) + 1 by omega]
      simp only [List.map_cons, hg] at h
      have hrest : ∀ x ∈ rest.map (fun i => ops.getD i default), softOp P x = true ∧ x.dst ≠ some d := by
        intro x hx
        obtain ⟨j, hj, rfl⟩ := List.mem_map.1 hx
        have := List.all_eq_true.1 h3 j hj
        simp only [Bool.and_eq_true, bne_iff_ne, ne_eq] at this
        unfold softAt dstOf at this
        cases hoj : ops[j]? with
        | none => rw [hoj] at this; simp at this
        | some oj =>
          rw [hoj, ho] at this
          have hgj : ops.getD j default = oj := by rw [Array.getD_eq_getD_getElem?, hoj]; rfl
          rw [hgj]
          exact ⟨this.1, fun e => this.2 (by simp only; rw [e, hdo])⟩
      obtain ⟨v, hy, hnext⟩ := pre_step (P := P) h0 hsoft hdo hrest (hd i (.head _) d hdi) h
      have hcl' := closed_all hcl h4
      have hsz : ∀ j ∈ rest, ∀ x, dstOf ops j = some x → x < (a.put o.dst v).tmps.size := fun j hj x hx => by
        have := hd j (.tail _ hj) x hx
        unfold Act.put
        rw [hdo]
        simpa using this
      have ih' := ih (listed.setIfInBounds i true) (a.put o.dst v) hcl' h7 hsz hnext hk
      by_cases hrd : isRead ops i = true
      · refine wpAnyN_take (T := S) ho (Region.noSelect_spec hs) hP _ _ _ _ hcl (fun j oj hj hji hun => ?_) (Region.free_spec ho h5) (by simpa using h4) hy h0 ih'
        rw [hrd] at h6
        simp only [Bool.not_true, Bool.false_or, List.all_eq_true, List.mem_range] at h6
        have := h6 j (Array.getElem?_eq_some_iff.1 hj).1
        simp only [Bool.or_eq_true, beq_iff_eq, hji, false_or, hun, Bool.false_eq_true] at this
        rcases this with h | h
        · exact .inr fun w w' hh hS => hh h hS
        · exact .inl h
      · have hq : quiet2 P o.op = true := by
          unfold softOp at hsoft
          unfold isRead at hrd
          rw [ho] at hrd
          rw [Bool.or_eq_true] at hsoft
          exact hsoft.resolve_right hrd
        have hy' : YieldsIf P ops (fun _ => True) o v a := by
          rcases hy with ⟨hw, hv⟩ | hy
          · refine .inl ⟨hw, fun w2 _ => ?_⟩
            exact (quiet2_wless (P := P) (ρ := a.eval) hq _ _ _ (hv w0 h0)).2.2 w2
          · exact .inr hy
        exact wpAnyN_take (T := fun _ => True) ho (Region.noSelect_spec hs) hP _ _ _ _ hcl (fun j oj _ _ _ => .inr fun _ _ _ _ => trivial) (Region.free_spec ho h5) (by simpa using h4) hy' trivial ih'

def preFits (ops : Array Oper) (π : List Nat) (n : Nat) : Bool := π.all fun i => match dstOf ops i with | some d => decide (d < n) | none => true

theorem wp_region_held {id : Nat} {l : List Oper} {a : Act} {w : World} (S : World → Prop) (pre : List Nat) (σ : List (List Nat)) (hm : P.follows .mixedOrders = true)
    (hs : Region.noSelect l.toArray = true) (hn : pre.length + σ.flatten.length = l.length)
    (hB : (heldPre P l.toArray (needOf l.toArray pre) pre (Array.replicate l.length false) && heldSegs P l.toArray (needOf l.toArray pre) σ (listAll pre (Array.replicate l.length false))) = true)
    (hP : ∀ c a w, ¬ Q (.panic c) a w) (hO : ∀ a w, ¬ Q .outgrown a w) (h0 : S w.drew)
    (hf : preFits l.toArray pre a.tmps.size = true)
    (h : ∃ A, (∀ w', S w' → wpList P l.toArray (PreQ A w') (pre.map fun i => l.getD i default) a w') ∧
      wpSegs P l.toArray Q S (σ.map fun π => π.map fun i => l.getD i default) A w.drew) : (Code.region id l.toArray true).wp P Q a w := by
  obtain ⟨A, h1, h2⟩ := h
  refine wp_region_any hm ?_
  have e : ∀ ns : List Nat, (ns.map fun i => l.getD i default) = ns.map fun i => l.toArray.getD i default := fun ns => by
    apply List.map_congr_left; intro i _; simp [List.getD_eq_getElem?_getD, Array.getD_eq_getD_getElem?]
  have hcl : Closed l.toArray (Array.replicate l.length false) := by
    intro k o _ hl
    simp [Array.getD_eq_getD_getElem?, Array.getElem?_replicate] at hl
    split at hl <;> simp at hl
  rw [Bool.and_eq_true] at hB
  have key := pre_any (P := P) (ops := l.toArray) (Q := Q) (S := S) hs hP h0 (fuel := σ.flatten.length) pre (Array.replicate l.length false) a hcl hB.1
    (fun i hi d hd => by
      have := List.all_eq_true.1 hf i hi
      rw [hd] at this
      simpa using this)
    (fun w' hS => by rw [← e]; exact h1 w' hS)
    (fun hc' => segs_any hs hP (fun ⟨a, w, h⟩ => hO a w h) σ _ A w.drew hc' hB.2 (by
      have : (σ.map fun π => π.map fun i => l.toArray.getD i default) = σ.map fun π => π.map fun i => l.getD i default := List.map_congr_left fun π _ => (e π).symm
      rw [this]
      exact h2))
  rw [hn] at key
  have := wpAny_of_need _ _ _ _ key
  simpa using this
end
end Go.Proofs.YtgpedejeifmfdaaGreat
