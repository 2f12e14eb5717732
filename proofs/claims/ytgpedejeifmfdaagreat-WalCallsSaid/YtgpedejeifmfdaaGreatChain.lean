/- A region that draws its order, whose loud operations follow one another by its own edges: walked once, the quiet ones taken as soon as they may come. Of no program. -/
import Derived.Test.YtgpedejeifmfdaaGreatBase
import Derived.Orders
import Derived.Laws.Panics
namespace Go.Proofs.YtgpedejeifmfdaaGreat
open Go.RowKit

/-- Where it yields at all, it yields the same in whatever world, and leaves that as it was. -/
def Wless (P : Program) {α : Type} (s : Sem α) : Prop := ∀ w v w1, s.run P w = .ok v w1 → w1 = w ∧ ∀ w2, s.run P w2 = .ok v w2

theorem wless_pure {P : Program} {α : Type} (v : α) : Wless P (pure v : Sem α) := by
  intro w u w1 h
  simp only [Sem.run_pure] at h
  cases h
  exact ⟨rfl, fun w2 => by simp [Sem.run_pure]⟩
theorem wless_halt {P : Program} {α : Type} (x : Halt) : Wless P (.halt x : Sem α) := by
  intro w u w1 h; cases h
theorem wless_bind {P : Program} {α β : Type} {s : Sem α} {k : α → Sem β} (hs : Wless P s) (hk : ∀ v, Wless P (k v)) : Wless P (s >>= k) := by
  intro w u w1 h
  rw [Sem.run_bind] at h
  cases hr : s.run P w with
  | halt x w' => rw [hr] at h; cases h
  | ok v w' =>
    rw [hr] at h
    obtain ⟨rfl, hs2⟩ := hs _ _ _ hr
    obtain ⟨rfl, hk2⟩ := hk v _ _ _ h
    exact ⟨rfl, fun w2 => by rw [Sem.run_bind, hs2 w2]; exact hk2 w2⟩
theorem wless_stuck {P : Program} {α : Type} (s : String) : Wless P (stuck s : Sem α) := wless_halt _
theorem wless_unsupported {P : Program} {α : Type} (u : Unsupported) : Wless P (unsupported u : Sem α) := wless_halt _
theorem wless_bounds {P : Program} {α : Type} (k : IntKind) (x y : Int) (c : BoundsCode) : Wless P (boundsPanic k x y c : Sem α) := by
  intro w u w1 h
  obtain ⟨s, w', hr⟩ := run_boundsPanic (α := α) (P := P) (w := w) k x y c
  rw [hr] at h; cases h
theorem wless_program {P : Program} : Wless P program := by
  intro w u w1 h
  have e : ∀ w, (program).run P w = .ok P w := fun _ => rfl
  rw [e] at h; cases h
  exact ⟨rfl, e⟩
theorem wless_underlying {P : Program} (t : TypeId) : Wless P (underlying t) := by
  unfold underlying
  refine wless_bind wless_program fun p => ?_
  split
  · exact wless_pure _
  · exact wless_stuck _
theorem wless_typeInfo {P : Program} (t : TypeId) : Wless P (typeInfo t) := by
  unfold typeInfo
  refine wless_bind wless_program fun p => ?_
  split
  · exact wless_pure _
  · exact wless_stuck _
theorem wless_sizeOf {P : Program} (t : TypeId) : Wless P (sizeOf t) := wless_bind (wless_typeInfo t) fun _ => wless_pure _
theorem wless_asIntOf {P : Program} (v : Value) : Wless P (asIntOf v) := by
  unfold asIntOf
  split
  · exact wless_pure _
  · exact wless_unsupported _
  · exact wless_stuck _
theorem wless_asBool {P : Program} (v : Value) : Wless P (asBool v) := by
  unfold asBool
  split
  · exact wless_pure _
  · exact wless_stuck _

theorem wless_sliceBound {P : Program} (x : Value) (y : Nat) (c : BoundsCode) : Wless P (Instr.sliceBound x y c) := by
  unfold Instr.sliceBound
  refine wless_bind (wless_asIntOf x) fun p => ?_
  obtain ⟨k, i⟩ := p
  dsimp only
  split
  · exact wless_pure _
  · exact wless_bounds _ _ _ _

theorem wless_sliceBounds {P : Program} (b : Bool) (len cap : Nat) (lo hi : Option Value) : Wless P (Instr.sliceBounds b len cap lo hi none) := by
  unfold Instr.sliceBounds
  refine wless_bind (wless_pure _) fun m => ?_
  cases hi <;> cases lo <;> dsimp only
  · exact wless_bind (wless_pure _) fun h => wless_bind (wless_pure _) fun l => wless_pure _
  · exact wless_bind (wless_pure _) fun h => wless_bind (wless_sliceBound _ _ _) fun l => wless_pure _
  · exact wless_bind (wless_sliceBound _ _ _) fun h => wless_bind (wless_pure _) fun l => wless_pure _
  · exact wless_bind (wless_sliceBound _ _ _) fun h => wless_bind (wless_sliceBound _ _ _) fun l => wless_pure _

theorem wless_sliceAt {P : Program} (t : TypeId) (x : Value) (lo hi : Option Value) (ht : ∃ e, P.underlying t = some (.slice e)) : Wless P (Instr.sliceAt t x lo hi none) := by
  obtain ⟨e, ht⟩ := ht
  have hu : ∀ w, (underlying t).run P w = .ok (.slice e) w := fun w => run_underlying ht (w := w)
  have key : Wless P (Instr.slice t x lo hi none) := by
    unfold Instr.slice
    refine wless_bind (wless_underlying t) fun d => ?_
    split
    · exact wless_bind (wless_sliceBounds _ _ _ _ _) fun q => by obtain ⟨l, h, m⟩ := q; exact wless_pure _
    · exact wless_bind (wless_sliceBounds _ _ _ _ _) fun q => by obtain ⟨l, h, m⟩ := q; exact wless_bind (wless_sizeOf _) fun _ => wless_pure _
    · refine wless_bind ?_ fun a => ?_
      · unfold asAddr
        split
        · exact wless_pure _
        · intro w u w1 h
          simp [runtimePanic, goPanic] at h
        · exact wless_stuck _
      · refine wless_bind (wless_underlying _) fun d => ?_
        split
        · exact wless_bind (wless_sliceBounds _ _ _ _ _) fun q => by obtain ⟨l, h, m⟩ := q; exact wless_bind (wless_sizeOf _) fun _ => wless_pure _
        · exact wless_stuck _
    · exact wless_stuck _
  intro w v w1 h
  have e2 : ∀ w, (Instr.sliceAt t x lo hi none).run P w = (Instr.slice t x lo hi none).run P w := by
    intro w
    unfold Instr.sliceAt
    rw [Sem.run_bind, hu]
    rfl
  rw [e2] at h
  obtain ⟨h1, h2⟩ := key _ _ _ h
  exact ⟨h1, fun w2 => by rw [e2]; exact h2 w2⟩

theorem wless_len {P : Program} (t : TypeId) (ats : Array TypeId) (ty : TypeId) (x : Value) (h0 : ats[0]? = some t) (ht : (∃ e, P.underlying t = some (.slice e)) ∨ P.underlying t = some .string) :
    Wless P (Builtin.len_ ats ty #[x]) := by
  have hd : ∀ d, P.underlying t = some d → ∀ w, (underlying t).run P w = .ok d w := fun d hd w => run_underlying hd (w := w)
  intro w v w1 h
  unfold Builtin.len_ at h ⊢
  simp only [h0, List.getElem?_toArray, List.getElem?_cons_zero] at h ⊢
  rcases ht with ⟨e, ht⟩ | ht
  · rw [Sem.run_bind, hd _ ht] at h
    cases x <;> simp [stuck, Sem.run_pure] at h
    obtain ⟨rfl, rfl⟩ := h
    exact ⟨rfl, fun w2 => by rw [Sem.run_bind, hd _ ht]; simp [Sem.run_pure]⟩
  · rw [Sem.run_bind, hd _ ht] at h
    cases x <;> simp [stuck, Sem.run_pure] at h
    obtain ⟨rfl, rfl⟩ := h
    exact ⟨rfl, fun w2 => by rw [Sem.run_bind, hd _ ht]; simp [Sem.run_pure]⟩

def flatType (P : Program) (t : TypeId) : Bool := match P.underlying t with | some (.slice _) => true | some .string => true | _ => false
def lenCall (P : Program) (c : Call) : Bool :=
  (match c.callee with | .builtin .len => true | _ => false) && (c.args.size == 1 && (match c.argTypes[0]? with | some t => flatType P t | none => false))

/-- Which operations are taken to be quiet. -/
def quietOp (P : Program) : Op → Bool
  | .move _ | .assign _ | .pick .. | .extract .. => true
  | .unOp .not _ _ => true
  | .slice t _ _ _ none => match P.underlying t with | some (.slice _) => true | _ => false
  | .call c => lenCall P c
  | _ => false

def WlessOp (P : Program) (s : Sem Next) : Prop := ∀ w n w1, s.run P w = .ok n w1 → w1 = w ∧ (∃ v, n = .value v) ∧ ∀ w2, s.run P w2 = .ok n w2

theorem wlessOp_value {P : Program} {s : Sem Value} (h : Wless P s) : WlessOp P (do pure (.value (← s))) := by
  intro w n w1 hr
  have hw : Wless P (do pure (Next.value (← s))) := wless_bind h fun _ => wless_pure _
  obtain ⟨h1, h2⟩ := hw _ _ _ hr
  refine ⟨h1, ?_, h2⟩
  rw [Sem.run_bind] at hr
  cases hs : s.run P w with
  | halt x w' => rw [hs] at hr; cases hr
  | ok v w' => rw [hs] at hr; exact ⟨v, by simp [Sem.run_pure] at hr; exact hr.1.symm⟩

theorem quietOp_wless {P : Program} {ρ : Operand → Value} {o : Oper} (h : quietOp P o.op = true) : WlessOp P (execOp ρ o) := by
  obtain ⟨dst, op, ty, pos, after, guard⟩ := o
  simp only at h
  unfold execOp
  cases op with
  | move x => intro w n w1 hr; cases hr; exact ⟨rfl, ⟨_, rfl⟩, fun _ => rfl⟩
  | assign x => intro w n w1 hr; cases hr; exact ⟨rfl, ⟨_, rfl⟩, fun _ => rfl⟩
  | pick c a b =>
    simp only
    intro w n w1 hr
    have hw : Wless P (do pure (Next.value (if ← asBool (ρ c) then ρ a else ρ b))) := wless_bind (wless_asBool _) fun _ => wless_pure _
    obtain ⟨h1, h2⟩ := hw _ _ _ hr
    refine ⟨h1, ?_, h2⟩
    rw [Sem.run_bind] at hr
    cases hs : (asBool (ρ c)).run P w with
    | halt x w' => rw [hs] at hr; cases hr
    | ok v w' => rw [hs] at hr; exact ⟨_, by simp [Sem.run_pure] at hr; exact hr.1.symm⟩
  | extract t i =>
    refine wlessOp_value ?_
    unfold Instr.extract
    split
    · split
      · exact wless_pure _
      · exact wless_stuck _
    · exact wless_stuck _
  | unOp u t x =>
    cases u <;> simp [quietOp] at h
    refine wlessOp_value ?_
    unfold Op.unary
    split <;> first | exact wless_pure _ | exact wless_stuck _ | (rename_i hh; cases hh) | skip
    all_goals first | exact wless_unsupported _ | (rename_i hh _; cases hh) | skip
  | slice t x lo hi mx =>
    cases mx with
    | some m => simp [quietOp] at h
    | none =>
      refine wlessOp_value ?_
      refine wless_sliceAt t (ρ x) (lo.map ρ) (hi.map ρ) ?_
      simp only [quietOp] at h
      split at h
      · rename_i e he; exact ⟨e, he⟩
      · cases h
  | call c =>
    have h' : lenCall P c = true := h
    obtain ⟨callee, args, ats⟩ := c
    unfold lenCall at h'
    simp only [Bool.and_eq_true, beq_iff_eq] at h'
    obtain ⟨h1, h2, h3⟩ := h'
    cases callee with
    | value f => simp at h1
    | invoke r m => simp at h1
    | builtin b =>
      cases b <;> simp at h1
      obtain ⟨x, rfl⟩ : ∃ x, args = #[x] := Array.size_eq_one_iff.1 h2
      cases ht : ats[0]? with
      | none => rw [ht] at h3; cases h3
      | some t =>
        rw [ht] at h3
        simp only [flatType] at h3
        have ht' : (∃ e, P.underlying t = some (.slice e)) ∨ P.underlying t = some .string := by
          split at h3
          · rename_i e he; exact .inl ⟨e, he⟩
          · rename_i he; exact .inr he
          · cases h3
        show WlessOp P (do pure (Next.value (← Builtin.len_ ats ty (Array.map ρ #[x]))))
        rw [show Array.map ρ #[x] = #[ρ x] by simp]
        exact wlessOp_value (wless_len t ats ty (ρ x) ht ht')
  | _ => simp [quietOp] at h

/-- The walk of such a region in a given order: a plain list of operations. -/
def chainB (P : Program) (ops : Array Oper) : List Nat → Array Bool → Bool
  | [], listed => (Region.ready .any ops listed).isEmpty
  | i :: rest, listed =>
    (match ops[i]? with
     | some o => if quietOp P o.op then (Region.ready .any ops listed).contains i && Region.free .any ops listed i else decide (Region.ready .any ops listed = [i])
     | none => false) && chainB P ops rest (listed.setIfInBounds i true)

end Go.Proofs.YtgpedejeifmfdaaGreat
