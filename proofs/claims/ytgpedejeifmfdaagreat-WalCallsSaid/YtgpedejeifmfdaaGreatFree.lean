/- A region that draws its order: operations that hang on no world are taken as soon as they may come; reads are taken where only reads, quiet ones and makers of new memory can come ahead of them; all others where nothing else may come. Of no program. -/
import Derived.Test.YtgpedejeifmfdaaGreatChain
namespace Go.Proofs.YtgpedejeifmfdaaGreat
open Go.RowKit

/-- w2 has all that w has. -/
structure Ext (w w2 : World) : Prop where
  size : w.heap.size ≤ w2.heap.size
  block : ∀ b, b < w.heap.size → w2.heap[b]? = w.heap[b]?
theorem Ext.refl (w : World) : Ext w w := ⟨Nat.le_refl _, fun _ _ => rfl⟩
theorem Ext.trans {a b c : World} (h : Ext a b) (k : Ext b c) : Ext a c :=
  ⟨Nat.le_trans h.size k.size, fun i hi => (k.block i (Nat.lt_of_lt_of_le hi h.size)).trans (h.block i hi)⟩
theorem Ext.some {w w2 : World} (h : Ext w w2) {b : Nat} {o : Obj} (hb : w.heap[b]? = some o) : w2.heap[b]? = some o :=
  (h.block b (Array.getElem?_eq_some_iff.1 hb).1).trans hb

def Reads (P : Program) {α : Type} (s : Sem α) : Prop := ∀ w v w1, s.run P w = .ok v w1 → w1 = w ∧ ∀ w2, Ext w w2 → s.run P w2 = .ok v w2
def Mild (P : Program) {α : Type} (s : Sem α) : Prop := ∀ w v w1, s.run P w = .ok v w1 → Ext w w1

section
variable {P : Program} {α β : Type}
theorem Wless.reads {s : Sem α} (h : Wless P s) : Reads P s := fun w v w1 hr => ⟨(h w v w1 hr).1, fun w2 _ => (h w v w1 hr).2 w2⟩
theorem Reads.mild {s : Sem α} (h : Reads P s) : Mild P s := fun w v w1 hr => by rw [(h w v w1 hr).1]; exact Ext.refl w
theorem reads_bind {s : Sem α} {k : α → Sem β} (hs : Reads P s) (hk : ∀ v, Reads P (k v)) : Reads P (s >>= k) := by
  intro w u w1 h
  rw [Sem.run_bind] at h
  cases hr : s.run P w with
  | halt x w' => rw [hr] at h; cases h
  | ok v w' =>
    rw [hr] at h
    obtain ⟨rfl, hs2⟩ := hs _ _ _ hr
    obtain ⟨rfl, hk2⟩ := hk v _ _ _ h
    exact ⟨rfl, fun w2 he => by rw [Sem.run_bind, hs2 w2 he]; exact hk2 w2 he⟩
theorem mild_bind {s : Sem α} {k : α → Sem β} (hs : Mild P s) (hk : ∀ v, Mild P (k v)) : Mild P (s >>= k) := by
  intro w u w1 h
  rw [Sem.run_bind] at h
  cases hr : s.run P w with
  | halt x w' => rw [hr] at h; cases h
  | ok v w' =>
    rw [hr] at h
    exact (hs _ _ _ hr).trans (hk v _ _ _ h)
theorem mild_pure (v : α) : Mild P (pure v : Sem α) := (wless_pure v).reads.mild
theorem mild_newObj (o : Obj) : Mild P (newObj o) := by
  intro w v w1 h
  rw [run_newObj] at h
  cases h
  refine ⟨by simp, fun b hb => ?_⟩
  simp only [Array.getElem?_push]
  rw [if_neg (by omega)]
end

theorem seen_none {p : Program} {w : World} {at_ : Addr} {u : TypeId} {k : Addr} {atomic : Bool} (h : w.heap[at_.block]? = none) : ∃ e, w.seen p at_ u k atomic = .error e := by
  unfold World.seen
  rw [h]
  simp only [bind, Except.bind]
  repeat (first | exact ⟨_, rfl⟩ | split)
theorem seen_ext {p : Program} {w w2 : World} {at_ : Addr} {u : TypeId} {k : Addr} {atomic : Bool} {r} (he : Ext w w2) (h : w.seen p at_ u k atomic = .ok r) : w2.seen p at_ u k atomic = .ok r := by
  cases hb : w.heap[at_.block]? with
  | none => obtain ⟨e, h'⟩ := seen_none (p := p) (u := u) (k := k) (atomic := atomic) hb; rw [h'] at h; cases h
  | some o =>
    have h2 : w2.heap[at_.block]? = w.heap[at_.block]? := (he.some hb).trans hb.symm
    unfold World.seen at h ⊢
    rw [h2]
    exact h
theorem viewLoad_ext {p : Program} {w w2 : World} {at_ : Addr} {u : TypeId} {k : Addr} {atomic : Bool} {r} (he : Ext w w2) (h : w.viewLoad p at_ u k atomic = .ok r) : w2.viewLoad p at_ u k atomic = .ok r := by
  unfold World.viewLoad at h ⊢
  cases hs : w.seen p at_ u k atomic with
  | error e => rw [hs] at h; cases h
  | ok q => rw [seen_ext he hs]; rw [hs] at h; exact h
theorem reads_load {P : Program} (a : Addr) (m : Mode) : Reads P (load a m) := by
  intro w v w1 h
  rw [run_load] at h
  cases hb : w.heap[a.block]? with
  | none =>
    simp [World.cell?, hb, World.farLoad] at h
  | some o =>
    cases hc : w.cell? a with
    | some x =>
      rw [hc] at h
      cases h
      refine ⟨rfl, fun w2 he => ?_⟩
      have : w2.cell? a = some v := by
        unfold World.cell? at hc ⊢
        rw [he.some hb]; rw [hb] at hc; exact hc
      rw [run_load, this]
    | none =>
      rw [hc] at h
      cases hf : w.farLoad P a (m == .atomic) with
      | error e => simp only [hf] at h; cases h
      | ok q =>
        obtain ⟨v', q2⟩ := q
        simp only [hf] at h
        cases h
        refine ⟨rfl, fun w2 he => ?_⟩
        have hc2 : w2.cell? a = none := by
          unfold World.cell? at hc ⊢
          rw [he.some hb]; rw [hb] at hc; exact hc
        have hf2 : w2.farLoad P a (m == .atomic) = .ok (v, q2) := by
          unfold World.farLoad at hf ⊢
          rw [he.some hb]
          rw [hb] at hf
          cases o with
          | view at_ u =>
            simp only at hf ⊢
            cases hv : w.viewLoad P at_ u a (m == .atomic) with
            | error e => rw [hv] at hf; cases hf
            | ok r => rw [viewLoad_ext he hv]; rw [hv] at hf; exact hf
          | _ => simp at hf
        rw [run_load, hc2, hf2]

theorem reads_loadCellsFrom {P : Program} (a : Addr) : ∀ (n i : Nat) (acc : Array Value), Reads P (loadCellsFrom a i n acc)
  | 0, _, acc => (wless_pure acc).reads
  | n + 1, i, acc => reads_bind (reads_load _ _) fun v => reads_loadCellsFrom a n (i + 1) (acc.push v)
theorem wless_isAgg {P : Program} (t : TypeId) : Wless P (isAgg t) := by
  unfold isAgg
  refine wless_bind (wless_underlying t) fun d => ?_
  split <;> exact wless_pure _
theorem wless_sureAddr {P : Program} (v : Value) : Wless P (Instr.sureAddr v) := by
  unfold Instr.sureAddr
  split
  · exact wless_pure _
  · exact wless_stuck _
theorem reads_loadVar {P : Program} (t : TypeId) (a : Addr) : Reads P (loadVar t a) := by
  unfold loadVar
  refine reads_bind (wless_isAgg t).reads fun b => ?_
  cases b
  · exact reads_load _ _
  · exact reads_bind (wless_sizeOf t).reads fun n => reads_bind (reads_loadCellsFrom a n 0 #[]) fun v => (wless_pure _).reads
theorem reads_loadAt {P : Program} (t : TypeId) (v : Value) : Reads P (Instr.loadAt t v) := by
  unfold Instr.loadAt
  exact reads_bind (wless_sureAddr v).reads fun a => reads_loadVar t a

theorem wless_zeroValue {P : Program} (t : TypeId) : Wless P (zeroValue t) := by
  unfold zeroValue
  refine wless_bind (wless_typeInfo t) fun i => ?_
  split
  · exact wless_pure _
  · exact wless_unsupported _
theorem wless_listMapM {P : Program} {α β : Type} {f : α → Sem β} (h : ∀ x, Wless P (f x)) : ∀ (l : List α), Wless P (l.mapM f)
  | [] => by rw [List.mapM_nil]; exact wless_pure _
  | x :: l => by rw [List.mapM_cons]; exact wless_bind (h x) fun y => wless_bind (wless_listMapM h l) fun ys => wless_pure _
theorem wless_map {P : Program} {α β : Type} {f : α → β} {s : Sem α} (h : Wless P s) : Wless P (f <$> s) := by
  intro w v w1 hr
  rw [Sem.run_map] at hr
  cases hs : s.run P w with
  | halt x w' => rw [hs] at hr; cases hr
  | ok u w' =>
    rw [hs] at hr
    obtain ⟨rfl, h2⟩ := h _ _ _ hs
    cases hr
    exact ⟨rfl, fun w2 => by rw [Sem.run_map, h2 w2]; rfl⟩
theorem wless_arrayMapM {P : Program} {α β : Type} {f : α → Sem β} (h : ∀ x, Wless P (f x)) (l : Array α) : Wless P (l.mapM f) := by
  rw [Array.mapM_eq_mapM_toList]
  exact wless_map (wless_listMapM h _)
theorem wless_build {P : Program} (t : TypeId) (ps : Array (Nat × Value)) : Wless P (Instr.build t ps) := by
  unfold Instr.build
  refine wless_bind (wless_zeroValue t) fun z => ?_
  refine wless_bind (wless_underlying t) fun d => ?_
  split
  · refine wless_bind (wless_arrayMapM (fun f => wless_bind (wless_sizeOf _) fun _ => wless_pure _) _) fun pl => ?_
    split
    · exact wless_pure _
    · exact wless_stuck _
  · refine wless_bind (wless_sizeOf _) fun n => ?_
    split
    · exact wless_pure _
    · exact wless_stuck _
  · exact wless_stuck _
theorem mild_buildSlice {P : Program} (t : TypeId) (n : Nat) (ps : Array (Nat × Value)) : Mild P (Instr.buildSlice t n ps) := by
  have stuck : ∀ (s : String), Mild P (stuck s : Sem Value) := fun s => (wless_stuck s).reads.mild
  unfold Instr.buildSlice
  refine mild_bind (wless_underlying t).reads.mild fun d => ?_
  split
  · refine mild_bind (wless_sizeOf _).reads.mild fun z => ?_
    have tail : ∀ (e : TypeId) (zero : Array Value), Mild P (do
        let some cells := Instr.fill (fun i => some (i * z, z)) ((Array.range (n * z)).map (zero[· % zero.size]!)) ps.toList
          | Go.stuck "buildSlice: a part of the wrong size"
        pure (Value.slice (some (← newRow e cells)) n n)) := by
      intro e zero
      split
      · refine mild_bind ?_ fun a => mild_pure _
        unfold newRow
        exact mild_bind (mild_newObj _) fun _ => mild_pure _
      · exact stuck _
    have big : ∀ {k : Unit → Sem Value}, (∀ u, Mild P (k u)) → Mild P (unsupported (α := Unit) (.resourceLimit "buildSlice: more than 2^24 cells") >>= k) := fun h => mild_bind (wless_unsupported _).reads.mild h
    split
    · dsimp only
      split
      · exact big fun _ => mild_bind (mild_pure _) (tail _)
      · exact mild_bind (mild_pure _) (tail _)
    · dsimp only
      split
      · exact big fun _ => mild_bind (wless_zeroValue _).reads.mild fun _ => mild_bind (mild_pure _) (tail _)
      · exact mild_bind (wless_zeroValue _).reads.mild fun _ => mild_bind (mild_pure _) (tail _)
  · exact stuck _

theorem wless_bindv {P : Program} {α β : Type} {s : Sem α} {k : α → Sem β} (hs : Wless P s) (hk : ∀ w v w1, s.run P w = .ok v w1 → Wless P (k v)) : Wless P (s >>= k) := by
  intro w u w1 h
  rw [Sem.run_bind] at h
  cases hr : s.run P w with
  | halt x w' => rw [hr] at h; cases h
  | ok v w' =>
    rw [hr] at h
    have hk' := hk _ _ _ hr
    obtain ⟨rfl, hs2⟩ := hs _ _ _ hr
    obtain ⟨rfl, hk2⟩ := hk' _ _ _ h
    exact ⟨rfl, fun w2 => by rw [Sem.run_bind, hs2 w2]; exact hk2 w2⟩

def fieldPlain (P : Program) (s : TypeId) (f : Nat) : Bool :=
  match P.underlying s with
  | some (.struct fs) => (match fs[f]? with | some fd => (match P.info? fd.type with | some i => i.size != 0 | none => true) | none => true)
  | _ => true

theorem wless_fieldAt {P : Program} {s : TypeId} {x : Value} {f : Nat} (h : fieldPlain P s f = true) : Wless P (Instr.fieldAt s x f) := by
  unfold Instr.fieldAt
  refine wless_bindv (wless_underlying s) fun w d w1 hd => ?_
  have hd' : P.underlying s = some d := by
    unfold underlying at hd
    rw [Sem.run_bind, run_program] at hd
    simp only [Result.andThen] at hd
    cases hu : P.underlying s with
    | none => rw [hu] at hd; cases hd
    | some d' => rw [hu] at hd; cases hd; rfl
  split
  · rename_i fields
    unfold fieldPlain at h
    rw [hd'] at h
    simp only at h
    split
    · rename_i fd hfd
      rw [hfd] at h
      simp only at h
      refine wless_bind (wless_sureAddr _) fun a => wless_bind ?_ fun _ => wless_pure _
      unfold fieldPlace
      refine wless_bindv (wless_sizeOf _) fun w n w1 hn => ?_
      have hn' : ∃ i, P.info? fd.type = some i ∧ i.size = n := by
        unfold sizeOf typeInfo at hn
        simp only [Sem.run_bind, run_program, Result.andThen] at hn
        cases hu : P.info? fd.type with
        | none => rw [hu] at hn; cases hn
        | some i => rw [hu] at hn; cases hn; exact ⟨i, rfl, rfl⟩
      obtain ⟨i, hi, rfl⟩ := hn'
      rw [hi] at h
      simp only [bne_iff_ne, ne_eq] at h
      rw [if_neg h]
      exact wless_pure _
    · exact wless_stuck _
  · exact wless_stuck _

theorem wless_boundsAt {P : Program} {α : Type} (x : Int) (y : Nat) (s : Bool) (c : BoundsCode) : Wless P (runtimePanic (.bounds x y s c) : Sem α) := by
  intro w u w1 h
  simp [runtimePanic, goPanic] at h
theorem wless_indexAt {P : Program} (t : TypeId) (x ix : Value) : Wless P (Instr.indexAt t x ix) := by
  unfold Instr.indexAt
  refine wless_bind (wless_asIntOf ix) fun p => ?_
  obtain ⟨k, i⟩ := p
  refine wless_bind (wless_underlying t) fun d => ?_
  split
  · refine wless_bind (wless_sureAddr _) fun a => ?_
    refine wless_bind (wless_pure _) fun q => ?_
    obtain ⟨b, len, elem⟩ := q
    refine wless_bind (wless_underlying t) fun d => ?_
    dsimp only
    repeat (first | exact wless_pure _ | exact wless_unsupported _ | exact wless_bounds _ _ _ _ | exact wless_bind (wless_sizeOf _) fun _ => wless_pure _ | split)
  · refine wless_bind (wless_pure _) fun q => ?_
    obtain ⟨b, len, elem⟩ := q
    refine wless_bind (wless_underlying t) fun d => ?_
    dsimp only
    repeat (first | exact wless_pure _ | exact wless_unsupported _ | exact wless_bounds _ _ _ _ | exact wless_bind (wless_sizeOf _) fun _ => wless_pure _ | split)
  · refine wless_bind (wless_stuck _) fun q => ?_
    obtain ⟨b, len, elem⟩ := q
    refine wless_bind (wless_underlying t) fun d => ?_
    dsimp only
    repeat (first | exact wless_pure _ | exact wless_unsupported _ | exact wless_bounds _ _ _ _ | exact wless_bind (wless_sizeOf _) fun _ => wless_pure _ | split)
theorem wless_sliceArr {P : Program} (t : TypeId) (x : Value) (lo hi : Option Value) (ht : ∃ n e, P.underlying t = some (.array n e)) : Wless P (Instr.sliceAt t x lo hi none) := by
  obtain ⟨n, e, ht⟩ := ht
  have hu : ∀ w, (underlying t).run P w = .ok (.array n e) w := fun w => run_underlying ht (w := w)
  unfold Instr.sliceAt
  refine wless_bindv (wless_underlying t) fun w d w1 hd => ?_
  rw [hu] at hd
  cases hd
  dsimp only
  exact wless_bind (wless_sureAddr _) fun a => wless_bind (wless_sliceBounds _ _ _ _ _) fun q => by
    obtain ⟨l, h, m⟩ := q
    exact wless_bind (wless_sizeOf _) fun _ => wless_pure _
theorem wless_arrayAt {P : Program} (t : TypeId) (x : Value) : Wless P (Instr.arrayAt t x) := by
  unfold Instr.arrayAt
  refine wless_bind (wless_underlying t) fun d => ?_
  split
  · split
    · split
      · exact wless_boundsAt _ _ _ _
      · exact wless_pure _
    · exact wless_stuck _
  · exact wless_stuck _
theorem wless_part {P : Program} (t : TypeId) (cs : Array Value) (o : Nat) : Wless P (part t cs o) := by
  unfold part
  repeat (first | exact wless_pure _ | exact wless_stuck _ | exact wless_unsupported _ | exact wless_isAgg _ | exact wless_sizeOf _ | split | refine wless_bind ?_ fun _ => ?_)
theorem wless_followBlind {P : Program} : ∀ (l : List FieldStep) (t : TypeId) (x : Option Value), Wless P (followBlind l t x)
  | [], t, x => wless_pure _
  | s :: rest, t, x => by
    unfold followBlind
    refine wless_bind (wless_underlying _) fun d => ?_
    repeat (first | exact wless_pure _ | exact wless_stuck _ | exact wless_unsupported _ | exact wless_followBlind _ _ _ | exact wless_bind (wless_part _ _ _) fun _ => wless_followBlind _ _ _ | split)
theorem wless_nilAhead {P : Program} : ∀ (n : Nat) (t : TypeId) (v : Value) (name : String), Wless P (nilAhead n t v name)
  | 0, _, _, _ => wless_pure _
  | n + 1, t, v, name => by
    unfold nilAhead
    refine wless_bind (wless_typeInfo _) fun i => ?_
    split
    · refine wless_bind (wless_followBlind _ _ _) fun r => ?_
      split
      · exact wless_pure _
      · split
        · exact wless_nilAhead n _ _ _
        · exact wless_pure _
        · exact wless_stuck _
        · exact wless_pure _
        · exact wless_pure _
        · refine wless_bind (wless_underlying _) fun d => ?_
          split <;> exact wless_pure _
    · exact wless_stuck _

/-! ### operations -/
def arrType (P : Program) (t : TypeId) : Bool := match P.underlying t with | some (.array _ _) => true | _ => false
def quiet2 (P : Program) (op : Op) : Bool :=
  quietOp P op || (match op with
    | .nilCheck _ | .indexAddr .. | .build .. | .sliceToArrayPointer .. => true
    | .fieldAddr s _ f => fieldPlain P s f
    | .slice t _ _ _ none => arrType P t
    | _ => false)
def readOp : Op → Bool
  | .load .. => true
  | _ => false
def mildCall (c : Call) : Bool := match c.callee with | .builtin .max => true | .builtin .min => true | _ => false
def mildOp (P : Program) (op : Op) : Bool :=
  quiet2 P op || readOp op || (match op with | .buildSlice .. => true | .call c => mildCall c | _ => false)

theorem quiet2_wless {P : Program} {ρ : Operand → Value} {o : Oper} (h : quiet2 P o.op = true) : WlessOp P (execOp ρ o) := by
  unfold quiet2 at h
  rw [Bool.or_eq_true] at h
  rcases h with h | h
  · exact quietOp_wless h
  obtain ⟨dst, op, ty, pos, after, guard⟩ := o
  simp only at h
  unfold execOp
  cases op with
  | nilCheck x =>
    simp only
    generalize ρ x = v
    have hp : ∀ u : Value, WlessOp P (pure (Next.value u)) := fun u => wlessOp_value (wless_pure u)
    have hd : WlessOp P (runtimePanic .nilDeref) := fun w n w1 hr => by simp [runtimePanic, goPanic] at hr
    split
    · exact hd
    · exact hd
    · exact hd
    · split
      · exact hd
      · rename_i name first captured _ t v _
        have : WlessOp P (do
            let b ← nilAhead (P.types.size + Made.depth) t v name
            if b != some false then unsupported (.noEntry "op/nilCheck.the method's receiver behind this interface value is a nil pointer, or cannot be seen to be none, and the arguments act or may panic (ledger 612)")
            pure (.value (.func (.method name) first captured))) := by
          intro w n w1 hr
          have hw : Wless P (do
            let b ← nilAhead (P.types.size + Made.depth) t v name
            if b != some false then unsupported (.noEntry "op/nilCheck.the method's receiver behind this interface value is a nil pointer, or cannot be seen to be none, and the arguments act or may panic (ledger 612)")
            pure (Next.value (.func (.method name) first captured))) := wless_bind (wless_nilAhead _ _ _ _) fun b => by
              dsimp only
              split
              · exact wless_bind (wless_unsupported _) fun _ => wless_pure _
              · exact wless_bind (wless_pure _) fun _ => wless_pure _
          obtain ⟨h1, h2⟩ := hw _ _ _ hr
          refine ⟨h1, ?_, h2⟩
          rw [Sem.run_bind] at hr
          cases hs : (nilAhead (P.types.size + Made.depth) t v name).run P w with
          | halt x w' => rw [hs] at hr; cases hr
          | ok b w' =>
            rw [hs] at hr
            simp only [Result.andThen] at hr
            split at hr
            · simp at hr
            · simp [Sem.run_pure] at hr; exact ⟨_, hr.1.symm⟩
        exact this
      · exact hp _
    · exact hp _
  | indexAddr t x ix => exact wlessOp_value (wless_indexAt _ _ _)
  | build t ps => exact wlessOp_value (wless_build _ _)
  | sliceToArrayPointer t x => exact wlessOp_value (wless_arrayAt _ _)
  | fieldAddr s x f => exact wlessOp_value (wless_fieldAt h)
  | slice t x lo hi mx =>
    cases mx with
    | some m => simp at h
    | none =>
      refine wlessOp_value (wless_sliceArr t (ρ x) (lo.map ρ) (hi.map ρ) ?_)
      simp only [arrType] at h
      split at h
      · rename_i n e he; exact ⟨n, e, he⟩
      · cases h
  | _ => simp at h

def ReadsOp (P : Program) (s : Sem Next) : Prop := ∀ w n w1, s.run P w = .ok n w1 → w1 = w ∧ (∃ v, n = .value v) ∧ ∀ w2, Ext w w2 → s.run P w2 = .ok n w2
def MildOp (P : Program) (s : Sem Next) : Prop := ∀ w n w1, s.run P w = .ok n w1 → Ext w w1 ∧ ∃ v, n = .value v
theorem WlessOp.reads {P : Program} {s : Sem Next} (h : WlessOp P s) : ReadsOp P s := fun w n w1 hr => ⟨(h w n w1 hr).1, (h w n w1 hr).2.1, fun w2 _ => (h w n w1 hr).2.2 w2⟩
theorem ReadsOp.mild {P : Program} {s : Sem Next} (h : ReadsOp P s) : MildOp P s := fun w n w1 hr => ⟨by rw [(h w n w1 hr).1]; exact Ext.refl w, (h w n w1 hr).2.1⟩
theorem value_of {P : Program} {s : Sem Value} {w : World} {n : Next} {w1 : World} (hr : (do pure (Next.value (← s))).run P w = .ok n w1) : ∃ v, n = .value v ∧ s.run P w = .ok v w1 := by
  rw [Sem.run_bind] at hr
  cases hs : s.run P w with
  | halt x w' => rw [hs] at hr; cases hr
  | ok v w' => rw [hs] at hr; simp [Result.andThen, Sem.run_pure] at hr; exact ⟨v, hr.1.symm, by rw [hr.2]⟩
theorem readOp_reads {P : Program} {ρ : Operand → Value} {o : Oper} (h : readOp o.op = true) : ReadsOp P (execOp ρ o) := by
  obtain ⟨dst, op, ty, pos, after, guard⟩ := o
  simp only at h
  cases op with
  | load t x =>
    unfold execOp
    intro w n w1 hr
    obtain ⟨v, rfl, hs⟩ := value_of hr
    obtain ⟨h1, h2⟩ := reads_loadAt t (ρ x) _ _ _ hs
    refine ⟨h1, ⟨v, rfl⟩, fun w2 he => ?_⟩
    show (do pure (Next.value (← Instr.loadAt t (ρ x)))).run P w2 = _
    rw [Sem.run_bind, h2 w2 he]
    rfl
  | _ => simp [readOp] at h
theorem mild_choose {P : Program} (q : Question) : Mild P (choose q) := by
  intro w v w1 h
  rw [run_choose] at h
  split at h <;> cases h <;> exact ⟨Nat.le_refl _, fun _ _ => rfl⟩
theorem mild_foldlM {P : Program} {α β : Type} {f : β → α → Sem β} (h : ∀ b a, Mild P (f b a)) : ∀ (l : List α) (b : β), Mild P (l.foldlM f b)
  | [], b => by rw [List.foldlM_nil]; exact mild_pure _
  | x :: l, b => by rw [List.foldlM_cons]; exact mild_bind (h b x) fun b' => mild_foldlM h l b'
theorem mild_stringOp {P : Program} (op : BinOp) (x y : ByteArray) : Mild P (Op.stringOp op x y) := by
  unfold Op.stringOp
  repeat (first | exact mild_pure _ | exact (wless_stuck _).reads.mild | exact (wless_unsupported _).reads.mild | split | refine mild_bind ?_ fun _ => ?_)
theorem mild_max2 {P : Program} (x y : Value) : Mild P (Builtin.max2 x y) := by
  unfold Builtin.max2
  repeat (first | exact mild_pure _ | exact (wless_stuck _).reads.mild | exact (wless_unsupported _).reads.mild | exact mild_choose _ | exact mild_stringOp _ _ _ | exact (wless_asBool _).reads.mild | split | refine mild_bind ?_ fun _ => ?_)
theorem mild_min2 {P : Program} (x y : Value) : Mild P (Builtin.min2 x y) := by
  unfold Builtin.min2
  repeat (first | exact mild_pure _ | exact (wless_stuck _).reads.mild | exact (wless_unsupported _).reads.mild | exact mild_choose _ | exact mild_stringOp _ _ _ | exact (wless_asBool _).reads.mild | split | refine mild_bind ?_ fun _ => ?_)
theorem mild_max {P : Program} (ats : Array TypeId) (ty : TypeId) (args : Array Value) : Mild P (Builtin.max_ ats ty args) := by
  unfold Builtin.max_
  split
  · exact (wless_stuck _).reads.mild
  · exact mild_foldlM (fun b a => mild_max2 b a) _ _
theorem mild_min {P : Program} (ats : Array TypeId) (ty : TypeId) (args : Array Value) : Mild P (Builtin.min_ ats ty args) := by
  unfold Builtin.min_
  split
  · exact (wless_stuck _).reads.mild
  · exact mild_foldlM (fun b a => mild_min2 b a) _ _
theorem mildOp_mild {P : Program} {ρ : Operand → Value} {o : Oper} (h : mildOp P o.op = true) : MildOp P (execOp ρ o) := by
  unfold mildOp at h
  rw [Bool.or_eq_true, Bool.or_eq_true] at h
  rcases h with (h | h) | h
  · exact (quiet2_wless h).reads.mild
  · exact (readOp_reads h).mild
  · obtain ⟨dst, op, ty, pos, after, guard⟩ := o
    simp only at h
    cases op with
    | buildSlice t n ps =>
      unfold execOp
      intro w nx w1 hr
      obtain ⟨v, rfl, hs⟩ := value_of hr
      exact ⟨mild_buildSlice _ _ _ _ _ _ hs, v, rfl⟩
    | call c =>
      obtain ⟨callee, args, ats⟩ := c
      simp only [mildCall] at h
      split at h
      · have e : ∀ ρ : Operand → Value, execOp ρ { dst := dst, op := Op.call { callee := .builtin .max, args := args, argTypes := ats }, type := ty, pos := pos, after := after, guard := guard } = (do pure (Next.value (← Builtin.max_ ats ty (args.map ρ)))) := fun _ => rfl
        rw [e]
        intro w nx w1 hr
        obtain ⟨v, rfl, hs⟩ := value_of hr
        exact ⟨mild_max _ _ _ _ _ _ hs, v, rfl⟩
      · have e : ∀ ρ : Operand → Value, execOp ρ { dst := dst, op := Op.call { callee := .builtin .min, args := args, argTypes := ats }, type := ty, pos := pos, after := after, guard := guard } = (do pure (Next.value (← Builtin.min_ ats ty (args.map ρ)))) := fun _ => rfl
        rw [e]
        intro w nx w1 hr
        obtain ⟨v, rfl, hs⟩ := value_of hr
        exact ⟨mild_min _ _ _ _ _ _ hs, v, rfl⟩
      · cases h
    | _ => simp at h

/-! ### the orders -/
section
variable {P : Program} {ops : Array Oper} {Q : Exit → Act → World → Prop}
def YieldsE (P : Program) (ops : Array Oper) (o : Oper) (v : Value) (a : Act) (w : World) : Prop :=
  (Region.wanted o (yielded ops a.tmps) = true ∧ ∀ w2, Ext w w2 → (execOp a.eval o).run P w2 = .ok (.value v) w2) ∨
  (Region.wanted o (yielded ops a.tmps) = false ∧ v = undef)
theorem YieldsE.wpOp {i : Nat} {o : Oper} {v : Value} {a : Act} {w : World} (hi : ops[i]? = some o) (hy : YieldsE P ops o v a w)
    {K : Act → World → Prop} (h : K (a.put o.dst v) w) : wpOp P ops Q i K a w := by
  unfold Go.wpOp
  simp only [hi]
  rcases hy with ⟨hw, hv⟩ | ⟨hw, rfl⟩
  · simp only [hw, if_true, Oper.wp, hv w (Ext.refl w), Oper.upon]; exact .inl h
  · simp only [hw, Bool.false_eq_true, if_false]; exact h
theorem YieldsE.of_same {o : Oper} {v : Value} {a a' : Act} {w w' : World} (hy : YieldsE P ops o v a w) (he : execOp a'.eval o = execOp a.eval o)
    (hw : Region.wanted o (yielded ops a'.tmps) = Region.wanted o (yielded ops a.tmps)) (hx : Ext w w') : YieldsE P ops o v a' w' := by
  rcases hy with ⟨h1, h2⟩ | ⟨h1, h2⟩
  · exact .inl ⟨by rw [hw]; exact h1, fun w2 h => by rw [he]; exact h2 w2 (hx.trans h)⟩
  · exact .inr ⟨by rw [hw]; exact h1, h2⟩

theorem wpOp_putE {j : Nat} {oi oj : Oper} {v : Value} (hj : ops[j]? = some oj) (hap : oi.apart ops oj = true)
    (hsi : ∀ cs b, oi.op ≠ .select cs b) (hsj : ∀ cs b, oj.op ≠ .select cs b) (hm : mildOp P oj.op = true)
    (hQ : ∀ c a w, ¬ Q (.panic c) a w) (hO : ¬ LetsOut Q) {K : Act → World → Prop} {a : Act} {w : World}
    (hy : YieldsE P ops oi v a w) (h : wpOp P ops Q j K (a.put oi.dst v) w) :
    wpOp P ops Q j (fun a' w' => YieldsE P ops oi v a' w' ∧ K (a'.put oi.dst v) w') a w := by
  obtain ⟨h1, h2, h3⟩ := Oper.apart_spec hap
  have keep : ∀ u w', Ext w w' → YieldsE P ops oi v (a.put oj.dst u) w' := fun u w' hx =>
    hy.of_same (execOp_put oi hsi a oj.dst u h3) (wanted_put oi a oj.dst u h3) hx
  unfold wpOp at *
  simp only [hj] at *
  rw [wanted_put oj a oi.dst v h1] at h
  split
  · rename_i hw
    simp only [hw, if_true] at h
    rcases h with h | ⟨_, hlets⟩
    case inr => exact absurd hlets hO
    refine .inl ?_
    unfold Oper.wp at *
    rw [execOp_put oj hsj a oi.dst v h1] at h
    cases hr : (execOp a.eval oj).run P w with
    | halt x w' =>
      rw [hr] at h
      cases x <;> simp only [Oper.upon] at h
      exact absurd h (hQ _ _ _)
    | ok n w' =>
      obtain ⟨hx, u, rfl⟩ := mildOp_mild (P := P) (ρ := a.eval) hm _ _ _ hr
      rw [hr] at h
      simp only [Oper.upon] at h ⊢
      exact ⟨keep u w' hx, by rw [← Act.put_comm a v u h2]; exact h⟩
  · rename_i hw
    simp only [hw] at h
    exact ⟨keep _ w (Ext.refl w), by rw [← Act.put_comm a v undef h2]; exact h⟩

def reachB (ops : Array Oper) (i : Nat) : Nat → Nat → Bool
  | 0, _ => false
  | n + 1, j => match ops[j]? with
    | some o => o.after.any fun e => Region.binds .any e && (e.on == i || reachB ops i n e.on)
    | none => false
/-- What is listed has all that it waits for listed. -/
def Closed (ops : Array Oper) (listed : Array Bool) : Prop :=
  ∀ k o, ops[k]? = some o → listed.getD k false = true → ∀ e ∈ o.after, Region.binds .any e = true → listed.getD e.on false = true
theorem reach_listed {listed : Array Bool} (hc : Closed ops listed) {i : Nat} : ∀ (n j : Nat) (o : Oper), ops[j]? = some o →
    (∀ e ∈ o.after, Region.binds .any e = true → listed.getD e.on false = true) → reachB ops i n j = true → listed.getD i false = true
  | 0, _, _, _, _, h => by simp [reachB] at h
  | n + 1, j, o, ho, hall, h => by
    simp only [reachB, ho] at h
    obtain ⟨e, he, hb⟩ := Array.any_eq_true'.1 h
    simp only [Bool.and_eq_true, Bool.or_eq_true, beq_iff_eq] at hb
    have hl := hall e he hb.1
    rcases hb.2 with rfl | hb2
    · exact hl
    · cases hk : ops[e.on]? with
      | none => cases n <;> simp [reachB, hk] at hb2
      | some o2 => exact reach_listed hc n e.on o2 hk (hc _ _ hk hl) hb2
theorem Closed.set {listed : Array Bool} (hc : Closed ops listed) {i : Nat} (hi : i ∈ Region.ready .any ops listed) : Closed ops (listed.setIfInBounds i true) := by
  intro k o hk hl e he hb
  by_cases hik : i = k
  · subst hik
    obtain ⟨_, o', ho', hall⟩ := mem_ready.1 hi
    rw [hk] at ho'
    cases ho'
    exact getD_set_true (hall e he hb)
  · rw [getD_set_ne false hik] at hl
    exact getD_set_true (hc k o hk hl e he hb)
/-- Nothing but mild operations can come ahead of i. -/
def barredB (P : Program) (ops : Array Oper) (listed : Array Bool) (i : Nat) : Bool :=
  (List.range ops.size).all fun j => j == i || listed.getD j true || (match ops[j]? with | some o => mildOp P o.op || reachB ops i ops.size j | none => true)

theorem wpAny_read {i : Nat} {oi : Oper} {v : Value} (hi : ops[i]? = some oi) (hsel : ∀ (j : Nat) (o : Oper) cs b, ops[j]? = some o → o.op ≠ .select cs b)
    (hQ : ∀ c a w, ¬ Q (.panic c) a w) (hO : ¬ LetsOut Q) :
    ∀ (fuel : Nat) (listed : Array Bool) (a : Act) (w : World), Closed ops listed →
      (∀ j oj, ops[j]? = some oj → j ≠ i → listed.getD j true = false → (mildOp P oj.op || reachB ops i ops.size j) = true) →
      (∀ j oj, ops[j]? = some oj → j ≠ i → listed.getD j true = false → (∀ e ∈ oj.after, Region.binds .any e = true → e.on ≠ i) → oi.apart ops oj = true) →
      i ∈ Region.ready .any ops listed → YieldsE P ops oi v a w →
      wpAny P .any ops Q fuel (listed.setIfInBounds i true) (a.put oi.dst v) w → wpAny P .any ops Q (fuel + 1) listed a w := by
  intro fuel
  induction fuel with
  | zero =>
    intro listed a w _ _ _ hr hy H
    refine ⟨fun h => (by rw [h] at hr; cases hr), fun j hj => ?_⟩
    by_cases hji : j = i
    · subst hji; exact hy.wpOp hi H
    · have := ready_mono hj hji
      rw [H.1] at this
      cases this
  | succ fuel ih =>
    intro listed a w hcl hbar hfree hr hy H
    refine ⟨fun h => (by rw [h] at hr; cases hr), fun j hj => ?_⟩
    by_cases hji : j = i
    · subst hji; exact hy.wpOp hi H
    · have h1 := H.2 j (ready_mono hj hji)
      obtain ⟨hjun, oj, hoj, hall⟩ := mem_ready.1 hj
      have hiun : listed.getD i false = false := by
        have h0 := (mem_ready.1 hr).1
        rcases Nat.lt_or_ge i listed.size with h' | h'
        · simp [h'] at h0 ⊢; exact h0
        · simp [Array.getElem?_eq_none h']
      have hnot : ∀ e ∈ oj.after, Region.binds .any e = true → e.on ≠ i := fun e he hb heq => by
        have h1 := hall e he hb
        rw [heq, hiun] at h1
        cases h1
      have hmj : mildOp P oj.op = true := by
        have := hbar j oj hoj hji hjun
        rw [Bool.or_eq_true] at this
        rcases this with h | h
        · exact h
        · have := reach_listed hcl _ j oj hoj hall h
          rw [hiun] at this
          cases this
      have h2 := wpOp_putE hoj (hfree j oj hoj hji hjun hnot) (fun cs b => hsel i oi cs b hi) (fun cs b => hsel j oj cs b hoj) hmj hQ hO hy h1
      have back : ∀ k, (listed.setIfInBounds j true).getD k true = false → listed.getD k true = false := fun k hun => by
        by_cases hjk : j = k
        · subst hjk; exact hjun
        · rw [getD_set_ne true hjk] at hun; exact hun
      refine wpOp_mono (fun a' w' h3 => ih (listed.setIfInBounds j true) a' w' (hcl.set hj) (fun k ok hk hki hun => hbar k ok hk hki (back k hun))
        (fun k ok hk hki hun hno => hfree k ok hk hki (back k hun) hno) (ready_mono hr (Ne.symm hji)) h3.1 ?_) h2
      rw [Array.setIfInBounds_comm _ _ hji]
      exact h3.2

def freeB (P : Program) (ops : Array Oper) : List Nat → Array Bool → Bool
  | [], listed => (Region.ready .any ops listed).isEmpty
  | i :: rest, listed =>
    (match ops[i]? with
     | some o => if quiet2 P o.op then (Region.ready .any ops listed).contains i && Region.free .any ops listed i
                 else if readOp o.op then (Region.ready .any ops listed).contains i && Region.free .any ops listed i && barredB P ops listed i
                 else decide (Region.ready .any ops listed = [i])
     | none => false) && freeB P ops rest (listed.setIfInBounds i true)

theorem wpAny_free (hs : Region.noSelect ops = true) (hP : ∀ c a w, ¬ Q (.panic c) a w) (hO : ¬ LetsOut Q) :
    ∀ (π : List Nat) (listed : Array Bool) (a : Act) (w : World), Closed ops listed → freeB P ops π listed = true →
      wpList P ops Q (π.map fun i => ops.getD i default) a w → wpAny P .any ops Q π.length listed a w := by
  intro π
  induction π with
  | nil =>
    intro listed a w _ hB h
    exact ⟨by simpa [freeB] using hB, h⟩
  | cons i rest ih =>
    intro listed a w hcl hB h
    simp only [freeB, Bool.and_eq_true] at hB
    obtain ⟨h1, h2⟩ := hB
    cases ho : ops[i]? with
    | none => rw [ho] at h1; cases h1
    | some o =>
      rw [ho] at h1
      have hg : ops.getD i default = o := by rw [Array.getD_eq_getD_getElem?, ho]; rfl
      simp only [List.map_cons, hg, wpList] at h
      by_cases hq : quiet2 P o.op = true
      · simp only [hq, if_true, Bool.and_eq_true] at h1
        have hcl' := hcl.set (by simpa using h1.1)
        by_cases hw : Region.wanted o (yielded ops a.tmps) = true
        · rw [if_pos hw] at h
          rcases h with h | ⟨_, hl⟩
          · unfold Oper.wp at h
            cases hr : (execOp a.eval o).run P w with
            | halt x w' =>
              rw [hr] at h
              cases x <;> simp only [Oper.upon] at h
              exact absurd h (hP _ _ _)
            | ok n w' =>
              obtain ⟨rfl, ⟨v, rfl⟩, hall⟩ := quiet2_wless (P := P) (ρ := a.eval) hq _ _ _ hr
              rw [hr] at h
              exact wpAny_take ho hs h1.2 h1.1 (fun c a w hh => absurd hh (hP _ _ _)) (.inl ⟨hw, hall⟩) (ih _ _ _ hcl' h2 h)
          · exact absurd hl hO
        · rw [if_neg hw] at h
          exact wpAny_take ho hs h1.2 h1.1 (fun c a w hh => absurd hh (hP _ _ _)) (.inr ⟨by simpa using hw, rfl⟩) (ih _ _ _ hcl' h2 h)
      · simp only [hq, Bool.false_eq_true, if_false] at h1
        by_cases hrd : readOp o.op = true
        · simp only [hrd, if_true, Bool.and_eq_true] at h1
          have hin : i ∈ Region.ready .any ops listed := by simpa using h1.1.1
          have hcl' := hcl.set hin
          have hbar : ∀ j oj, ops[j]? = some oj → j ≠ i → listed.getD j true = false → (mildOp P oj.op || reachB ops i ops.size j) = true := by
            intro j oj hj hji hun
            have := h1.2
            simp only [barredB, List.all_eq_true, List.mem_range] at this
            have := this j (Array.getElem?_eq_some_iff.1 hj).1
            simpa only [hj, Bool.or_eq_true, beq_iff_eq, hji, false_or, hun, Bool.false_eq_true] using this
          by_cases hw : Region.wanted o (yielded ops a.tmps) = true
          · rw [if_pos hw] at h
            rcases h with h | ⟨_, hl⟩
            · unfold Oper.wp at h
              cases hr : (execOp a.eval o).run P w with
              | halt x w' =>
                rw [hr] at h
                cases x <;> simp only [Oper.upon] at h
                exact absurd h (hP _ _ _)
              | ok n w' =>
                obtain ⟨rfl, ⟨v, rfl⟩, hall⟩ := readOp_reads (P := P) (ρ := a.eval) hrd _ _ _ hr
                rw [hr] at h
                exact wpAny_read ho (Region.noSelect_spec hs) hP hO _ _ _ _ hcl hbar (Region.free_spec ho h1.1.2) hin (.inl ⟨hw, hall⟩) (ih _ _ _ hcl' h2 h)
            · exact absurd hl hO
          · rw [if_neg hw] at h
            exact wpAny_read ho (Region.noSelect_spec hs) hP hO _ _ _ _ hcl hbar (Region.free_spec ho h1.1.2) hin (.inr ⟨by simpa using hw, rfl⟩) (ih _ _ _ hcl' h2 h)
        · simp only [hrd, Bool.false_eq_true, if_false, decide_eq_true_eq] at h1
          have hin : i ∈ Region.ready .any ops listed := by rw [h1]; simp
          have hcl' := hcl.set hin
          refine wpAny_all h1 (by simp) fun j hj => ?_
          obtain rfl : j = i := by simpa using hj
          unfold wpOp
          simp only [ho]
          split
          · rename_i hw
            rw [if_pos hw] at h
            exact h.imp (Oper.wp_mono fun a w hh => ih _ _ _ hcl' h2 hh) id
          · rename_i hw
            rw [if_neg hw] at h
            exact ih _ _ _ hcl' h2 h

theorem wp_region_free {id : Nat} {l : List Oper} {a : Act} {w : World} (π : List Nat) (hm : P.follows .mixedOrders = true)
    (hs : Region.noSelect l.toArray = true) (hn : π.length = l.length) (hB : freeB P l.toArray π (Array.replicate l.length false) = true)
    (hP : ∀ c a w, ¬ Q (.panic c) a w) (hO : ∀ a w, ¬ Q .outgrown a w)
    (h : wpList P l.toArray Q (π.map fun i => l.getD i default) a w.drew) : (Code.region id l.toArray true).wp P Q a w := by
  refine wp_region_any hm ?_
  have e : (π.map fun i => l.getD i default) = π.map fun i => l.toArray.getD i default := by
    apply List.map_congr_left; intro i _; simp [List.getD_eq_getElem?_getD, Array.getD_eq_getD_getElem?]
  rw [e] at h
  have hcl : Closed l.toArray (Array.replicate l.length false) := by
    intro k o _ hl
    simp [Array.getD_eq_getD_getElem?, Array.getElem?_replicate] at hl
    split at hl <;> simp at hl
  have := wpAny_free hs hP (fun ⟨a, w, h⟩ => hO a w h) π (Array.replicate l.length false) a w.drew hcl hB h
  rw [hn] at this
  simpa using this

/-! ### the orders part, once, behind operations that are quiet or read -/
end
end Go.Proofs.YtgpedejeifmfdaaGreat
