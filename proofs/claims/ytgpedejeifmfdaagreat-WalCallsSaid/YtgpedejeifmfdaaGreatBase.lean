/- Plain helpers on worlds, slices of integers and blocks: of no program. -/
import Derived.WalkKit
import Derived.WalkSpells
import Derived.WalkLawsBesides
import Derived.WalkSmall
import Derived.Outline
import Derived.BigQuiet
import Derived.Deep.QuietTactic
import Derived.Lib.Hide
import Derived.Lib.QuietBelow
import Derived.Laws.AppendOwnNone
import Derived.Laws.BytesArg
import Derived.Laws.BytesString
import Derived.Lib.Strings
namespace Go.Proofs.YtgpedejeifmfdaaGreat
open Go.RowKit

/-! ### worlds -/
theorem Below.drewN {B : Nat} {a w : World} (h : Below B a w) (n : Nat) : Below B a (w.drewN n) :=
  h.trans ⟨rfl, rfl, rfl, Nat.le_refl _, fun _ _ => rfl⟩

/-- Kept below both bounds: a callee's step behind what has been done. -/
theorem Below.then {B : Nat} {a w w' : World} (h : Below B a w) (h' : Below w.heap.size w w') (hB : B ≤ w.heap.size) : Below B a w' :=
  h.trans (h'.mono hB)

/-! ### a slice that reads as numbers -/
structure Ints (w : World) (k : IntKind) (a : Option Addr) (n c : Nat) (zs : List Int) : Prop where
  len : zs.length = n
  le : n ≤ c
  max : c ≤ 9223372036854775807
  fit : ∀ z ∈ zs, (Lit.int k z).wf = true
  cell : 0 < n → ∃ b o, a = some ⟨b, o, none⟩ ∧ ∀ j, j < n → w.cell? ⟨b, o + j, none⟩ = some (.int k (zs.getD j 0))

theorem Ints.nil0 (w : World) (k : IntKind) : Ints w k none 0 0 [] :=
  ⟨rfl, Nat.le_refl _, by omega, (fun _ h => by cases h), fun h => absurd h (by omega)⟩

theorem Ints.empty (w : World) (k : IntKind) (a : Option Addr) (c : Nat) (hc : c ≤ 9223372036854775807) : Ints w k a 0 c [] :=
  ⟨rfl, by omega, hc, (fun _ h => by cases h), fun h => absurd h (by omega)⟩

theorem Ints.of {w : World} {k : IntKind} {b o n c : Nat} {zs : List Int} (hl : zs.length = n) (hc : n ≤ c) (hm : c ≤ 9223372036854775807)
    (hf : ∀ z ∈ zs, (Lit.int k z).wf = true) (h : ∀ j, j < n → w.cell? ⟨b, o + j, none⟩ = some (.int k (zs.getD j 0))) :
    Ints w k (some ⟨b, o, none⟩) n c zs := ⟨hl, hc, hm, hf, fun _ => ⟨b, o, rfl, h⟩⟩

theorem Ints.keepOn {w w' : World} {k : IntKind} {a : Option Addr} {n c : Nat} {zs : List Int} (h : Ints w k a n c zs)
    (hk : ∀ b o, a = some ⟨b, o, none⟩ → b < w.heap.size → w'.heap[b]? = w.heap[b]?) : Ints w' k a n c zs := by
  refine ⟨h.len, h.le, h.max, h.fit, fun hn => ?_⟩
  obtain ⟨b, o, rfl, hc⟩ := h.cell hn
  have hb := World.block_lt_of_cell? w _ (hc 0 hn)
  exact ⟨b, o, rfl, fun j hj => (World.cell?_of_block (hk b o rfl hb)).trans (hc j hj)⟩

theorem Ints.keep {w w' : World} {k : IntKind} {a : Option Addr} {n c : Nat} {zs : List Int} (h : Ints w k a n c zs)
    (hb : Below w.heap.size w w') : Ints w' k a n c zs := h.keepOn fun b _ _ hlt => hb.block b hlt

theorem Ints.drewN {w : World} {k : IntKind} {a : Option Addr} {n c : Nat} {zs : List Int} (h : Ints w k a n c zs) (m : Nat) : Ints (w.drewN m) k a n c zs :=
  h.keepOn fun _ _ _ _ => rfl
theorem Ints.drew {w : World} {k : IntKind} {a : Option Addr} {n c : Nat} {zs : List Int} (h : Ints w k a n c zs) : Ints w.drew k a n c zs :=
  h.keepOn fun _ _ _ _ => rfl
theorem Ints.alloc {w : World} {k : IntKind} {a : Option Addr} {n c : Nat} {zs : List Int} (h : Ints w k a n c zs) (o : Obj) : Ints (w.alloc o) k a n c zs :=
  h.keepOn fun b _ _ hlt => Below.heap_alloc w o b hlt

/-- x[:m] -/
theorem Ints.take {w : World} {k : IntKind} {a : Option Addr} {n c : Nat} {zs : List Int} (h : Ints w k a n c zs) (m : Nat) (hm : m ≤ n) :
    Ints w k a m c (zs.take m) := by
  have hl := h.len
  have hle := h.le
  refine ⟨by rw [List.length_take]; omega, by omega, h.max, fun z hz => h.fit z (List.mem_of_mem_take hz), fun hp => ?_⟩
  obtain ⟨b, o, rfl, hc⟩ := h.cell (by omega)
  refine ⟨b, o, rfl, fun j hj => ?_⟩
  rw [hc j (by omega), List.getD_eq_getElem?_getD, List.getD_eq_getElem?_getD, List.getElem?_take, if_pos hj]

/-- x[m:], as the walk spells it. -/
theorem Ints.drop {w : World} {k : IntKind} {a : Option Addr} {n c : Nat} {zs : List Int} (h : Ints w k a n c zs) (m : Nat) (hm : m ≤ n) :
    Ints w k (if c = m then a else a.map (·.add m)) (n - m) (c - m) (zs.drop m) := by
  have hl := h.len
  have hle := h.le
  have hmx := h.max
  refine ⟨by rw [List.length_drop]; omega, by omega, by omega, fun z hz => h.fit z (List.mem_of_mem_drop hz), fun hp => ?_⟩
  obtain ⟨b, o, rfl, hc⟩ := h.cell (by omega)
  have hadd : (⟨b, o, none⟩ : Addr).add m = ⟨b, o + m, none⟩ := by unfold Addr.add; split <;> simp_all
  refine ⟨b, o + m, by rw [if_neg (by omega)]; simp [hadd], fun j hj => ?_⟩
  rw [Nat.add_assoc, hc (m + j) (by omega), List.getD_eq_getElem?_getD, List.getD_eq_getElem?_getD, List.getElem?_drop]

/-- x[m:] of what is not wholly gone. -/
theorem Ints.dropAt {w : World} {k : IntKind} {b o n c : Nat} {zs : List Int} (h : Ints w k (some ⟨b, o, none⟩) n c zs) (m : Nat) (hm : m ≤ n) :
    Ints w k (some ⟨b, o + m, none⟩) (n - m) (c - m) (zs.drop m) := by
  have hl := h.len
  have hle := h.le
  have hmx := h.max
  refine ⟨by rw [List.length_drop]; omega, by omega, by omega, fun z hz => h.fit z (List.mem_of_mem_drop hz), fun hp => ?_⟩
  obtain ⟨b', o', e, hc⟩ := h.cell (by omega)
  cases e
  refine ⟨b, o + m, rfl, fun j hj => ?_⟩
  rw [Nat.add_assoc, hc (m + j) (by omega), List.getD_eq_getElem?_getD, List.getD_eq_getElem?_getD, List.getElem?_drop]

/-! ### a slice of numbers that the call owns -/
def Own (w : World) (B : Nat) (E : TypeId) (k : IntKind) (v : Value) (zs : List Int) : Prop :=
  w.ownsRow B E 1 v zs.length (zs.map (Value.int k)) ∧ ∀ z ∈ zs, (Lit.int k z).wf = true

theorem Own.row {w : World} {B : Nat} {E : TypeId} {k : IntKind} {v : Value} {zs : List Int} (h : Own w B E k v zs) :
    w.ownsRow B E 1 v zs.length (zs.map (Value.int k)) := h.1

theorem Own.block {w : World} {B : Nat} {E : TypeId} {k : IntKind} {v : Value} {zs : List Int} (h : Own w B E k v zs) :
    ∀ g, v.ownBlock = some g → B ≤ g ∧ g < w.heap.size := h.1.lt

theorem Own.ints {w : World} {B : Nat} {E : TypeId} {k : IntKind} {v : Value} {zs : List Int} (h : Own w B E k v zs) :
    ∃ a c, v = .slice a zs.length c ∧ Ints w k a zs.length c zs ∧ (∀ b o, a = some ⟨b, o, none⟩ → B ≤ b ∧ b < w.heap.size) := by
  have hlt := h.1.lt
  obtain ⟨⟨h1, h2⟩, hf⟩ := h
  rcases h2 with ⟨rfl, h0⟩ | ⟨g, cap, cur, rfl, hb, hg, hn, hm, hs, ht⟩
  · obtain rfl : zs = [] := List.eq_nil_of_length_eq_zero h0
    exact ⟨_, _, rfl, Ints.nil0 _ _, fun b o e => by cases e⟩
  · refine ⟨_, _, rfl, Ints.of rfl hn hm hf fun j hj => ?_, fun b o e => ?_⟩
    · rw [Nat.zero_add, cell_of_row w g j cur E (0, 0) hg]
      have : (cur.toList.take (zs.length * 1))[j]? = (zs.map (Value.int k))[j]? := by rw [ht]
      rw [List.getElem?_take, if_pos (by omega)] at this
      rw [← Array.getElem?_toList, this, List.getElem?_map, List.getD_eq_getElem?_getD, List.getElem?_eq_getElem hj]
      rfl
    · cases e
      exact hlt g rfl

theorem Own.keep {w w' : World} {B : Nat} {E : TypeId} {k : IntKind} {v : Value} {zs : List Int} (h : Own w B E k v zs)
    (hk : ∀ g, v.ownBlock = some g → g < w.heap.size → w'.heap[g]? = w.heap[g]?) : Own w' B E k v zs := by
  refine ⟨⟨h.1.1, ?_⟩, h.2⟩
  rcases h.1.2 with hn | ⟨g, cap, cur, rfl, hb, hgg, rest⟩
  · exact .inl hn
  · exact .inr ⟨g, cap, cur, rfl, hb, by rw [hk g rfl (Array.getElem?_eq_some_iff.1 hgg).1]; exact hgg, rest⟩

theorem Own.mono {w : World} {B B' : Nat} {E : TypeId} {k : IntKind} {v : Value} {zs : List Int} (h : Own w B E k v zs) (hB : B' ≤ B) : Own w B' E k v zs := by
  refine ⟨⟨h.1.1, ?_⟩, h.2⟩
  rcases h.1.2 with hn | ⟨g, cap, cur, rfl, hb, hgg, rest⟩
  · exact .inl hn
  · exact .inr ⟨g, cap, cur, rfl, by omega, hgg, rest⟩

theorem Own.below {w w' : World} {B : Nat} {E : TypeId} {k : IntKind} {v : Value} {zs : List Int} (h : Own w B E k v zs)
    (hb : Below w.heap.size w w') : Own w' B E k v zs := h.keep fun g _ hlt => hb.block g hlt

theorem wf_of {k : IntKind} {n : Int} (h : (Lit.int k n).wf = true) : k.min ≤ n ∧ n ≤ k.max := by
  simpa [Lit.wf] using h
theorem wf_u8 {n : Int} (h : (Lit.int .u8 n).wf = true) : 0 ≤ n ∧ n ≤ 255 := by
  simpa [Lit.wf, IntKind.min, IntKind.max, IntKind.signed, IntKind.bits] using h
theorem wf_i64 {n : Int} (h : (Lit.int .i64 n).wf = true) : -9223372036854775808 ≤ n ∧ n ≤ 9223372036854775807 := by
  simpa [Lit.wf, IntKind.min, IntKind.max, IntKind.signed, IntKind.bits] using h

theorem Ints.u8 {w : World} {a : Option Addr} {n c : Nat} {zs : List Int} (h : Ints w .u8 a n c zs) (j : Nat) : 0 ≤ zs.getD j 0 ∧ zs.getD j 0 ≤ 255 := by
  rw [List.getD_eq_getElem?_getD]
  cases hz : zs[j]? with
  | none => simp
  | some z => exact wf_u8 (h.fit z (List.mem_of_getElem? hz))
theorem Ints.i64 {w : World} {a : Option Addr} {n c : Nat} {zs : List Int} (h : Ints w .i64 a n c zs) (j : Nat) : -9223372036854775808 ≤ zs.getD j 0 ∧ zs.getD j 0 ≤ 9223372036854775807 := by
  rw [List.getD_eq_getElem?_getD]
  cases hz : zs[j]? with
  | none => simp
  | some z => exact wf_i64 (h.fit z (List.mem_of_getElem? hz))

/-- string(x) -/
theorem Ints.string {P : Program} {w : World} {a : Option Addr} {n c : Nat} {zs : List Int} (h : Ints w .u8 a n c zs) (src e dst : TypeId)
    (hs : P.underlying src = some (.slice e)) (he : P.underlying e = some (.int .u8)) (hd : P.underlying dst = some .string) :
    (convert src dst (.slice a n c)).run P w = .ok (.string (strOfNums zs)) w := by
  rcases Nat.eq_zero_or_pos n with hn | hn
  · subst hn
    have hl := h.len
    obtain rfl : zs = [] := List.eq_nil_of_length_eq_zero hl
    rw [run_convert_bytes_string w src dst e _ 0 c hs he hd]
    cases a <;> simp [Conv.bytesToString, loadCells]
    all_goals rfl
  · obtain ⟨b, o, rfl, hc⟩ := h.cell hn
    exact run_convert_bytes_arg (P := P) w src e hs he b o n c zs h.len hc dst hd

theorem strOfNums_inj {xs ys : List Int} (hx : ∀ z ∈ xs, (Lit.int .u8 z).wf = true) (hy : ∀ z ∈ ys, (Lit.int .u8 z).wf = true) (h : strOfNums xs = strOfNums ys) : xs = ys := by
  have h' : (strOfNums xs).data.toList = (strOfNums ys).data.toList := by rw [h]
  rw [strOfNums_data, strOfNums_data] at h'
  clear h
  induction xs generalizing ys with
  | nil => cases ys with
    | nil => rfl
    | cons y ys => simp at h'
  | cons x xs ih => cases ys with
    | nil => simp at h'
    | cons y ys =>
      simp only [List.map_cons, List.cons.injEq] at h'
      have hx0 := wf_u8 (hx x List.mem_cons_self)
      have hy0 := wf_u8 (hy y List.mem_cons_self)
      have e : (UInt8.ofNat x.toNat).toNat = (UInt8.ofNat y.toNat).toNat := by rw [h'.1]
      simp only [UInt8.toNat_ofNat'] at e
      rw [ih (fun z hz => hx z (List.mem_cons_of_mem _ hz)) (fun z hz => hy z (List.mem_cons_of_mem _ hz)) h'.2]
      congr 1
      omega

theorem strOfNums_beq {xs ys : List Int} (hx : ∀ z ∈ xs, (Lit.int .u8 z).wf = true) (hy : ∀ z ∈ ys, (Lit.int .u8 z).wf = true) :
    ((strOfNums xs).toList == (strOfNums ys).toList) = decide (xs = ys) := by
  rw [Bool.eq_iff_iff, beq_iff_eq, decide_eq_true_iff, Lib.toList_data, Lib.toList_data]
  constructor
  · intro h
    refine strOfNums_inj hx hy ?_
    apply ByteArray.ext
    exact Array.ext' h
  · intro h; rw [h]

theorem tmod_pos (s : Int) (h : 0 ≤ s) (m : Int) : s.tmod m = s % m := Int.tmod_eq_emod_of_nonneg h
theorem tmod_neg (s : Int) (h : s < 0) (m : Int) : s.tmod m = -((-s) % m) := by
  have : s = -(-s) := by omega
  rw [this, Int.neg_tmod, Int.tmod_eq_emod_of_nonneg (by omega)]
  simp
/-- append(s, x...): s is nil or the call's own, x whatever reads as cells. -/
theorem wpList_append_src {P : Program} (w : World) {ops : Array Oper} {rest : List Oper} {o : Oper} {a : Act} {Q : Exit → Act → World → Prop} (hgd : Region.wanted o (yielded ops a.tmps) = true) (s x : Operand) (t : TypeId)
    (ho : o.op = .call { callee := .builtin .append, args := #[s, x], argTypes := #[t, t] })
    (base : Nat) (e : TypeId) (i : TypeInfo) (z : Value) (size bytes : Nat) (ht : P.underlying t = some (.slice e)) (hi : P.info? e = some i) (hz : i.zero = some z)
    (hsize : i.size = size) (hby : i.bytes = bytes) (hzs : z.cells.size = size) (hsz : 0 < size)
    (v : Value) (n : Nat) (xs : List Value) (hs : a.eval s = v) (hown : w.ownsRow base e size v n xs)
    (ad : Option Addr) (m c : Nat) (news : List Value) (hx : a.eval x = .slice ad m c) (hl : news.length = m * size)
    (hnews : 0 < m → ∃ b o, ad = some ⟨b, o, none⟩ ∧ ∀ j u, news[j]? = some u → w.cell? ⟨b, o + j, none⟩ = some u) (h1 : ∀ u ∈ news, u.oneCell' = true)
    (h63 : n + m ≤ maxLen) (hbytes : (n + m) * bytes ≤ 140737488355328) (hbase : base ≤ w.heap.size)
    (h : ∀ v' w', w'.ownsRow base e size v' (n + m) (xs ++ news) → w.grownBy w' v.ownBlock → (v' = .slice none 0 0 → v = .slice none 0 0) → wpList P ops Q rest (a.put o.dst v') w') : wpList P ops Q (o :: rest) a w := by
  refine BigFrame.wpList_want hgd fun K hK => ?_
  cases ad with
  | some ad =>
    refine wp_append_own w s x t ho base e i z size bytes ht hi hz hsize hby hzs hsz v n xs hs hown ad m c news hx hl ?_ h1 h63 hbytes hbase
      (fun v' w' h1 h2 h3 => hK _ _ (h v' w' h1 h2 fun e => (h3.1 e).1))
    intro j u hu
    have hj : j < news.length := (List.getElem?_eq_some_iff.1 hu).1
    have hm : 0 < m := by
      rcases Nat.eq_zero_or_pos m with h0 | h0
      · subst h0; simp at hl; subst hl; simp at hj
      · exact h0
    obtain ⟨b, o, e, hc⟩ := hnews hm
    cases e
    have hadd : (⟨b, o, none⟩ : Addr).add j = ⟨b, o + j, none⟩ := by unfold Addr.add; split <;> simp_all
    rw [hadd]
    exact hc j u hu
  | none =>
    have hm : m = 0 := by
      rcases Nat.eq_zero_or_pos m with h0 | h0
      · exact h0
      · obtain ⟨b, o, e, _⟩ := hnews h0; cases e
    subst hm
    obtain rfl : news = [] := List.eq_nil_of_length_eq_zero (by simpa using hl)
    have hx0 : ∀ w' : World, (Builtin.firstCells size 0 (.slice none 0 c)).run P w' = .ok #[] w' := fun _ => rfl
    have hrun : (Builtin.append_ #[t, t] o.type #[v, .slice none 0 c]).run P w = .ok v w := by
      rcases hown.2 with ⟨rfl, rfl⟩ | ⟨g, cap, cur, rfl, hb, hg, hn, hm, hs, ht'⟩
      · simp [Builtin.append_, run_underlying ht, sizeOf, typeInfo, hi, Builtin.lenOf, Builtin.firstCells]
      · have hsz' : (storeCells (Addr.add ⟨g, 0, none⟩ (n * i.size)) []).run P w = .ok () w := by simp [storeCells]
        simp [Builtin.append_, run_underlying ht, sizeOf, typeInfo, hi, Builtin.lenOf, Builtin.firstCells, hn, hsz']
    have h' := h v w (by simpa using hown) ⟨rfl, rfl, rfl, Nat.le_refl _, fun _ _ _ => rfl⟩ (fun e => e)
    unfold Oper.wp execOp
    simp only [ho, resolve, invoke, builtin, Sem.run_bind, Sem.run_pure, Result.andThen_ok, List.map_toArray, List.map_cons, List.map_nil, hs, hx, hrun]
    exact hK _ _ h'

/-- The same, of numbers. -/
theorem wpList_append_ints {P : Program} (w : World) {ops : Array Oper} {rest : List Oper} {o : Oper} {a : Act} {Q : Exit → Act → World → Prop} (hgd : Region.wanted o (yielded ops a.tmps) = true) (s x : Operand) (t : TypeId)
    (ho : o.op = .call { callee := .builtin .append, args := #[s, x], argTypes := #[t, t] })
    (k : IntKind) (base : Nat) (e : TypeId) (z : Value) (bytes : Nat) (ht : P.underlying t = some (.slice e))
    (hinf : (P.info? e).map (fun i => (i.zero, i.size, i.bytes)) = some (some z, 1, bytes)) (hzs : z.cells.size = 1)
    (v : Value) (xs : List Int) (hs : a.eval s = v) (hown : Own w base e k v xs)
    (ad : Option Addr) (m c : Nat) (news : List Int) (hx : a.eval x = .slice ad m c) (hnews : Ints w k ad m c news)
    (hbytes : (xs.length + m) * bytes ≤ 140737488355328) (hby : 0 < bytes) (hbase : base ≤ w.heap.size)
    (h : ∀ v' w', Own w' base e k v' (xs ++ news) → w.grownBy w' v.ownBlock → (v' = .slice none 0 0 → v = .slice none 0 0) → wpList P ops Q rest (a.put o.dst v') w') : wpList P ops Q (o :: rest) a w := by
  obtain ⟨i, hi, hz0, hz1, hz2⟩ := info_parts hinf
  have hlen := hnews.len
  refine wpList_append_src w hgd s x t ho base e i z 1 bytes ht hi hz0 hz1 hz2 hzs (by decide) v xs.length (xs.map (Value.int k)) hs hown.1 ad m c (news.map (Value.int k)) hx (by simp [hlen]) ?_ ?_ ?_ hbytes hbase ?_
  · intro hm
    obtain ⟨b, o, e, hc⟩ := hnews.cell hm
    refine ⟨b, o, e, fun j u hu => ?_⟩
    have hj : j < news.length := by have := (List.getElem?_eq_some_iff.1 hu).1; simpa using this
    rw [hc j (by omega)]
    rw [List.getElem?_map, List.getElem?_eq_getElem hj] at hu
    rw [List.getD_eq_getElem?_getD, List.getElem?_eq_getElem hj]
    exact hu
  · intro u hu
    obtain ⟨z, _, rfl⟩ := List.mem_map.1 hu
    rfl
  · have : xs.length + m ≤ (xs.length + m) * bytes := Nat.le_mul_of_pos_right _ hby
    unfold maxLen; omega
  · intro v' w' hown' hg hn
    refine h v' w' ⟨by rw [List.map_append, List.length_append, hlen]; exact hown', fun z hz => ?_⟩ hg hn
    rcases List.mem_append.1 hz with hz | hz
    · exact hown.2 z hz
    · exact hnews.fit z hz
end Go.Proofs.YtgpedejeifmfdaaGreat
