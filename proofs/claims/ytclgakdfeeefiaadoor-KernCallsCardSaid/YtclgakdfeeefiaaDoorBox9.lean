/- append on rows of messages; the box told by the public. -/
import Derived.Test.YtclgakdfeeefiaaDoorBox7
namespace Go.Proofs.YtclgakdfeeefiaaDoor
open Go.RowKit

theorem wpList_append_msgs (w : World) {ops : Array Oper} {rest : List Oper} {o : Oper} {a : Act} {Q : Exit → Act → World → Prop} (hgd : Region.wanted o (yielded ops a.tmps) = true) (s x : Operand)
    (ho : o.op = .call { callee := .builtin .append, args := #[s, x], argTypes := #[44, 44] })
    (B : Nat) (v : Value) (ms : List Msg) (hs : a.eval s = v) (hown : MOwn w B v ms)
    (g off k c : Nat) (ns : List Msg) (hx : a.eval x = .slice (some ⟨g, off, none⟩) k c) (hk : ns.length = k) (hk0 : 0 < k) (hnews : ∀ j u, (mrow ns)[j]? = some u → w.cell? ⟨g, off + j, none⟩ = some u)
    (hmax : ms.length + k ≤ 1000000) (hbase : B ≤ w.heap.size)
    (h : ∀ v' w', MOwn w' B v' (ms ++ ns) → w.grownBy w' v.ownBlock → (v'.ownBlock = v.ownBlock ∨ v'.ownBlock = some w.heap.size) → wpList Tryd.prog ops Q rest (a.put o.dst v') w') : wpList Tryd.prog ops Q (o :: rest) a w := by
  obtain ⟨ti, hti, hz0, hz1, hz2⟩ := info_parts Tryd.infoMsg
  refine wpList_append_row w hgd s x 44 ho B 39 ti (.agg #[.int .i64 0, .int .i64 0, .int .i64 0, .int .i64 0]) 4 32 Tryd.underlying44 hti hz0 hz1 hz2 rfl (by decide) v ms.length (mrow ms) hs hown g off k c (mrow ns) hx (by rw [mrow_len, hk]) hk0 hnews
    (fun u hu => mrow_one ns u hu) (by unfold maxLen; omega) (by omega) hbase fun v' w' h1 h2 h3 => h v' w' ?_ h2 h3
  unfold MOwn
  rw [mrow_append, List.length_append, hk]
  exact h1
theorem run_append_empty (w : World) (B : Nat) (v : Value) (ms : List Msg) (ty : TypeId) (hown : MOwn w B v ms) (xa : Option Addr) (xc : Nat) :
    (Builtin.append_ #[44, 44] ty #[v, .slice xa 0 xc]).run Tryd.prog w = .ok v w := by
  obtain ⟨ti, hti, hz0, hz1, hz2⟩ := info_parts Tryd.infoMsg
  rcases hown.2 with ⟨rfl, h0⟩ | ⟨g, cap, cur, rfl, _, _, hnc, _⟩
  · cases xa <;> simp [Builtin.append_, run_underlying Tryd.underlying44, sizeOf, typeInfo, hti, Builtin.lenOf, Builtin.firstCells, loadCells, loadCellsFrom]
  · cases xa <;> simp [Builtin.append_, run_underlying Tryd.underlying44, sizeOf, typeInfo, hti, Builtin.lenOf, Builtin.firstCells, hnc, storeCells, loadCells, loadCellsFrom]
theorem wpList_append_any (w : World) {ops : Array Oper} {rest : List Oper} {o : Oper} {a : Act} {Q : Exit → Act → World → Prop} (hgd : Region.wanted o (yielded ops a.tmps) = true) (s x : Operand)
    (ho : o.op = .call { callee := .builtin .append, args := #[s, x], argTypes := #[44, 44] })
    (B : Nat) (v : Value) (ms : List Msg) (hs : a.eval s = v) (hown : MOwn w B v ms)
    (xa : Option Addr) (k c : Nat) (ns : List Msg) (hx : a.eval x = .slice xa k c) (hm : Msgs w xa k c ns)
    (hmax : ms.length + k ≤ 1000000) (hbase : B ≤ w.heap.size)
    (h : ∀ v' w', MOwn w' B v' (ms ++ ns) → w.grownBy w' v.ownBlock → (v'.ownBlock = v.ownBlock ∨ v'.ownBlock = some w.heap.size) → wpList Tryd.prog ops Q rest (a.put o.dst v') w') : wpList Tryd.prog ops Q (o :: rest) a w := by
  rcases Nat.eq_zero_or_pos k with rfl | hk
  · have hn : ns = [] := List.eq_nil_of_length_eq_zero hm.len
    subst hn
    refine BigFrame.wpList_want hgd fun K hK => ?_
    unfold Oper.wp execOp
    simp only [ho, resolve, invoke, builtin, Sem.run_bind, Sem.run_pure, Result.andThen_ok, List.map_toArray, List.map_cons, List.map_nil, hs, hx, run_append_empty w B v ms o.type hown xa c]
    exact hK _ _ (h v w (by rw [List.append_nil]; exact hown) ⟨rfl, rfl, rfl, Nat.le_refl _, fun _ _ _ => rfl⟩ (.inl rfl))
  · obtain ⟨g, off, rfl, hc⟩ := hm.cell hk
    exact wpList_append_msgs w hgd s x ho B v ms hs hown g off k c ns hx hm.len hk hc hmax hbase h

theorem Msgs.at {w : World} {b o n c : Nat} {xs : List Msg} (h : Msgs w (some ⟨b, o, none⟩) n c xs) {j : Nat} (hj : j < xs.length) : ∀ k u, (xs[j].cells)[k]? = some u → w.cell? ⟨b, o + j * 4 + k, none⟩ = some u := fun k u hu => by
  have hk : k < 4 := (List.getElem?_eq_some_iff.1 hu).1
  have hl := h.len
  obtain ⟨b', o', e, hc⟩ := h.cell (by omega)
  cases e
  rw [Nat.add_assoc]
  exact hc _ _ ((mrow_at xs hj k hk).trans hu)
theorem Msgs.addr {w : World} {a : Option Addr} {n c : Nat} {xs : List Msg} (h : Msgs w a n c xs) (hn : 0 < n) : ∃ b o, a = some ⟨b, o, none⟩ := by
  obtain ⟨b, o, e, _⟩ := h.cell hn
  exact ⟨b, o, e⟩
theorem MOwn.grown {w w' : World} {B : Nat} {v : Value} {ms : List Msg} {F : Nat → Prop} (h : MOwn w B v ms) (hm : Mod F w w') (hd : ∀ g, v.ownBlock = some g → ¬ F g) : MOwn w' B v ms :=
  h.keep fun g hg hl => hm.block g hl (hd g hg)

theorem putOf_open (r : Nat) (ms : List Msg) (m : Msg) : putOf (0, 0) r ms (0, 0) 0 m = if rightOf m then (if ms.length < r then (true, 0, ms ++ [m]) else (false, 15, ms)) else (false, 10, ms) := by
  have : withOf (0, 0) (0, 0) 0 = true := by decide
  simp [putOf, this]
theorem takeOf_open (ms : List Msg) (i : Int) : takeOf (0, 0) ms (0, 0) 0 i = if 0 ≤ i ∧ i < (ms.length : Int) then (ms.getD i.toNat noMsg, 0, ms.eraseIdx i.toNat) else (noMsg, 12, ms) := by
  have : withOf (0, 0) (0, 0) 0 = true := by decide
  simp [takeOf, this]
theorem Msgs.from {w : World} {b o n c : Nat} {xs : List Msg} (h : Msgs w (some ⟨b, o, none⟩) n c xs) {i : Nat} (hi : i ≤ n) : Msgs w (some ⟨b, o + i * 4, none⟩) (n - i) (c - i) (xs.drop i) := by
  have hl := h.len
  have h1 := h.le
  have h2 := h.max
  refine ⟨by rw [List.length_drop, hl], by omega, by omega, fun hn => ⟨b, _, rfl, fun j u hu => ?_⟩⟩
  obtain ⟨b', o', e, hc⟩ := h.cell (by omega)
  cases e
  rw [← mrow_drop, List.getElem?_drop] at hu
  rw [Nat.add_assoc]
  exact hc _ _ hu
theorem Msgs.upto {w : World} {b o n c : Nat} {xs : List Msg} (h : Msgs w (some ⟨b, o, none⟩) n c xs) {i : Nat} (hi : i ≤ n) : Msgs w (some ⟨b, o, none⟩) i c (xs.take i) := by
  have hl := h.len
  have h1 := h.le
  have h2 := h.max
  refine ⟨by rw [List.length_take, hl]; omega, by omega, by omega, fun hn => ⟨b, _, rfl, fun j u hu => ?_⟩⟩
  obtain ⟨b', o', e, hc⟩ := h.cell (by omega)
  cases e
  rw [← mrow_take, List.getElem?_take] at hu
  split at hu
  · exact hc _ _ hu
  · cases hu
theorem Msgs.none0 {w : World} {a : Option Addr} {c : Nat} (h : c ≤ 9223372036854775807) : Msgs w a 0 c [] := ⟨rfl, Nat.zero_le _, h, fun h => by omega⟩
end Go.Proofs.YtclgakdfeeefiaaDoor
