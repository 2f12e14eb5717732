/- append within a row that the call owns, and clear of a part of it: where both lie in one block. Of no program. -/
import Derived.Test.YtclgakdfeeefiaaDoorWorlds
namespace Go.Proofs.YtclgakdfeeefiaaDoor
open Go.RowKit

section
variable {P : Program}
theorem wpList_append_room {w : World} {ops : Array Oper} {rest : List Oper} {o : Oper} {a : Act} {Q : Exit → Act → World → Prop} (hgd : Region.wanted o (yielded ops a.tmps) = true) (s x : Operand) (t : TypeId)
    (ho : o.op = .call { callee := .builtin .append, args := #[s, x], argTypes := #[t, t] }) (e : TypeId) (i : TypeInfo) (size : Nat) (ht : P.underlying t = some (.slice e)) (hi : P.info? e = some i) (hsize : i.size = size)
    (g n cap : Nat) (hs : a.eval s = .slice (some ⟨g, 0, none⟩) n cap) (cur : Array Value) (hg : w.heap[g]? = some (.cells cur e (0, 0))) (ad : Addr) (m c : Nat) (hx : a.eval x = .slice (some ad) m c) (news : List Value)
    (hl : news.length = m * size) (hnews : ∀ j u, news[j]? = some u → w.cell? (ad.add j) = some u) (h1 : ∀ u ∈ news, u.oneCell' = true) (hroom : n + m ≤ cap) (hfit : n * size + news.length ≤ cur.size)
    (h : ∀ w', w'.heap[g]? = some (.cells (splice cur.toList (n * size) news).toArray e (0, 0)) → w.grownBy w' (some g) → w'.heap.size = w.heap.size → wpList P ops Q rest (a.put o.dst (.slice (some ⟨g, 0, none⟩) (n + m) cap)) w') : wpList P ops Q (o :: rest) a w := by
  subst hsize
  refine BigFrame.wpList_want hgd fun K hK => ?_
  have hr := run_append_room (P := P) w t o.type e i ht hi g n cap cur hg ad m c news hl hnews h1 hroom hfit
  unfold Oper.wp execOp
  simp only [ho, resolve, invoke, builtin, Sem.run_bind, Sem.run_pure, Result.andThen_ok, List.map_toArray, List.map_cons, List.map_nil, hs, hx, hr]
  refine hK _ _ (h _ ?_ (grownBy_setRow w g _) (by simp))
  have := setRow_heap w g cur (splice cur.toList (n * i.size) news).toArray e (0, 0) hg
  simpa [splice] using this

theorem wpList_clear_row {w : World} {ops : Array Oper} {rest : List Oper} {o : Oper} {a : Act} {Q : Exit → Act → World → Prop} (hgd : Region.wanted o (yielded ops a.tmps) = true) (x : Operand) (t : TypeId)
    (ho : o.op = .call { callee := .builtin .clear, args := #[x], argTypes := #[t] }) (e : TypeId) (z : Value) (zs : List Value) (ht : P.underlying t = some (.slice e)) (hz : ∀ w, (zeroValue e).run P w = .ok z w) (m c : Nat) (hm : 0 < m) (hzs : (Builtin.zeroCells z.cells m).toList = zs)
    (g off : Nat) (hx : a.eval x = .slice (some ⟨g, off, none⟩) m c) (cur : Array Value) (hg : w.heap[g]? = some (.cells cur e (0, 0))) (hfit : off + zs.length ≤ cur.size) (h1 : ∀ u ∈ zs, u.oneCell' = true)
    (h : ∀ w', w'.heap[g]? = some (.cells (splice cur.toList off zs).toArray e (0, 0)) → w.grownBy w' (some g) → w'.heap.size = w.heap.size → wpList P ops Q rest (a.put o.dst (.tuple #[])) w') : wpList P ops Q (o :: rest) a w := by
  refine BigFrame.wpList_want hgd fun K hK => ?_
  have hst := run_storeCells_at (P := P) g off e zs 0 cur w hg (by simpa using hfit) h1
  have hr : (Builtin.clear_ #[t] o.type #[.slice (some ⟨g, off, none⟩) m c]).run P w = .ok (.tuple #[]) (w.setRow g (splice cur.toList off zs).toArray) := by
    cases m with
    | zero => omega
    | succ m =>
      simp only [Nat.add_zero] at hst
      simp [Builtin.clear_, run_underlying ht, hz, hzs, hst, splice, Result.andThen]
  unfold Oper.wp execOp
  simp only [ho, resolve, invoke, builtin, Sem.run_bind, Sem.run_pure, Result.andThen_ok, List.map_toArray, List.map_cons, List.map_nil, hx, hr]
  exact hK _ _ (h _ (setRow_heap w g cur _ e _ hg) (grownBy_setRow w g _) (by simp))
end
end Go.Proofs.YtclgakdfeeefiaaDoor
