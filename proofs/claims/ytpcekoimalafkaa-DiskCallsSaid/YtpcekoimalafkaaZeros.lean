/- append(s, make([]byte, m)...), a row of noughts behind s. Of no program. -/
import Derived.Test.YtpcekoimalafkaaCells
namespace Go.Proofs.Ytpcekoimalafkaa
open Go.RowKit

theorem run_append_zeros {P : Program} (w : World) (t e ti ty : TypeId) (i : TypeInfo) (ht : P.underlying t = some (.slice e)) (hti : P.underlying ti = some (.int .i64)) (hi : P.info? e = some i) (hz : i.zero = some (.int .u8 0)) (hs1 : i.size = 1) (hb1 : i.bytes = 1)
    (b o n cap m : Nat) (xs : List Int) (hx : Ints w .u8 (some ⟨b, o, none⟩) n cap xs) (hn : 0 < n) (hg : cap < n + m) (hsm : n + m ≤ 1000000) :
    (Builtin.append_ #[t, ti] ty #[.slice (some ⟨b, o, none⟩) n cap, .int .i64 m]).run P w =
      .ok (.slice (some ⟨w.heap.size, 0, none⟩) (n + m) (grownCap w (n + m) cap e)) (w.drew.alloc (.cells ((xs.map (Value.int .u8)).toArray ++ Builtin.zeroCells #[.int .u8 0] m ++ Builtin.zeroCells #[.int .u8 0] (grownCap w (n + m) cap e - (n + m))) e)) := by
  have hl := hx.len
  obtain ⟨b', o', e', hc⟩ := hx.cell hn
  cases e'
  have hold : (Builtin.firstCells i.size n (.slice (some ⟨b, o, none⟩) n cap)).run P w.drew = .ok (xs.map (Value.int .u8)).toArray w.drew := by
    have := run_loadCells_list (P := P) w.drew ⟨b, o, none⟩ (xs.map (Value.int .u8)) (fun j v hv => by
      rw [add_none]
      have hj : j < n := by have := (List.getElem?_eq_some_iff.1 hv).1; simpa [hl] using this
      have : w.cell? ⟨b, o + j, none⟩ = some v := by
        rw [hc j hj]
        rw [List.getElem?_map] at hv
        rw [List.getD_eq_getElem?_getD]
        cases hq : xs[j]? with
        | none => rw [hq] at hv; cases hv
        | some y => rw [hq] at hv; simpa using hv
      exact this)
    rw [List.length_map, hl] at this
    simpa [Builtin.firstCells, hs1] using this
  have hw : IntKind.i64.wrap (m : Int) = m := by
    rw [IntKind.wrap]
    simp [IntKind.signed, IntKind.bits]
    omega
  have hnn : ¬ ((m : Int) < 0) := by omega
  have h48 : ¬ ((m : Int) * (i.bytes : Int) > 2 ^ 48) := by rw [hb1]; omega
  have hroom : ¬ (n + m ≤ cap) := by omega
  have hcap : ¬ (Builtin.nextslicecap (n + m) cap * i.bytes > 2 ^ 48) := by
    have := growslice_fits (need := n + m) (old := cap) (bytes := i.bytes) (by omega) (by rw [hb1]; omega)
    omega
  have h63 : ¬ (((n + m : Nat) : Int) > IntKind.i64.max) := by simp [IntKind.max, IntKind.signed, IntKind.bits]; omega
  rw [hs1] at hold
  have h63' : ¬ (9223372036854775807 < (n : Int) + (m : Int)) := by omega
  have h48' : ¬ (281474976710656 < (m : Int)) := by omega
  have hcap' : ¬ (281474976710656 < Builtin.nextslicecap (n + m) cap) := by rw [hb1] at hcap; omega
  simp [Builtin.append_, run_underlying ht, run_underlying hti, sizeOf, typeInfo, zeroValue, hi, hz, hs1, hb1, asInt, asIntOf, hw, hroom, h63', h48', hcap', Question.forced, hold, newRow, grownCap]
  rw [if_neg hnn, if_neg (by have := hx.le; omega)]
  simp [Value.cells]

theorem zeroCells_u8 (n : Nat) : (Builtin.zeroCells #[.int .u8 0] n).toList = (List.replicate n 0).map (Value.int .u8) := by
  unfold Builtin.zeroCells
  simp only [List.size_toArray, List.length_cons, List.length_nil, Nat.zero_add, Nat.mul_one, Nat.mod_one, Array.toList_map]
  rw [List.map_replicate]
  refine List.eq_replicate_iff.2 ⟨by simp, fun b hb => ?_⟩
  obtain ⟨_, _, rfl⟩ := List.mem_map.1 hb
  rfl

theorem append_zeros_own {P : Program} (w : World) (t e ti ty : TypeId) (i : TypeInfo) (ht : P.underlying t = some (.slice e)) (hti : P.underlying ti = some (.int .i64)) (hi : P.info? e = some i) (hz : i.zero = some (.int .u8 0)) (hs1 : i.size = 1) (hb1 : i.bytes = 1)
    (b o n cap m : Nat) (xs : List Int) (hx : Ints w .u8 (some ⟨b, o, none⟩) n cap xs) (hn : 0 < n) (hg : cap < n + m) (hsm : n + m ≤ 1000000) :
    ∃ v w', (Builtin.append_ #[t, ti] ty #[.slice (some ⟨b, o, none⟩) n cap, .int .i64 m]).run P w = .ok v w' ∧ Own w' w.heap.size e .u8 v (xs ++ List.replicate m 0) ∧ Below w.heap.size w w' := by
  have hl := hx.len
  have hge := grownCap_ge w (n + m) cap e
  refine ⟨_, _, run_append_zeros w t e ti ty i ht hti hi hz hs1 hb1 b o n cap m xs hx hn hg hsm, ⟨⟨by simp, .inr ⟨w.heap.size, grownCap w (n + m) cap e, _, by rw [List.length_append, List.length_replicate, hl], Nat.le_refl _, heap_alloc_new w.drew _, by rw [List.length_append, List.length_replicate, hl]; exact hge, grownCap_le_maxLen w (n + m) cap e (by unfold maxLen; omega), ?_, ?_⟩⟩, ?_⟩, ?_⟩
  · simp [Builtin.zeroCells, hl]; omega
  · simp only [Array.toList_append, zeroCells_u8, List.length_append, List.length_replicate, hl, Nat.mul_one, ← List.map_append]
    rw [← List.map_take, List.take_left' (by simp [hl])]
  · intro z hz
    rcases List.mem_append.1 hz with h | h
    · exact hx.fit z h
    · obtain ⟨_, rfl⟩ := List.mem_replicate.1 h; decide
  · exact (⟨rfl, rfl, rfl, Nat.le_refl _, fun _ _ => rfl⟩ : Below w.heap.size w w.drew).trans ((Below.refl w.heap.size w.drew).alloc (Nat.le_refl w.heap.size) _)


theorem wpList_append_zeros {P : Program} {ops : Array Oper} {rest : List Oper} {o : Oper} {a : Act} {w : World} {Q : Exit → Act → World → Prop} (hgd : Region.wanted o (yielded ops a.tmps) = true) (s x : Operand) (t e ti : TypeId) (m : Nat)
    (ho : o.op = .call { callee := .builtin .append, args := #[s, x], argTypes := #[t, ti] }) (hx : a.eval x = .int .i64 (m : Int))
    (i : TypeInfo) (ht : P.underlying t = some (.slice e)) (hti : P.underlying ti = some (.int .i64)) (hi : P.info? e = some i) (hz : i.zero = some (.int .u8 0)) (hs1 : i.size = 1) (hb1 : i.bytes = 1)
    (b off n cap : Nat) (xs : List Int) (hs : a.eval s = .slice (some ⟨b, off, none⟩) n cap) (hxs : Ints w .u8 (some ⟨b, off, none⟩) n cap xs) (hn : 0 < n) (hg : cap < n + m) (hsm : n + m ≤ 1000000)
    (h : ∀ v w', Own w' w.heap.size e .u8 v (xs ++ List.replicate m 0) → Below w.heap.size w w' → wpList P ops Q rest (a.put o.dst v) w') : wpList P ops Q (o :: rest) a w := by
  refine BigFrame.wpList_want hgd fun K hK => ?_
  obtain ⟨v, w', hr, h1, h2⟩ := append_zeros_own w t e ti o.type i ht hti hi hz hs1 hb1 b off n cap m xs hxs hn hg hsm
  unfold Oper.wp execOp
  simp only [ho, resolve, invoke, builtin, Sem.run_bind, Sem.run_pure, Result.andThen_ok, List.map_toArray, List.map_cons, List.map_nil, hs, hx, hr]
  exact hK _ _ (h v w' h1 h2)
end Go.Proofs.Ytpcekoimalafkaa
