/- Plain: what the device's states tell. -/
import Derived.Test.YtpcekoimalafkaaDiskA
namespace Go.Proofs.Ytpcekoimalafkaa
open Go.RowKit

theorem Ints.keepPos {w w' : World} {k : IntKind} {a : Option Addr} {n c : Nat} {zs : List Int} (h : Ints w k a n c zs)
    (hk : ∀ b o, 0 < n → a = some ⟨b, o, none⟩ → b < w.heap.size → w'.heap[b]? = w.heap[b]?) : Ints w' k a n c zs := by
  refine ⟨h.len, h.le, h.max, h.fit, fun hn => ?_⟩
  obtain ⟨b, o, rfl, hc⟩ := h.cell hn
  have hb := World.block_lt_of_cell? w _ (hc 0 hn)
  exact ⟨b, o, rfl, fun j hj => (World.cell?_of_block (hk b o hn rfl hb)).trans (hc j hj)⟩
theorem Ints.block {w : World} {k : IntKind} {a : Option Addr} {n c : Nat} {zs : List Int} (h : Ints w k a n c zs) : ∀ b o, 0 < n → a = some ⟨b, o, none⟩ → b < w.heap.size := by
  rintro b o hn rfl
  obtain ⟨b', o', e, hc⟩ := h.cell hn
  cases e
  exact World.block_lt_of_cell? w _ (hc 0 hn)

theorem lastOf_cons (p : Int × List Int) (C : List (Int × List Int)) (k : Int) : lastOf (p :: C) k = (lastOf C k).or (if p.1 = k then some p.2 else none) := by
  unfold lastOf
  rw [List.reverse_cons, List.find?_append]
  cases hf : C.reverse.find? fun q => q.1 == k with
  | some q => simp
  | none =>
    by_cases h : p.1 = k
    · simp [h]
    · simp [h]

theorem getD_set (S : List (List Int)) (i k : Nat) (z : List Int) (hk : k < S.length) : (S.set i z).getD k [] = if i = k then z else S.getD k [] := by
  rw [List.getD_eq_getElem?_getD, List.getElem?_set]
  split
  · rename_i h; subst h; simp [hk]
  · rw [List.getD_eq_getElem?_getD]

theorem settled_at {C : List (Int × List Int)} : ∀ {S : List (List Int)} (k : Nat), k < S.length → (∀ p ∈ C, 0 ≤ p.1) → (settled S C).getD k [] = (lastOf C (k : Int)).getD (S.getD k []) := by
  induction C with
  | nil => intro S k _ _; rfl
  | cons p C ih =>
    intro S k hk hC
    have h0 := hC p (.head _)
    have e : settled S (p :: C) = settled (S.set p.1.toNat p.2) C := rfl
    rw [e, ih k (by simpa using hk) (fun q hq => hC q (.tail _ hq)), lastOf_cons, getD_set S _ k _ hk]
    cases lastOf C (k : Int) with
    | some z => rfl
    | none =>
      by_cases h : p.1 = (k : Int)
      · have : p.1.toNat = k := by omega
        simp [h]
      · have : p.1.toNat ≠ k := by omega
        simp [h, this]

theorem readOf_in {S : List (List Int)} {C : List (Int × List Int)} {k : Nat} (hk : k < S.length) : readOf S C (k : Int) = (lastOf C (k : Int)).getD (S.getD k []) := by
  unfold readOf
  rw [if_pos (by omega)]
  simp
theorem readOf_settled {S : List (List Int)} {C : List (Int × List Int)} {k : Nat} (hk : k < S.length) (hC : ∀ p ∈ C, 0 ≤ p.1) : (settled S C).getD k [] = readOf S C (k : Int) := by
  rw [readOf_in hk, settled_at k hk hC]
theorem readOf_flat {S : List (List Int)} {k : Nat} (hk : k < S.length) : readOf S [] (k : Int) = S.getD k [] := by
  rw [readOf_in hk]; rfl
theorem readOf_flushed {S : List (List Int)} {C : List (Int × List Int)} {k : Nat} (hk : k < S.length) (hC : ∀ p ∈ C, 0 ≤ p.1) : readOf (settled S C) [] (k : Int) = readOf S C (k : Int) := by
  rw [readOf_flat (by rw [settled_len]; exact hk), readOf_settled hk hC]

theorem crashed_len (S : List (List Int)) (C : List (Int × List Int)) (kp te : Int) : (crashed S C kp te).length = S.length := by
  simp only [crashed]
  split
  · exact settled_len _ _
  · unfold torn; rw [List.length_set]; exact settled_len _ _

def firsts (s : State) (j : Nat) : List Int := (List.range j).flatMap fun k : Nat => readOf s.1 s.2 (k : Int)
theorem firsts_succ (s : State) (j : Nat) : firsts s (j + 1) = firsts s j ++ readOf s.1 s.2 (j : Int) := by
  unfold firsts
  rw [List.range_succ, List.flatMap_append, List.flatMap_singleton]
theorem flatten_range (S : List (List Int)) : S.flatten = (List.range S.length).flatMap fun k => S.getD k [] := by
  have : S = (List.range S.length).map fun k => S.getD k [] := by
    apply List.ext_getElem
    · simp
    · intro i h1 h2
      simp [List.getD_eq_getElem?_getD, h1]
  conv => lhs; rw [this]
  rw [List.flatMap_def]
theorem image_firsts (s : State) (hC : ∀ p ∈ s.2, 0 ≤ p.1) : (settled s.1 s.2).flatten = firsts s s.1.length := by
  rw [flatten_range, settled_len]
  unfold firsts
  rw [List.flatMap_def, List.flatMap_def]
  congr 1
  apply List.map_congr_left
  intro k hk
  exact readOf_settled (List.mem_range.1 hk) hC
theorem firsts_len {w0 w : World} {b : Nat} {F : Nat → Prop} {s : State} (h : Dev w0 w b F s) : ∀ j, j ≤ s.1.length → (firsts s j).length = 32 * j
  | 0, _ => rfl
  | j + 1, hj => by
    rw [firsts_succ, List.length_append, firsts_len h j (by omega), (h.sector (k := (j : Int)) (by omega)).1]
    omega

theorem settled_other {C : List (Int × List Int)} : ∀ {S : List (List Int)} (i : Nat), (∀ p ∈ C, p.1.toNat ≠ i) → (settled S C).getD i [] = S.getD i [] := by
  induction C with
  | nil => intro S i _; rfl
  | cons p C ih =>
    intro S i h
    have e : settled S (p :: C) = settled (S.set p.1.toNat p.2) C := rfl
    rw [e, ih i fun q hq => h q (.tail _ hq)]
    rw [List.getD_eq_getElem?_getD, List.getElem?_set_ne (h p (.head _)), List.getD_eq_getElem?_getD]
theorem crashed_other {S : List (List Int)} {C : List (Int × List Int)} (i : Nat) (h : ∀ p ∈ C, p.1.toNat ≠ i) (kp te : Int) : (crashed S C kp te).getD i [] = S.getD i [] := by
  have h1 : (settled S (C.take (clampTo kp C.length))).getD i [] = S.getD i [] := settled_other i fun p hp => h p (List.mem_of_mem_take hp)
  simp only [crashed]
  split
  · exact h1
  · rename_i p hp
    unfold torn
    rw [List.getD_eq_getElem?_getD, List.getElem?_set_ne (h p (List.mem_of_getElem? hp)), ← List.getD_eq_getElem?_getD]
    exact h1
theorem crashed_none (S : List (List Int)) (kp te : Int) : crashed S [] kp te = S := by simp [crashed, settled]
theorem flatten_part : ∀ (S : List (List Int)) (i : Nat), (∀ z ∈ S, z.length = 32) → i < S.length → (S.flatten.take (32 * i + 32)).drop (32 * i) = S.getD i []
  | z :: S, 0, h, _ => by
    have hz := h z (.head _)
    simp [hz]
  | z :: S, i + 1, h, hi => by
    have hz := h z (.head _)
    have ih := flatten_part S i (fun y hy => h y (.tail _ hy)) (by simpa using hi)
    rw [List.flatten_cons, List.take_append, List.drop_append, hz, List.take_of_length_le (by omega), List.drop_of_length_le (by omega), List.nil_append, hz,
      show 32 * (i + 1) + 32 - 32 = 32 * i + 32 by omega, show 32 * (i + 1) - 32 = 32 * i by omega, ih]
    rfl
end Go.Proofs.Ytpcekoimalafkaa
