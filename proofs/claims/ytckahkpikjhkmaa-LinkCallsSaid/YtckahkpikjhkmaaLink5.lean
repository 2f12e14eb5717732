/- A link in memory: its map, its bags. -/
import Derived.Test.YtckahkpikjhkmaaLink4
namespace Go.Proofs.Ytckahkpikjhkmaa
open Go.RowKit

def upd {β : Type} (f : Pla → β) (k : Pla) (v : β) : Pla → β := fun x => if x = k then v else f x
theorem upd_same {β : Type} (f : Pla → β) (k : Pla) (v : β) : upd f k v k = v := if_pos rfl
theorem upd_other {β : Type} (f : Pla → β) {k x : Pla} (v : β) (h : x ≠ k) : upd f k v x = f x := if_neg h

/-- The places of so many parts. -/
def keysOf : Nat → List Pla
  | 0 => []
  | n + 1 => keysOf n ++ [((n : Int), true), ((n : Int), false)]
theorem keys_mem : ∀ (n : Nat) (k : Pla), k ∈ keysOf n ↔ 0 ≤ k.1 ∧ k.1 < n
  | 0, k => by
    simp only [keysOf, List.not_mem_nil, false_iff, not_and]
    omega
  | n + 1, (p, u) => by
    unfold keysOf
    rw [List.mem_append, keys_mem n]
    simp only [List.mem_cons, List.not_mem_nil, or_false, Prod.mk.injEq]
    cases u <;> simp <;> omega

abbrev ptrTo (g : Nat) : Value := .pointer (some ⟨g, 0, none⟩)
def mapOf (bs : List (Pla × Nat)) : List (Pla × Value) := bs.map fun p => (p.1, ptrTo p.2)
theorem mapOf_keys (bs : List (Pla × Nat)) : (mapOf bs).map (·.1) = bs.map (·.1) := by unfold mapOf; rw [List.map_map]; rfl

structure LinkAt (w : World) (B b m : Nat) (bs : List (Pla × Nat)) (mv : Pla → Value) (ls : Pla → List Msg) : Prop where
  root : w.heap[b]? = some (.cells #[.map (some m)] 54 (0, 0))
  map : MapK plaV w m (mapOf bs)
  bag : ∀ p ∈ bs, w.heap[p.2]? = some (.cells #[mv p.1] 57 (0, 0)) ∧ Mo w B (mv p.1) (ls p.1)
  blk : ∀ p ∈ bs, B ≤ p.2 ∧ p.2 ≠ b ∧ p.2 ≠ m
  own : ∀ p ∈ bs, ∀ g, (mv p.1).ownBlock = some g → g ≠ b ∧ g ≠ m ∧ ∀ q ∈ bs, g ≠ q.2
  two : ∀ p ∈ bs, ∀ q ∈ bs, p.1 ≠ q.1 → p.2 ≠ q.2 ∧ ∀ g, (mv p.1).ownBlock = some g → (mv q.1).ownBlock ≠ some g
  base : B ≤ b ∧ B ≤ m ∧ b ≠ m
  small : ∀ p ∈ bs, (ls p.1).length ≤ 16
def lfoot (b m : Nat) (bs : List (Pla × Nat)) (mv : Pla → Value) (k : Nat) : Prop := k = b ∨ k = m ∨ ∃ p ∈ bs, k = p.2 ∨ (mv p.1).ownBlock = some k
section
variable {w w' : World} {B b m : Nat} {bs : List (Pla × Nat)} {mv : Pla → Value} {ls : Pla → List Msg}
theorem LinkAt.lt (h : LinkAt w B b m bs mv ls) : ∀ k, lfoot b m bs mv k → B ≤ k ∧ k < w.heap.size := by
  rintro k (rfl | rfl | ⟨p, hp, rfl | hk⟩)
  · exact ⟨h.base.1, (Array.getElem?_eq_some_iff.1 h.root).1⟩
  · exact ⟨h.base.2.1, h.map.lt⟩
  · exact ⟨(h.blk p hp).1, (Array.getElem?_eq_some_iff.1 (h.bag p hp).1).1⟩
  · exact (h.bag p hp).2.lt k hk
theorem LinkAt.keep (h : LinkAt w B b m bs mv ls) (hk : ∀ k, lfoot b m bs mv k → w'.heap[k]? = w.heap[k]?) : LinkAt w' B b m bs mv ls where
  root := (hk b (.inl rfl)).trans h.root
  map := h.map.keep (hk m (.inr (.inl rfl)))
  bag := fun p hp => ⟨(hk p.2 (.inr (.inr ⟨p, hp, .inl rfl⟩))).trans (h.bag p hp).1, (h.bag p hp).2.keep fun g hg _ => hk g (.inr (.inr ⟨p, hp, .inr hg⟩))⟩
  blk := h.blk
  own := h.own
  two := h.two
  base := h.base
  small := h.small
theorem LinkAt.below (h : LinkAt w B b m bs mv ls) (hb : Below w.heap.size w w') : LinkAt w' B b m bs mv ls := h.keep fun k hk => hb.block k (h.lt k hk).2
theorem LinkAt.mono {B' : Nat} (h : LinkAt w B b m bs mv ls) (hB : B' ≤ B) : LinkAt w B' b m bs mv ls where
  root := h.root
  map := h.map
  bag := fun p hp => ⟨(h.bag p hp).1, (h.bag p hp).2.mono hB⟩
  blk := fun p hp => ⟨Nat.le_trans hB (h.blk p hp).1, (h.blk p hp).2⟩
  own := h.own
  two := h.two
  base := ⟨Nat.le_trans hB h.base.1, Nat.le_trans hB h.base.2.1, h.base.2.2⟩
  small := h.small
theorem LinkAt.once (h : LinkAt w B b m bs mv ls) : (bs.map (·.1)).Nodup := by have := h.map.once; rwa [mapOf_keys] at this
theorem LinkAt.same (h : LinkAt w B b m bs mv ls) {p q : Pla × Nat} (hp : p ∈ bs) (hq : q ∈ bs) (he : p.1 = q.1) : p = q := by
  have h1 := h.once
  obtain ⟨i, hi, rfl⟩ := List.mem_iff_getElem.1 hp
  obtain ⟨j, hj, rfl⟩ := List.mem_iff_getElem.1 hq
  have : i = j := (List.getElem?_inj (l := bs.map (·.1)) (by simpa using hi) h1).1 (by rw [List.getElem?_map, List.getElem?_map, List.getElem?_eq_getElem hi, List.getElem?_eq_getElem hj, Option.map_some, Option.map_some, he])
  subst this
  rfl
theorem LinkAt.val (h : LinkAt w B b m bs mv ls) {p : Pla × Nat} (hp : p ∈ bs) : valOf (mapOf bs) p.1 = some (ptrTo p.2) :=
  valOf_mem (p := (p.1, ptrTo p.2)) h.map.once (List.mem_map_of_mem (f := fun p : Pla × Nat => (p.1, ptrTo p.2)) hp)
theorem LinkAt.absent {k : Pla} (hk : ∀ p ∈ bs, p.1 ≠ k) : valOf (mapOf bs) k = none :=
  valOf_none fun p hp => by obtain ⟨q, hq, rfl⟩ := List.mem_map.1 hp; exact hk q hq

/-- One bag has other messages. -/
theorem LinkAt.turn (h : LinkAt w B b m bs mv ls) {p : Pla × Nat} (hp : p ∈ bs) {v' : Value} {l' : List Msg} (h1 : w'.heap[p.2]? = some (.cells #[v'] 57 (0, 0))) (h2 : Mo w' B v' l')
    (h3 : ∀ g, v'.ownBlock = some g → (mv p.1).ownBlock = some g ∨ w.heap.size ≤ g) (h4 : ∀ k, k < w.heap.size → k ≠ p.2 → (mv p.1).ownBlock ≠ some k → w'.heap[k]? = w.heap[k]?) (h5 : l'.length ≤ 16) :
    LinkAt w' B b m bs (upd mv p.1 v') (upd ls p.1 l') := by
  have hf : ∀ k, lfoot b m bs mv k → k < w.heap.size := fun k hk => (h.lt k hk).2
  have kb : w'.heap[b]? = w.heap[b]? := h4 b (hf b (.inl rfl)) (fun e => (h.blk p hp).2.1 e.symm) fun e => (h.own p hp b e).1 rfl
  have km : w'.heap[m]? = w.heap[m]? := h4 m (hf m (.inr (.inl rfl))) (fun e => (h.blk p hp).2.2 e.symm) fun e => (h.own p hp m e).2.1 rfl
  have hq : ∀ q ∈ bs, q.1 = p.1 → q = p := fun q hq he => h.same hq hp he
  refine ⟨kb.trans h.root, h.map.keep km, fun q hqb => ?_, h.blk, fun q hqb g hg => ?_, fun q hqb r hrb hne => ?_, h.base, fun q hqb => ?_⟩
  · by_cases he : q.1 = p.1
    · obtain rfl := hq q hqb he
      rw [upd_same, upd_same]
      exact ⟨h1, h2⟩
    · rw [upd_other _ _ he, upd_other _ _ he]
      obtain ⟨b1, b2⟩ := h.bag q hqb
      have ht := h.two q hqb p hp he
      have ht2 := h.two p hp q hqb fun e => he e.symm
      exact ⟨(h4 q.2 (hf q.2 (.inr (.inr ⟨q, hqb, .inl rfl⟩))) ht.1 fun e => (h.own p hp _ e).2.2 q hqb rfl).trans b1,
        b2.keep fun g hg hl => h4 g hl (fun e => (h.own q hqb g hg).2.2 p hp e) fun e => ht2.2 g e hg⟩
  · by_cases he : q.1 = p.1
    · rw [he, upd_same] at hg
      rcases h3 g hg with h6 | h6
      · exact h.own p hp g h6
      · refine ⟨?_, ?_, fun r hr => ?_⟩
        · have := hf b (.inl rfl); omega
        · have := hf m (.inr (.inl rfl)); omega
        · have := hf r.2 (.inr (.inr ⟨r, hr, .inl rfl⟩)); omega
    · rw [upd_other _ _ he] at hg
      exact h.own q hqb g hg
  · refine ⟨(h.two q hqb r hrb hne).1, fun g hg hr => ?_⟩
    have hlt : ∀ q ∈ bs, ∀ g, (mv q.1).ownBlock = some g → g < w.heap.size := fun q hq g hg => hf g (.inr (.inr ⟨q, hq, .inr hg⟩))
    by_cases he : q.1 = p.1
    · have hre : r.1 ≠ p.1 := fun e => hne (he.trans e.symm)
      rw [he, upd_same] at hg
      rw [upd_other _ _ hre] at hr
      rcases h3 g hg with h6 | h6
      · exact (h.two p hp r hrb (fun e => hre e.symm)).2 g h6 hr
      · have := hlt r hrb g hr; omega
    · rw [upd_other _ _ he] at hg
      by_cases hre : r.1 = p.1
      · rw [hre, upd_same] at hr
        rcases h3 g hr with h6 | h6
        · exact (h.two q hqb p hp he).2 g hg h6
        · have := hlt q hqb g hg; omega
      · rw [upd_other _ _ hre] at hr
        exact (h.two q hqb r hrb hne).2 g hg hr
  · by_cases he : q.1 = p.1
    · rw [he, upd_same]; exact h5
    · rw [upd_other _ _ he]; exact h.small q hqb
end
/-- Without messages. -/
abbrev mv0 : Pla → Value := fun _ => .slice none 0 0
abbrev ls0 : Pla → List Msg := fun _ => []
section
variable {w w1 w2 : World} {B b m : Nat} {bs : List (Pla × Nat)}
theorem LinkAt.first (w : World) : LinkAt ((w.alloc (.map #[] 0)).alloc (.cells #[.map (some w.heap.size)] 54 (0, 0))) w.heap.size (w.heap.size + 1) w.heap.size [] mv0 ls0 := by
  have h1 := heap_alloc_new (w.alloc (.map #[] 0)) (.cells #[.map (some w.heap.size)] 54 (0, 0))
  have h2 : (w.alloc (.map #[] 0)).heap.size = w.heap.size + 1 := by simp
  rw [h2] at h1
  exact ⟨h1, (MapK.made w).keep (Below.heap_alloc _ _ _ (by simp)), fun _ h => (nomatch h), fun _ h => (nomatch h), fun _ h => (nomatch h), fun _ h => (nomatch h), ⟨Nat.le_succ _, Nat.le_refl _, by omega⟩, fun _ h => (nomatch h)⟩
theorem LinkAt.add (h : LinkAt w B b m bs mv0 ls0) {k : Pla} (hw : w1 = w.alloc (.cells #[.slice none 0 0] 57 (0, 0))) (hM : MapK plaV w2 m (mapOf bs ++ [(k, ptrTo w.heap.size)])) (hg : w1.grownBy w2 (some m)) :
    LinkAt w2 B b m (bs ++ [(k, w.heap.size)]) mv0 ls0 := by
  subst hw
  have hb : ∀ x, x < w.heap.size → x ≠ m → w2.heap[x]? = w.heap[x]? := fun x hx hn => (hg.block x (by simp only [World.alloc, Array.size_push]; omega) fun e => hn (Option.some.inj e)).trans (Below.heap_alloc w _ x hx)
  have hlt := h.lt
  have hml := h.map.lt
  have hk : ∀ p ∈ bs, p.1 ≠ k := fun p hp e => by
    have := hM.once
    rw [List.map_append, mapOf_keys, List.nodup_append] at this
    exact this.2.2 p.1 (List.mem_map_of_mem hp) k (by simp) e
  have hnew : w2.heap[w.heap.size]? = some (.cells #[.slice none 0 0] 57 (0, 0)) := (hg.block _ (by simp) fun e => by have := Option.some.inj e; omega).trans (heap_alloc_new w _)
  have hB : B ≤ w.heap.size := by have := hlt b (.inl rfl); omega
  have mem : ∀ p ∈ bs ++ [(k, w.heap.size)], p ∈ bs ∨ p = (k, w.heap.size) := fun p hp => (List.mem_append.1 hp).imp id fun h => List.mem_singleton.1 h
  have hpl : ∀ p ∈ bs, p.2 < w.heap.size := fun p hp => (hlt p.2 (.inr (.inr ⟨p, hp, .inl rfl⟩))).2
  refine ⟨(hb b (hlt b (.inl rfl)).2 h.base.2.2).trans h.root, by unfold mapOf at hM ⊢; rw [List.map_append]; exact hM, fun p hp => ?_, fun p hp => ?_, fun p _ g hg => (by cases hg), fun p hp q hq hne => ⟨?_, fun g hg => (by cases hg)⟩, h.base, fun p hp => Nat.zero_le _⟩
  · rcases mem p hp with hp | rfl
    · exact ⟨(hb p.2 (hpl p hp) (h.blk p hp).2.2).trans (h.bag p hp).1, ROwn.nil _ _⟩
    · exact ⟨hnew, ROwn.nil _ _⟩
  · rcases mem p hp with hp | rfl
    · exact h.blk p hp
    · refine ⟨hB, ?_, ?_⟩
      · have := (hlt b (.inl rfl)).2; show w.heap.size ≠ b; omega
      · show w.heap.size ≠ m; omega
  · rcases mem p hp with hp | rfl
    · rcases mem q hq with hq | rfl
      · exact (h.two p hp q hq hne).1
      · have := hpl p hp; show p.2 ≠ w.heap.size; omega
    · rcases mem q hq with hq | rfl
      · have := hpl q hq; show w.heap.size ≠ q.2; omega
      · exact absurd rfl hne
end
end Go.Proofs.Ytckahkpikjhkmaa
