/- Merged by merge.py out of: DiskR1, DiskR2, DiskR3, DiskR4, DiskR5, DiskR6. -/
import Derived.Test.YtgpedejeifmfdaaGreatHeld
import Derived.Test.YtgpedejeifmfdaaGreatTable
import Derived.Test.YtgpedejeifmfdaaGreatDk
/- The document's device: what it is in memory; New, Write, Read, Image. -/
namespace Go.Proofs.YtgpedejeifmfdaaGreat
open Go.RowKit

def slv (p : Nat × Nat) : Value := .slice (some ⟨p.1, 0, none⟩) 32 p.2
def wrv (p : Int × Nat × Nat) : List Value := [.int .i64 p.1, slv p.2]
def Held (w : World) (R : Nat → Prop) (p : Nat × Nat) (z : List Int) : Prop := Ints w .u8 (some ⟨p.1, 0, none⟩) 32 p.2 z ∧ R p.1

structure RefAt (w : World) (B b : Nat) (sv cv : Value) (S : List (List Int)) (C : List (Int × List Int)) (R : Nat → Prop) : Prop where
  root : w.heap[b]? = some (.cells #[sv, cv] 54 (0, 0))
  safe : ∃ ps : List (Nat × Nat), ps.length = S.length ∧ w.ownsRow B 39 1 sv S.length (ps.map slv) ∧ ∀ i, i < S.length → Held w R (ps.getD i (0, 0)) (S.getD i [])
  cache : ∃ ds : List (Int × Nat × Nat), ds.length = C.length ∧ w.ownsRow B 98 2 cv C.length (ds.flatMap wrv) ∧ ∀ i (h : i < C.length), (ds.getD i (0, 0, 0)).1 = C[i].1 ∧ Held w R (ds.getD i (0, 0, 0)).2 C[i].2
  rb : ¬ R b
  sb : ∀ g, sv.ownBlock = some g → g ≠ b ∧ ¬ R g
  cb : ∀ g, cv.ownBlock = some g → g ≠ b ∧ ¬ R g ∧ sv.ownBlock ≠ some g
  low : ∀ g, R g → B ≤ g ∧ g < w.heap.size
  bb : B ≤ b
  wrs : ∀ p ∈ C, 0 ≤ p.1 ∧ p.1 < S.length
  len : S.length ≤ 512
def rfoot (b : Nat) (sv cv : Value) (R : Nat → Prop) (k : Nat) : Prop := k = b ∨ sv.ownBlock = some k ∨ cv.ownBlock = some k ∨ R k

theorem Held.keep {w w' : World} {R : Nat → Prop} {p : Nat × Nat} {z : List Int} (h : Held w R p z) (hk : ∀ k, R k → w'.heap[k]? = w.heap[k]?) : Held w' R p z :=
  ⟨h.1.keepOn fun b o e _ => by cases e; exact hk _ h.2, h.2⟩
theorem Held.wide {w : World} {R R' : Nat → Prop} {p : Nat × Nat} {z : List Int} (h : Held w R p z) (hR : ∀ k, R k → R' k) : Held w R' p z := ⟨h.1, hR _ h.2⟩

section
variable {w w' : World} {B b : Nat} {sv cv : Value} {S : List (List Int)} {C : List (Int × List Int)} {R : Nat → Prop}
theorem RefAt.lt (h : RefAt w B b sv cv S C R) : ∀ k, rfoot b sv cv R k → B ≤ k ∧ k < w.heap.size := by
  rintro k (rfl | hk | hk | hk)
  · exact ⟨h.bb, (Array.getElem?_eq_some_iff.1 h.root).1⟩
  · obtain ⟨ps, _, h1, _⟩ := h.safe
    exact h1.lt k hk
  · obtain ⟨ds, _, h1, _⟩ := h.cache
    exact h1.lt k hk
  · exact h.low k hk
theorem RefAt.keep (h : RefAt w B b sv cv S C R) (hs : w.heap.size ≤ w'.heap.size) (hk : ∀ k, rfoot b sv cv R k → w'.heap[k]? = w.heap[k]?) : RefAt w' B b sv cv S C R where
  root := (hk b (.inl rfl)).trans h.root
  safe := by
    obtain ⟨ps, h0, h1, h2⟩ := h.safe
    exact ⟨ps, h0, ownsRow_keep h1 fun g e _ => hk g (.inr (.inl e)), fun i hi => (h2 i hi).keep fun k hk' => hk k (.inr (.inr (.inr hk')))⟩
  cache := by
    obtain ⟨ds, h0, h1, h2⟩ := h.cache
    exact ⟨ds, h0, ownsRow_keep h1 fun g e _ => hk g (.inr (.inr (.inl e))), fun i hi => ⟨(h2 i hi).1, (h2 i hi).2.keep fun k hk' => hk k (.inr (.inr (.inr hk')))⟩⟩
  rb := h.rb
  sb := h.sb
  cb := h.cb
  low := fun g hg => ⟨(h.low g hg).1, Nat.lt_of_lt_of_le (h.low g hg).2 hs⟩
  bb := h.bb
  wrs := h.wrs
  len := h.len
theorem RefAt.below (h : RefAt w B b sv cv S C R) (hb : Below w.heap.size w w') : RefAt w' B b sv cv S C R :=
  h.keep hb.size fun k hk => hb.block k (h.lt k hk).2
theorem RefAt.drew (h : RefAt w B b sv cv S C R) : RefAt w.drew B b sv cv S C R := h.keep (Nat.le_refl _) fun _ _ => rfl
theorem RefAt.shape_s (h : RefAt w B b sv cv S C R) : ∃ a c, sv = .slice a S.length c := by
  obtain ⟨ps, _, h1, _⟩ := h.safe
  rcases h1.2 with ⟨rfl, h0⟩ | ⟨g, cap, cur, rfl, _⟩
  · rw [h0]; exact ⟨_, _, rfl⟩
  · exact ⟨_, _, rfl⟩
theorem RefAt.shape_c (h : RefAt w B b sv cv S C R) : ∃ a c, cv = .slice a C.length c := by
  obtain ⟨ps, _, h1, _⟩ := h.cache
  rcases h1.2 with ⟨rfl, h0⟩ | ⟨g, cap, cur, rfl, _⟩
  · rw [h0]; exact ⟨_, _, rfl⟩
  · exact ⟨_, _, rfl⟩
theorem wrv_at : ∀ (ds : List (Int × Nat × Nat)) (i : Nat), i < ds.length → (ds.flatMap wrv)[2 * i]? = some (.int .i64 (ds.getD i (0, 0, 0)).1) ∧ (ds.flatMap wrv)[2 * i + 1]? = some (slv (ds.getD i (0, 0, 0)).2)
  | d :: ds, 0, _ => ⟨rfl, rfl⟩
  | d :: ds, i + 1, h => by
    have ih := wrv_at ds i (by simpa using h)
    rw [List.flatMap_cons]
    constructor
    · rw [List.getElem?_append_right (by simp [wrv]; omega)]
      have : 2 * (i + 1) - (wrv d).length = 2 * i := by simp [wrv]; omega
      rw [this, ih.1]; rfl
    · rw [List.getElem?_append_right (by simp [wrv]; omega)]
      have : 2 * (i + 1) + 1 - (wrv d).length = 2 * i + 1 := by simp [wrv]; omega
      rw [this, ih.2]; rfl
theorem ownsRow_at {e : TypeId} {size n : Nat} {v : Value} {xs : List Value} (h : w.ownsRow B e size v n xs) (hn : 0 < n) :
    ∃ g c, v = .slice (some ⟨g, 0, none⟩) n c ∧ n ≤ c ∧ c ≤ 9223372036854775807 ∧ (∀ j, j < n * size → w.cell? ⟨g, j, none⟩ = xs[j]?) ∧ ∀ j, w.frozen? ⟨g, j, none⟩ = false := by
  rcases h.2 with ⟨_, h0⟩ | ⟨g, cap, cur, rfl, _, _, h1, h2, _⟩
  · omega
  · exact ⟨g, cap, rfl, h1, by simpa [maxLen] using h2, fun j hj => h.cellAt j hj, fun j => h.frozenAt j⟩

/-- A sector more. -/
theorem RefAt.pushSafe {w1 w2 : World} (h : RefAt w B b sv cv S C R) {g c : Nat} {z : List Int} (hb : Below w.heap.size w w1) (hi : Ints w1 .u8 (some ⟨g, 0, none⟩) 32 c z) (hg : w.heap.size ≤ g) (hl : S.length < 512)
    {v' : Value} {ps : List (Nat × Nat)} (hp0 : ps.length = S.length) (hps : ∀ i, i < S.length → Held w R (ps.getD i (0, 0)) (S.getD i []))
    (hrow : w2.ownsRow B 39 1 v' (S.length + 1) (ps.map slv ++ [slv (g, c)])) (hgr : w1.grownBy w2 sv.ownBlock) (hv : v'.ownBlock = sv.ownBlock ∨ ∃ q, v'.ownBlock = some q ∧ w.heap.size ≤ q ∧ q ≠ g) :
    RefAt (w2.setCell ⟨b, 0, none⟩ v') B b v' cv (S ++ [z]) C (fun k => R k ∨ k = g) ∧ Mod (rfoot b sv cv R) w (w2.setCell ⟨b, 0, none⟩ v') := by
  have hlt := h.lt
  have hbl := (hlt b (.inl rfl)).2
  have hg1 : g < w1.heap.size := hi.block g 0 (by decide) rfl
  have same2 : ∀ k, k < w1.heap.size → sv.ownBlock ≠ some k → w2.heap[k]? = w1.heap[k]? := fun k hk hn => hgr.block k hk fun e => hn e.symm
  have same3 : ∀ k, k ≠ b → (w2.setCell ⟨b, 0, none⟩ v').heap[k]? = w2.heap[k]? := fun k hk => heap_setCell_other w2 _ k _ hk
  have old : ∀ k, k < w.heap.size → sv.ownBlock ≠ some k → k ≠ b → (w2.setCell ⟨b, 0, none⟩ v').heap[k]? = w.heap[k]? := fun k hk hn hkb =>
    (same3 k hkb).trans ((same2 k (Nat.lt_of_lt_of_le hk hb.size) hn).trans (hb.block k hk))
  have hsz : w1.heap.size ≤ (w2.setCell ⟨b, 0, none⟩ v').heap.size := by simpa using hgr.size
  have vb : ∀ k, v'.ownBlock = some k → k ≠ b ∧ ¬ (R k ∨ k = g) ∧ cv.ownBlock ≠ some k := fun k hk => by
    rcases hv with hv | ⟨q, hq, hq1, hq2⟩
    · rw [hv] at hk
      have := h.sb k hk
      have hkl := (hlt k (.inr (.inl hk))).2
      exact ⟨this.1, fun e => e.elim this.2 fun e => by omega, fun e => (h.cb k e).2.2 hk⟩
    · rw [hq] at hk
      cases hk
      exact ⟨fun e => by omega, fun e => e.elim (fun e => by have := (h.low k e).2; omega) hq2, fun e => by have := (hlt k (.inr (.inr (.inl e)))).2; omega⟩
  have rk : ∀ k, R k → (w2.setCell ⟨b, 0, none⟩ v').heap[k]? = w.heap[k]? := fun k hk => old k (h.low k hk).2 (fun e => (h.sb k e).2 hk) (fun e => h.rb (e ▸ hk))
  refine ⟨⟨?_, ⟨ps ++ [(g, c)], by simp [hp0], ?_, fun i hi' => ?_⟩, ?_, ?_, ?_, ?_, ?_, h.bb, ?_, ?_⟩, ?_⟩
  · have r2 : w2.heap[b]? = some (.cells #[sv, cv] 54 (0, 0)) := (same2 b (Nat.lt_of_lt_of_le hbl hb.size) (fun e => (h.sb b e).1 rfl)).trans ((hb.block b hbl).trans h.root)
    exact heap_setCell_same w2 b 0 _ _ _ r2
  · rw [List.length_append, List.map_append]
    exact ownsRow_keep hrow fun k hk _ => same3 k (vb k hk).1
  · rw [List.length_append] at hi'
    by_cases hil : i < S.length
    · have e1 : (ps ++ [(g, c)]).getD i (0, 0) = ps.getD i (0, 0) := by rw [List.getD_eq_getElem?_getD, List.getElem?_append_left (by omega), List.getD_eq_getElem?_getD]
      have e2 : (S ++ [z]).getD i [] = S.getD i [] := by rw [List.getD_eq_getElem?_getD, List.getElem?_append_left hil, List.getD_eq_getElem?_getD]
      rw [e1, e2]
      exact ((hps i hil).keep rk).wide fun k hk => .inl hk
    · obtain rfl : i = S.length := by simp at hi'; omega
      have e1 : (ps ++ [(g, c)]).getD S.length (0, 0) = (g, c) := by rw [← hp0]; simp [List.getD_eq_getElem?_getD]
      have e2 : (S ++ [z]).getD S.length [] = z := by simp [List.getD_eq_getElem?_getD]
      rw [e1, e2]
      refine ⟨hi.keepOn fun x o e _ => ?_, .inr rfl⟩
      cases e
      exact (same3 g (by omega)).trans (same2 g hg1 fun e => by have := (hlt g (.inr (.inl e))).2; omega)
  · obtain ⟨ds, h0, h1, h2⟩ := h.cache
    refine ⟨ds, h0, ownsRow_keep h1 fun k hk hkl => old k hkl (fun e => (h.cb k hk).2.2 e) (h.cb k hk).1, fun i hi' => ⟨(h2 i hi').1, ((h2 i hi').2.keep rk).wide fun k hk => .inl hk⟩⟩
  · exact fun e => e.elim h.rb fun e => by omega
  · exact fun k hk => ⟨(vb k hk).1, (vb k hk).2.1⟩
  · intro k hk
    have := h.cb k hk
    have hkl := (hlt k (.inr (.inr (.inl hk)))).2
    exact ⟨this.1, fun e => e.elim this.2.1 fun e => by omega, fun e => (vb k e).2.2 hk⟩
  · intro k hk
    rcases hk with hk | rfl
    · have := h.low k hk
      exact ⟨this.1, by have := hb.size; omega⟩
    · exact ⟨by have := h.bb; omega, by omega⟩
  · intro p hp
    have := h.wrs p hp
    simp; omega
  · simp; omega
  · exact ⟨hgr.os.trans hb.os, hgr.tape.trans hb.tape, hgr.output.trans hb.output, Nat.le_trans hb.size hsz, fun k hk hn => old k hk (fun e => hn (.inr (.inl e))) (fun e => hn (.inl e))⟩

/-- A write more. -/
theorem RefAt.pushCache {w1 w2 : World} (h : RefAt w B b sv cv S C R) {g c : Nat} {x : Int} {z : List Int} (hb : Below w.heap.size w w1) (hi : Ints w1 .u8 (some ⟨g, 0, none⟩) 32 c z) (hg : w.heap.size ≤ g) (hx : 0 ≤ x ∧ x < S.length)
    {v' : Value} {ds : List (Int × Nat × Nat)} (hp0 : ds.length = C.length) (hps : ∀ i (h : i < C.length), (ds.getD i (0, 0, 0)).1 = C[i].1 ∧ Held w R (ds.getD i (0, 0, 0)).2 C[i].2)
    (hrow : w2.ownsRow B 98 2 v' (C.length + 1) (ds.flatMap wrv ++ wrv (x, g, c))) (hgr : w1.grownBy w2 cv.ownBlock) (hv : v'.ownBlock = cv.ownBlock ∨ ∃ q, v'.ownBlock = some q ∧ w.heap.size ≤ q ∧ q ≠ g) :
    RefAt (w2.setCell ⟨b, 1, none⟩ v') B b sv v' S (C ++ [(x, z)]) (fun k => R k ∨ k = g) ∧ Mod (rfoot b sv cv R) w (w2.setCell ⟨b, 1, none⟩ v') := by
  have hlt := h.lt
  have hbl := (hlt b (.inl rfl)).2
  have hg1 : g < w1.heap.size := hi.block g 0 (by decide) rfl
  have same2 : ∀ k, k < w1.heap.size → cv.ownBlock ≠ some k → w2.heap[k]? = w1.heap[k]? := fun k hk hn => hgr.block k hk fun e => hn e.symm
  have same3 : ∀ k, k ≠ b → (w2.setCell ⟨b, 1, none⟩ v').heap[k]? = w2.heap[k]? := fun k hk => heap_setCell_other w2 _ k _ hk
  have old : ∀ k, k < w.heap.size → cv.ownBlock ≠ some k → k ≠ b → (w2.setCell ⟨b, 1, none⟩ v').heap[k]? = w.heap[k]? := fun k hk hn hkb =>
    (same3 k hkb).trans ((same2 k (Nat.lt_of_lt_of_le hk hb.size) hn).trans (hb.block k hk))
  have hsz : w1.heap.size ≤ (w2.setCell ⟨b, 1, none⟩ v').heap.size := by simpa using hgr.size
  have vb : ∀ k, v'.ownBlock = some k → k ≠ b ∧ ¬ (R k ∨ k = g) ∧ sv.ownBlock ≠ some k := fun k hk => by
    rcases hv with hv | ⟨q, hq, hq1, hq2⟩
    · rw [hv] at hk
      have := h.cb k hk
      have hkl := (hlt k (.inr (.inr (.inl hk)))).2
      exact ⟨this.1, fun e => e.elim this.2.1 fun e => by omega, this.2.2⟩
    · rw [hq] at hk
      cases hk
      exact ⟨fun e => by omega, fun e => e.elim (fun e => by have := (h.low k e).2; omega) hq2, fun e => by have := (hlt k (.inr (.inl e))).2; omega⟩
  have rk : ∀ k, R k → (w2.setCell ⟨b, 1, none⟩ v').heap[k]? = w.heap[k]? := fun k hk => old k (h.low k hk).2 (fun e => (h.cb k e).2.1 hk) (fun e => h.rb (e ▸ hk))
  refine ⟨⟨?_, ?_, ⟨ds ++ [(x, g, c)], by simp [hp0], ?_, fun i hi' => ?_⟩, ?_, ?_, ?_, ?_, h.bb, ?_, h.len⟩, ?_⟩
  · have r2 : w2.heap[b]? = some (.cells #[sv, cv] 54 (0, 0)) := (same2 b (Nat.lt_of_lt_of_le hbl hb.size) (fun e => (h.cb b e).1 rfl)).trans ((hb.block b hbl).trans h.root)
    exact heap_setCell_same w2 b 1 _ _ _ r2
  · obtain ⟨ps, h0, h1, h2⟩ := h.safe
    exact ⟨ps, h0, ownsRow_keep h1 fun k hk hkl => old k hkl (fun e => (h.cb k e).2.2 hk) (h.sb k hk).1, fun i hi' => ((h2 i hi').keep rk).wide fun k hk => .inl hk⟩
  · rw [List.length_append, List.flatMap_append, List.flatMap_singleton]
    exact ownsRow_keep hrow fun k hk _ => same3 k (vb k hk).1
  · rw [List.length_append] at hi'
    by_cases hil : i < C.length
    · have e1 : (ds ++ [(x, g, c)]).getD i (0, 0, 0) = ds.getD i (0, 0, 0) := by rw [List.getD_eq_getElem?_getD, List.getElem?_append_left (by omega), List.getD_eq_getElem?_getD]
      rw [e1, List.getElem_append_left hil]
      exact ⟨(hps i hil).1, ((hps i hil).2.keep rk).wide fun k hk => .inl hk⟩
    · obtain rfl : i = C.length := by simp at hi'; omega
      have e1 : (ds ++ [(x, g, c)]).getD C.length (0, 0, 0) = (x, g, c) := by rw [← hp0]; simp [List.getD_eq_getElem?_getD]
      rw [e1, List.getElem_append_right (Nat.le_refl _)]
      simp only [Nat.sub_self, List.getElem_cons_zero, true_and]
      refine ⟨hi.keepOn fun y o e _ => ?_, .inr rfl⟩
      cases e
      exact (same3 g (by omega)).trans (same2 g hg1 fun e => by have := (hlt g (.inr (.inr (.inl e)))).2; omega)
  · exact fun e => e.elim h.rb fun e => by omega
  · intro k hk
    have := h.sb k hk
    have hkl := (hlt k (.inr (.inl hk))).2
    exact ⟨this.1, fun e => e.elim this.2 fun e => by omega⟩
  · exact vb
  · intro k hk
    rcases hk with hk | rfl
    · have := h.low k hk
      exact ⟨this.1, by have := hb.size; omega⟩
    · exact ⟨by have := h.bb; omega, by omega⟩
  · intro p hp
    rcases List.mem_append.1 hp with hp | hp
    · exact h.wrs p hp
    · rw [List.mem_singleton.1 hp]; exact hx
  · exact ⟨hgr.os.trans hb.os, hgr.tape.trans hb.tape, hgr.output.trans hb.output, Nat.le_trans hb.size hsz, fun k hk hn => old k hk (fun e => hn (.inr (.inr (.inl e)))) (fun e => hn (.inl e))⟩

/-- A sector is another one. -/
theorem RefAt.putSafe {g cap : Nat} (h : RefAt w B b (.slice (some ⟨g, 0, none⟩) S.length cap) cv S C R) {i : Nat} (hi : i < S.length) {p : Nat × Nat} {z : List Int} (hp : Held w R p z) :
    RefAt (w.setCell ⟨g, i, none⟩ (slv p)) B b (.slice (some ⟨g, 0, none⟩) S.length cap) cv (S.set i z) C R ∧ Mod (rfoot b (.slice (some ⟨g, 0, none⟩) S.length cap) cv R) w (w.setCell ⟨g, i, none⟩ (slv p)) := by
  have same : ∀ k, k ≠ g → (w.setCell ⟨g, i, none⟩ (slv p)).heap[k]? = w.heap[k]? := fun k hk => heap_setCell_other w _ k _ hk
  have hg := h.sb g rfl
  have rk : ∀ k, R k → (w.setCell ⟨g, i, none⟩ (slv p)).heap[k]? = w.heap[k]? := fun k hk => same k fun e => hg.2 (e ▸ hk)
  refine ⟨⟨(same b (fun e => hg.1 e.symm)).trans h.root, ?_, ?_, h.rb, h.sb, h.cb, fun k hk => by have := h.low k hk; simpa using this, h.bb, fun q hq => by have := h.wrs q hq; rw [List.length_set]; exact this, by rw [List.length_set]; exact h.len⟩,
    ⟨rfl, rfl, rfl, by simp, fun k _ hn => same k fun e => hn (.inr (.inl (by rw [e]; rfl)))⟩⟩
  · obtain ⟨ps, h0, h1, h2⟩ := h.safe
    refine ⟨ps.set i p, by simp [h0], ?_, fun j hj => ?_⟩
    · rw [List.length_set, List.map_set]
      exact (World.ownsRow.stored h1 i (slv p)).1
    · rw [List.length_set] at hj
      by_cases hij : i = j
      · subst hij
        have e1 : (ps.set i p).getD i (0, 0) = p := by rw [List.getD_eq_getElem?_getD, List.getElem?_set_self (by omega)]; rfl
        rw [e1, getD_set S i i z hj, if_pos rfl]
        exact hp.keep rk
      · have e1 : (ps.set i p).getD j (0, 0) = ps.getD j (0, 0) := by rw [List.getD_eq_getElem?_getD, List.getElem?_set_ne hij, List.getD_eq_getElem?_getD]
        rw [e1, getD_set S i j z hj, if_neg hij]
        exact (h2 j hj).keep rk
  · obtain ⟨ds, h0, h1, h2⟩ := h.cache
    exact ⟨ds, h0, ownsRow_keep h1 fun k hk _ => same k fun e => (h.cb k hk).2.2 (by rw [e]; rfl), fun j hj => ⟨(h2 j hj).1, (h2 j hj).2.keep rk⟩⟩
theorem RefAt.wide (h : RefAt w B b sv cv S C R) {R' : Nat → Prop} (hR : ∀ k, R k → R' k) (hl : ∀ k, R' k → R k ∨ (∀ x, rfoot b sv cv R x → x ≠ k) ∧ B ≤ k ∧ k < w.heap.size) : RefAt w B b sv cv S C R' where
  root := h.root
  safe := by
    obtain ⟨ps, h0, h1, h2⟩ := h.safe
    exact ⟨ps, h0, h1, fun i hi => (h2 i hi).wide hR⟩
  cache := by
    obtain ⟨ds, h0, h1, h2⟩ := h.cache
    exact ⟨ds, h0, h1, fun i hi => ⟨(h2 i hi).1, (h2 i hi).2.wide hR⟩⟩
  rb := fun e => (hl b e).elim h.rb fun e => e.1 b (.inl rfl) rfl
  sb := fun g hg => ⟨(h.sb g hg).1, fun e => (hl g e).elim (h.sb g hg).2 fun e => e.1 g (.inr (.inl hg)) rfl⟩
  cb := fun g hg => ⟨(h.cb g hg).1, fun e => (hl g e).elim (h.cb g hg).2.1 fun e => e.1 g (.inr (.inr (.inl hg))) rfl, (h.cb g hg).2.2⟩
  low := fun g hg => (hl g hg).elim (h.low g) fun e => e.2
  bb := h.bb
  wrs := h.wrs
  len := h.len
/-- The cache is forgotten. -/
theorem RefAt.forget (h : RefAt w B b sv cv S C R) : RefAt (w.setCell ⟨b, 1, none⟩ (.slice none 0 0)) B b sv (.slice none 0 0) S [] R ∧ Mod (rfoot b sv cv R) w (w.setCell ⟨b, 1, none⟩ (.slice none 0 0)) := by
  have same : ∀ k, k ≠ b → (w.setCell ⟨b, 1, none⟩ (.slice none 0 0)).heap[k]? = w.heap[k]? := fun k hk => heap_setCell_other w _ k _ hk
  have rk : ∀ k, R k → (w.setCell ⟨b, 1, none⟩ (.slice none 0 0)).heap[k]? = w.heap[k]? := fun k hk => same k fun e => h.rb (e ▸ hk)
  refine ⟨⟨heap_setCell_same w b 1 _ _ _ h.root, ?_, ⟨[], rfl, ⟨rfl, .inl ⟨rfl, rfl⟩⟩, fun i hi => absurd hi (by simp)⟩, h.rb, h.sb, (fun g hg => by cases hg), fun k hk => by have := h.low k hk; simpa using this, h.bb, (fun q hq => by cases hq), h.len⟩,
    ⟨rfl, rfl, rfl, by simp, fun k _ hn => same k fun e => hn (.inl e)⟩⟩
  obtain ⟨ps, h0, h1, h2⟩ := h.safe
  exact ⟨ps, h0, ownsRow_keep h1 fun k hk _ => same k (h.sb k hk).1, fun j hj => (h2 j hj).keep rk⟩
end
end Go.Proofs.YtgpedejeifmfdaaGreat
/- The document's device: New, Write. -/
namespace Go.Proofs.YtgpedejeifmfdaaGreat
open Go.RowKit

theorem Tryz.infoBs : (Tryz.prog.info? 39).map (fun i => (i.zero, i.size, i.bytes)) = some (some (.slice none 0 0), 1, 24) := by kernel_rfl

set_option maxHeartbeats 2000000 in
theorem RNew_calls {w : World} {n : Nat} (h1 : 1 ≤ n) (h2 : n ≤ 512) :
    Calls Tryz.prog 7 #[.int .i64 n] w fun e w' => ∃ b sv R, e = .returned (.tuple #[.pointer (some ⟨b, 0, none⟩), .int .i64 0]) ∧ RefAt w' w.heap.size b sv (.slice none 0 0) (fresh n) [] R ∧ Below w.heap.size w w' := by
  have hd : decide ((n : Int) < 1) = false := decide_eq_false (by omega)
  have hd2 : decide (512 < (n : Int)) = false := decide_eq_false (by omega)
  go_enter Tryz.func7, Tryz.ntmps7
  go_wp2_with fail
  have hr0 : RefAt (w.alloc (.cells #[.slice none 0 0, .slice none 0 0] 54)) w.heap.size w.heap.size (.slice none 0 0) (.slice none 0 0) (fresh 0) [] (fun _ => False) :=
    ⟨heap_alloc_new w _, ⟨[], rfl, ⟨rfl, .inl ⟨rfl, rfl⟩⟩, fun i hi => absurd hi (by simp [fresh])⟩, ⟨[], rfl, ⟨rfl, .inl ⟨rfl, rfl⟩⟩, fun i hi => absurd hi (by simp)⟩, id, (fun g hg => by cases hg), (fun g hg => by cases hg), (fun g hg => hg.elim), Nat.le_refl _, (fun p hp => by cases hp), by simp [fresh]⟩
  have hb0 : Below w.heap.size w (w.alloc (.cells #[.slice none 0 0, .slice none 0 0] 54)) := (Below.refl _ _).alloc (Nat.le_refl _) _
  go_loopw [5] (fun i wr => ∃ (j : Nat) (sv : Value) (R : Nat → Prop), j ≤ n ∧ i = .int .i64 j ∧ RefAt wr w.heap.size w.heap.size sv (.slice none 0 0) (fresh j) [] R ∧ Below w.heap.size w wr) (fun i _ => n - (intOf i).toNat)
  case atStart => exact ⟨0, _, _, by omega, rfl, hr0, hb0⟩
  case round =>
    obtain ⟨j, sv, R, hj, rfl, hr, hbel⟩ := hrel
    clear hr0 hb0
    have Hbel := Lib.hid hbel; clear hbel
    by_cases hlt : j < n
    · have hjl : (fresh j).length = j := by simp [fresh]
      have hd := hr.drew
      have hbd : Below w.heap.size w wr.drew := Hbel.out.trans ⟨rfl, rfl, rfl, Nat.le_refl _, fun _ _ => rfl⟩
      have Hd := Lib.hid hd; clear hd hr
      have Hbd := Lib.hid hbd; clear hbd
      have Hjl := Lib.hid hjl; clear hjl
      have i2 : (j : Int) < (n : Int) := by omega
      have hmk : ∀ w : World, (Instr.makeSlice 39 (.int .i64 32) (.int .i64 32)).run Tryz.prog w = .ok (.slice (some ⟨w.heap.size, 0, none⟩) 32 32) (w.alloc (.cells (sct zsec).toArray 5)) := fun w => by kernel_rfl
      go_wp2_with fail
      refine wp_region_held (fun w' => w'.cell? ⟨w.heap.size, 0, none⟩ = some sv) [0, 1, 2, 3, 4] [[5], [6], [7, 8, 9, 10]] (by kernel_rfl) (by kernel_rfl) rfl (by kernel_rfl) (fun _ _ _ h => by obtain ⟨_, _, _, _, h, _⟩ := h; cases h) (fun _ _ h => by obtain ⟨_, _, _, h, _⟩ := h; cases h)
        (cells_at Hd.out.root 0) rfl ?_
      apply Exists.intro
      apply And.intro
      · intro w' hS
        simp only [List.map_cons, List.map_nil, List.getD_cons_zero, List.getD_cons_succ]
        go_wp2_with fail
        exact pre_end
      · simp only [List.map_cons, List.map_nil, List.getD_cons_zero, List.getD_cons_succ]
        obtain ⟨w0, hw0⟩ : ∃ w0, w0 = wr.drew := ⟨_, rfl⟩
        rw [← hw0] at Hd Hbd ⊢
        clear hw0
        refine segs_more ?_
        go_wp2_with fail
        have hbl : w.heap.size < w0.heap.size := (Hd.out.lt _ (.inl rfl)).2
        have hbs := Hbd.out.size
        have ba : Below w0.heap.size w0 (w0.alloc (.cells (sct zsec).toArray 5)) := (Below.refl _ _).alloc (Nat.le_refl _) _
        have hx : (w0.alloc (.cells (sct zsec).toArray 5)).heap[w0.heap.size]? = some (.cells (sct zsec).toArray 5 (0, 0)) := heap_alloc_new w0 _
        have hz1 : (w0.alloc (.cells (sct zsec).toArray 5)).heap.size = w0.heap.size + 1 := by simp
        generalize w0.alloc (.cells (sct zsec).toArray 5) = w1 at ba hx hz1 ⊢
        have hi := (ints_of_sct ⟨rfl, by decide⟩ hx : Ints w1 .u8 (some ⟨w0.heap.size, 0, none⟩) 32 32 zsec)
        clear hx
        refine seg_end (by rw [ba.cell hbl]; exact cells_at Hd.out.root 0) (segs_more ?_)
        have Hz1 := Lib.hid hz1; clear hz1
        have Hi := Lib.hid hi; clear hi
        have Hba := Lib.hid ba; clear ba hmk
        go_wp2_with fail
        have ba2 : Below w0.heap.size w0 (w1.alloc (.cells #[slv (w0.heap.size, 32)] 39)) := Hba.out.alloc Hba.out.size _
        have hi2 := Hi.out.alloc (.cells #[slv (w0.heap.size, 32)] 39)
        have hx2 := heap_alloc_new w1 (.cells #[slv (w0.heap.size, 32)] 39)
        have hz2 : (w1.alloc (.cells #[slv (w0.heap.size, 32)] 39)).heap.size = w0.heap.size + 2 := by have := Hz1.out; simp; omega
        change SegQ _ _ _ (w1.alloc (.cells #[slv (w0.heap.size, 32)] 39))
        generalize w1.alloc (.cells #[slv (w0.heap.size, 32)] 39) = w2 at ba2 hi2 hx2 hz2 ⊢
        refine seg_end (by rw [ba2.cell hbl]; exact cells_at Hd.out.root 0) (segs_last ?_)
        have Hz2 := Lib.hid hz2; clear hz2
        obtain ⟨ps, hp0, hrow, hps⟩ := Hd.out.safe
        obtain ⟨ti, hi', hz0', hz1', hz2'⟩ := info_parts Tryz.infoBs
        have Hhp := Lib.hid hp0; clear hp0
        have Hps := Lib.hid hps; clear hps
        have hrow2 := ownsRow_keep hrow (w' := w2) fun g _ hlt => ba2.block g hlt
        have Hba2 := Lib.hid ba2; clear ba2 Hba Hi
        have Hi2 := Lib.hid hi2; clear hi2
        go_wp2_with (with_reducible refine stop_builtin .append ?_)
        refine unpark ?_
        refine wpList_append_row _ rfl _ _ 51 rfl w.heap.size 39 ti (.slice none 0 0) 1 24 Tryz.underlying51 hi' hz0' hz1' hz2' rfl (by decide) sv (fresh j).length (ps.map slv) rfl hrow2 w1.heap.size 0 1 1 [slv (w0.heap.size, 32)] rfl rfl (by decide)
          (fun j' u hu => by rw [Nat.zero_add, cells_at hx2 j']; simpa using hu) (fun u hu => by rw [List.mem_singleton.1 hu]; rfl) (by have := Hjl.out; unfold maxLen; omega) (by have := Hjl.out; omega) (by have := Hz2.out; omega) ?_
        intro v' w3 hrow3 hgr3 hv3
        have hv4 : v'.ownBlock = sv.ownBlock ∨ ∃ q, v'.ownBlock = some q ∧ w0.heap.size ≤ q ∧ q ≠ w0.heap.size := hv3.imp id fun e => ⟨_, e, by have := Hz2.out; omega, by have := Hz2.out; omega⟩
        have hfr : fresh (j + 1) = fresh j ++ [zsec] := by unfold fresh; rw [List.replicate_succ']
        obtain ⟨hnew, hmod⟩ := Hd.out.pushSafe Hba2.out Hi2.out (Nat.le_refl _) (by have := Hjl.out; omega) Hhp.out Hps.out hrow3 hgr3 hv4
        rw [← hfr] at hnew
        have hbel := hmod.below Hbd.out hbs fun k hk => (Hd.out.lt k hk).1
        have r3 : w3.heap[w.heap.size]? = some (.cells #[sv, .slice none 0 0] 54 (0, 0)) :=
          (hgr3.block w.heap.size (by have := Hz2.out; omega) fun e => (Hd.out.sb _ e.symm).1 rfl).trans ((Hba2.out.block w.heap.size hbl).trans Hd.out.root)
        have c3 := cells_at r3 0
        have f3 := frozen_of_row w3 w.heap.size 0 _ _ r3
        obtain ⟨a', c', hv'⟩ := hnew.shape_s
        obtain ⟨m', hm'⟩ : ∃ m', m' = (fresh (j + 1)).length := ⟨_, rfl⟩
        rw [← hm'] at hv'
        subst hv'
        clear hm'
        have Hnew := Lib.hid hnew; clear hnew
        have Hbel' := Lib.hid hbel; clear hbel
        clear hrow hrow2 hrow3 hgr3 hv3 hv4 hmod r3 hi' hz0' hz1' hz2' hx2 hfr
        go_wp2_with fail
        go_roundw
        case rel => exact ⟨j + 1, _, _, by omega, by go_num, Hnew.out, Hbel'.out⟩
        case measure => simp [intOf]; omega
    · obtain rfl : j = n := by omega
      have Hr := Lib.hid hr; clear hr
      go_wp2
      go_ret2
      exact ⟨_, _, _, rfl, Hr.out, Hbel.out⟩
end Go.Proofs.YtgpedejeifmfdaaGreat
/- The document's device: Write. -/
namespace Go.Proofs.YtgpedejeifmfdaaGreat
open Go.RowKit

theorem Tryz.infoRW : (Tryz.prog.info? 98).map (fun i => (i.zero, i.size, i.bytes)) = some (some (.agg #[.int .i64 0, .slice none 0 0]), 2, 32) := by kernel_rfl

set_option maxHeartbeats 2000000 in
theorem RWrite_calls {w : World} {B b : Nat} {sv cv : Value} {S : List (List Int)} {C : List (Int × List Int)} {R : Nat → Prop} (h : RefAt w B b sv cv S C R) (k : Int) {a : Option Addr} {n c : Nat} {zs : List Int} (hx : Ints w .u8 a n c zs) (hC : C.length ≤ 1000000) :
    Calls Tryz.prog 20 #[.pointer (some ⟨b, 0, none⟩), .int .i64 k, .slice a n c] w fun e w' => e = .returned (.int .i64 (writeErr S k n)) ∧ ∃ cv' R',
      RefAt w' B b sv cv' S (written S C k zs) R' ∧ (∀ x, rfoot b sv cv' R' x → rfoot b sv cv R x ∨ w.heap.size ≤ x) ∧ Mod (rfoot b sv cv R) w w' := by
  obtain ⟨sa, cs, rfl⟩ := h.shape_s
  have c0 := cells_at h.root 0
  have c1 := cells_at h.root 1
  have hSl := h.len
  have hzl := hx.len
  by_cases h1 : k < 0
  · have e1 : decide (k < 0) = true := decide_eq_true h1
    have hw : written S C k zs = C := by unfold written; rw [if_neg (by omega)]
    have he : writeErr S k n = 11 := by unfold writeErr; rw [if_neg (by omega)]
    rw [hw, he]
    clear hw he
    have Hh := Lib.hid h; clear h
    go_enter Tryz.func20, Tryz.ntmps20
    go_wp2
    go_ret
    exact ⟨rfl, cv, R, Hh.out, fun x hx => .inl hx, Mod.refl _ _⟩
  have e1 : decide (k < 0) = false := decide_eq_false h1
  by_cases h2 : (S.length : Int) ≤ k
  · have e2 : decide ((S.length : Int) ≤ k) = true := decide_eq_true h2
    have hw : written S C k zs = C := by unfold written; rw [if_neg (by omega)]
    have he : writeErr S k n = 11 := by unfold writeErr; rw [if_neg (by omega)]
    rw [hw, he]
    clear hw he
    have Hh := Lib.hid h; clear h
    go_enter Tryz.func20, Tryz.ntmps20
    go_wp2
    go_ret
    exact ⟨rfl, cv, R, Hh.out, fun x hx => .inl hx, Mod.refl _ _⟩
  have e2 : decide ((S.length : Int) ≤ k) = false := decide_eq_false h2
  by_cases h3 : n ≠ 32
  · have e3 : ((n : Int) != 32) = true := by simp; omega
    have hw : written S C k zs = C := by unfold written; rw [if_neg (by omega)]
    have he : writeErr S k n = 10 := by unfold writeErr; rw [if_pos (by omega), if_neg h3]
    rw [hw, he]
    clear hw he
    have Hh := Lib.hid h; clear h
    go_enter Tryz.func20, Tryz.ntmps20
    go_wp2
    go_ret
    exact ⟨rfl, cv, R, Hh.out, fun x hx => .inl hx, Mod.refl _ _⟩
  obtain rfl : n = 32 := Decidable.not_not.1 h3
  clear h3
  have hw : written S C k zs = C ++ [(k, zs)] := by unfold written; rw [if_pos ⟨by omega, by omega, hzl⟩]
  have he : writeErr S k 32 = 0 := by unfold writeErr; rw [if_pos ⟨by omega, by omega⟩, if_pos rfl]
  rw [hw, he]
  clear hw he
  have Hhd := Lib.hid h; clear h
  have Hzl := Lib.hid hzl; clear hzl
  have Hx := Lib.hid hx; clear hx
  go_enter Tryz.func20, Tryz.ntmps20
  go_wp2_with fail
  have hd := Hhd.out.drew
  have hxd := Hx.out.drew
  have hmd : Mod (fun _ => False) w w.drew := ⟨rfl, rfl, rfl, Nat.le_refl _, fun _ _ _ => rfl⟩
  have Hd := Lib.hid hd; clear hd
  have Hxd := Lib.hid hxd; clear hxd
  have Hmd := Lib.hid hmd; clear hmd
  clear c0 c1
  refine wp_region_held (fun w' => w'.cell? ⟨b, 1, none⟩ = some cv) [0, 1, 2, 3, 4, 5, 6] [[7], [8, 9], [10, 11, 12, 13]] (by kernel_rfl) (by kernel_rfl) rfl (by kernel_rfl) (fun _ _ _ h => by obtain ⟨_, h, _⟩ := h; cases h) (fun _ _ h => by obtain ⟨h, _⟩ := h; cases h)
    (cells_at Hd.out.root 1) rfl ?_
  apply Exists.intro
  apply And.intro
  · intro w' hS
    simp only [List.map_cons, List.map_nil, List.getD_cons_zero, List.getD_cons_succ]
    go_wp2_with fail
    exact pre_end
  · simp only [List.map_cons, List.map_nil, List.getD_cons_zero, List.getD_cons_succ]
    generalize w.drew = w0 at Hd Hxd Hmd ⊢
    refine segs_more ?_
    go_wp2_with fail
    refine (CopyBytes_calls Hxd.out (by omega)).mono ?_
    rintro e w1 ⟨v, rfl, own1, _, b1⟩
    obtain ⟨g, c1, rfl, x1⟩ := own1.ofInts (n := 32) Hzl.out (by decide)
    have hg1 := own1.block g rfl
    have hbl := (Hd.out.lt b (.inl rfl)).2
    clear own1
    have Hx1 := Lib.hid x1; clear x1
    have Hb1 := Lib.hid b1; clear b1
    go_wp2_with fail
    refine seg_end (by rw [Hb1.out.cell hbl]; exact cells_at Hd.out.root 1) (segs_more ?_)
    go_wp2_with (with_reducible refine stop_build 98 ?_)
    refine unpark ?_
    refine wpList_build2 rfl _ _ _ _ _ rfl (.int .i64 k) (slv (g, c1)) rfl rfl (.agg #[.int .i64 k, slv (g, c1)]) (by kernel_rfl) ?_
    go_wp2_with fail
    have hz2 : (w1.alloc (.cells #[.int .i64 k, slv (g, c1)] 98)).heap.size = w1.heap.size + 1 := by simp
    have hx2 := heap_alloc_new w1 (.cells #[.int .i64 k, slv (g, c1)] 98)
    have ba2 : Below w0.heap.size w0 (w1.alloc (.cells #[.int .i64 k, slv (g, c1)] 98)) := Hb1.out.alloc Hb1.out.size _
    have hi2 := Hx1.out.alloc (.cells #[.int .i64 k, slv (g, c1)] 98)
    generalize w1.alloc (.cells #[.int .i64 k, slv (g, c1)] 98) = w2 at hz2 hx2 ba2 hi2 ⊢
    refine seg_end (by rw [ba2.cell hbl]; exact cells_at Hd.out.root 1) (segs_last ?_)
    obtain ⟨ds, hp0, hrow, hps⟩ := Hd.out.cache
    obtain ⟨ti, hi', hz0', hz1', hz2'⟩ := info_parts Tryz.infoRW
    have Hhp := Lib.hid hp0; clear hp0
    have Hps := Lib.hid hps; clear hps
    have hrow2 := ownsRow_keep hrow (w' := w2) fun g _ hlt => ba2.block g hlt
    have Hba2 := Lib.hid ba2; clear ba2
    have Hi2 := Lib.hid hi2; clear hi2
    have Hz2 := Lib.hid hz2; clear hz2
    have hsz01 := Hb1.out.size
    have hBl := Hd.out.bb
    go_wp2_with (with_reducible refine stop_builtin .append ?_)
    refine unpark ?_
    refine wpList_append_row _ rfl _ _ 52 rfl B 98 ti (.agg #[.int .i64 0, .slice none 0 0]) 2 32 Tryz.underlying52 hi' hz0' hz1' hz2' rfl (by decide) cv C.length (ds.flatMap wrv) rfl hrow2 w1.heap.size 0 1 1 (wrv (k, g, c1)) rfl rfl (by decide)
      (fun j' u hu => by rw [Nat.zero_add, cells_at hx2 j']; simpa [wrv] using hu) (fun u hu => by simp [wrv] at hu; rcases hu with rfl | rfl <;> rfl) (by unfold maxLen; omega) (by omega) (by have := Hz2.out; omega) ?_
    intro v' w3 hrow3 hgr3 hv3
    have hv4 : v'.ownBlock = cv.ownBlock ∨ ∃ q, v'.ownBlock = some q ∧ w0.heap.size ≤ q ∧ q ≠ g := hv3.imp id fun e => ⟨_, e, by have := Hz2.out; omega, by have := Hz2.out; omega⟩
    obtain ⟨hnew, hmod⟩ := Hd.out.pushCache Hba2.out Hi2.out hg1.1 (x := k) (by omega) Hhp.out Hps.out hrow3 hgr3 hv4
    have r3 : w3.heap[b]? = some (.cells #[.slice sa S.length cs, cv] 54 (0, 0)) :=
      (hgr3.block b (by have := Hz2.out; omega) fun e => (Hd.out.cb _ e.symm).1 rfl).trans ((Hba2.out.block b hbl).trans Hd.out.root)
    have c3 := cells_at r3 1
    have f3 := frozen_of_row w3 b 1 _ _ r3
    have hfoot : ∀ x, rfoot b (.slice sa S.length cs) v' (fun k => R k ∨ k = g) x → rfoot b (.slice sa S.length cs) cv R x ∨ w.heap.size ≤ x := by
      have hw0 := Hmd.out.size
      rintro x (rfl | hx | hx | hx | rfl)
      · exact .inl (.inl rfl)
      · exact .inl (.inr (.inl hx))
      · rcases hv4 with e | ⟨q, e, hq, _⟩
        · exact .inl (.inr (.inr (.inl (e ▸ hx))))
        · rw [e] at hx; cases hx; exact .inr (by omega)
      · exact .inl (.inr (.inr (.inr hx)))
      · exact .inr (by omega)
    have hmod' : Mod (rfoot b (.slice sa S.length cs) cv R) w _ := Hmd.out.trans hmod (fun _ h => h.elim) (fun _ _ h => h)
    obtain ⟨a', c', hv'⟩ := hnew.shape_c
    obtain ⟨m', hm'⟩ : ∃ m', m' = (C ++ [(k, zs)]).length := ⟨_, rfl⟩
    rw [← hm'] at hv'
    subst hv'
    have Hnew := Lib.hid hnew; clear hnew
    have Hmod := Lib.hid hmod'; clear hmod'
    have Hfoot := Lib.hid hfoot; clear hfoot
    clear hrow hrow2 hrow3 hgr3 hv3 hv4 hmod r3 hi' hz0' hz1' hz2' hx2 hm'
    go_wp2_with fail
    go_ret
    exact ⟨rfl, _, _, Hnew.out, Hfoot.out, Hmod.out⟩
end Go.Proofs.YtgpedejeifmfdaaGreat
/- The document's device: Read, Image. -/
namespace Go.Proofs.YtgpedejeifmfdaaGreat
open Go.RowKit

theorem RefAt.sec_at {w : World} {B b : Nat} {sv cv : Value} {S : List (List Int)} {C : List (Int × List Int)} {R : Nat → Prop} (h : RefAt w B b sv cv S C R) {i : Nat} (hi : i < S.length) :
    ∃ g cap q c, sv = .slice (some ⟨g, 0, none⟩) S.length cap ∧ S.length ≤ cap ∧ cap ≤ 9223372036854775807 ∧ w.cell? ⟨g, i, none⟩ = some (.slice (some ⟨q, 0, none⟩) 32 c) ∧ w.frozen? ⟨g, i, none⟩ = false ∧ Ints w .u8 (some ⟨q, 0, none⟩) 32 c (S.getD i []) ∧ R q := by
  obtain ⟨ps, h0, h1, h2⟩ := h.safe
  obtain ⟨g, c, rfl, hc1, hc2, hcell, hfr⟩ := ownsRow_at h1 (by omega)
  refine ⟨g, c, (ps.getD i (0, 0)).1, (ps.getD i (0, 0)).2, rfl, hc1, hc2, ?_, hfr i, (h2 i hi).1, (h2 i hi).2⟩
  rw [hcell i (by omega), List.getElem?_map, List.getElem?_eq_getElem (show i < ps.length by omega), List.getD_eq_getElem?_getD, List.getElem?_eq_getElem (show i < ps.length by omega)]
  rfl
theorem RefAt.wr_at {w : World} {B b : Nat} {sv cv : Value} {S : List (List Int)} {C : List (Int × List Int)} {R : Nat → Prop} (h : RefAt w B b sv cv S C R) {i : Nat} (hi : i < C.length) :
    ∃ g cap q c, cv = .slice (some ⟨g, 0, none⟩) C.length cap ∧ C.length ≤ cap ∧ cap ≤ 9223372036854775807 ∧ w.cell? ⟨g, i * 2, none⟩ = some (.int .i64 C[i].1) ∧ w.cell? ⟨g, i * 2 + 1, none⟩ = some (.slice (some ⟨q, 0, none⟩) 32 c) ∧ Ints w .u8 (some ⟨q, 0, none⟩) 32 c C[i].2 ∧ R q := by
  obtain ⟨ds, h0, h1, h2⟩ := h.cache
  obtain ⟨g, c, rfl, hc1, hc2, hcell, hfr⟩ := ownsRow_at h1 (by omega)
  have hw := wrv_at ds i (by omega)
  refine ⟨g, c, (ds.getD i (0, 0, 0)).2.1, (ds.getD i (0, 0, 0)).2.2, rfl, hc1, hc2, ?_, ?_, (h2 i hi).2.1, (h2 i hi).2.2⟩
  · rw [hcell (i * 2) (by omega), Nat.mul_comm, hw.1, (h2 i hi).1]
  · rw [hcell (i * 2 + 1) (by omega), Nat.mul_comm, hw.2]; rfl

theorem lastOf_take_succ {C : List (Int × List Int)} {j : Nat} (hj : j < C.length) (k : Int) : lastOf (C.take (j + 1)) k = if k = C[j].1 then some C[j].2 else lastOf (C.take j) k := by
  rw [List.take_succ_eq_append_getElem hj]
  exact lastOf_snoc _ C[j].1 C[j].2 k

set_option maxHeartbeats 2000000 in
theorem RRead_calls {w : World} {B b : Nat} {sv cv : Value} {S : List (List Int)} {C : List (Int × List Int)} {R : Nat → Prop} (h : RefAt w B b sv cv S C R) (hC : C.length ≤ 1000000) (k : Int) :
    Calls Tryz.prog 35 #[.pointer (some ⟨b, 0, none⟩), .int .i64 k] w fun e w' =>
      ∃ v, e = .returned (.tuple #[v, .int .i64 (if 0 ≤ k ∧ k < (S.length : Int) then 0 else 11)]) ∧ Own w' w.heap.size 5 .u8 v (readOf S C k) ∧ Below w.heap.size w w' := by
  by_cases hin : ¬ (0 ≤ k ∧ k < (S.length : Int))
  · obtain ⟨sa, cs, rfl⟩ := h.shape_s
    have c0 := cells_at h.root 0
    have hSl := h.len
    have hro : readOf S C k = [] := by unfold readOf; rw [if_neg hin]
    rw [hro, if_neg hin]
    clear hro
    have Hh := Lib.hid h; clear h
    by_cases h1 : k < 0
    · have e1 : decide (k < 0) = true := decide_eq_true h1
      clear hin
      go_enter Tryz.func35, Tryz.ntmps35
      go_wp2
      go_ret2
      exact ⟨_, rfl, ⟨⟨rfl, .inl ⟨rfl, rfl⟩⟩, fun _ h => by cases h⟩, Below.refl _ _⟩
    · have e1 : decide (k < 0) = false := decide_eq_false h1
      have h2 : (S.length : Int) ≤ k := by omega
      have e2 : decide ((S.length : Int) ≤ k) = true := decide_eq_true h2
      clear hin
      go_enter Tryz.func35, Tryz.ntmps35
      go_wp2
      go_ret2
      exact ⟨_, rfl, ⟨⟨rfl, .inl ⟨rfl, rfl⟩⟩, fun _ h => by cases h⟩, Below.refl _ _⟩
  have hin := Decidable.not_not.1 hin
  rw [if_pos hin]
  obtain ⟨K, rfl⟩ : ∃ K : Nat, k = K := ⟨k.toNat, by omega⟩
  have hK : K < S.length := by omega
  have hro : readOf S C (K : Int) = (lastOf C (K : Int)).getD (S.getD K []) := readOf_in hK
  rw [hro]
  obtain ⟨g, cap, q, cq, rfl, hc1, hc2, hcell, _, hxs, hR⟩ := h.sec_at hK
  obtain ⟨ca, cc, hcv⟩ := h.shape_c
  obtain ⟨L, hL⟩ : ∃ L, L = C.length := ⟨_, rfl⟩
  rw [← hL] at hcv hC
  subst hcv
  have c0 := cells_at h.root 0
  have c1 := cells_at h.root 1
  have hSl := h.len
  have HL := Lib.hid hL; clear hL
  have e1 : decide ((K : Int) < 0) = false := decide_eq_false (by omega)
  have e2 : decide ((S.length : Int) ≤ (K : Int)) = false := decide_eq_false (by omega)
  have e2n : decide (S.length ≤ K) = false := decide_eq_false (by omega)
  have i1 : (0 : Int) ≤ (K : Int) := by omega
  have i2 := hin.2
  have Hh := Lib.hid h; clear h
  have Hxs := Lib.hid hxs; clear hxs
  clear hro hin
  go_enter Tryz.func35, Tryz.ntmps35
  go_wp2_with fail
  go_loopw [6, 7] (fun v i wr => ∃ (j p c : Nat), j ≤ L ∧ i = .int .i64 j ∧ wr = w ∧ v = .slice (some ⟨p, 0, none⟩) 32 c ∧ Ints w .u8 (some ⟨p, 0, none⟩) 32 c ((lastOf (C.take j) (K : Int)).getD (S.getD K []))) (fun _ i _ => L - (intOf i).toNat)
  case atStart => exact ⟨0, q, cq, by omega, rfl, rfl, rfl, by simpa [lastOf] using Hxs.out⟩
  case round =>
    obtain ⟨j, p, c, hj, rfl, rfl, rfl, hx⟩ := hrel
    have Hx := Lib.hid hx; clear hx
    by_cases hlt : j < L
    · have hjC : j < C.length := by rw [← HL.out]; exact hlt
      obtain ⟨gc, capc, q', c', e', hcc1, hcc2, hcat, hcda, hxj, _⟩ := Hh.out.wr_at hjC
      rw [← HL.out] at e'
      simp only [Value.slice.injEq, true_and] at e'
      obtain ⟨rfl, rfl⟩ := e'
      have hsucc := lastOf_take_succ hjC (K : Int)
      obtain ⟨Z, hZ⟩ : ∃ Z, Z = C[j] := ⟨_, rfl⟩
      rw [← hZ] at hcat hxj hsucc
      obtain ⟨Z1, Z2⟩ := Z
      simp only at hcat hxj hsucc
      clear hZ
      have Hs := Lib.hid hsucc; clear hsucc
      have Hxj := Lib.hid hxj; clear hxj
      have i3 : (j : Int) < (L : Int) := by omega
      have i4 : (0 : Int) ≤ (j : Int) := by omega
      rw [← HL.out] at hcc1
      by_cases hz : Z1 = (K : Int)
      · subst hz
        go_wp2_with fail
        go_roundw
        case rel => exact ⟨j + 1, q', c', by omega, by go_num, by first | trivial | rfl, rfl, by rw [Hs.out, if_pos rfl]; exact Hxj.out⟩
        case measure => simp [intOf]; omega
      · have hzb : ((Z1 : Int) == (K : Int)) = false := by simpa using hz
        have Hz := Lib.hid hz; clear hz
        go_wp2_with fail
        go_roundw
        case rel => exact ⟨j + 1, p, c, by omega, by go_num, by first | trivial | rfl, rfl, by rw [Hs.out, if_neg (fun e => Hz.out e.symm)]; exact Hx.out⟩
        case measure => simp [intOf]; omega
    · obtain rfl : j = L := by omega
      have hx := Hx.out
      rw [List.take_of_length_le (by rw [HL.out]; exact Nat.le_refl _)] at hx
      clear Hx
      have Hx := Lib.hid hx
      go_wp2_with fail
      refine (CopyBytes_calls Hx.out (by omega)).mono ?_
      rintro e w1 ⟨v, rfl, own1, _, b1⟩
      have Ho := Lib.hid own1; clear own1
      have Hb := Lib.hid b1; clear b1 hx
      go_wp2
      go_ret2
      exact ⟨v, rfl, Ho.out, Hb.out⟩

set_option maxHeartbeats 2000000 in
theorem RImage_calls {w : World} {B b : Nat} {sv cv : Value} {S : List (List Int)} {C : List (Int × List Int)} {R : Nat → Prop} (h : RefAt w B b sv cv S C R) :
    Calls Tryz.prog 27 #[.pointer (some ⟨b, 0, none⟩)] w fun e w' => ∃ v, e = .returned v ∧ Own w' w.heap.size 5 .u8 v S.flatten ∧ Below w.heap.size w w' := by
  obtain ⟨sa, cs, hsv⟩ := h.shape_s
  obtain ⟨L, hL⟩ : ∃ L, L = S.length := ⟨_, rfl⟩
  have hSl := h.len
  rw [← hL] at hsv hSl
  subst hsv
  have HL := Lib.hid hL; clear hL
  have hlen : ∀ j, j ≤ L → (S.take j).flatten.length = j * 32 := by
    intro j hj
    induction j with
    | zero => simp
    | succ j ih =>
      rw [List.take_succ_eq_append_getElem (show j < S.length by rw [← HL.out]; omega), List.flatten_append, List.length_append, ih (by omega)]
      obtain ⟨_, _, q, c, _, _, _, _, _, hx, _⟩ := h.sec_at (i := j) (by rw [← HL.out]; omega)
      have := hx.len
      rw [List.getD_eq_getElem?_getD, List.getElem?_eq_getElem (show j < S.length by rw [← HL.out]; omega)] at this
      simp at this
      simp [this]
      omega
  have Hlen := Lib.hid hlen; clear hlen
  have Hh := Lib.hid h; clear h
  have own0 : Own (w.alloc (.cells #[] 5)) w.heap.size 5 .u8 (.slice (some ⟨w.heap.size, 0, none⟩) 0 0) [] :=
    ⟨World.ownsRow_made w #[] 0 (Nat.le_refl _) (by unfold maxLen; omega) rfl, fun _ h => by cases h⟩
  have hb0 : Below w.heap.size w (w.alloc (.cells #[] 5)) := (Below.refl _ _).alloc (Nat.le_refl _) _
  have Ho0 := Lib.hid own0; clear own0
  have Hb0 := Lib.hid hb0; clear hb0
  go_enter Tryz.func27, Tryz.ntmps27
  go_wp2_with fail
  go_loopw [3, 4] (fun v i wr => ∃ j : Nat, j ≤ L ∧ i = .int .i64 j ∧ Own wr w.heap.size 5 .u8 v (S.take j).flatten ∧ Below w.heap.size w wr) (fun _ i _ => L - (intOf i).toNat)
  case atStart => exact ⟨0, by omega, rfl, by simpa using Ho0.out, Hb0.out⟩
  case round =>
    obtain ⟨j, hj, rfl, own, bel⟩ := hrel
    have hr := Hh.out.below bel
    have c0 := cells_at hr.root 0
    have Hbel := Lib.hid bel; clear bel
    by_cases hlt : j < L
    · have hjS : j < S.length := by rw [← HL.out]; exact hlt
      obtain ⟨gs, caps, q, c, e', hc1, hc2, hcell, _, hx, _⟩ := hr.sec_at hjS
      rw [← HL.out] at e' hc1
      simp only [Value.slice.injEq, true_and] at e'
      obtain ⟨rfl, rfl⟩ := e'
      have htk : (S.take (j + 1)).flatten = (S.take j).flatten ++ S.getD j [] := by
        rw [List.take_succ_eq_append_getElem hjS, List.flatten_append, List.getD_eq_getElem?_getD, List.getElem?_eq_getElem hjS]
        simp
      have Htk := Lib.hid htk; clear htk
      have hl := Hlen.out j hj
      have Hl := Lib.hid hl; clear hl
      have i3 : (j : Int) < (L : Int) := by omega
      have i4 : (0 : Int) ≤ (j : Int) := by omega
      have hle := Hbel.out.size
      clear hr
      go_wp2_with (with_reducible refine stop_builtin .append ?_)
      refine unpark ?_
      refine wpList_append_ints _ rfl _ _ 39 rfl .u8 w.heap.size 5 (.int .u8 0) 1 Tryz.underlying39 Tryz.infoU8 rfl _ _ rfl own _ 32 c _ rfl hx (by rw [Hl.out]; omega) (by decide) hle ?_
      intro v' w' own' gr' _
      have bel' := Hbel.out.grown gr' hle (fun k hk => (own.block k hk).1)
      rw [← Htk.out] at own'
      have Ho' := Lib.hid own'; clear own'
      have Hb' := Lib.hid bel'; clear bel' gr' own hx
      go_wp2_with fail
      go_roundw
      case rel => exact ⟨j + 1, by omega, by go_num, Ho'.out, Hb'.out⟩
      case measure => simp [intOf]; omega
    · obtain rfl : j = L := by omega
      rw [List.take_of_length_le (by rw [HL.out]; exact Nat.le_refl _)] at own
      have Ho := Lib.hid own; clear own hr
      go_wp2
      go_ret
      exact ⟨_, rfl, Ho.out, Hbel.out⟩
end Go.Proofs.YtgpedejeifmfdaaGreat
/- The document's device: Crash, Flush. -/
namespace Go.Proofs.YtgpedejeifmfdaaGreat
open Go.RowKit

theorem crashed_past {S : List (List Int)} {C : List (Int × List Int)} {K : Nat} {keep : Int} (hK : (K : Int) = max keep 0) (h : C.length ≤ K) (tear : Int) : crashed S C keep tear = settled S C := by
  have hc : clampTo keep C.length = C.length := by unfold clampTo; omega
  unfold crashed
  rw [hc, List.getElem?_eq_none (Nat.le_refl _), List.take_length]
theorem crashed_at {S : List (List Int)} {C : List (Int × List Int)} {K : Nat} {keep : Int} (hK : (K : Int) = max keep 0) (h : K < C.length) (tear : Int) : crashed S C keep tear = torn (settled S (C.take K)) C[K] (clampTo tear 31) := by
  have hc : clampTo keep C.length = K := by unfold clampTo; omega
  unfold crashed
  rw [hc, List.getElem?_eq_getElem h]

theorem Tryz.sizeRW : (Tryz.prog.info? 98).map (·.size) = some 2 := by kernel_rfl

set_option maxHeartbeats 4000000 in
theorem RCrash_calls {w : World} {B b : Nat} {sv cv : Value} {S : List (List Int)} {C : List (Int × List Int)} {R : Nat → Prop} (h : RefAt w B b sv cv S C R) (hC : C.length ≤ 1000000) (keep tear : Int) :
    Calls Tryz.prog 17 #[.pointer (some ⟨b, 0, none⟩), .int .i64 keep, .int .i64 tear] w fun e w' => e = .returned (.tuple #[]) ∧ ∃ R',
      RefAt w' B b sv (.slice none 0 0) (crashed S C keep tear) [] R' ∧ (∀ x, R' x → R x ∨ w.heap.size ≤ x) ∧ Mod (rfoot b sv cv R) w w' := by
  obtain ⟨ca, cc, hcv⟩ := h.shape_c
  obtain ⟨L, hL⟩ : ∃ L, L = C.length := ⟨_, rfl⟩
  rw [← hL] at hcv hC
  subst hcv
  have HL := Lib.hid hL; clear hL
  obtain ⟨T, hT⟩ : ∃ T, T = clampTo tear 31 := ⟨_, rfl⟩
  have hT31 : T ≤ 31 := by rw [hT]; unfold clampTo; omega
  have hrunT := clamp_run tear 31
  rw [← hT] at hrunT
  have hmaxT : ∀ w, (Builtin.max_ #[3, 3] 3 #[.int .i64 tear, .int .i64 0]).run Tryz.prog w = .ok (.int .i64 (if (0 : Int) > tear then 0 else tear)) w := fun w => rfl
  obtain ⟨M, hM⟩ : ∃ M, M = (if (0 : Int) > tear then 0 else tear) := ⟨_, rfl⟩
  rw [← hM] at hrunT hmaxT
  have hminT : ∀ w, (Builtin.min_ #[3, 3] 3 #[.int .i64 M, .int .i64 31]).run Tryz.prog w = .ok (.int .i64 T) w := fun w => by rw [← hrunT]; rfl
  have HT := Lib.hid hT; clear hT hrunT hM
  obtain ⟨K, hK⟩ : ∃ K : Nat, (K : Int) = max keep 0 := ⟨(max keep 0).toNat, by omega⟩
  have hKk : (∀ j : Nat, j < K → (j : Int) < keep) ∧ (∀ j : Nat, K ≤ j → keep ≤ (j : Int)) ∧ (K ≠ 0 → (K : Int) = keep) := ⟨fun j hj => by omega, fun j hj => by omega, fun h => by omega⟩
  have HK := Lib.hid hK; clear hK
  have HKk := Lib.hid hKk; clear hKk
  have hSl := h.len
  have Hh := Lib.hid h; clear h
  go_enter Tryz.func17, Tryz.ntmps17
  go_wp2_with fail
  go_loopw [6] (fun i wr => ∃ j : Nat, j ≤ L ∧ j ≤ K ∧ i = .int .i64 j ∧ RefAt wr B b sv (.slice ca L cc) (settled S (C.take j)) C R ∧ Mod (rfoot b sv (.slice ca L cc) R) w wr) (fun i _ => L - (intOf i).toNat)
  case atStart => exact ⟨0, by omega, by omega, rfl, by simpa [settled] using Hh.out, Mod.refl _ _⟩
  case round =>
    obtain ⟨j, hj, hjK, rfl, hr, hmod⟩ := hrel
    have c1 := cells_at hr.root 1
    have Hmod := Lib.hid hmod; clear hmod
    have Hr := Lib.hid hr; clear hr
    by_cases hlt : j < L
    · have hjC : j < C.length := by rw [← HL.out]; exact hlt
      obtain ⟨gc, capc, q, c', e', hcc1, hcc2, hcat, hcda, hxj, hRq⟩ := Hr.out.wr_at hjC
      rw [← HL.out] at e' hcc1
      simp only [Value.slice.injEq, true_and] at e'
      obtain ⟨rfl, rfl⟩ := e'
      obtain ⟨hp0, hp1⟩ := Hr.out.wrs _ (List.getElem_mem hjC)
      rw [settled_len] at hp1
      have hsucc : settled S (C.take (j + 1)) = (settled S (C.take j)).set C[j].1.toNat C[j].2 := by rw [List.take_succ_eq_append_getElem hjC, settled_snoc]
      have hcr : K = j → crashed S C keep tear = torn (settled S (C.take j)) C[j] T := fun e => by subst e; rw [HT.out]; exact crashed_at HK.out hjC tear
      obtain ⟨Z, hZ⟩ : ∃ Z, Z = C[j] := ⟨_, rfl⟩
      rw [← hZ] at hcat hxj hp0 hp1 hsucc hcr
      clear hZ
      obtain ⟨x, z⟩ := Z
      simp only at hcat hxj hp0 hp1 hsucc
      obtain ⟨X, rfl⟩ : ∃ X : Nat, x = X := ⟨x.toNat, by omega⟩
      have hX : X < S.length := by omega
      simp only [Int.toNat_natCast] at hsucc
      have Hs := Lib.hid hsucc; clear hsucc
      have Hcr := Lib.hid hcr; clear hcr
      have Hxj := Lib.hid hxj; clear hxj
      have HRq := Lib.hid hRq; clear hRq
      clear hp0 hp1
      have i3 : (j : Int) < (L : Int) := by omega
      have i4 : (0 : Int) ≤ (j : Int) := by omega
      have hcs : ∀ i v, ([.int .i64 (X : Int), slv (q, c')] : List Value)[i]? = some v → wr.cell? ⟨gc, j * 2 + i, none⟩ = some v := fun i v hv => by
        match i, hv with
        | 0, hv => cases hv; exact hcat
        | 1, hv => cases hv; exact hcda
      clear hcat hcda
      go_wp2_with (with_reducible refine stop_load 98 ?_)
      refine unpark ?_
      refine wpList_load_cells rfl _ _ rfl gc (j * 2) rfl [.int .i64 (X : Int), slv (q, c')] hcs 2 rfl _ Tryz.underlying98 rfl Tryz.sizeRW ?_
      go_wp2_with (with_reducible refine stop_store 98 ?_)
      refine unpark ?_
      refine wpList_store_at rfl _ _ _ rfl _ 0 rfl _ rfl [.int .i64 (X : Int), slv (q, c')] rfl _ _ (heap_alloc_new _ _) 2 rfl (by decide) (by simp [Value.oneCell', slv]) Tryz.sizeRW ?_
      intro w7 hw7 hg7 hs7
      clear hs7 hcs
      replace hw7 : w7.heap[wr.heap.size]? = some (.cells #[.int .i64 (X : Int), slv (q, c')] 98 (0, 0)) := hw7
      have hal : Below wr.heap.size wr w7 := ((Below.refl _ _).alloc (Nat.le_refl _) _).grown hg7 (by simp) (fun k hk => by cases hk; exact Nat.le_refl _)
      have hr7 := Hr.out.below hal
      have hm7 : Mod (rfoot b sv (.slice (some ⟨gc, 0, none⟩) L cc) R) w w7 := Hmod.out.trans (Mod.of_below hal : Mod (fun _ => False) wr w7) (fun _ h => h) (fun _ _ h => h.elim)
      have hx7 := Hxj.out.keep hal
      have hlo : ∀ x, rfoot b sv (.slice (some ⟨gc, 0, none⟩) L cc) R x → x < wr.heap.size := fun x hx => (Hr.out.lt x hx).2
      have hwsz : wr.heap.size < w7.heap.size := (Array.getElem?_eq_some_iff.1 hw7).1
      have hge := Hmod.out.size
      clear hg7 hal Hr c1
      obtain ⟨ws, hws⟩ : ∃ ws, ws = wr.heap.size := ⟨_, rfl⟩
      rw [← hws] at hw7 hlo hwsz hge ⊢
      clear hws
      have Hlo := Lib.hid hlo; clear hlo
      have Hr7 := Lib.hid hr7; clear hr7
      have Hm7 := Lib.hid hm7; clear hm7
      have Hx7 := Lib.hid hx7; clear hx7
      have Hw7 := Lib.hid hw7; clear hw7
      by_cases hjk : j < K
      · have hjk' := HKk.out.1 j hjk
        have e5 : decide ((j : Int) < keep) = true := decide_eq_true hjk'
        go_wp2_with fail
        refine wp_region_free [0, 1, 2, 3, 4, 5, 6, 7, 8, 9] (by kernel_rfl) (by kernel_rfl) rfl (by kernel_rfl) (fun _ _ _ h => by obtain ⟨_, h, _⟩ := h; cases h) (fun _ _ h => by obtain ⟨h, _⟩ := h; cases h) ?_
        simp only [List.map_cons, List.map_nil, List.getD_cons_zero, List.getD_cons_succ]
        have hr8 := Hr7.out.drew
        have hw8 : w7.drew.heap[ws]? = _ := Hw7.out
        have hx8 := Hx7.out.drew
        have hm8 : Mod (rfoot b sv (.slice (some ⟨gc, 0, none⟩) L cc) R) w w7.drew := ⟨Hm7.out.os, Hm7.out.tape, Hm7.out.output, Hm7.out.size, Hm7.out.block⟩
        clear Hr7 Hw7 Hx7 Hm7
        generalize w7.drew = w8 at hr8 hw8 hx8 hm8 ⊢
        have hl8 : (settled S (C.take j)).length = S.length := settled_len _ _
        obtain ⟨S1, hS1⟩ : ∃ S1, S1 = settled S (C.take j) := ⟨_, rfl⟩
        rw [← hS1] at hr8 hl8 Hs
        clear hS1
        obtain ⟨gs, caps, q0, c0', hsv, hc1, hc2, hcell, hfro, _⟩ := hr8.sec_at (i := X) (by omega)
        subst hsv
        obtain ⟨hput, hmp⟩ := hr8.putSafe (i := X) (by omega) (p := (q, c')) (z := z) ⟨hx8, HRq.out⟩
        rw [← Hs.out] at hput
        have hm9 := hm8.trans hmp (fun _ h => h) (fun _ _ h => h)
        have c0 := cells_at hr8.root 0
        have d0 := cells_at hw8 0
        have d1 : w8.cell? ⟨ws, 1, none⟩ = some (.slice (some ⟨q, 0, none⟩) 32 c') := cells_at hw8 1
        have i5 : (0 : Int) ≤ (X : Int) := by omega
        have i6 : (X : Int) < (S1.length : Int) := by omega
        have Hput := Lib.hid hput; clear hput
        have Hm9 := Lib.hid hm9; clear hm9
        have Hl8 := Lib.hid hl8; clear hl8
        clear hr8 hw8 hx8 hm8 hmp
        go_wp2_with fail
        go_roundw
        case rel => exact ⟨j + 1, by omega, by omega, by go_num, by simpa only [Hl8.out, List.length_set, slv] using Hput.out, by simpa only [Hl8.out, slv] using Hm9.out⟩
        case measure => simp [intOf]; omega
      · obtain rfl : K = j := by omega
        have hKj := HKk.out.2.2
        have e5 : decide ((K : Int) < keep) = false := decide_eq_false (by have := HKk.out.2.1 K (by omega); omega)
        have hcr := Hcr.out rfl
        have Hcr' := Lib.hid hcr; clear hcr Hcr
        have e6 : (((K : Int) == 0) = true) ∨ (((K : Int) == 0) = false ∧ ((K : Int) == keep) = true) := by
          by_cases h0 : K = 0
          · exact .inl (by simp [h0])
          · exact .inr ⟨by simpa using h0, by simpa using hKj h0⟩
        clear hKj hjK hjk
        rcases e6 with e6 | ⟨e6, e7⟩
        all_goals
          go_wp2_with fail
          have hr8 := Hr7.out.drew
          have hw8 : w7.drew.heap[ws]? = _ := Hw7.out
          have hx8 := Hx7.out.drew
          have hm8 : Mod (rfoot b sv (.slice (some ⟨gc, 0, none⟩) L cc) R) w w7.drew := ⟨Hm7.out.os, Hm7.out.tape, Hm7.out.output, Hm7.out.size, Hm7.out.block⟩
          have hws8 : ws < w7.drew.heap.size := hwsz
          have hl8 : (settled S (C.take K)).length = S.length := settled_len _ _
          obtain ⟨S1, hS1⟩ : ∃ S1, S1 = settled S (C.take K) := ⟨_, rfl⟩
          rw [← hS1] at hr8 hl8 Hcr'
          clear hS1 Hs Hr7 Hw7 Hx7 Hm7
          obtain ⟨gs, caps, q0, c0', hsv, hc1, hc2, hcell, hfro, hold, hRq0⟩ := hr8.sec_at (i := X) (by omega)
          subst hsv
          have c0 := cells_at hr8.root 0
          have d0 := cells_at hw8 0
          have d1 : w7.drew.cell? ⟨ws, 1, none⟩ = some (.slice (some ⟨q, 0, none⟩) 32 c') := cells_at hw8 1
          have i5 : (0 : Int) ≤ (X : Int) := by omega
          have i6 : (X : Int) < (S1.length : Int) := by omega
          have hq1 := hx8.le
          have hq2 := hold.le
          have nq1 : ¬ c' = T := by omega
          have nq2 : ¬ c0' = T := by omega
          have mq1 := hx8.max
          have mq2 := hold.max
          have Hr8 := Lib.hid hr8; clear hr8
          have Hw8 := Lib.hid hw8; clear hw8
          have Hx8 := Lib.hid hx8; clear hx8
          have Hm8 := Lib.hid hm8; clear hm8
          have Hold := Lib.hid hold; clear hold
          have Hl8 := Lib.hid hl8; clear hl8
          have HS : Hid ((fun w' : World => w'.cell? ⟨b, 0, none⟩ = some (.slice (some ⟨gs, 0, none⟩) S1.length caps) ∧ w'.cell? ⟨ws, 0, none⟩ = some (.int .i64 (X : Int)) ∧ w'.cell? ⟨ws, 1, none⟩ = some (.slice (some ⟨q, 0, none⟩) 32 c') ∧ w'.cell? ⟨gs, X, none⟩ = some (.slice (some ⟨q0, 0, none⟩) 32 c0')) w7.drew) := Lib.hid ⟨c0, d0, d1, hcell⟩
          clear c0 d0 d1 hcell
          refine wp_region_held (fun w' : World => w'.cell? ⟨b, 0, none⟩ = some (.slice (some ⟨gs, 0, none⟩) S1.length caps) ∧ w'.cell? ⟨ws, 0, none⟩ = some (.int .i64 (X : Int)) ∧ w'.cell? ⟨ws, 1, none⟩ = some (.slice (some ⟨q, 0, none⟩) 32 c') ∧ w'.cell? ⟨gs, X, none⟩ = some (.slice (some ⟨q0, 0, none⟩) 32 c0'))
            [0, 1, 2, 3, 4, 5, 6, 7, 8, 9, 11, 12, 13, 14, 15, 16, 17, 18, 19, 20] [[10], [21], [22, 23]] (by kernel_rfl) (by kernel_rfl) rfl (by kernel_rfl) (fun _ _ _ h => by obtain ⟨_, h, _⟩ := h; cases h) (fun _ _ h => by obtain ⟨h, _⟩ := h; cases h) HS.out rfl ?_
          apply Exists.intro
          apply And.intro
          · rintro w' ⟨s1, s2, s3, s4⟩
            simp only [List.map_cons, List.map_nil, List.getD_cons_zero, List.getD_cons_succ]
            go_wp2_with fail
            exact pre_end
          · simp only [List.map_cons, List.map_nil, List.getD_cons_zero, List.getD_cons_succ]
            generalize w7.drew = w8 at Hr8 Hw8 Hx8 Hm8 Hold HS hws8 ⊢
            have keepS : ∀ w9 : World, Below w8.heap.size w8 w9 → (w9.cell? ⟨b, 0, none⟩ = some (.slice (some ⟨gs, 0, none⟩) S1.length caps) ∧ w9.cell? ⟨ws, 0, none⟩ = some (.int .i64 (X : Int)) ∧ w9.cell? ⟨ws, 1, none⟩ = some (.slice (some ⟨q, 0, none⟩) 32 c') ∧ w9.cell? ⟨gs, X, none⟩ = some (.slice (some ⟨q0, 0, none⟩) 32 c0')) := fun w9 hb => by
              obtain ⟨s1, s2, s3, s4⟩ := HS.out
              have hb1 := (Hr8.out.lt b (.inl rfl)).2
              have hb2 := (Hr8.out.lt gs (.inr (.inl rfl))).2
              exact ⟨(hb.cell (p := ⟨b, 0, none⟩) hb1).trans s1, (hb.cell (p := ⟨ws, 0, none⟩) hws8).trans s2, (hb.cell (p := ⟨ws, 1, none⟩) hws8).trans s3, (hb.cell (p := ⟨gs, X, none⟩) hb2).trans s4⟩
            have HkeepS := Lib.hid keepS; clear keepS
            refine segs_more ?_
            go_wp2_with fail
            refine (CopyBytes_calls (Hx8.out.take T (by omega)) (by omega)).mono ?_
            rintro e w9 ⟨v9, rfl, own9, _, b9⟩
            have Hb9 := Lib.hid b9; clear b9
            have Ho9 := Lib.hid own9; clear own9
            go_wp2_with fail
            refine seg_end (HkeepS.out w9 Hb9.out) (segs_more ?_)
            have hold9 := ((Hold.out.keep Hb9.out).dropAt T (by omega))
            rw [Nat.zero_add] at hold9
            have hlT : (z.take T).length = T := by rw [List.length_take, Hx8.out.len]; omega
            have HlT := Lib.hid hlT; clear hlT
            have Hold9 := Lib.hid hold9; clear hold9
            go_wp2_with (with_reducible refine stop_builtin .append ?_)
            refine unpark ?_
            refine wpList_append_ints _ rfl _ _ 39 rfl .u8 w8.heap.size 5 (.int .u8 0) 1 Tryz.underlying39 Tryz.infoU8 rfl v9 (z.take T) rfl Ho9.out _ (32 - T) (c0' - T) _ rfl Hold9.out (by rw [HlT.out]; omega) (by decide) Hb9.out.size ?_
            intro v10 w10 own10 gr10 _
            have b10 := Hb9.out.grown gr10 Hb9.out.size (fun k hk => (Ho9.out.block k hk).1)
            have hl10 : (z.take T ++ (S1.getD X []).drop T).length = 32 := by rw [List.length_append, HlT.out, List.length_drop, Hold.out.len]; omega
            obtain ⟨g, cg, rfl, x10⟩ := own10.ofInts hl10 (by decide)
            have hg10 := own10.block g rfl
            clear own10 gr10 Hold9 Ho9 Hb9 hl10
            have Hb10 := Lib.hid b10; clear b10
            have Hx10 := Lib.hid x10; clear x10
            go_wp2_with fail
            refine seg_end (HkeepS.out w10 Hb10.out) (segs_last ?_)
            have hr10 : RefAt w10 B b (.slice (some ⟨gs, 0, none⟩) S1.length caps) (.slice (some ⟨gc, 0, none⟩) L cc) S1 C (fun k => R k ∨ k = g) := (Hr8.out.below Hb10.out).wide (fun k hk => .inl hk) (fun k hk => hk.imp id fun e => by
              subst e
              exact ⟨fun x hx e => by have := Hlo.out x hx; omega, by have := Hr8.out.bb; have := (Hr8.out.lt b (.inl rfl)).2; omega, hg10.2⟩)
            obtain ⟨hput, hmp⟩ := hr10.putSafe (i := X) (by omega) (p := (g, cg)) ⟨Hx10.out, .inr rfl⟩
            obtain ⟨hfin, hmf⟩ := hput.forget
            have htorn : S1.set X (z.take T ++ (S1.getD X []).drop T) = torn S1 ((X : Int), z) T := by unfold torn; simp
            rw [htorn, ← Hcr'.out] at hfin
            have hbg : ¬ b = gs := fun e => (Hr8.out.sb gs rfl).1 e.symm
            have hbg' : ¬ gs = b := fun e => (Hr8.out.sb gs rfl).1 e
            have c1 := cells_at hr10.root 1
            have f1 := frozen_of_row w10 b 1 _ _ hr10.root
            obtain ⟨s1, s2, s3, s4⟩ := HkeepS.out w10 Hb10.out
            have f4 : w10.frozen? ⟨gs, X, none⟩ = false := by
              obtain ⟨gs', _, _, _, e, _, _, _, hf, _⟩ := hr10.sec_at (i := X) (by omega)
              cases e
              exact hf
            have hmod : Mod (rfoot b (.slice (some ⟨gs, 0, none⟩) S1.length caps) (.slice (some ⟨gc, 0, none⟩) L cc) R) w ((w10.setCell ⟨gs, X, none⟩ (slv (g, cg))).setCell ⟨b, 1, none⟩ (.slice none 0 0)) := by
              have h1 : Mod (rfoot b (.slice (some ⟨gs, 0, none⟩) S1.length caps) (.slice (some ⟨gc, 0, none⟩) L cc) R) w w10 := Hm8.out.trans (Mod.of_below Hb10.out : Mod (fun _ => False) w8 w10) (fun _ h => h) (fun _ _ h => h.elim)
              have h2 : Mod (fun k => k = gs) w10 (w10.setCell ⟨gs, X, none⟩ (slv (g, cg))) := ⟨rfl, rfl, rfl, by simp, fun k _ hn => heap_setCell_other w10 _ k _ hn⟩
              have h3 : Mod (fun k => k = b) (w10.setCell ⟨gs, X, none⟩ (slv (g, cg))) ((w10.setCell ⟨gs, X, none⟩ (slv (g, cg))).setCell ⟨b, 1, none⟩ (.slice none 0 0)) := ⟨rfl, rfl, rfl, by simp, fun k _ hn => heap_setCell_other _ _ k _ hn⟩
              exact (h1.trans h2 (fun _ h => h) (fun _ _ h => .inr (.inl (by rw [h]; rfl)))).trans h3 (fun _ h => h) (fun _ _ h => .inl h)
            have hR' : ∀ x, (R x ∨ x = g) → R x ∨ w.heap.size ≤ x := fun x hx => hx.imp id fun e => by have := Hm8.out.size; omega
            have Hfin := Lib.hid hfin; clear hfin
            have Hmod' := Lib.hid hmod; clear hmod
            have HR' := Lib.hid hR'; clear hR'
            clear hput hmp hmf htorn hr10 Hr8 HkeepS HS
            go_wp2_with fail
            go_end0
            exact ⟨rfl, _, Hfin.out, HR'.out, Hmod'.out⟩
    · obtain rfl : j = L := by omega
      have hcr : crashed S C keep tear = settled S (C.take j) := by rw [crashed_past HK.out (by rw [← HL.out]; exact hjK), List.take_of_length_le (by rw [HL.out]; exact Nat.le_refl _)]
      obtain ⟨hfin, hmf⟩ := Hr.out.forget
      rw [← hcr] at hfin
      have f1 := frozen_of_row wr b 1 _ _ Hr.out.root
      have hmod := Hmod.out.trans hmf (fun _ h => h) (fun _ _ h => h)
      have Hfin := Lib.hid hfin; clear hfin
      have Hmod' := Lib.hid hmod; clear hmod hmf hcr
      clear Hr Hh
      go_wp2_with fail
      go_end0
      exact ⟨rfl, _, Hfin.out, fun x hx => .inl hx, Hmod'.out⟩

theorem RFlush_calls {w : World} {B b : Nat} {sv cv : Value} {S : List (List Int)} {C : List (Int × List Int)} {R : Nat → Prop} (h : RefAt w B b sv cv S C R) (hC : C.length ≤ 1000000) :
    Calls Tryz.prog 45 #[.pointer (some ⟨b, 0, none⟩)] w fun e w' => e = .returned (.tuple #[]) ∧ ∃ R',
      RefAt w' B b sv (.slice none 0 0) (settled S C) [] R' ∧ (∀ x, R' x → R x ∨ w.heap.size ≤ x) ∧ Mod (rfoot b sv cv R) w w' := by
  obtain ⟨ca, cc, hcv⟩ := h.shape_c
  obtain ⟨L, hL⟩ : ∃ L, L = C.length := ⟨_, rfl⟩
  rw [← hL] at hcv hC
  subst hcv
  have hcr := RCrash_calls h (by rw [← hL]; exact hC) (L : Int) 0
  rw [crashed_past (K := L) (by omega) (by rw [hL]; exact Nat.le_refl _)] at hcr
  have c1 := cells_at h.root 1
  have Hcr := Lib.hid hcr; clear hcr
  clear h hL
  go_enter Tryz.func45, Tryz.ntmps45
  go_wp2_with fail
  refine Hcr.out.mono ?_
  rintro e w1 ⟨rfl, R', h1, h2, h3⟩
  have H1 := Lib.hid h1; clear h1
  have H2 := Lib.hid h2; clear h2
  have H3 := Lib.hid h3; clear h3 Hcr
  go_wp2_with fail
  go_end0
  exact ⟨rfl, _, H1.out, H2.out, H3.out⟩
end Go.Proofs.YtgpedejeifmfdaaGreat
/- The document's device within a law. -/
namespace Go.Proofs.YtgpedejeifmfdaaGreat
open Go.RowKit

structure Ref (w0 w : World) (b : Nat) (G : Nat → Prop) (s : State) : Prop where
  ref : ∃ sv cv R, RefAt w w0.heap.size b sv cv s.1 s.2 R ∧ ∀ k, rfoot b sv cv R k → G k
  low : ∀ k, G k → w0.heap.size ≤ k ∧ k < w.heap.size
  bel : Below w0.heap.size w0 w

theorem RefAt.mono {w : World} {B B' b : Nat} {sv cv : Value} {S : List (List Int)} {C : List (Int × List Int)} {R : Nat → Prop} (h : RefAt w B b sv cv S C R) (hB : B' ≤ B) : RefAt w B' b sv cv S C R where
  root := h.root
  safe := by
    obtain ⟨ps, h0, h1, h2⟩ := h.safe
    refine ⟨ps, h0, ⟨h1.1, ?_⟩, h2⟩
    rcases h1.2 with hn | ⟨g, cap, cur, e, hb, rest⟩
    · exact .inl hn
    · exact .inr ⟨g, cap, cur, e, by omega, rest⟩
  cache := by
    obtain ⟨ps, h0, h1, h2⟩ := h.cache
    refine ⟨ps, h0, ⟨h1.1, ?_⟩, h2⟩
    rcases h1.2 with hn | ⟨g, cap, cur, e, hb, rest⟩
    · exact .inl hn
    · exact .inr ⟨g, cap, cur, e, by omega, rest⟩
  rb := h.rb
  sb := h.sb
  cb := h.cb
  low := fun g hg => ⟨Nat.le_trans hB (h.low g hg).1, (h.low g hg).2⟩
  bb := Nat.le_trans hB h.bb
  wrs := h.wrs
  len := h.len

section
variable {w0 w w' : World} {b : Nat} {G : Nat → Prop} {s : State}
theorem Ref.step (h : Ref w0 w b G s) (hb : Below w.heap.size w w') : Ref w0 w' b G s where
  ref := by
    obtain ⟨sv, cv, R, hd, hf⟩ := h.ref
    exact ⟨sv, cv, R, hd.below hb, hf⟩
  low := fun k hk => ⟨(h.low k hk).1, Nat.lt_of_lt_of_le (h.low k hk).2 hb.size⟩
  bel := h.bel.trans (hb.mono h.bel.size)
theorem Ref.aside {F : Nat → Prop} (h : Ref w0 w b G s) (hm : Mod F w w') (ha : ∀ k, G k → ¬ F k) (hF : ∀ k, F k → w0.heap.size ≤ k) : Ref w0 w' b G s where
  ref := by
    obtain ⟨sv, cv, R, hd, hf⟩ := h.ref
    exact ⟨sv, cv, R, hd.keep hm.size fun k hk => hm.block k (hd.lt k hk).2 (ha k (hf k hk)), hf⟩
  low := fun k hk => ⟨(h.low k hk).1, Nat.lt_of_lt_of_le (h.low k hk).2 hm.size⟩
  bel := hm.below h.bel h.bel.size hF

theorem RNew_ref {n : Nat} (hw : Below w0.heap.size w0 w) (h1 : 1 ≤ n) (h2 : n ≤ 512) :
    Calls Tryz.prog 7 #[.int .i64 n] w fun e w' => ∃ b G, e = .returned (.tuple #[.pointer (some ⟨b, 0, none⟩), .int .i64 0]) ∧ Ref w0 w' b G (fresh n, []) ∧ (∀ k, G k → w.heap.size ≤ k) ∧ Below w.heap.size w w' := by
  refine (RNew_calls h1 h2).mono ?_
  rintro e w' ⟨b, sv, R, rfl, hd, hb⟩
  exact ⟨b, rfoot b sv (.slice none 0 0) R, rfl, ⟨⟨sv, _, R, hd.mono hw.size, fun _ h => h⟩, fun k hk => ⟨Nat.le_trans hw.size (hd.lt k hk).1, (hd.lt k hk).2⟩, hw.trans (hb.mono hw.size)⟩, fun k hk => (hd.lt k hk).1, hb⟩
theorem RRead_ref (h : Ref w0 w b G s) (hC : s.2.length ≤ 1000000) (k : Int) :
    Calls Tryz.prog 35 #[.pointer (some ⟨b, 0, none⟩), .int .i64 k] w fun e w' =>
      ∃ v, e = .returned (.tuple #[v, .int .i64 (readErr s k)]) ∧ Own w' w.heap.size 5 .u8 v (readOf s.1 s.2 k) ∧ Below w.heap.size w w' ∧ Ref w0 w' b G s := by
  obtain ⟨sv, cv, R, hd, hf⟩ := h.ref
  exact (RRead_calls hd hC k).mono fun e w' ⟨v, h1, h2, h3⟩ => ⟨v, h1, h2, h3, h.step h3⟩
theorem RImage_ref (h : Ref w0 w b G s) :
    Calls Tryz.prog 27 #[.pointer (some ⟨b, 0, none⟩)] w fun e w' => ∃ v, e = .returned v ∧ Own w' w.heap.size 5 .u8 v s.1.flatten ∧ Below w.heap.size w w' ∧ Ref w0 w' b G s := by
  obtain ⟨sv, cv, R, hd, hf⟩ := h.ref
  exact (RImage_calls hd).mono fun e w' ⟨v, h1, h2, h3⟩ => ⟨v, h1, h2, h3, h.step h3⟩
theorem Ref.after {sv cv sv' cv' : Value} {R R' : Nat → Prop} {s' : State} (h : Ref w0 w b G s) (hf : ∀ k, rfoot b sv cv R k → G k) (hd' : RefAt w' w0.heap.size b sv' cv' s'.1 s'.2 R')
    (hx : ∀ x, rfoot b sv' cv' R' x → rfoot b sv cv R x ∨ w.heap.size ≤ x) (hm : Mod (rfoot b sv cv R) w w') : Ref w0 w' b (grownF G w w') s' ∧ Mod G w w' := by
  have hm' : Mod G w w' := hm.mono fun x hx => hf x hx
  refine ⟨⟨⟨sv', cv', R', hd', fun k hk => ?_⟩, ?_, hm'.below h.bel h.bel.size fun x hx => (h.low x hx).1⟩, hm'⟩
  · rcases hx k hk with h1 | h1
    · exact .inl (hf k h1)
    · exact .inr ⟨h1, (hd'.lt k hk).2⟩
  · rintro k (hk | hk)
    · exact ⟨(h.low k hk).1, Nat.lt_of_lt_of_le (h.low k hk).2 hm'.size⟩
    · exact ⟨Nat.le_trans h.bel.size hk.1, hk.2⟩
theorem RWrite_ref (h : Ref w0 w b G s) (k : Int) {a : Option Addr} {n c : Nat} {zs : List Int} (hx : Ints w .u8 a n c zs) (hC : s.2.length ≤ 1000000) :
    Calls Tryz.prog 20 #[.pointer (some ⟨b, 0, none⟩), .int .i64 k, .slice a n c] w fun e w' =>
      e = .returned (.int .i64 (writeErr s.1 k n)) ∧ Ref w0 w' b (grownF G w w') (s.1, written s.1 s.2 k zs) ∧ Mod G w w' := by
  obtain ⟨sv, cv, R, hd, hf⟩ := h.ref
  refine (RWrite_calls hd k hx hC).mono ?_
  rintro e w' ⟨rfl, cv', R', h1, h2, h3⟩
  exact ⟨rfl, h.after hf h1 h2 h3⟩
theorem rfoot_flat {sv cv : Value} {R R' : Nat → Prop} (h : ∀ x, R' x → R x ∨ w.heap.size ≤ x) : ∀ x, rfoot b sv (.slice none 0 0) R' x → rfoot b sv cv R x ∨ w.heap.size ≤ x := by
  rintro x (rfl | hx | hx | hx)
  · exact .inl (.inl rfl)
  · exact .inl (.inr (.inl hx))
  · cases hx
  · exact (h x hx).imp (fun h => .inr (.inr (.inr h))) id
theorem RFlush_ref (h : Ref w0 w b G s) (hC : s.2.length ≤ 1000000) :
    Calls Tryz.prog 45 #[.pointer (some ⟨b, 0, none⟩)] w fun e w' =>
      e = .returned (.tuple #[]) ∧ Ref w0 w' b (grownF G w w') (settled s.1 s.2, []) ∧ Mod G w w' := by
  obtain ⟨sv, cv, R, hd, hf⟩ := h.ref
  refine (RFlush_calls hd hC).mono ?_
  rintro e w' ⟨rfl, R', h1, h2, h3⟩
  exact ⟨rfl, h.after (s' := (settled s.1 s.2, [])) hf h1 (rfoot_flat h2) h3⟩
theorem RCrash_ref (h : Ref w0 w b G s) (hC : s.2.length ≤ 1000000) (keep tear : Int) :
    Calls Tryz.prog 17 #[.pointer (some ⟨b, 0, none⟩), .int .i64 keep, .int .i64 tear] w fun e w' =>
      e = .returned (.tuple #[]) ∧ Ref w0 w' b (grownF G w w') (crashed s.1 s.2 keep tear, []) ∧ Mod G w w' := by
  obtain ⟨sv, cv, R, hd, hf⟩ := h.ref
  refine (RCrash_calls hd hC keep tear).mono ?_
  rintro e w' ⟨rfl, R', h1, h2, h3⟩
  exact ⟨rfl, h.after (s' := (crashed s.1 s.2 keep tear, [])) hf h1 (rfoot_flat h2) h3⟩
theorem Ref.cacheCell (h : Ref w0 w b G s) : ∃ a c, w.cell? ⟨b, 1, none⟩ = some (.slice a s.2.length c) ∧ b < w.heap.size := by
  obtain ⟨sv, cv, R, hd, hf⟩ := h.ref
  obtain ⟨a, c, rfl⟩ := hd.shape_c
  exact ⟨a, c, cells_at hd.root 1, (hd.lt b (.inl rfl)).2⟩
end
end Go.Proofs.YtgpedejeifmfdaaGreat
