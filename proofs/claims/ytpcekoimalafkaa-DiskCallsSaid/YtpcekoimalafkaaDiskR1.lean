/- The document's device: what it is in memory; New, Write, Read, Image. -/
import Derived.Test.YtpcekoimalafkaaHeld
import Derived.Test.YtpcekoimalafkaaTable
import Derived.Test.YtpcekoimalafkaaDiskP
namespace Go.Proofs.Ytpcekoimalafkaa
open Go.RowKit

def slv (p : Nat × Nat) : Value := .slice (some ⟨p.1, 0, none⟩) 32 p.2
def wrv (p : Int × Nat × Nat) : List Value := [.int .i64 p.1, slv p.2]
def Held (w : World) (R : Nat → Prop) (p : Nat × Nat) (z : List Int) : Prop := Ints w .u8 (some ⟨p.1, 0, none⟩) 32 p.2 z ∧ R p.1

structure RefAt (w : World) (B b : Nat) (sv cv : Value) (S : List (List Int)) (C : List (Int × List Int)) (R : Nat → Prop) : Prop where
  root : w.heap[b]? = some (.cells #[sv, cv] 45 (0, 0))
  safe : ∃ ps : List (Nat × Nat), ps.length = S.length ∧ w.ownsRow B 32 1 sv S.length (ps.map slv) ∧ ∀ i, i < S.length → Held w R (ps.getD i (0, 0)) (S.getD i [])
  cache : ∃ ds : List (Int × Nat × Nat), ds.length = C.length ∧ w.ownsRow B 65 2 cv C.length (ds.flatMap wrv) ∧ ∀ i (h : i < C.length), (ds.getD i (0, 0, 0)).1 = C[i].1 ∧ Held w R (ds.getD i (0, 0, 0)).2 C[i].2
  rb : ¬ R b
  sb : ∀ g, sv.ownBlock = some g → g ≠ b ∧ ¬ R g
  cb : ∀ g, cv.ownBlock = some g → g ≠ b ∧ ¬ R g ∧ sv.ownBlock ≠ some g
  low : ∀ g, R g → B ≤ g ∧ g < w.heap.size
  bb : B ≤ b
  wrs : ∀ p ∈ C, 0 ≤ p.1 ∧ p.1 < S.length
  len : S.length ≤ 512
def rfoot (b : Nat) (sv cv : Value) (R : Nat → Prop) (k : Nat) : Prop := k = b ∨ sv.ownBlock = some k ∨ cv.ownBlock = some k ∨ R k

theorem Held.keep {w w' : World} {R : Nat → Prop} {p : Nat × Nat} {z : List Int} (h : Held w R p z) (hk : ∀ k, R k → w'.heap[k]? = w.heap[k]?) : Held w' R p z :=
  ⟨h.1.keepOn fun b o e _ => by cases e; exact hk _ h.2, h.2⟩
theorem Held.wide {w : World} {R R' : Nat → Prop} {p : Nat × Nat} {z : List Int} (h : Held w R p z) (hR : ∀ k, R k → R' k) : Held w R' p z := ⟨h.1, hR _ h.2⟩

section
variable {w w' : World} {B b : Nat} {sv cv : Value} {S : List (List Int)} {C : List (Int × List Int)} {R : Nat → Prop}
theorem RefAt.lt (h : RefAt w B b sv cv S C R) : ∀ k, rfoot b sv cv R k → B ≤ k ∧ k < w.heap.size := by
  rintro k (rfl | hk | hk | hk)
  · exact ⟨h.bb, (Array.getElem?_eq_some_iff.1 h.root).1⟩
  · obtain ⟨ps, _, h1, _⟩ := h.safe
    exact h1.lt k hk
  · obtain ⟨ds, _, h1, _⟩ := h.cache
    exact h1.lt k hk
  · exact h.low k hk
theorem RefAt.keep (h : RefAt w B b sv cv S C R) (hs : w.heap.size ≤ w'.heap.size) (hk : ∀ k, rfoot b sv cv R k → w'.heap[k]? = w.heap[k]?) : RefAt w' B b sv cv S C R where
  root := (hk b (.inl rfl)).trans h.root
  safe := by
    obtain ⟨ps, h0, h1, h2⟩ := h.safe
    exact ⟨ps, h0, ownsRow_keep h1 fun g e _ => hk g (.inr (.inl e)), fun i hi => (h2 i hi).keep fun k hk' => hk k (.inr (.inr (.inr hk')))⟩
  cache := by
    obtain ⟨ds, h0, h1, h2⟩ := h.cache
    exact ⟨ds, h0, ownsRow_keep h1 fun g e _ => hk g (.inr (.inr (.inl e))), fun i hi => ⟨(h2 i hi).1, (h2 i hi).2.keep fun k hk' => hk k (.inr (.inr (.inr hk')))⟩⟩
  rb := h.rb
  sb := h.sb
  cb := h.cb
  low := fun g hg => ⟨(h.low g hg).1, Nat.lt_of_lt_of_le (h.low g hg).2 hs⟩
  bb := h.bb
  wrs := h.wrs
  len := h.len
theorem RefAt.below (h : RefAt w B b sv cv S C R) (hb : Below w.heap.size w w') : RefAt w' B b sv cv S C R :=
  h.keep hb.size fun k hk => hb.block k (h.lt k hk).2
theorem RefAt.drew (h : RefAt w B b sv cv S C R) : RefAt w.drew B b sv cv S C R := h.keep (Nat.le_refl _) fun _ _ => rfl
theorem RefAt.shape_s (h : RefAt w B b sv cv S C R) : ∃ a c, sv = .slice a S.length c := by
  obtain ⟨ps, _, h1, _⟩ := h.safe
  rcases h1.2 with ⟨rfl, h0⟩ | ⟨g, cap, cur, rfl, _⟩
  · rw [h0]; exact ⟨_, _, rfl⟩
  · exact ⟨_, _, rfl⟩
theorem RefAt.shape_c (h : RefAt w B b sv cv S C R) : ∃ a c, cv = .slice a C.length c := by
  obtain ⟨ps, _, h1, _⟩ := h.cache
  rcases h1.2 with ⟨rfl, h0⟩ | ⟨g, cap, cur, rfl, _⟩
  · rw [h0]; exact ⟨_, _, rfl⟩
  · exact ⟨_, _, rfl⟩
theorem wrv_at : ∀ (ds : List (Int × Nat × Nat)) (i : Nat), i < ds.length → (ds.flatMap wrv)[2 * i]? = some (.int .i64 (ds.getD i (0, 0, 0)).1) ∧ (ds.flatMap wrv)[2 * i + 1]? = some (slv (ds.getD i (0, 0, 0)).2)
  | d :: ds, 0, _ => ⟨rfl, rfl⟩
  | d :: ds, i + 1, h => by
    have ih := wrv_at ds i (by simpa using h)
    rw [List.flatMap_cons]
    constructor
    · rw [List.getElem?_append_right (by simp [wrv]; omega)]
      have : 2 * (i + 1) - (wrv d).length = 2 * i := by simp [wrv]; omega
      rw [this, ih.1]; rfl
    · rw [List.getElem?_append_right (by simp [wrv]; omega)]
      have : 2 * (i + 1) + 1 - (wrv d).length = 2 * i + 1 := by simp [wrv]; omega
      rw [this, ih.2]; rfl
theorem ownsRow_at {e : TypeId} {size n : Nat} {v : Value} {xs : List Value} (h : w.ownsRow B e size v n xs) (hn : 0 < n) :
    ∃ g c, v = .slice (some ⟨g, 0, none⟩) n c ∧ n ≤ c ∧ c ≤ 9223372036854775807 ∧ (∀ j, j < n * size → w.cell? ⟨g, j, none⟩ = xs[j]?) ∧ ∀ j, w.frozen? ⟨g, j, none⟩ = false := by
  rcases h.2 with ⟨_, h0⟩ | ⟨g, cap, cur, rfl, _, _, h1, h2, _⟩
  · omega
  · exact ⟨g, cap, rfl, h1, by simpa [maxLen] using h2, fun j hj => h.cellAt j hj, fun j => h.frozenAt j⟩

/-- A sector more. -/
theorem RefAt.pushSafe {w1 w2 : World} (h : RefAt w B b sv cv S C R) {g c : Nat} {z : List Int} (hb : Below w.heap.size w w1) (hi : Ints w1 .u8 (some ⟨g, 0, none⟩) 32 c z) (hg : w.heap.size ≤ g) (hl : S.length < 512)
    {v' : Value} {ps : List (Nat × Nat)} (hp0 : ps.length = S.length) (hps : ∀ i, i < S.length → Held w R (ps.getD i (0, 0)) (S.getD i []))
    (hrow : w2.ownsRow B 32 1 v' (S.length + 1) (ps.map slv ++ [slv (g, c)])) (hgr : w1.grownBy w2 sv.ownBlock) (hv : v'.ownBlock = sv.ownBlock ∨ ∃ q, v'.ownBlock = some q ∧ w.heap.size ≤ q ∧ q ≠ g) :
    RefAt (w2.setCell ⟨b, 0, none⟩ v') B b v' cv (S ++ [z]) C (fun k => R k ∨ k = g) ∧ Mod (rfoot b sv cv R) w (w2.setCell ⟨b, 0, none⟩ v') := by
  have hlt := h.lt
  have hbl := (hlt b (.inl rfl)).2
  have hg1 : g < w1.heap.size := hi.block g 0 (by decide) rfl
  have same2 : ∀ k, k < w1.heap.size → sv.ownBlock ≠ some k → w2.heap[k]? = w1.heap[k]? := fun k hk hn => hgr.block k hk fun e => hn e.symm
  have same3 : ∀ k, k ≠ b → (w2.setCell ⟨b, 0, none⟩ v').heap[k]? = w2.heap[k]? := fun k hk => heap_setCell_other w2 _ k _ hk
  have old : ∀ k, k < w.heap.size → sv.ownBlock ≠ some k → k ≠ b → (w2.setCell ⟨b, 0, none⟩ v').heap[k]? = w.heap[k]? := fun k hk hn hkb =>
    (same3 k hkb).trans ((same2 k (Nat.lt_of_lt_of_le hk hb.size) hn).trans (hb.block k hk))
  have hsz : w1.heap.size ≤ (w2.setCell ⟨b, 0, none⟩ v').heap.size := by simpa using hgr.size
  have vb : ∀ k, v'.ownBlock = some k → k ≠ b ∧ ¬ (R k ∨ k = g) ∧ cv.ownBlock ≠ some k := fun k hk => by
    rcases hv with hv | ⟨q, hq, hq1, hq2⟩
    · rw [hv] at hk
      have := h.sb k hk
      have hkl := (hlt k (.inr (.inl hk))).2
      exact ⟨this.1, fun e => e.elim this.2 fun e => by omega, fun e => (h.cb k e).2.2 hk⟩
    · rw [hq] at hk
      cases hk
      exact ⟨fun e => by omega, fun e => e.elim (fun e => by have := (h.low k e).2; omega) hq2, fun e => by have := (hlt k (.inr (.inr (.inl e)))).2; omega⟩
  have rk : ∀ k, R k → (w2.setCell ⟨b, 0, none⟩ v').heap[k]? = w.heap[k]? := fun k hk => old k (h.low k hk).2 (fun e => (h.sb k e).2 hk) (fun e => h.rb (e ▸ hk))
  refine ⟨⟨?_, ⟨ps ++ [(g, c)], by simp [hp0], ?_, fun i hi' => ?_⟩, ?_, ?_, ?_, ?_, ?_, h.bb, ?_, ?_⟩, ?_⟩
  · have r2 : w2.heap[b]? = some (.cells #[sv, cv] 45 (0, 0)) := (same2 b (Nat.lt_of_lt_of_le hbl hb.size) (fun e => (h.sb b e).1 rfl)).trans ((hb.block b hbl).trans h.root)
    exact heap_setCell_same w2 b 0 _ _ _ r2
  · rw [List.length_append, List.map_append]
    exact ownsRow_keep hrow fun k hk _ => same3 k (vb k hk).1
  · rw [List.length_append] at hi'
    by_cases hil : i < S.length
    · have e1 : (ps ++ [(g, c)]).getD i (0, 0) = ps.getD i (0, 0) := by rw [List.getD_eq_getElem?_getD, List.getElem?_append_left (by omega), List.getD_eq_getElem?_getD]
      have e2 : (S ++ [z]).getD i [] = S.getD i [] := by rw [List.getD_eq_getElem?_getD, List.getElem?_append_left hil, List.getD_eq_getElem?_getD]
      rw [e1, e2]
      exact ((hps i hil).keep rk).wide fun k hk => .inl hk
    · obtain rfl : i = S.length := by simp at hi'; omega
      have e1 : (ps ++ [(g, c)]).getD S.length (0, 0) = (g, c) := by rw [← hp0]; simp [List.getD_eq_getElem?_getD]
      have e2 : (S ++ [z]).getD S.length [] = z := by simp [List.getD_eq_getElem?_getD]
      rw [e1, e2]
      refine ⟨hi.keepOn fun x o e _ => ?_, .inr rfl⟩
      cases e
      exact (same3 g (by omega)).trans (same2 g hg1 fun e => by have := (hlt g (.inr (.inl e))).2; omega)
  · obtain ⟨ds, h0, h1, h2⟩ := h.cache
    refine ⟨ds, h0, ownsRow_keep h1 fun k hk hkl => old k hkl (fun e => (h.cb k hk).2.2 e) (h.cb k hk).1, fun i hi' => ⟨(h2 i hi').1, ((h2 i hi').2.keep rk).wide fun k hk => .inl hk⟩⟩
  · exact fun e => e.elim h.rb fun e => by omega
  · exact fun k hk => ⟨(vb k hk).1, (vb k hk).2.1⟩
  · intro k hk
    have := h.cb k hk
    have hkl := (hlt k (.inr (.inr (.inl hk)))).2
    exact ⟨this.1, fun e => e.elim this.2.1 fun e => by omega, fun e => (vb k e).2.2 hk⟩
  · intro k hk
    rcases hk with hk | rfl
    · have := h.low k hk
      exact ⟨this.1, by have := hb.size; omega⟩
    · exact ⟨by have := h.bb; omega, by omega⟩
  · intro p hp
    have := h.wrs p hp
    simp; omega
  · simp; omega
  · exact ⟨hgr.os.trans hb.os, hgr.tape.trans hb.tape, hgr.output.trans hb.output, Nat.le_trans hb.size hsz, fun k hk hn => old k hk (fun e => hn (.inr (.inl e))) (fun e => hn (.inl e))⟩

/-- A write more. -/
theorem RefAt.pushCache {w1 w2 : World} (h : RefAt w B b sv cv S C R) {g c : Nat} {x : Int} {z : List Int} (hb : Below w.heap.size w w1) (hi : Ints w1 .u8 (some ⟨g, 0, none⟩) 32 c z) (hg : w.heap.size ≤ g) (hx : 0 ≤ x ∧ x < S.length)
    {v' : Value} {ds : List (Int × Nat × Nat)} (hp0 : ds.length = C.length) (hps : ∀ i (h : i < C.length), (ds.getD i (0, 0, 0)).1 = C[i].1 ∧ Held w R (ds.getD i (0, 0, 0)).2 C[i].2)
    (hrow : w2.ownsRow B 65 2 v' (C.length + 1) (ds.flatMap wrv ++ wrv (x, g, c))) (hgr : w1.grownBy w2 cv.ownBlock) (hv : v'.ownBlock = cv.ownBlock ∨ ∃ q, v'.ownBlock = some q ∧ w.heap.size ≤ q ∧ q ≠ g) :
    RefAt (w2.setCell ⟨b, 1, none⟩ v') B b sv v' S (C ++ [(x, z)]) (fun k => R k ∨ k = g) ∧ Mod (rfoot b sv cv R) w (w2.setCell ⟨b, 1, none⟩ v') := by
  have hlt := h.lt
  have hbl := (hlt b (.inl rfl)).2
  have hg1 : g < w1.heap.size := hi.block g 0 (by decide) rfl
  have same2 : ∀ k, k < w1.heap.size → cv.ownBlock ≠ some k → w2.heap[k]? = w1.heap[k]? := fun k hk hn => hgr.block k hk fun e => hn e.symm
  have same3 : ∀ k, k ≠ b → (w2.setCell ⟨b, 1, none⟩ v').heap[k]? = w2.heap[k]? := fun k hk => heap_setCell_other w2 _ k _ hk
  have old : ∀ k, k < w.heap.size → cv.ownBlock ≠ some k → k ≠ b → (w2.setCell ⟨b, 1, none⟩ v').heap[k]? = w.heap[k]? := fun k hk hn hkb =>
    (same3 k hkb).trans ((same2 k (Nat.lt_of_lt_of_le hk hb.size) hn).trans (hb.block k hk))
  have hsz : w1.heap.size ≤ (w2.setCell ⟨b, 1, none⟩ v').heap.size := by simpa using hgr.size
  have vb : ∀ k, v'.ownBlock = some k → k ≠ b ∧ ¬ (R k ∨ k = g) ∧ sv.ownBlock ≠ some k := fun k hk => by
    rcases hv with hv | ⟨q, hq, hq1, hq2⟩
    · rw [hv] at hk
      have := h.cb k hk
      have hkl := (hlt k (.inr (.inr (.inl hk)))).2
      exact ⟨this.1, fun e => e.elim this.2.1 fun e => by omega, this.2.2⟩
    · rw [hq] at hk
      cases hk
      exact ⟨fun e => by omega, fun e => e.elim (fun e => by have := (h.low k e).2; omega) hq2, fun e => by have := (hlt k (.inr (.inl e))).2; omega⟩
  have rk : ∀ k, R k → (w2.setCell ⟨b, 1, none⟩ v').heap[k]? = w.heap[k]? := fun k hk => old k (h.low k hk).2 (fun e => (h.cb k e).2.1 hk) (fun e => h.rb (e ▸ hk))
  refine ⟨⟨?_, ?_, ⟨ds ++ [(x, g, c)], by simp [hp0], ?_, fun i hi' => ?_⟩, ?_, ?_, ?_, ?_, h.bb, ?_, h.len⟩, ?_⟩
  · have r2 : w2.heap[b]? = some (.cells #[sv, cv] 45 (0, 0)) := (same2 b (Nat.lt_of_lt_of_le hbl hb.size) (fun e => (h.cb b e).1 rfl)).trans ((hb.block b hbl).trans h.root)
    exact heap_setCell_same w2 b 1 _ _ _ r2
  · obtain ⟨ps, h0, h1, h2⟩ := h.safe
    exact ⟨ps, h0, ownsRow_keep h1 fun k hk hkl => old k hkl (fun e => (h.cb k e).2.2 hk) (h.sb k hk).1, fun i hi' => ((h2 i hi').keep rk).wide fun k hk => .inl hk⟩
  · rw [List.length_append, List.flatMap_append, List.flatMap_singleton]
    exact ownsRow_keep hrow fun k hk _ => same3 k (vb k hk).1
  · rw [List.length_append] at hi'
    by_cases hil : i < C.length
    · have e1 : (ds ++ [(x, g, c)]).getD i (0, 0, 0) = ds.getD i (0, 0, 0) := by rw [List.getD_eq_getElem?_getD, List.getElem?_append_left (by omega), List.getD_eq_getElem?_getD]
      rw [e1, List.getElem_append_left hil]
      exact ⟨(hps i hil).1, ((hps i hil).2.keep rk).wide fun k hk => .inl hk⟩
    · obtain rfl : i = C.length := by simp at hi'; omega
      have e1 : (ds ++ [(x, g, c)]).getD C.length (0, 0, 0) = (x, g, c) := by rw [← hp0]; simp [List.getD_eq_getElem?_getD]
      rw [e1, List.getElem_append_right (Nat.le_refl _)]
      simp only [Nat.sub_self, List.getElem_cons_zero, true_and]
      refine ⟨hi.keepOn fun y o e _ => ?_, .inr rfl⟩
      cases e
      exact (same3 g (by omega)).trans (same2 g hg1 fun e => by have := (hlt g (.inr (.inr (.inl e)))).2; omega)
  · exact fun e => e.elim h.rb fun e => by omega
  · intro k hk
    have := h.sb k hk
    have hkl := (hlt k (.inr (.inl hk))).2
    exact ⟨this.1, fun e => e.elim this.2 fun e => by omega⟩
  · exact vb
  · intro k hk
    rcases hk with hk | rfl
    · have := h.low k hk
      exact ⟨this.1, by have := hb.size; omega⟩
    · exact ⟨by have := h.bb; omega, by omega⟩
  · intro p hp
    rcases List.mem_append.1 hp with hp | hp
    · exact h.wrs p hp
    · rw [List.mem_singleton.1 hp]; exact hx
  · exact ⟨hgr.os.trans hb.os, hgr.tape.trans hb.tape, hgr.output.trans hb.output, Nat.le_trans hb.size hsz, fun k hk hn => old k hk (fun e => hn (.inr (.inr (.inl e)))) (fun e => hn (.inl e))⟩

/-- A sector is another one. -/
theorem RefAt.putSafe {g cap : Nat} (h : RefAt w B b (.slice (some ⟨g, 0, none⟩) S.length cap) cv S C R) {i : Nat} (hi : i < S.length) {p : Nat × Nat} {z : List Int} (hp : Held w R p z) :
    RefAt (w.setCell ⟨g, i, none⟩ (slv p)) B b (.slice (some ⟨g, 0, none⟩) S.length cap) cv (S.set i z) C R ∧ Mod (rfoot b (.slice (some ⟨g, 0, none⟩) S.length cap) cv R) w (w.setCell ⟨g, i, none⟩ (slv p)) := by
  have same : ∀ k, k ≠ g → (w.setCell ⟨g, i, none⟩ (slv p)).heap[k]? = w.heap[k]? := fun k hk => heap_setCell_other w _ k _ hk
  have hg := h.sb g rfl
  have rk : ∀ k, R k → (w.setCell ⟨g, i, none⟩ (slv p)).heap[k]? = w.heap[k]? := fun k hk => same k fun e => hg.2 (e ▸ hk)
  refine ⟨⟨(same b (fun e => hg.1 e.symm)).trans h.root, ?_, ?_, h.rb, h.sb, h.cb, fun k hk => by have := h.low k hk; simpa using this, h.bb, fun q hq => by have := h.wrs q hq; rw [List.length_set]; exact this, by rw [List.length_set]; exact h.len⟩,
    ⟨rfl, rfl, rfl, by simp, fun k _ hn => same k fun e => hn (.inr (.inl (by rw [e]; rfl)))⟩⟩
  · obtain ⟨ps, h0, h1, h2⟩ := h.safe
    refine ⟨ps.set i p, by simp [h0], ?_, fun j hj => ?_⟩
    · rw [List.length_set, List.map_set]
      exact (World.ownsRow.stored h1 i (slv p)).1
    · rw [List.length_set] at hj
      by_cases hij : i = j
      · subst hij
        have e1 : (ps.set i p).getD i (0, 0) = p := by rw [List.getD_eq_getElem?_getD, List.getElem?_set_self (by omega)]; rfl
        rw [e1, getD_set S i i z hj, if_pos rfl]
        exact hp.keep rk
      · have e1 : (ps.set i p).getD j (0, 0) = ps.getD j (0, 0) := by rw [List.getD_eq_getElem?_getD, List.getElem?_set_ne hij, List.getD_eq_getElem?_getD]
        rw [e1, getD_set S i j z hj, if_neg hij]
        exact (h2 j hj).keep rk
  · obtain ⟨ds, h0, h1, h2⟩ := h.cache
    exact ⟨ds, h0, ownsRow_keep h1 fun k hk _ => same k fun e => (h.cb k hk).2.2 (by rw [e]; rfl), fun j hj => ⟨(h2 j hj).1, (h2 j hj).2.keep rk⟩⟩
theorem RefAt.wide (h : RefAt w B b sv cv S C R) {R' : Nat → Prop} (hR : ∀ k, R k → R' k) (hl : ∀ k, R' k → R k ∨ (∀ x, rfoot b sv cv R x → x ≠ k) ∧ B ≤ k ∧ k < w.heap.size) : RefAt w B b sv cv S C R' where
  root := h.root
  safe := by
    obtain ⟨ps, h0, h1, h2⟩ := h.safe
    exact ⟨ps, h0, h1, fun i hi => (h2 i hi).wide hR⟩
  cache := by
    obtain ⟨ds, h0, h1, h2⟩ := h.cache
    exact ⟨ds, h0, h1, fun i hi => ⟨(h2 i hi).1, (h2 i hi).2.wide hR⟩⟩
  rb := fun e => (hl b e).elim h.rb fun e => e.1 b (.inl rfl) rfl
  sb := fun g hg => ⟨(h.sb g hg).1, fun e => (hl g e).elim (h.sb g hg).2 fun e => e.1 g (.inr (.inl hg)) rfl⟩
  cb := fun g hg => ⟨(h.cb g hg).1, fun e => (hl g e).elim (h.cb g hg).2.1 fun e => e.1 g (.inr (.inr (.inl hg))) rfl, (h.cb g hg).2.2⟩
  low := fun g hg => (hl g hg).elim (h.low g) fun e => e.2
  bb := h.bb
  wrs := h.wrs
  len := h.len
/-- The cache is forgotten. -/
theorem RefAt.forget (h : RefAt w B b sv cv S C R) : RefAt (w.setCell ⟨b, 1, none⟩ (.slice none 0 0)) B b sv (.slice none 0 0) S [] R ∧ Mod (rfoot b sv cv R) w (w.setCell ⟨b, 1, none⟩ (.slice none 0 0)) := by
  have same : ∀ k, k ≠ b → (w.setCell ⟨b, 1, none⟩ (.slice none 0 0)).heap[k]? = w.heap[k]? := fun k hk => heap_setCell_other w _ k _ hk
  have rk : ∀ k, R k → (w.setCell ⟨b, 1, none⟩ (.slice none 0 0)).heap[k]? = w.heap[k]? := fun k hk => same k fun e => h.rb (e ▸ hk)
  refine ⟨⟨heap_setCell_same w b 1 _ _ _ h.root, ?_, ⟨[], rfl, ⟨rfl, .inl ⟨rfl, rfl⟩⟩, fun i hi => absurd hi (by simp)⟩, h.rb, h.sb, (fun g hg => by cases hg), fun k hk => by have := h.low k hk; simpa using this, h.bb, (fun q hq => by cases hq), h.len⟩,
    ⟨rfl, rfl, rfl, by simp, fun k _ hn => same k fun e => hn (.inl e)⟩⟩
  obtain ⟨ps, h0, h1, h2⟩ := h.safe
  exact ⟨ps, h0, ownsRow_keep h1 fun k hk _ => same k (h.sb k hk).1, fun j hj => (h2 j hj).keep rk⟩
end
end Go.Proofs.Ytpcekoimalafkaa
