/- The document's link in memory; its New, its Bag. -/
import Derived.RegionTactic
import Derived.ChangeAlike
import Derived.Test.YtckahkpikjhkmaaLinkE
namespace Go.Proofs.Ytckahkpikjhkmaa
open Go.RowKit

def rowV (mv : Pla → Value) (u : Bool) (n : Nat) : List Value := (List.range n).map fun (i : Nat) => mv ((i : Int), u)
theorem rowV_len (mv : Pla → Value) (u : Bool) (n : Nat) : (rowV mv u n).length = n := by simp [rowV]
theorem rowV_at (mv : Pla → Value) (u : Bool) {n i : Nat} (hi : i < n) : (rowV mv u n)[i]? = some (mv ((i : Int), u)) := by simp [rowV, List.getElem?_range hi]
theorem rowV_upd (mv : Pla → Value) (u : Bool) (n i : Nat) (v : Value) : (rowV mv u n).set i v = rowV (upd mv ((i : Int), u) v) u n := by
  apply List.ext_getElem?
  intro j
  rw [List.getElem?_set, rowV_len]
  by_cases hj : j < n
  · rw [rowV_at _ _ hj, rowV_at _ _ hj]
    by_cases he : i = j
    · subst he
      rw [if_pos rfl, if_pos hj, upd_same]
    · rw [if_neg he, upd_other _ _ (fun e => he (by have h := congrArg Prod.fst e; simp only at h; omega))]
  · rw [List.getElem?_eq_none (by rw [rowV_len]; omega), List.getElem?_eq_none (by rw [rowV_len]; omega)]
    split
    · rw [if_neg (by omega)]
    · rfl
theorem rowV_other (mv : Pla → Value) {u u' : Bool} (n : Nat) (i : Int) (v : Value) (hu : u ≠ u') : rowV (upd mv (i, u) v) u' n = rowV mv u' n := by
  unfold rowV
  refine List.map_congr_left fun j _ => upd_other _ _ fun e => hu (congrArg Prod.snd e).symm
def gOf (g1 g2 : Nat) (u : Bool) : Nat := if u then g1 else g2

structure RAt (w : World) (B b g1 g2 n : Nat) (mv : Pla → Value) (ls : Pla → List Msg) : Prop where
  root : w.heap[b]? = some (.cells #[.slice (some ⟨g1, 0, none⟩) n n, .slice (some ⟨g2, 0, none⟩) n n] 62 (0, 0))
  row : ∀ u, w.heap[gOf g1 g2 u]? = some (.cells (rowV mv u n).toArray 32 (0, 0))
  bag : ∀ k ∈ keysOf n, Mo w B (mv k) (ls k)
  own : ∀ k ∈ keysOf n, ∀ g, (mv k).ownBlock = some g → g ≠ b ∧ g ≠ g1 ∧ g ≠ g2
  base : B ≤ b ∧ B ≤ g1 ∧ B ≤ g2 ∧ b ≠ g1 ∧ b ≠ g2 ∧ g1 ≠ g2
  small : ∀ k ∈ keysOf n, (ls k).length ≤ 16
  few : n ≤ 6
def rfoot (b g1 g2 n : Nat) (mv : Pla → Value) (x : Nat) : Prop := x = b ∨ x = g1 ∨ x = g2 ∨ ∃ k ∈ keysOf n, (mv k).ownBlock = some x
section
variable {w w' : World} {B b g1 g2 n : Nat} {mv : Pla → Value} {ls : Pla → List Msg}
theorem RAt.lt (h : RAt w B b g1 g2 n mv ls) : ∀ k, rfoot b g1 g2 n mv k → B ≤ k ∧ k < w.heap.size := by
  rintro x (rfl | rfl | rfl | ⟨k, hk, he⟩)
  · exact ⟨h.base.1, (Array.getElem?_eq_some_iff.1 h.root).1⟩
  · exact ⟨h.base.2.1, (Array.getElem?_eq_some_iff.1 (h.row true)).1⟩
  · exact ⟨h.base.2.2.1, (Array.getElem?_eq_some_iff.1 (h.row false)).1⟩
  · exact (h.bag k hk).lt x he
theorem RAt.keep (h : RAt w B b g1 g2 n mv ls) (hk : ∀ k, rfoot b g1 g2 n mv k → w'.heap[k]? = w.heap[k]?) : RAt w' B b g1 g2 n mv ls where
  root := (hk b (.inl rfl)).trans h.root
  row := fun u => by
    cases u
    · exact (hk g2 (.inr (.inr (.inl rfl)))).trans (h.row false)
    · exact (hk g1 (.inr (.inl rfl))).trans (h.row true)
  bag := fun k hkn => (h.bag k hkn).keep fun g hg _ => hk g (.inr (.inr (.inr ⟨k, hkn, hg⟩)))
  own := h.own
  base := h.base
  small := h.small
  few := h.few
theorem RAt.below (h : RAt w B b g1 g2 n mv ls) (hb : Below w.heap.size w w') : RAt w' B b g1 g2 n mv ls := h.keep fun k hk => hb.block k (h.lt k hk).2
theorem RAt.mono {B' : Nat} (h : RAt w B b g1 g2 n mv ls) (hB : B' ≤ B) : RAt w B' b g1 g2 n mv ls :=
  ⟨h.root, h.row, fun k hk => (h.bag k hk).mono hB, h.own, ⟨Nat.le_trans hB h.base.1, Nat.le_trans hB h.base.2.1, Nat.le_trans hB h.base.2.2.1, h.base.2.2.2⟩, h.small, h.few⟩
theorem RAt.g (_ : RAt w B b g1 g2 n mv ls) (u : Bool) : rfoot b g1 g2 n mv (gOf g1 g2 u) := by
  cases u
  · exact .inr (.inr (.inl rfl))
  · exact .inr (.inl rfl)
theorem RAt.cell (h : RAt w B b g1 g2 n mv ls) {i : Nat} (hi : i < n) (u : Bool) : w.cell? ⟨gOf g1 g2 u, i, none⟩ = some (mv ((i : Int), u)) := by
  have := cells_at (h.row u) i
  rw [this, List.getElem?_toArray, rowV_at _ _ hi]
theorem RAt.ne (h : RAt w B b g1 g2 n mv ls) (u : Bool) : gOf g1 g2 u ≠ b := by
  have := h.base
  cases u
  · exact fun e => this.2.2.2.2.1 e.symm
  · exact fun e => this.2.2.2.1 e.symm
theorem RAt.ne2 (h : RAt w B b g1 g2 n mv ls) {u u' : Bool} (hu : u ≠ u') : gOf g1 g2 u ≠ gOf g1 g2 u' := by
  have := h.base.2.2.2.2.2
  cases u <;> cases u'
  · exact absurd rfl hu
  · exact fun e => this e.symm
  · exact this
  · exact absurd rfl hu
theorem keys_of {n i : Nat} (hi : i < n) (u : Bool) : ((i : Int), u) ∈ keysOf n := (keys_mem n _).2 ⟨by simp, by simpa using hi⟩
/-- One bag has other messages. -/
theorem RAt.turn (h : RAt w B b g1 g2 n mv ls) {i : Nat} (u : Bool) {v' : Value} {l' : List Msg} (h2 : Mo w B v' l') (h3 : ∀ g, v'.ownBlock = some g → ¬ rfoot b g1 g2 n mv g) (h5 : l'.length ≤ 16) :
    RAt (w.setCell ⟨gOf g1 g2 u, i, none⟩ v') B b g1 g2 n (upd mv ((i : Int), u) v') (upd ls ((i : Int), u) l') where
  root := (heap_setCell_other w _ b _ (fun e => h.ne u e.symm)).trans h.root
  row := fun u' => by
    by_cases hu : u = u'
    · subst hu
      rw [heap_setCell_same w _ i _ _ _ (h.row u), List.setIfInBounds_toArray, rowV_upd]
    · rw [heap_setCell_other w _ _ _ (fun e => h.ne2 hu e.symm), rowV_other _ _ _ _ hu]
      exact h.row u'
  bag := fun k hk => by
    by_cases he : k = ((i : Int), u)
    · subst he
      rw [upd_same, upd_same]
      exact h2.keep fun g hg _ => heap_setCell_other w _ g _ fun e => h3 g hg (by rw [e]; exact h.g u)
    · rw [upd_other _ _ he, upd_other _ _ he]
      refine (h.bag k hk).keep fun g hg _ => heap_setCell_other w _ g _ fun e => ?_
      have := h.own k hk g hg
      have e : g = gOf g1 g2 u := e
      cases u
      · exact this.2.2 e
      · exact this.2.1 e
  own := fun k hk g hg => by
    by_cases he : k = ((i : Int), u)
    · subst he
      rw [upd_same] at hg
      have := h3 g hg
      exact ⟨fun e => this (.inl e), fun e => this (.inr (.inl e)), fun e => this (.inr (.inr (.inl e)))⟩
    · rw [upd_other _ _ he] at hg
      exact h.own k hk g hg
  base := h.base
  small := fun k hk => by
    by_cases he : k = ((i : Int), u)
    · subst he; rw [upd_same]; exact h5
    · rw [upd_other _ _ he]; exact h.small k hk
  few := h.few

theorem rowV_zero (u : Bool) (n : Nat) : (rowV mv0 u n).toArray = Array.replicate n (.slice none 0 0) := by
  unfold rowV mv0
  rw [List.map_const', List.length_range, List.toArray_replicate]
theorem RNew_bad {w : World} {n : Int} (hn : ¬ (1 ≤ n ∧ n ≤ 6)) : Calls Try.prog 11 #[.int .i64 n] w fun e w' => e = .returned (.tuple #[.pointer none, .int .i64 11]) ∧ w' = w := by
  by_cases h1 : n < 1
  · have e1 : decide (n < 1) = true := decide_eq_true h1
    clear hn h1
    go_enter Try.func11, Try.ntmps11
    go_wp2
    go_ret2
    exact ⟨rfl, rfl⟩
  · have e1 : decide (n < 1) = false := decide_eq_false h1
    have e2 : decide (6 < n) = true := decide_eq_true (by omega)
    clear hn h1
    go_enter Try.func11, Try.ntmps11
    go_wp2
    go_ret2
    exact ⟨rfl, rfl⟩
theorem RAt.made (w : World) (n : Nat) (h6 : n ≤ 6) {g1 g2 : Nat} (h : (g1 = w.heap.size ∧ g2 = w.heap.size + 1) ∨ (g2 = w.heap.size ∧ g1 = w.heap.size + 1)) :
    RAt (((w.alloc (.cells (Array.replicate n (.slice none 0 0)) 32 (0, 0))).alloc (.cells (Array.replicate n (.slice none 0 0)) 32 (0, 0))).alloc (.cells #[.slice (some ⟨g1, 0, none⟩) n n, .slice (some ⟨g2, 0, none⟩) n n] 62 (0, 0)))
      w.heap.size (w.heap.size + 2) g1 g2 n mv0 ls0 := by
  have s0 := heap_alloc_new w (.cells (Array.replicate n (.slice none 0 0)) 32 (0, 0))
  have z0 : (w.alloc (.cells (Array.replicate n (.slice none 0 0)) 32 (0, 0))).heap.size = w.heap.size + 1 := by simp
  generalize w.alloc (.cells (Array.replicate n (.slice none 0 0)) 32 (0, 0)) = wa at s0 z0 ⊢
  have s1 := heap_alloc_new wa (.cells (Array.replicate n (.slice none 0 0)) 32 (0, 0))
  have z1 : (wa.alloc (.cells (Array.replicate n (.slice none 0 0)) 32 (0, 0))).heap.size = w.heap.size + 2 := by simp [z0]
  have s0' := (heap_alloc_old wa (.cells (Array.replicate n (.slice none 0 0)) 32 (0, 0)) (r := w.heap.size) (by omega)).trans s0
  generalize wa.alloc (.cells (Array.replicate n (.slice none 0 0)) 32 (0, 0)) = wb at s0' s1 z1 ⊢
  have s2 := heap_alloc_new wb (.cells #[.slice (some ⟨g1, 0, none⟩) n n, .slice (some ⟨g2, 0, none⟩) n n] 62 (0, 0))
  have s0'' := (heap_alloc_old wb (.cells #[.slice (some ⟨g1, 0, none⟩) n n, .slice (some ⟨g2, 0, none⟩) n n] 62 (0, 0)) (r := w.heap.size) (by omega)).trans s0'
  have s1'' := (heap_alloc_old wb (.cells #[.slice (some ⟨g1, 0, none⟩) n n, .slice (some ⟨g2, 0, none⟩) n n] 62 (0, 0)) (r := w.heap.size + 1) (by omega)).trans (z0 ▸ s1)
  rw [z1] at s2
  generalize wb.alloc (.cells #[.slice (some ⟨g1, 0, none⟩) n n, .slice (some ⟨g2, 0, none⟩) n n] 62 (0, 0)) = wc at s0'' s1'' s2 ⊢
  refine ⟨s2, fun u => ?_, fun k _ => ROwn.nil _ _, fun k _ g hg => (by cases hg), by omega, fun k _ => Nat.zero_le _, h6⟩
  rw [rowV_zero]
  rcases h with ⟨rfl, rfl⟩ | ⟨rfl, rfl⟩ <;> cases u
  · exact s1''
  · exact s0''
  · exact s0''
  · exact s1''
set_option maxHeartbeats 2000000 in
theorem RNew_calls {w : World} {n : Nat} (h1 : 1 ≤ n) (h6 : n ≤ 6) : Calls Try.prog 11 #[.int .i64 (n : Int)] w fun e w' => ∃ b g1 g2, e = .returned (.tuple #[ptrTo b, .int .i64 0]) ∧ RAt w' w.heap.size b g1 g2 n mv0 ls0 ∧ Below w.heap.size w w' := by
  have e1 : decide ((n : Int) < 1) = false := decide_eq_false (by omega)
  have e2 : decide ((6 : Int) < (n : Int)) = false := decide_eq_false (by omega)
  have hmk : ∀ w : World, (Instr.makeSlice 60 (.int .i64 (n : Int)) (.int .i64 (n : Int))).run Try.prog w = .ok (.slice (some ⟨w.heap.size, 0, none⟩) n n) (w.alloc (.cells (Array.replicate n (.slice none 0 0)) 32)) := fun w => by
    obtain rfl | rfl | rfl | rfl | rfl | rfl : n = 1 ∨ n = 2 ∨ n = 3 ∨ n = 4 ∨ n = 5 ∨ n = 6 := by omega
    all_goals kernel_rfl
  have hb : ∀ o1 o2 o3, Below w.heap.size w (((w.alloc o1).alloc o2).alloc o3) := fun o1 o2 o3 => (((Below.refl _ _).alloc (Nat.le_refl _) _).alloc (by simp) _).alloc (by simp; omega) _
  have hm := fun g1 g2 => RAt.made w n h6 (g1 := g1) (g2 := g2)
  have Hb := Lib.hid hb; clear hb
  have Hm := Lib.hid hm; clear hm
  go_enter Try.func11, Try.ntmps11
  go_wp2
  go_region
  all_goals
    go_wp2
    go_ret2
    refine ⟨w.heap.size + 2, _, _, ?_, (Hm.out _ _ ?_).below (below_drew _), (Hb.out _ _ _).trans ((below_drew _).mono (by simp; omega))⟩
    all_goals simp
theorem places {n : Nat} (k : Pla) : (∃ i : Nat, i < n ∧ k.1 = i ∧ k ∈ keysOf n) ∨ (k.1 < 0 ∧ k ∉ keysOf n) ∨ (0 ≤ k.1 ∧ n ≤ k.1 ∧ k ∉ keysOf n) := by
  have := keys_mem n k
  by_cases h1 : k.1 < 0
  · exact .inr (.inl ⟨h1, fun h => by have := this.1 h; omega⟩)
  · by_cases h2 : (n : Int) ≤ k.1
    · exact .inr (.inr ⟨by omega, h2, fun h => by have := this.1 h; omega⟩)
    · exact .inl ⟨k.1.toNat, by omega, by omega, this.2 ⟨by omega, by omega⟩⟩
set_option maxHeartbeats 1000000 in
theorem RBag_calls (h : RAt w B b g1 g2 n mv ls) (k : Pla) : Calls Try.prog 17 #[ptrTo b, .int .i64 k.1, .bool k.2] w fun e w' => e = .returned (if k ∈ keysOf n then mv k else .slice none 0 0) ∧ w' = w := by
  have r0 := cells_at h.root 0
  have r1 := cells_at h.root 1
  have h6 := h.few
  obtain ⟨p, u⟩ := k
  rcases places (n := n) (p, u) with ⟨i, hi, hk, hm⟩ | ⟨h0, hm⟩ | ⟨h0, h1, hm⟩
  · simp only at hk
    subst hk
    rw [if_pos hm]
    have c0 := h.cell hi u
    obtain ⟨a, c, hmv, -, -⟩ := (h.bag _ hm).recs
    rw [hmv] at c0 ⊢
    generalize (ls ((i : Int), u)).length = L at c0 ⊢
    clear hmv hm h
    have e1 : decide ((i : Int) < 0) = false := decide_eq_false (by omega)
    have e2 : decide ((n : Int) ≤ (i : Int)) = false := decide_eq_false (by omega)
    have i1 : (0 : Int) ≤ (i : Int) := by omega
    have i2 : (i : Int) < (n : Int) := by omega
    cases u
    all_goals
      simp only [gOf, Bool.false_eq_true, if_false, if_true] at c0
      go_enter Try.func17, Try.ntmps17
      go_wp2
      go_ret
      exact ⟨rfl, rfl⟩
  · simp only at h0
    rw [if_neg hm]
    clear hm h
    have e1 : decide (p < 0) = true := decide_eq_true h0
    go_enter Try.func17, Try.ntmps17
    go_wp2
    go_ret
    exact ⟨rfl, rfl⟩
  · simp only at h0 h1
    rw [if_neg hm]
    clear hm h
    have e1 : decide (p < 0) = false := decide_eq_false (by omega)
    have e2 : decide ((n : Int) ≤ p) = true := decide_eq_true h1
    go_enter Try.func17, Try.ntmps17
    go_wp2
    go_ret
    exact ⟨rfl, rfl⟩
theorem RSet_calls (h : RAt w B b g1 g2 n mv ls) {i : Nat} (hi : i < n) (u : Bool) (a : Option Addr) (L c : Nat) :
    Calls Try.prog 29 #[ptrTo b, .int .i64 (i : Int), .bool u, .slice a L c] w fun e w' => e = .returned (.tuple #[]) ∧ w' = w.setCell ⟨gOf g1 g2 u, i, none⟩ (.slice a L c) := by
  have r0 := cells_at h.root 0
  have r1 := cells_at h.root 1
  have h6 := h.few
  have c0 := h.cell hi u
  obtain ⟨a', c', hmv, -, -⟩ := (h.bag _ (keys_of hi u)).recs
  rw [hmv] at c0
  generalize (ls ((i : Int), u)).length = L' at c0
  have f0 := frozen_of_row w _ i _ _ (h.row u)
  clear hmv h
  have i1 : (0 : Int) ≤ (i : Int) := by omega
  have i2 : (i : Int) < (n : Int) := by omega
  cases u
  all_goals
    simp only [gOf, Bool.false_eq_true, if_false, if_true] at c0 f0 ⊢
    go_enter Try.func29, Try.ntmps29
    go_wp2
    go_end0
    exact ⟨rfl, rfl⟩
theorem sum_next (ls : Pla → List Msg) (i : Nat) : sumOf ls (keysOf (i + 1)) = sumOf ls (keysOf i) + ((ls ((i : Int), true)).length + (ls ((i : Int), false)).length) := by
  unfold sumOf
  conv => lhs; unfold keysOf
  simp
theorem RTotal_calls (h : RAt w B b g1 g2 n mv ls) : Calls Try.prog 22 #[ptrTo b] w fun e w' => e = .returned (.int .i64 (sumOf ls (keysOf n) : Nat)) ∧ Below w.heap.size w w' := by
  have r0 := cells_at h.root 0
  have r1 := cells_at h.root 1
  have h6 := h.few
  have Hh := Lib.hid h; clear h
  go_enter Try.func22, Try.ntmps22
  go_wp2_with fail
  go_loopw [3, 4] (fun s t wr => ∃ j : Nat, j ≤ n ∧ t = .int .i64 (j : Int) ∧ s = .int .i64 (sumOf ls (keysOf j) : Nat) ∧ ∃ N, wr = w.drewN N) (fun _ t _ => n - (intOf t).toNat)
  case atStart => exact ⟨0, by omega, rfl, rfl, 0, rfl⟩
  case round =>
    obtain ⟨j, hj, rfl, rfl, N, rfl⟩ := hrel
    have hs : sumOf ls (keysOf j) ≤ 192 := by
      have h1 := sumOf_le ls (keysOf j) fun k hk => Hh.out.small k ((keys_mem n k).2 (by have := (keys_mem j k).1 hk; omega))
      rw [keys_len] at h1
      omega
    by_cases hlt : j < n
    · have c0 := Hh.out.cell hlt true
      have c1 := Hh.out.cell hlt false
      obtain ⟨a1, k1, m1, -, -⟩ := (Hh.out.bag _ (keys_of hlt true)).recs
      obtain ⟨a2, k2, m2, -, -⟩ := (Hh.out.bag _ (keys_of hlt false)).recs
      have l1 := Hh.out.small _ (keys_of hlt true)
      have l2 := Hh.out.small _ (keys_of hlt false)
      have hnx := sum_next ls j
      rw [m1] at c0
      rw [m2] at c1
      clear m1 m2
      generalize (ls ((j : Int), true)).length = X at *
      generalize (ls ((j : Int), false)).length = Y at *
      generalize sumOf ls (keysOf j) = S at *
      simp only [gOf, Bool.false_eq_true, if_false, if_true] at c0 c1
      have Hnx := Lib.hid hnx; clear hnx
      have i1 : (0 : Int) ≤ (j : Int) := by omega
      have i2 : (j : Int) < (n : Int) := by omega
      have e1 : decide ((j : Int) < (n : Int)) = true := decide_eq_true i2
      go_wp2_with fail
      go_quiet (fail)
      go_wp2_with fail
      go_roundw
      case rel => exact ⟨j + 1, by omega, by go_num, by rw [Hnx.out]; go_num, _, rfl⟩
      case measure => simp [intOf]; omega
    · obtain rfl : j = n := by omega
      have e1 : decide ((j : Int) < (j : Int)) = false := decide_eq_false (by omega)
      go_wp2
      go_ret
      exact ⟨rfl, below_drawn _ _⟩
end
end Go.Proofs.Ytckahkpikjhkmaa
