/- The desk: what it is in memory; New, Count, Entry, known. -/
import Derived.Test.YtdccocgdgcjfcaaDesk1
import Derived.Test.YtdccocgdgcjfcaaHeld
namespace Go.Proofs.Ytdccocgdgcjfcaa
open Go.RowKit

/-- client, begin, mask -/
abbrev Ent := Int × Int × Int
abbrev Ent.client (e : Ent) : Int := e.1
abbrev Ent.begin (e : Ent) : Int := e.2.1
abbrev Ent.mask (e : Ent) : Int := e.2.2
def Ent.cells (e : Ent) : List Value := [.int .i64 e.client, .int .i64 e.begin, .int .u16 e.mask]
def entF : Fmt Ent := ⟨Ent.cells, 3, fun _ => rfl, by decide, fun x u hu => by simp [Ent.cells] at hu; rcases hu with rfl | rfl | rfl <;> rfl⟩
structure Ent.ok (e : Ent) : Prop where
  client : 0 ≤ e.client ∧ e.client < 8
  begin : 0 ≤ e.begin ∧ e.begin ≤ 1099511627776
  mask : 0 ≤ e.mask ∧ e.mask ≤ 65535
def noEnt : Ent := (0, 0, 0)

def lastAux (c : Int) : List Ent → Nat → Nat → Nat
  | [], _, acc => acc
  | e :: r, k, acc => lastAux c r (k + 1) (if e.client = c then k + 1 else acc)
theorem lastAux_snoc (c : Int) (e : Ent) : ∀ (es : List Ent) (k acc : Nat), lastAux c (es ++ [e]) k acc = if e.client = c then k + es.length + 1 else lastAux c es k acc
  | [], k, acc => by simp [lastAux]
  | x :: es, k, acc => by simp only [List.cons_append, lastAux, lastAux_snoc c e es, List.length_cons]; congr 1; omega
/-- The number of a client's last transaction; 0: it has none. -/
def lastOf (es : List Ent) (c : Int) : Nat := lastAux c es 0 0
theorem lastOf_snoc (es : List Ent) (e : Ent) (c : Int) : lastOf (es ++ [e]) c = if e.client = c then es.length + 1 else lastOf es c := by
  unfold lastOf; rw [lastAux_snoc, Nat.zero_add]
theorem lastOf_le (es : List Ent) (c : Int) : lastOf es c ≤ es.length := by
  induction es using snoc_ind with
  | h0 => exact Nat.le_refl _
  | hs es e ih => rw [lastOf_snoc, List.length_append]; split <;> simp <;> omega
theorem lastOf_iff (es : List Ent) (c : Int) (i : Nat) (hi : i < es.length) (hc : es[i].client = c) (hn : ∀ j (h : j < es.length), i < j → es[j].client ≠ c) : lastOf es c = i + 1 := by
  induction es using snoc_ind with
  | h0 => simp at hi
  | hs es e ih =>
    rw [lastOf_snoc]
    rw [List.length_append, List.length_singleton] at hi
    by_cases he : e.client = c
    · rw [if_pos he]
      rcases Nat.lt_or_ge i es.length with h | h
      · exact absurd (by rw [List.getElem_append_right (Nat.le_refl _)]; simpa using he) (hn es.length (by simp) h)
      · omega
    · rw [if_neg he]
      have hi' : i < es.length := by
        rcases Nat.lt_or_ge i es.length with h | h
        · exact h
        · obtain rfl : i = es.length := by omega
          rw [List.getElem_append_right (Nat.le_refl _)] at hc
          exact absurd (by simpa using hc) he
      refine ih hi' (by rwa [List.getElem_append_left hi'] at hc) fun j hj hij => ?_
      have := hn j (by simp; omega) hij
      rwa [List.getElem_append_left hj] at this
theorem lastOf_zero (es : List Ent) (c : Int) (hn : ∀ j (h : j < es.length), es[j].client ≠ c) : lastOf es c = 0 := by
  induction es using snoc_ind with
  | h0 => rfl
  | hs es e ih =>
    rw [lastOf_snoc, if_neg]
    · refine ih fun j hj => ?_
      have := hn j (by simp; omega)
      rwa [List.getElem_append_left hj] at this
    · have := hn es.length (by simp)
      rw [List.getElem_append_right (Nat.le_refl _)] at this
      simpa using this
theorem lastOf_at (es : List Ent) (c : Int) (k : Nat) (h : lastOf es c = k + 1) : ∃ hk : k < es.length, es[k].client = c ∧ ∀ j (h : j < es.length), k < j → es[j].client ≠ c := by
  induction es using snoc_ind with
  | h0 => cases h
  | hs es e ih =>
    rw [lastOf_snoc] at h
    by_cases he : e.client = c
    · rw [if_pos he] at h
      obtain rfl : k = es.length := by omega
      refine ⟨by simp, by rw [List.getElem_append_right (Nat.le_refl _)]; simpa using he, fun j hj hk => ?_⟩
      simp at hj
      omega
    · rw [if_neg he] at h
      obtain ⟨hk, h1, h2⟩ := ih h
      refine ⟨by simp; omega, by rwa [List.getElem_append_left hk], fun j hj hkj => ?_⟩
      rcases Nat.lt_or_ge j es.length with h3 | h3
      · rw [List.getElem_append_left h3]; exact h2 j h3 hkj
      · simp at hj
        obtain rfl : j = es.length := by omega
        rw [List.getElem_append_right (Nat.le_refl _)]
        simpa using he

def dcells (p : Pl) (mv : Value) (es : List Ent) : Array Value := #[.int .i64 p.parts, .int .i64 p.window, .int .i64 p.delay, mv, .int .i64 (lastOf es 0 : Nat), .int .i64 (lastOf es 1 : Nat), .int .i64 (lastOf es 2 : Nat), .int .i64 (lastOf es 3 : Nat), .int .i64 (lastOf es 4 : Nat), .int .i64 (lastOf es 5 : Nat), .int .i64 (lastOf es 6 : Nat), .int .i64 (lastOf es 7 : Nat)]
theorem dcells_at (p : Pl) (mv : Value) (es : List Ent) (c : Nat) (h : c < 8) : (dcells p mv es)[4 + c]? = some (.int .i64 (lastOf es (c : Int) : Nat)) := by
  match c, h with
  | 0, _ | 1, _ | 2, _ | 3, _ | 4, _ | 5, _ | 6, _ | 7, _ => rfl
theorem dcells_put (p : Pl) (mv : Value) (es : List Ent) (e : Ent) (c : Nat) (h : c < 8) (he : e.client = (c : Int)) : (dcells p mv es).setIfInBounds (4 + c) (.int .i64 ((es.length + 1 : Nat) : Int)) = dcells p mv (es ++ [e]) := by
  unfold dcells
  simp only [lastOf_snoc, he]
  match c, h with
  | 0, _ | 1, _ | 2, _ | 3, _ | 4, _ | 5, _ | 6, _ | 7, _ => rfl

abbrev EOwn := ROwn entF 50
structure DeskAt (w : World) (B b : Nat) (mv : Value) (p : Pl) (es : List Ent) : Prop where
  root : w.heap[b]? = some (.cells (dcells p mv es) 65 (0, 0))
  row : EOwn w B mv es
  apart : ∀ g, mv.ownBlock = some g → g ≠ b
  bb : B ≤ b
  good : p.good
  len : es.length ≤ 64
  ok : ∀ e ∈ es, e.ok
def foot (b : Nat) (mv : Value) (k : Nat) : Prop := k = b ∨ mv.ownBlock = some k
section
variable {w w' : World} {B b : Nat} {mv : Value} {p : Pl} {es : List Ent}
theorem DeskAt.lt (h : DeskAt w B b mv p es) : ∀ k, foot b mv k → B ≤ k ∧ k < w.heap.size := by
  rintro k (rfl | hk)
  · exact ⟨h.bb, (Array.getElem?_eq_some_iff.1 h.root).1⟩
  · exact h.row.lt k hk
theorem DeskAt.keep (h : DeskAt w B b mv p es) (hk : ∀ k, foot b mv k → w'.heap[k]? = w.heap[k]?) : DeskAt w' B b mv p es where
  root := (hk b (.inl rfl)).trans h.root
  row := h.row.keep fun g e _ => hk g (.inr e)
  apart := h.apart
  bb := h.bb
  good := h.good
  len := h.len
  ok := h.ok
theorem DeskAt.below (h : DeskAt w B b mv p es) (hb : Below w.heap.size w w') : DeskAt w' B b mv p es := h.keep fun k hk => hb.block k (h.lt k hk).2

theorem known_calls {w : World} (k : Int) : Calls Try.prog 26 #[.int .i64 k] w fun e w' => e = .returned (.bool (decide (0 ≤ k ∧ k < 8))) ∧ w' = w := by
  by_cases h1 : 0 ≤ k
  · have e1 : decide (0 ≤ k) = true := decide_eq_true h1
    have e2 : decide (0 ≤ k ∧ k < 8) = decide (k < 8) := by simp [h1]
    rw [e2]
    go_enter Try.func26, Try.ntmps26
    go_wp2
    go_ret
    exact ⟨rfl, rfl⟩
  · have e1 : decide (0 ≤ k) = false := decide_eq_false h1
    have e2 : decide (0 ≤ k ∧ k < 8) = false := decide_eq_false fun h => h1 h.1
    rw [e2]
    go_enter Try.func26, Try.ntmps26
    go_wp2
    go_ret
    exact ⟨rfl, rfl⟩

theorem Count_calls (h : DeskAt w B b mv p es) : Calls Try.prog 16 #[.pointer (some ⟨b, 0, none⟩)] w fun e w' => e = .returned (.int .i64 (es.length : Int)) ∧ w' = w := by
  obtain ⟨a, c, rfl⟩ := h.row.shape
  have c3 : w.cell? ⟨b, 3, none⟩ = some (.slice a es.length c) := cells_at h.root 3
  clear h
  go_enter Try.func16, Try.ntmps16
  go_wp2
  go_ret
  exact ⟨rfl, rfl⟩

def entAt (es : List Ent) (tx : Int) : Ent := if 1 ≤ tx ∧ tx ≤ (es.length : Int) then es.getD (tx - 1).toNat noEnt else noEnt
set_option maxHeartbeats 1000000 in
theorem Entry_calls (h : DeskAt w B b mv p es) (tx : Int) (htx : (Lit.int .i64 tx).wf = true) : Calls Try.prog 22 #[.pointer (some ⟨b, 0, none⟩), .int .i64 tx] w fun e w' =>
    e = .returned (.tuple #[.agg (entAt es tx).cells.toArray, .bool (decide (1 ≤ tx ∧ tx ≤ (es.length : Int)))]) ∧ Below w.heap.size w w' := by
  have hbl := (h.lt b (.inl rfl)).2
  obtain ⟨a, c, hmv, hr, hlt⟩ := h.row.recs
  subst hmv
  have c3 : w.cell? ⟨b, 3, none⟩ = some (.slice a es.length c) := cells_at h.root 3
  have htx := wf_i64 htx
  have hlen := h.len
  by_cases h1 : tx < 1
  · have hn : ¬ (1 ≤ tx ∧ tx ≤ (es.length : Int)) := by omega
    unfold entAt
    rw [if_neg hn, decide_eq_false hn]
    have d1 : decide (tx < 1) = true := decide_eq_true h1
    simp only [Ent.cells, noEnt]
    clear h hr hn
    go_enter Try.func22, Try.ntmps22
    go_wp2
    refine bodyPost_ret (v := .tuple #[.agg #[.int .i64 0, .int .i64 0, .int .u16 0], .bool false]) (by simp [results, Try.results22, go_sem]) rfl ?_
    exact ⟨rfl, (Below.refl _ _).alloc (Nat.le_refl _) _⟩
  have d1 : decide (tx < 1) = false := decide_eq_false h1
  generalize hL : es.length = L at *
  by_cases h2 : (L : Int) < tx
  · have hn : ¬ (1 ≤ tx ∧ tx ≤ (L : Int)) := by omega
    unfold entAt
    rw [hL, if_neg hn, decide_eq_false hn]
    have d2 : decide ((L : Int) < tx) = true := decide_eq_true h2
    simp only [Ent.cells, noEnt]
    clear h hr hn hL
    go_enter Try.func22, Try.ntmps22
    go_wp2
    refine bodyPost_ret (v := .tuple #[.agg #[.int .i64 0, .int .i64 0, .int .u16 0], .bool false]) (by simp [results, Try.results22, go_sem]) rfl ?_
    exact ⟨rfl, (Below.refl _ _).alloc (Nat.le_refl _) _⟩
  have d2 : decide ((L : Int) < tx) = false := decide_eq_false h2
  have hn : (1 ≤ tx ∧ tx ≤ (L : Int)) := by omega
  unfold entAt
  rw [hL, if_pos hn, decide_eq_true hn]
  obtain ⟨i, rfl⟩ : ∃ i : Nat, tx = (i : Int) + 1 := ⟨(tx - 1).toNat, by omega⟩
  have hi : i < es.length := by omega
  rw [show ((i : Int) + 1 - 1).toNat = i by omega, List.getD_eq_getElem?_getD, List.getElem?_eq_getElem hi, Option.getD_some]
  obtain ⟨g, o, rfl⟩ := hr.addr (by omega)
  have hc := hr.at hi
  obtain ⟨e0, he0⟩ : ∃ e0, e0 = es[i] := ⟨_, rfl⟩
  rw [← he0] at hc ⊢
  clear he0
  obtain ⟨x, y, z⟩ := e0
  have x0 : w.cell? ⟨g, o + i * 3, none⟩ = some (.int .i64 x) := hc 0 _ rfl
  have x1 : w.cell? ⟨g, o + i * 3 + 1, none⟩ = some (.int .i64 y) := hc 1 _ rfl
  have x2 : w.cell? ⟨g, o + i * 3 + 2, none⟩ = some (.int .u16 z) := hc 2 _ rfl
  have hg := hlt g o rfl
  simp only [Ent.cells]
  have i2 : (i : Int) < (L : Int) := by omega
  clear h hr hn hL hc h1 h2 hlt hi
  go_enter Try.func22, Try.ntmps22
  go_wp2
  refine bodyPost_ret (v := .tuple #[.agg #[.int .i64 x, .int .i64 y, .int .u16 z], .bool true]) (by simp [results, Try.results22, go_sem]) rfl ?_
  exact ⟨rfl, (Below.refl _ _).alloc (Nat.le_refl _) _⟩
end
end Go.Proofs.Ytdccocgdgcjfcaa
