/- Merged by merge.py out of: KernR, KernS, KernT, KernU, KernV, KernW. -/
import Derived.RegionTactic
import Derived.ChangeAlike
import Derived.Test.YtclgakdfeeefiaaDoorKernF
import Derived.Test.YtclgakdfeeefiaaDoorBoxA
import Derived.Test.YtclgakdfeeefiaaDoorBoxD
import Derived.BigRegion
/- The document's kernel in memory. -/
namespace Go.Proofs.YtclgakdfeeefiaaDoor
open Go.RowKit

/-- A row of a way: its end; true: its box, false: what is out. -/
abbrev Ck := End × Bool
def updC {α : Type} (f : Ck → α) (k : Ck) (v : α) : Ck → α := fun x => if x = k then v else f x
theorem updC_same {α : Type} (f : Ck → α) (k : Ck) (v : α) : updC f k v k = v := if_pos rfl
theorem updC_other {α : Type} (f : Ck → α) {k x : Ck} (v : α) (h : x ≠ k) : updC f k v x = f x := if_neg h
def lsOf (st : Sta) (k : Ck) : List Msg := if k.2 = true then (st k.1).2 else (st k.1).1
def updL (st : Sta) (k : Ck) (l : List Msg) : Sta := updE st k.1 (if k.2 = true then ((st k.1).1, l) else (l, (st k.1).2))
theorem lsOf_upd (st : Sta) (k : Ck) (l : List Msg) (x : Ck) : lsOf (updL st k l) x = updC (lsOf st) k l x := by
  obtain ⟨e, b⟩ := k
  obtain ⟨e', b'⟩ := x
  unfold lsOf updL
  by_cases he : e' = e
  · subst he
    simp only [updE_same]
    cases b <;> cases b' <;> simp [updC]
  · simp only [updE_other _ _ he]
    rw [updC_other _ _ (fun h => he (congrArg Prod.fst h))]
def keyK (d : Int) (j : Nat) : Ck := ((((j / 2 : Nat) : Int), d), decide (j % 2 = 1))
theorem keyK_inj {d : Int} {j j' : Nat} (h : keyK d j = keyK d j') : j = j' := by
  unfold keyK at h
  simp only [Prod.mk.injEq, decide_eq_decide] at h
  omega
def rowK (mv : Ck → Value) (d : Int) (n : Nat) : List Value := (List.range (2 * n)).map fun (j : Nat) => mv (keyK d j)
theorem rowK_len (mv : Ck → Value) (d : Int) (n : Nat) : (rowK mv d n).length = 2 * n := by simp [rowK]
theorem rowK_at (mv : Ck → Value) (d : Int) {n j : Nat} (hj : j < 2 * n) : (rowK mv d n)[j]? = some (mv (keyK d j)) := by simp [rowK, List.getElem?_range hj]
theorem rowK_upd (mv : Ck → Value) (d : Int) (n j : Nat) (v : Value) : (rowK mv d n).set j v = rowK (updC mv (keyK d j) v) d n := by
  apply List.ext_getElem?
  intro i
  rw [List.getElem?_set, rowK_len]
  by_cases hi : i < 2 * n
  · rw [rowK_at _ _ hi, rowK_at _ _ hi]
    by_cases he : j = i
    · subst he
      rw [if_pos rfl, if_pos hi, updC_same]
    · rw [if_neg he, updC_other _ _ (fun e => he (keyK_inj e).symm)]
  · rw [List.getElem?_eq_none (by rw [rowK_len]; omega), List.getElem?_eq_none (by rw [rowK_len]; omega)]
    split
    · rw [if_neg (by omega)]
    · rfl
theorem rowK_other (mv : Ck → Value) {d d' : Int} (n : Nat) (i : Int) (b : Bool) (v : Value) (hd : d ≠ d') : rowK (updC mv ((i, d), b) v) d' n = rowK mv d' n := by
  unfold rowK
  refine List.map_congr_left fun j _ => updC_other _ _ fun e => hd ?_
  have := congrArg (fun k : Ck => k.1.2) e
  exact this.symm
def gwOf (gu gd : Nat) (d : Int) : Nat := if d = 1 then gu else gd
def bitOf (b : Bool) : Nat := if b = true then 1 else 0
theorem keyK_of (d : Int) (i : Nat) (b : Bool) : keyK d (i * 2 + bitOf b) = (((i : Int), d), b) := by
  unfold keyK bitOf
  cases b
  · simp
  · simp only [if_true]
    rw [show (i * 2 + 1) / 2 = i by omega, show (i * 2 + 1) % 2 = 1 by omega]
    rfl
structure RK (w : World) (B rb gu gd n : Nat) (p : Pl) (mv : Ck → Value) (st : Sta) : Prop where
  root : w.heap[rb]? = some (.cells #[.int .i64 p.parts, .int .i64 p.window, .int .i64 p.delay, .slice (some ⟨gu, 0, none⟩) n n, .slice (some ⟨gd, 0, none⟩) n n] 108 (0, 0))
  row : ∀ d, d = 0 ∨ d = 1 → w.heap[gwOf gu gd d]? = some (.cells (rowK mv d n).toArray 110 (0, 0))
  bag : ∀ k : Ck, Inside n k.1 → MOwn w B (mv k) (lsOf st k)
  own : ∀ k : Ck, Inside n k.1 → ∀ g, (mv k).ownBlock = some g → g ≠ rb ∧ g ≠ gu ∧ g ≠ gd
  apart : ∀ k k' : Ck, Inside n k.1 → Inside n k'.1 → k ≠ k' → ∀ g, (mv k).ownBlock = some g → (mv k').ownBlock ≠ some g
  base : B ≤ rb ∧ B ≤ gu ∧ B ≤ gd ∧ rb ≠ gu ∧ rb ≠ gd ∧ gu ≠ gd
  good : p.good
  num : p.parts = (n : Int)
def rkfoot (rb gu gd n : Nat) (mv : Ck → Value) (x : Nat) : Prop := x = rb ∨ x = gu ∨ x = gd ∨ ∃ k : Ck, Inside n k.1 ∧ (mv k).ownBlock = some x
section
variable {w w1 w' : World} {B rb gu gd n : Nat} {p : Pl} {mv : Ck → Value} {st : Sta}
theorem RK.lt (h : RK w B rb gu gd n p mv st) : ∀ k, rkfoot rb gu gd n mv k → B ≤ k ∧ k < w.heap.size := by
  rintro x (rfl | rfl | rfl | ⟨k, hk, he⟩)
  · exact ⟨h.base.1, (Array.getElem?_eq_some_iff.1 h.root).1⟩
  · exact ⟨h.base.2.1, (Array.getElem?_eq_some_iff.1 (h.row 1 (.inr rfl))).1⟩
  · exact ⟨h.base.2.2.1, (Array.getElem?_eq_some_iff.1 (h.row 0 (.inl rfl))).1⟩
  · exact World.ownsRow.lt (h.bag k hk) x he
theorem RK.g (_ : RK w B rb gu gd n p mv st) (d : Int) : rkfoot rb gu gd n mv (gwOf gu gd d) := by
  unfold gwOf
  split
  · exact .inr (.inl rfl)
  · exact .inr (.inr (.inl rfl))
theorem RK.keep (h : RK w B rb gu gd n p mv st) (hk : ∀ k, rkfoot rb gu gd n mv k → w'.heap[k]? = w.heap[k]?) : RK w' B rb gu gd n p mv st where
  root := (hk rb (.inl rfl)).trans h.root
  row := fun d hd => (hk _ (h.g d)).trans (h.row d hd)
  bag := fun k hkn => (h.bag k hkn).keep fun g hg _ => hk g (.inr (.inr (.inr ⟨k, hkn, hg⟩)))
  own := h.own
  apart := h.apart
  base := h.base
  good := h.good
  num := h.num
theorem RK.below (h : RK w B rb gu gd n p mv st) (hb : Below w.heap.size w w') : RK w' B rb gu gd n p mv st := h.keep fun k hk => hb.block k (h.lt k hk).2
theorem RK.mono {B' : Nat} (h : RK w B rb gu gd n p mv st) (hB : B' ≤ B) : RK w B' rb gu gd n p mv st :=
  ⟨h.root, h.row, fun k hk => (h.bag k hk).mono hB, h.own, h.apart, ⟨Nat.le_trans hB h.base.1, Nat.le_trans hB h.base.2.1, Nat.le_trans hB h.base.2.2.1, h.base.2.2.2⟩, h.good, h.num⟩
theorem RK.six (h : RK w B rb gu gd n p mv st) : 1 ≤ n ∧ n ≤ 6 := by
  obtain ⟨h1, h2, -⟩ := h.good
  have := h.num
  omega
theorem RK.cell (h : RK w B rb gu gd n p mv st) {i : Nat} (hi : i < n) {d : Int} (hd : d = 0 ∨ d = 1) (b : Bool) : w.cell? ⟨gwOf gu gd d, i * 2 + bitOf b, none⟩ = some (mv (((i : Int), d), b)) := by
  rw [cells_at (h.row d hd) _, List.getElem?_toArray, rowK_at _ _ (by cases b <;> simp [bitOf] <;> omega), keyK_of]
theorem RK.ne (h : RK w B rb gu gd n p mv st) (d : Int) : gwOf gu gd d ≠ rb := by
  have := h.base
  unfold gwOf
  split
  · exact fun e => this.2.2.2.1 e.symm
  · exact fun e => this.2.2.2.2.1 e.symm
theorem RK.ne2 (h : RK w B rb gu gd n p mv st) {d d' : Int} (hd : d = 0 ∨ d = 1) (hd' : d' = 0 ∨ d' = 1) (hne : d ≠ d') : gwOf gu gd d ≠ gwOf gu gd d' := by
  have := h.base.2.2.2.2.2
  rcases hd with rfl | rfl <;> rcases hd' with rfl | rfl
  · exact absurd rfl hne
  · exact fun e => this e.symm
  · exact this
  · exact absurd rfl hne
/-- One row has other messages: the row's own block may have turned; then the cell is stored. -/
theorem RK.turn (h : RK w B rb gu gd n p mv st) {i : Nat} (hi : i < n) {d : Int} (hd : d = 0 ∨ d = 1) (b : Bool) {v' : Value} {l' : List Msg} (hm : Mod (fun x => (mv (((i : Int), d), b)).ownBlock = some x) w w1) (h2 : MOwn w1 B v' l')
    (h3 : ∀ g, v'.ownBlock = some g → (mv (((i : Int), d), b)).ownBlock = some g ∨ w.heap.size ≤ g) :
    RK (w1.setCell ⟨gwOf gu gd d, i * 2 + bitOf b, none⟩ v') B rb gu gd n p (updC mv (((i : Int), d), b) v') (updL st (((i : Int), d), b) l') ∧
      Mod (rkfoot rb gu gd n mv) w (w1.setCell ⟨gwOf gu gd d, i * 2 + bitOf b, none⟩ v') ∧
      ∀ x, rkfoot rb gu gd n (updC mv (((i : Int), d), b) v') x → rkfoot rb gu gd n mv x ∨ w.heap.size ≤ x ∧ x < (w1.setCell ⟨gwOf gu gd d, i * 2 + bitOf b, none⟩ v').heap.size := by
  obtain ⟨K, hK⟩ : ∃ K : Ck, K = (((i : Int), d), b) := ⟨_, rfl⟩
  rw [← hK] at hm h3 ⊢
  have hin : Inside n K.1 := by rw [hK]; exact ⟨by show (0 : Int) ≤ (i : Int); omega, by show (i : Int) < (n : Int); omega, hd⟩
  have hlt := h.lt
  have hown := h.own
  have hblk : ∀ x, x < w.heap.size → (mv K).ownBlock ≠ some x → w1.heap[x]? = w.heap[x]? := fun x hx hn => hm.block x hx hn
  have hne : ∀ x, (x = rb ∨ x = gu ∨ x = gd) → (mv K).ownBlock ≠ some x := fun x hx e => by
    have := hown K hin x e
    omega
  have hg1 : gwOf gu gd d = gu ∨ gwOf gu gd d = gd := by unfold gwOf; split; exact .inl rfl; exact .inr rfl
  have hgl : gwOf gu gd d < w.heap.size := (hlt _ (h.g d)).2
  have hv' : ∀ g, v'.ownBlock = some g → g ≠ rb ∧ g ≠ gu ∧ g ≠ gd := fun g hg => by
    rcases h3 g hg with e | e
    · exact hown K hin g e
    · have a1 := (hlt rb (.inl rfl)).2
      have a2 := (hlt gu (.inr (.inl rfl))).2
      have a3 := (hlt gd (.inr (.inr (.inl rfl)))).2
      omega
  have hs2 : (w1.setCell ⟨gwOf gu gd d, i * 2 + bitOf b, none⟩ v').heap.size = w1.heap.size := by simp
  have hoth : ∀ x, x ≠ gwOf gu gd d → (w1.setCell ⟨gwOf gu gd d, i * 2 + bitOf b, none⟩ v').heap[x]? = w1.heap[x]? := fun x hx => heap_setCell_other w1 _ x _ hx
  refine ⟨⟨?_, ?_, ?_, ?_, ?_, h.base, h.good, h.num⟩, ⟨hm.os, hm.tape, hm.output, by rw [hs2]; exact hm.size, fun x hx hn => ?_⟩, ?_⟩
  · exact (hoth rb fun e => h.ne d e.symm).trans ((hblk rb (hlt rb (.inl rfl)).2 (hne rb (.inl rfl))).trans h.root)
  · intro d' hd'
    by_cases hdd : d = d'
    · subst hdd
      have hr := (hblk _ hgl (hne _ (by omega))).trans (h.row d hd)
      rw [heap_setCell_same w1 _ _ _ _ _ hr, List.setIfInBounds_toArray, rowK_upd, keyK_of, hK]
    · rw [hoth _ fun e => h.ne2 hd hd' hdd e.symm, hK, rowK_other _ _ _ _ _ hdd, hblk _ (hlt _ (h.g d')).2 (hne _ (by unfold gwOf; split; exact .inr (.inl rfl); exact .inr (.inr rfl)))]
      exact h.row d' hd'
  · intro k hk
    rw [lsOf_upd]
    by_cases he : k = K
    · subst he
      rw [updC_same, updC_same]
      exact h2.keep fun g hg _ => hoth g fun e => by have := hv' g hg; omega
    · rw [updC_other _ _ he, updC_other _ _ he]
      refine (h.bag k hk).keep fun g hg hl => (hoth g fun e => ?_).trans (hblk g hl fun e => h.apart k K hk hin he g hg e)
      have := hown k hk g hg
      omega
  · intro k hk g hg
    by_cases he : k = K
    · subst he
      rw [updC_same] at hg
      exact hv' g hg
    · rw [updC_other _ _ he] at hg
      exact hown k hk g hg
  · intro k k' hk hk' hkk g hg hg'
    by_cases he : k = K
    · rw [he, updC_same] at hg
      have he' : k' ≠ K := fun e => hkk (by rw [he, e])
      rw [updC_other _ _ he'] at hg'
      rcases h3 g hg with e | e
      · exact h.apart K k' hin hk' (fun e => he' e.symm) g e hg'
      · have := (World.ownsRow.lt (h.bag k' hk') g hg').2
        omega
    · rw [updC_other _ _ he] at hg
      by_cases he' : k' = K
      · rw [he', updC_same] at hg'
        rcases h3 g hg' with e | e
        · exact h.apart k K hk hin he g hg e
        · have := (World.ownsRow.lt (h.bag k hk) g hg).2
          omega
      · rw [updC_other _ _ he'] at hg'
        exact h.apart k k' hk hk' hkk g hg hg'
  · exact (hoth x fun e => hn (by rw [e]; exact h.g d)).trans (hblk x hx fun e => hn (.inr (.inr (.inr ⟨K, hin, e⟩))))
  · rintro x (hx | hx | hx | ⟨k, hk, e⟩)
    · exact .inl (.inl hx)
    · exact .inl (.inr (.inl hx))
    · exact .inl (.inr (.inr (.inl hx)))
    · by_cases he : k = K
      · rw [he, updC_same] at e
        rcases h3 x e with e' | e'
        · exact .inl (.inr (.inr (.inr ⟨K, hin, e'⟩)))
        · exact .inr ⟨e', by rw [hs2]; exact (World.ownsRow.lt h2 x e).2⟩
      · rw [updC_other _ _ he] at e
        exact .inl (.inr (.inr (.inr ⟨k, hk, e⟩)))
end
/-- The document's kernel within a law. -/
structure Rn (w0 w : World) (rb : Nat) (F : Nat → Prop) (n : Nat) (p : Pl) (st : Sta) : Prop where
  is : ∃ gu gd mv, RK w w0.heap.size rb gu gd n p mv st ∧ ∀ x, rkfoot rb gu gd n mv x → F x
  low : ∀ k, F k → w0.heap.size ≤ k ∧ k < w.heap.size
  bel : Below w0.heap.size w0 w
section
variable {w0 w w' : World} {rb n : Nat} {F : Nat → Prop} {p : Pl} {st st' : Sta}
theorem Rn.step (h : Rn w0 w rb F n p st) (hb : Below w.heap.size w w') : Rn w0 w' rb F n p st where
  is := by
    obtain ⟨gu, gd, mv, h1, h2⟩ := h.is
    exact ⟨gu, gd, mv, h1.below hb, h2⟩
  low := fun k hk => ⟨(h.low k hk).1, Nat.lt_of_lt_of_le (h.low k hk).2 hb.size⟩
  bel := h.bel.trans (hb.mono h.bel.size)
theorem Rn.aside {G : Nat → Prop} (h : Rn w0 w rb F n p st) (hm : Mod G w w') (ha : ∀ k, F k → ¬ G k) (hG : ∀ k, G k → w0.heap.size ≤ k) : Rn w0 w' rb F n p st where
  is := by
    obtain ⟨gu, gd, mv, h1, h2⟩ := h.is
    exact ⟨gu, gd, mv, h1.keep fun k hk => hm.block k (h1.lt k hk).2 (ha k (h2 k hk)), h2⟩
  low := fun k hk => ⟨(h.low k hk).1, Nat.lt_of_lt_of_le (h.low k hk).2 hm.size⟩
  bel := hm.below h.bel h.bel.size hG
theorem Rn.after {gu gd gu' gd' : Nat} {mv mv' : Ck → Value} (h : Rn w0 w rb F n p st) (hf : ∀ x, rkfoot rb gu gd n mv x → F x) (h1 : RK w' w0.heap.size rb gu' gd' n p mv' st') (hm : Mod (rkfoot rb gu gd n mv) w w')
    (hx : ∀ x, rkfoot rb gu' gd' n mv' x → rkfoot rb gu gd n mv x ∨ w.heap.size ≤ x ∧ x < w'.heap.size) : Rn w0 w' rb (grownF F w w') n p st' ∧ Mod F w w' := by
  have hm' : Mod F w w' := hm.mono hf
  refine ⟨⟨⟨gu', gd', mv', h1, fun x hxx => (hx x hxx).elim (fun h => .inl (hf x h)) .inr⟩, ?_, hm'.below h.bel h.bel.size fun k hk => (h.low k hk).1⟩, hm'⟩
  rintro k (hk | hk)
  · exact ⟨(h.low k hk).1, Nat.lt_of_lt_of_le (h.low k hk).2 hm'.size⟩
  · exact ⟨Nat.le_trans h.bel.size hk.1, hk.2⟩
theorem Rn.same (h : Rn w0 w rb F n p st) (hb : Below w.heap.size w w') : Rn w0 w' rb (grownF F w w') n p st ∧ Mod F w w' := by
  obtain ⟨gu, gd, mv, h1, h2⟩ := h.is
  exact h.after h2 (h1.below hb) (Mod.of_below hb) fun x hx => .inl hx
theorem Rn.six (h : Rn w0 w rb F n p st) : 1 ≤ n ∧ n ≤ 6 := by
  obtain ⟨gu, gd, mv, h1, h2⟩ := h.is
  exact h1.six
end
end Go.Proofs.YtclgakdfeeefiaaDoor
/- The document's kernel: small functions; Label, Flow, fits, Box. -/
namespace Go.Proofs.YtclgakdfeeefiaaDoor
open Go.RowKit

theorem RUp_calls {w : World} (m : Msg) : Calls Tryd.prog 73 #[.agg m.cells.toArray] w fun e w' => e = .returned (.bool (upOf m)) ∧ Below w.heap.size w w' := by
  obtain ⟨k, p, t, x⟩ := m
  have hd : (k == 1) = true ∧ upOf (k, p, t, x) = true ∨ (k == 1) = false ∧ (k == 2) = true ∧ upOf (k, p, t, x) = true ∨ (k == 1) = false ∧ (k == 2) = false ∧ (k == 3) = upOf (k, p, t, x) := by
    unfold upOf
    simp only [Msg.kind]
    by_cases h1 : k = 1
    · exact .inl ⟨by simpa using h1, decide_eq_true (by omega)⟩
    · by_cases h2 : k = 2
      · exact .inr (.inl ⟨by simpa using h1, by simpa using h2, decide_eq_true (by omega)⟩)
      · refine .inr (.inr ⟨by simpa using h1, by simpa using h2, ?_⟩)
        rw [Bool.eq_iff_iff, beq_iff_eq, decide_eq_true_iff]
        omega
  generalize upOf (k, p, t, x) = R at hd ⊢
  simp only [Msg.cells, Msg.kind, Msg.part, Msg.tx, Msg.what]
  have hb : Below w.heap.size w (w.alloc (.cells #[.int .i64 k, .int .i64 p, .int .i64 t, .int .i64 x] 39)) := (Below.refl _ _).alloc (Nat.le_refl _) _
  have Hb := Lib.hid hb; clear hb
  rcases hd with ⟨e1, rfl⟩ | ⟨e1, e2, rfl⟩ | ⟨e1, e2, e3⟩
  all_goals
    go_enter Tryd.func73, Tryd.ntmps73
    go_wp2
    go_ret
    exact ⟨rfl, Hb.out⟩
theorem two_step : ∀ j, j < 6 → IntKind.u64.wrap (((2 ^ j : Nat) : Int) * 2) = ((2 ^ (j + 1) : Nat) : Int) := by decide +kernel
set_option maxHeartbeats 1000000 in
theorem secret_calls {w : World} {q : Nat} (hq : q ≤ 6) : Calls Tryd.prog 59 #[.int .i64 (q : Int)] w fun e w' => e = .returned (.int .u64 ((2 ^ q : Nat) : Int)) ∧ w' = w := by
  obtain ⟨T, hT⟩ : ∃ T : Nat, T = 2 ^ q := ⟨_, rfl⟩
  rw [← hT]
  have HT := Lib.hid hT; clear hT
  go_enter Tryd.func59, Tryd.ntmps59
  go_wp2_with fail
  go_loopw [3, 4] (fun u i wr => ∃ j : Nat, j ≤ q ∧ i = .int .i64 (j : Int) ∧ u = .int .u64 ((2 ^ j : Nat) : Int) ∧ wr = w) (fun _ i _ => q - (intOf i).toNat)
  case atStart => exact ⟨0, by omega, rfl, rfl, rfl⟩
  case round =>
    obtain ⟨j, hj, rfl, rfl, rfl⟩ := hrel
    by_cases hlt : j < q
    · have hw := two_step j (by omega)
      have i1 : (j : Int) < (q : Int) := by omega
      obtain ⟨Q', hQ'⟩ : ∃ Q' : Nat, Q' = 2 ^ (j + 1) := ⟨_, rfl⟩
      rw [← hQ'] at hw
      generalize (2 ^ j : Nat) = Q at hw ⊢
      have HQ := Lib.hid hQ'; clear hQ'
      go_wp2_with fail
      go_roundw
      case rel => exact ⟨j + 1, by omega, by go_num, by rw [← HQ.out], trivial⟩
      case measure => simp [intOf]; omega
    · obtain rfl : j = q := by omega
      rw [← HT.out]
      go_wp2
      go_ret
      exact ⟨rfl, rfl⟩
def partB (n : Nat) (q : Int) : Bool := decide (0 ≤ q ∧ q < (n : Int))
section
variable {w w' : World} {B rb gu gd n : Nat} {p : Pl} {mv : Ck → Value} {st : Sta}
theorem rthere_calls (h : RK w B rb gu gd n p mv st) (q : Int) : Calls Tryd.prog 53 #[.pointer (some ⟨rb, 0, none⟩), .int .i64 q] w fun e w' => e = .returned (.bool (thereB n q)) ∧ w = w' := by
  have r0 := cells_at h.root 0
  rw [h.num] at r0
  clear h
  have hd : decide (0 ≤ q) = false ∧ thereB n q = false ∨ decide (0 ≤ q) = true ∧ decide (q ≤ (n : Int)) = thereB n q := by
    unfold thereB
    by_cases h : 0 ≤ q
    · exact .inr ⟨decide_eq_true h, by congr 1; exact propext ⟨fun x => ⟨h, x⟩, fun x => x.2⟩⟩
    · exact .inl ⟨decide_eq_false h, decide_eq_false fun x => h x.1⟩
  generalize thereB n q = R at hd ⊢
  rcases hd with ⟨d1, rfl⟩ | ⟨d1, d2⟩
  all_goals
    go_enter Tryd.func53, Tryd.ntmps53
    go_wp2
    go_ret
    exact ⟨rfl, rfl⟩
theorem rpart_calls (h : RK w B rb gu gd n p mv st) (q : Int) : Calls Tryd.prog 56 #[.pointer (some ⟨rb, 0, none⟩), .int .i64 q] w fun e w' => e = .returned (.bool (partB n q)) ∧ w = w' := by
  have r0 := cells_at h.root 0
  rw [h.num] at r0
  clear h
  have hd : decide (0 ≤ q) = false ∧ partB n q = false ∨ decide (0 ≤ q) = true ∧ decide (q < (n : Int)) = partB n q := by
    unfold partB
    by_cases h : 0 ≤ q
    · exact .inr ⟨decide_eq_true h, by congr 1; exact propext ⟨fun x => ⟨h, x⟩, fun x => x.2⟩⟩
    · exact .inl ⟨decide_eq_false h, decide_eq_false fun x => h x.1⟩
  generalize partB n q = R at hd ⊢
  rcases hd with ⟨d1, rfl⟩ | ⟨d1, d2⟩
  all_goals
    go_enter Tryd.func56, Tryd.ntmps56
    go_wp2
    go_ret
    exact ⟨rfl, rfl⟩
theorem all_sub : ∀ n, n < 7 → IntKind.u64.wrap (((2 ^ n : Nat) : Int) - 1) = ((allOf n : Nat) : Int) := by decide +kernel
set_option maxHeartbeats 2000000 in
theorem RLabel_calls (h : RK w B rb gu gd n p mv st) (q : Int) : Calls Tryd.prog 28 #[.pointer (some ⟨rb, 0, none⟩), .int .i64 q] w fun e w' => e = .returned (.agg (labelOf n q).cells.toArray) ∧ Below w.heap.size w w' := by
  have hb : Below w.heap.size w (w.alloc (.cells #[.int .u64 0, .int .u64 0] 32)) := (Below.refl _ _).alloc (Nat.le_refl _) _
  have h1 := h.below hb
  have r0 := cells_at h1.root 0
  rw [h.num] at r0
  have h6 := h.six
  have hb2 : ∀ a b, Below w.heap.size w (w.alloc (.cells #[.int .u64 a, .int .u64 b] 32)) := fun a b => (Below.refl _ _).alloc (Nat.le_refl _) _
  have Hb := Lib.hid hb2; clear hb2 hb h1 h
  by_cases h1 : q < 0
  · have d1 : decide (q < 0) = true := decide_eq_true h1
    rw [show labelOf n q = (0, 0) from if_neg (by unfold thereB; rw [decide_eq_true_iff]; omega)]
    clear h1 h6
    simp only [Label.cells]
    go_enter Tryd.func28, Tryd.ntmps28
    go_wp2
    refine bodyPost_ret (v := .agg #[.int .u64 0, .int .u64 0]) (by simp [results, Tryd.results28, go_sem]) rfl ?_
    exact ⟨rfl, Hb.out 0 0⟩
  have d1 : decide (q < 0) = false := decide_eq_false h1
  by_cases h2 : (n : Int) < q
  · have d2 : decide ((n : Int) < q) = true := decide_eq_true h2
    rw [show labelOf n q = (0, 0) from if_neg (by unfold thereB; rw [decide_eq_true_iff]; omega)]
    clear h1 h2 h6
    simp only [Label.cells]
    go_enter Tryd.func28, Tryd.ntmps28
    go_wp2
    refine bodyPost_ret (v := .agg #[.int .u64 0, .int .u64 0]) (by simp [results, Tryd.results28, go_sem]) rfl ?_
    exact ⟨rfl, Hb.out 0 0⟩
  have d2 : decide ((n : Int) < q) = false := decide_eq_false h2
  rw [show labelOf n q = labOf n q from if_pos (decide_eq_true (by omega))]
  obtain ⟨Q, rfl⟩ : ∃ Q : Nat, q = Q := ⟨q.toNat, by omega⟩
  by_cases h3 : Q = n
  · subst h3
    have hs := fun w : World => secret_calls (w := w) (q := Q) h6.2
    rw [show labOf Q (Q : Int) = (((allOf Q : Nat) : Int), 0) from if_pos rfl]
    have hsub := all_sub Q (by omega)
    generalize (2 ^ Q : Nat) = T at hs hsub
    generalize allOf Q = AQ at hsub ⊢
    have e3 : ((Q : Int) == (Q : Int)) = true := by simp
    have Hs := Lib.hid hs; clear hs h1 h2 h6
    simp only [Label.cells]
    go_enter Tryd.func28, Tryd.ntmps28
    go_wp2_with fail
    refine (Hs.out _).mono ?_
    rintro e w1 ⟨rfl, rfl⟩
    go_wp2
    refine bodyPost_ret (v := .agg #[.int .u64 (AQ : Int), .int .u64 0]) (by simp [results, Tryd.results28, go_sem]) rfl ?_
    exact ⟨rfl, Hb.out _ _⟩
  · have hs := fun w : World => secret_calls (w := w) (q := Q) (by omega)
    rw [show labOf n (Q : Int) = (((2 ^ Q : Nat) : Int), 0) by unfold labOf; rw [if_neg (by omega), Int.toNat_natCast]]
    generalize (2 ^ Q : Nat) = T at hs ⊢
    have e3 : ((Q : Int) == (n : Int)) = false := by simp; omega
    have d2' : decide (n < Q) = false := decide_eq_false (by omega)
    have Hs := Lib.hid hs; clear hs h1 h2 h3 h6
    simp only [Label.cells]
    go_enter Tryd.func28, Tryd.ntmps28
    go_wp2_with fail
    refine (Hs.out _).mono ?_
    rintro e w1 ⟨rfl, rfl⟩
    go_wp2
    refine bodyPost_ret (v := .agg #[.int .u64 (T : Int), .int .u64 0]) (by simp [results, Tryd.results28, go_sem]) rfl ?_
    exact ⟨rfl, Hb.out _ _⟩
theorem labs_ok1 : ∀ n, n < 7 → ∀ q, q < 7 → (Lit.int .u64 (labOf n (q : Nat)).1).wf = true := by decide +kernel
theorem labs_ok2 : ∀ n, n < 7 → ∀ q, q < 7 → (Lit.int .u64 (labOf n (q : Nat)).2).wf = true := by decide +kernel
set_option maxHeartbeats 2000000 in
theorem RFlow_calls (h : RK w B rb gu gd n p mv st) (a b : Int) : Calls Tryd.prog 29 #[.pointer (some ⟨rb, 0, none⟩), .int .i64 a, .int .i64 b] w fun e w' => e = .returned (.bool (flowOf n a b)) ∧ Below w.heap.size w w' := by
  have h6 := h.six
  have ha := rthere_calls h a
  have hb := rthere_calls h b
  have r0 := cells_at h.root 0
  rw [h.num] at r0
  have hfl := flow_law h6.2 a b
  cases hta : thereB n a with
  | false =>
    rw [hta] at ha
    rw [show flowOf n a b = false by rw [hfl, hta]; rfl]
    have Ha := Lib.hid ha; clear ha hb hfl h hta h6
    go_enter Tryd.func29, Tryd.ntmps29
    go_wp2_with fail
    refine Ha.out.mono ?_
    rintro e w1 ⟨rfl, rfl⟩
    go_wp2
    go_ret
    exact ⟨rfl, Below.refl _ _⟩
  | true =>
    rw [hta] at ha
    cases htb : thereB n b with
    | false =>
      rw [htb] at hb
      rw [show flowOf n a b = false by rw [hfl, hta, htb]; rfl]
      have Ha := Lib.hid ha; clear ha hfl h hta htb h6
      have Hb := Lib.hid hb; clear hb
      go_enter Tryd.func29, Tryd.ntmps29
      go_wp2_with fail
      refine Ha.out.mono ?_
      rintro e w1 ⟨rfl, rfl⟩
      go_wp2_with fail
      refine Hb.out.mono ?_
      rintro e w1 ⟨rfl, rfl⟩
      go_wp2
      go_ret
      exact ⟨rfl, Below.refl _ _⟩
    | true =>
      rw [htb] at hb
      have qa := of_decide_eq_true hta
      have qb := of_decide_eq_true htb
      by_cases hn : a = (n : Int)
      · rw [show flowOf n a b = true by rw [hfl, hta, htb, decide_eq_true (.inr (.inr hn))]; rfl]
        subst hn
        have e3 : ((n : Int) == (n : Int)) = true := by simp
        have Ha := Lib.hid ha; clear ha hfl h hta htb h6
        have Hb := Lib.hid hb; clear hb
        go_enter Tryd.func29, Tryd.ntmps29
        go_wp2_with fail
        refine Ha.out.mono ?_
        rintro e w1 ⟨rfl, rfl⟩
        go_wp2_with fail
        refine Hb.out.mono ?_
        rintro e w1 ⟨rfl, rfl⟩
        go_wp2
        go_ret
        exact ⟨rfl, Below.refl _ _⟩
      · have e3 : (a == (n : Int)) = false := by simpa using hn
        have hla := RLabel_calls h a
        have hlb := fun w' hb => RLabel_calls (h.below hb : RK w' B rb gu gd n p mv st) b
        rw [show labelOf n a = labOf n a from if_pos hta] at hla
        rw [show labelOf n b = labOf n b from if_pos htb] at hlb
        obtain ⟨A, rfl⟩ : ∃ A : Nat, a = A := ⟨a.toNat, by omega⟩
        obtain ⟨C, rfl⟩ : ∃ C : Nat, b = C := ⟨b.toNat, by omega⟩
        have hwi := fun w : World => RWith_calls (w := w) (a := labOf n (A : Int)) (b := labOf n (C : Int)) (o := 0) ⟨labs_ok1 n (by omega) A (by omega), labs_ok2 n (by omega) A (by omega)⟩ ⟨labs_ok1 n (by omega) C (by omega), labs_ok2 n (by omega) C (by omega)⟩ rfl
        have hfw : flowOf n (A : Int) (C : Int) = withOf (labOf n (A : Int)) (labOf n (C : Int)) 0 := by
          unfold flowOf
          rw [hta, htb, show ownedOf n (A : Int) = 0 from if_neg hn]
          rfl
        rw [hfw]
        generalize withOf (labOf n (A : Int)) (labOf n (C : Int)) 0 = W at hwi ⊢
        generalize labOf n (A : Int) = la at *
        generalize labOf n (C : Int) = lb at *
        obtain ⟨la1, la2⟩ := la
        obtain ⟨lb1, lb2⟩ := lb
        simp only [Label.cells] at hwi hla hlb
        clear hfl hfw hta htb qa qb hn h6 h
        have Ha := Lib.hid ha; clear ha
        have Hb := Lib.hid hb; clear hb
        have Hla := Lib.hid hla; clear hla
        have Hlb := Lib.hid hlb; clear hlb
        have Hwi := Lib.hid hwi; clear hwi
        go_enter Tryd.func29, Tryd.ntmps29
        go_wp2_with fail
        refine Ha.out.mono ?_
        rintro e w1 ⟨rfl, rfl⟩
        go_wp2_with fail
        refine Hb.out.mono ?_
        rintro e w1 ⟨rfl, rfl⟩
        go_wp2_with fail
        refine Hla.out.mono ?_
        rintro e w1 ⟨rfl, b1⟩
        go_wp2_with fail
        refine (Hlb.out _ b1).mono ?_
        rintro e w2 ⟨rfl, b2⟩
        have hb2 := b1.trans (b2.mono b1.size)
        clear b1 b2
        have HB2 := Lib.hid hb2; clear hb2
        go_wp2_with fail
        refine (Hwi.out _).mono ?_
        rintro e w3 ⟨rfl, b3⟩
        have hb3 := HB2.out.trans (b3.mono HB2.out.size)
        clear b3
        have HB3 := Lib.hid hb3; clear hb3
        go_wp2
        go_ret
        exact ⟨rfl, HB3.out⟩
end
set_option maxHeartbeats 2000000 in
theorem rfits_calls {w : World} (q : Int) (u : Bool) (m : Msg) : Calls Tryd.prog 55 #[.int .i64 q, .bool u, .agg m.cells.toArray] w fun e w' => e = .returned (.bool (fitsOf (q, dirOf u) m)) ∧ Below w.heap.size w w' := by
  have hr := fun w : World => RRight_calls (w := w) m
  have hu := fun w : World => RUp_calls (w := w) m
  unfold fitsOf
  rw [show decide ((q, dirOf u).2 = (1 : Int)) = u by cases u <;> rfl]
  generalize rightOf m = R at *
  generalize upOf m = U at *
  obtain ⟨k, pa, t, x⟩ := m
  simp only [Msg.cells, Msg.kind, Msg.part, Msg.tx, Msg.what] at hr hu ⊢
  obtain ⟨w1, hw1⟩ : ∃ w1, w1 = w.alloc (.cells #[.int .i64 k, .int .i64 pa, .int .i64 t, .int .i64 x] 39) := ⟨_, rfl⟩
  have c1 : Below w.heap.size w w1 := by rw [hw1]; exact (Below.refl _ _).alloc (Nat.le_refl _) _
  have z1 : w1.heap[w.heap.size]? = some (.cells #[.int .i64 k, .int .i64 pa, .int .i64 t, .int .i64 x] 39 (0, 0)) := by rw [hw1]; exact heap_alloc_new w _
  have C1 := Lib.hid c1; clear c1
  have Z1 := Lib.hid z1; clear z1
  have hp : (pa == q) = decide (pa = q) := by rw [Bool.eq_iff_iff]; simp
  rw [← hp]
  generalize hP : (pa == q) = P2 at *
  clear hp
  have Hr := Lib.hid hr; clear hr
  have Hu := Lib.hid hu; clear hu
  go_enter Tryd.func55, Tryd.ntmps55
  go_wp2_with fail
  rw [← hw1]
  clear hw1
  refine (Hr.out _).mono ?_
  rintro e w2 ⟨rfl, b2⟩
  have z2 := (b2.block _ (Array.getElem?_eq_some_iff.1 Z1.out).1).trans Z1.out
  have hb := C1.out.trans (b2.mono C1.out.size)
  clear b2 C1 Z1
  have y0 := cells_at z2 0
  have y1 := cells_at z2 1
  have y2 := cells_at z2 2
  have y3 := cells_at z2 3
  clear z2
  have HB := Lib.hid hb; clear hb
  cases R with
  | false =>
    go_wp2
    go_ret
    exact ⟨rfl, HB.out⟩
  | true =>
    cases P2 with
    | false =>
      go_wp2
      go_ret
      exact ⟨rfl, HB.out⟩
    | true =>
      go_wp2_with fail
      clear y0 y1 y2 y3
      refine (Hu.out _).mono ?_
      rintro e w3 ⟨rfl, b3⟩
      have hb := HB.out.trans (b3.mono HB.out.size)
      clear b3
      have HB2 := Lib.hid hb; clear hb
      go_wp2
      go_ret
      exact ⟨by simp, HB2.out⟩
end Go.Proofs.YtclgakdfeeefiaaDoor
/- The document's kernel: New, Out, Box. -/
namespace Go.Proofs.YtclgakdfeeefiaaDoor
open Go.RowKit

section
variable {w w' : World} {B rb gu gd n : Nat} {p : Pl} {mv : Ck → Value} {st : Sta}
theorem RK.shape (h : RK w B rb gu gd n p mv st) {k : Ck} (hk : Inside n k.1) : ∃ a c, mv k = .slice a (lsOf st k).length c ∧ Msgs w a (lsOf st k).length c (lsOf st k) := by
  obtain ⟨a, N, c, e, hm, -⟩ := (h.bag k hk).msgs
  have := hm.len
  subst this
  exact ⟨a, c, e, hm⟩
theorem RK.at0 (h : RK w B rb gu gd n p mv st) {i : Nat} (hi : i < n) {d : Int} (hd : d = 0 ∨ d = 1) : w.cell? ⟨gwOf gu gd d, i * 2, none⟩ = some (mv (((i : Int), d), false)) := h.cell hi hd false
theorem RK.at1 (h : RK w B rb gu gd n p mv st) {i : Nat} (hi : i < n) {d : Int} (hd : d = 0 ∨ d = 1) : w.cell? ⟨gwOf gu gd d, i * 2 + 1, none⟩ = some (mv (((i : Int), d), true)) := h.cell hi hd true
end
theorem inside_of {n i : Nat} (hi : i < n) (u : Bool) : Inside n ((i : Int), dirOf u) := ⟨by show (0 : Int) ≤ (i : Int); omega, by show (i : Int) < (n : Int); omega, by cases u; exact .inl rfl; exact .inr rfl⟩
theorem part_or {n : Nat} (q : Int) (u : Bool) : (∃ i : Nat, i < n ∧ q = i ∧ partB n q = true ∧ Inside n (q, dirOf u)) ∨ (partB n q = false ∧ ¬ Inside n (q, dirOf u)) := by
  by_cases h : 0 ≤ q ∧ q < (n : Int)
  · refine .inl ⟨q.toNat, by omega, by omega, decide_eq_true h, h.1, h.2, ?_⟩
    cases u
    · exact .inl rfl
    · exact .inr rfl
  · exact .inr ⟨decide_eq_false h, fun hi => h ⟨hi.1, hi.2.1⟩⟩
theorem updL_out (st : Sta) (e : End) (l : List Msg) : updL st (e, false) l = updE st e (l, (st e).2) := rfl
theorem updL_box (st : Sta) (e : End) (l : List Msg) : updL st (e, true) l = updE st e ((st e).1, l) := rfl
def mvK0 : Ck → Value := fun _ => .slice none 0 0
theorem rowK_zero (d : Int) (n : Nat) : (rowK mvK0 d n).toArray = Array.replicate (2 * n) (.slice none 0 0) := by
  unfold rowK mvK0
  rw [List.map_const', List.length_range, List.toArray_replicate]
theorem lsOf0 (k : Ck) : lsOf st0 k = [] := by
  unfold lsOf st0
  split <;> rfl
theorem RK.made (w : World) (n : Nat) (p : Pl) (hp : p.good) (hn : p.parts = (n : Int)) {g1 g2 : Nat} (h : (g1 = w.heap.size ∧ g2 = w.heap.size + 1) ∨ (g2 = w.heap.size ∧ g1 = w.heap.size + 1)) :
    RK (((w.alloc (.cells (Array.replicate (2 * n) (.slice none 0 0)) 110 (0, 0))).alloc (.cells (Array.replicate (2 * n) (.slice none 0 0)) 110 (0, 0))).alloc (.cells #[.int .i64 p.parts, .int .i64 p.window, .int .i64 p.delay, .slice (some ⟨g1, 0, none⟩) n n, .slice (some ⟨g2, 0, none⟩) n n] 108 (0, 0)))
      w.heap.size (w.heap.size + 2) g1 g2 n p mvK0 st0 := by
  have s0 := heap_alloc_new w (.cells (Array.replicate (2 * n) (.slice none 0 0)) 110 (0, 0))
  have z0 : (w.alloc (.cells (Array.replicate (2 * n) (.slice none 0 0)) 110 (0, 0))).heap.size = w.heap.size + 1 := by simp
  generalize w.alloc (.cells (Array.replicate (2 * n) (.slice none 0 0)) 110 (0, 0)) = wa at s0 z0 ⊢
  have s1 := heap_alloc_new wa (.cells (Array.replicate (2 * n) (.slice none 0 0)) 110 (0, 0))
  have z1 : (wa.alloc (.cells (Array.replicate (2 * n) (.slice none 0 0)) 110 (0, 0))).heap.size = w.heap.size + 2 := by simp [z0]
  have s0' := (heap_alloc_old wa (.cells (Array.replicate (2 * n) (.slice none 0 0)) 110 (0, 0)) (r := w.heap.size) (by omega)).trans s0
  generalize wa.alloc (.cells (Array.replicate (2 * n) (.slice none 0 0)) 110 (0, 0)) = wb at s0' s1 z1 ⊢
  obtain ⟨R, hR⟩ : ∃ R, R = Obj.cells #[.int .i64 p.parts, .int .i64 p.window, .int .i64 p.delay, .slice (some ⟨g1, 0, none⟩) n n, .slice (some ⟨g2, 0, none⟩) n n] 108 (0, 0) := ⟨_, rfl⟩
  rw [← hR]
  have s2 := heap_alloc_new wb R
  have s0'' := (heap_alloc_old wb R (r := w.heap.size) (by omega)).trans s0'
  have s1'' := (heap_alloc_old wb R (r := w.heap.size + 1) (by omega)).trans (z0 ▸ s1)
  rw [z1] at s2
  generalize wb.alloc R = wc at s0'' s1'' s2 ⊢
  rw [hR] at s2
  refine ⟨s2, fun d hd => ?_, fun k _ => by rw [lsOf0]; exact MOwn.nil _ _, fun k _ g hg => (by cases hg), fun k k' _ _ _ g hg => (by cases hg), by omega, hp, hn⟩
  rw [rowK_zero]
  rcases h with ⟨rfl, rfl⟩ | ⟨rfl, rfl⟩ <;> rcases hd with rfl | rfl
  · exact s1''
  · exact s0''
  · exact s0''
  · exact s1''
section
variable {w w' : World} {p : Pl} {n : Nat}
set_option maxHeartbeats 2000000 in
theorem RNew_bad (hp : ¬ p.good) : Calls Tryd.prog 20 #[.int .i64 p.parts, .int .i64 p.window, .int .i64 p.delay] w fun e w' => e = .returned (.tuple #[.pointer none, .int .i64 11]) ∧ Below w.heap.size w w' := by
  have hs := fun w : World => RslotNew_calls (w := w) p
  rw [if_neg hp, if_neg hp] at hs
  obtain ⟨a, b, c⟩ := p
  simp only [Pl.cells, Pl.parts, Pl.window, Pl.delay] at hs ⊢
  have Hs := Lib.hid hs; clear hs hp
  go_enter Tryd.func20, Tryd.ntmps20
  go_wp2_with fail
  refine (Hs.out _).mono ?_
  rintro e w2 ⟨rfl, b2⟩
  have hb := b2.trans (((Below.refl w2.heap.size w2).alloc (Nat.le_refl _) (.cells #[.int .i64 0, .int .i64 0, .int .i64 0] 103)).mono b2.size)
  clear b2
  have HB := Lib.hid hb; clear hb
  go_wp2
  go_ret2
  exact ⟨rfl, HB.out⟩
set_option maxHeartbeats 4000000 in
theorem RNew_good {w0 : World} (hw : Below w0.heap.size w0 w) (hp : p.good) (hn : p.parts = (n : Int)) : Calls Tryd.prog 20 #[.int .i64 p.parts, .int .i64 p.window, .int .i64 p.delay] w fun e w' =>
    ∃ rb F, e = .returned (.tuple #[.pointer (some ⟨rb, 0, none⟩), .int .i64 0]) ∧ Rn w0 w' rb F n p st0 ∧ (∀ k, F k → w.heap.size ≤ k) ∧ Below w.heap.size w w' := by
  have hs := fun w : World => RslotNew_calls (w := w) p
  rw [if_pos hp, if_pos hp] at hs
  have h6 : 1 ≤ n ∧ n ≤ 6 := by obtain ⟨h1, h2, -⟩ := hp; omega
  have hmk : ∀ w : World, (Instr.makeSlice 106 (.int .i64 (n : Int)) (.int .i64 (n : Int))).run Tryd.prog w = .ok (.slice (some ⟨w.heap.size, 0, none⟩) n n) (w.alloc (.cells (Array.replicate (2 * n) (.slice none 0 0)) 110)) := fun w => by
    obtain rfl | rfl | rfl | rfl | rfl | rfl : n = 1 ∨ n = 2 ∨ n = 3 ∨ n = 4 ∨ n = 5 ∨ n = 6 := by omega
    all_goals kernel_rfl
  have hfin : ∀ (wx : World) (g1 g2 : Nat), Below w.heap.size w wx → ((g1 = wx.heap.size ∧ g2 = wx.heap.size + 1) ∨ (g2 = wx.heap.size ∧ g1 = wx.heap.size + 1)) → ∀ wy, wy = ((wx.alloc (.cells (Array.replicate (2 * n) (.slice none 0 0)) 110 (0, 0))).alloc (.cells (Array.replicate (2 * n) (.slice none 0 0)) 110 (0, 0))).alloc (.cells #[.int .i64 p.parts, .int .i64 p.window, .int .i64 p.delay, .slice (some ⟨g1, 0, none⟩) n n, .slice (some ⟨g2, 0, none⟩) n n] 108 (0, 0)) →
      ∃ F, Rn w0 wy (wx.heap.size + 2) F n p st0 ∧ (∀ k, F k → w.heap.size ≤ k) ∧ Below w.heap.size w wy := by
    intro wx g1 g2 hb hg wy hy
    have hm := RK.made wx n p hp hn hg
    rw [← hy] at hm
    have hb2 : Below wx.heap.size wx wy := by rw [hy]; exact (((Below.refl _ _).alloc (Nat.le_refl _) _).alloc (by simp) _).alloc (by simp; omega) _
    have hb3 := hb.trans (hb2.mono hb.size)
    refine ⟨rkfoot (wx.heap.size + 2) g1 g2 n mvK0, ⟨⟨g1, g2, mvK0, hm.mono (Nat.le_trans hw.size hb.size), fun _ h => h⟩, fun k hk => ⟨Nat.le_trans (Nat.le_trans hw.size hb.size) (hm.lt k hk).1, (hm.lt k hk).2⟩, hw.trans (hb3.mono hw.size)⟩, fun k hk => Nat.le_trans hb.size (hm.lt k hk).1, hb3⟩
  obtain ⟨a, b, c⟩ := p
  simp only [Pl.cells, Pl.parts, Pl.window, Pl.delay] at hs hfin hn ⊢
  subst hn
  have Hs := Lib.hid hs; clear hs hp
  have Hfin := Lib.hid hfin; clear hfin
  go_enter Tryd.func20, Tryd.ntmps20
  go_wp2_with fail
  refine (Hs.out _).mono ?_
  rintro e w2 ⟨rfl, b2⟩
  have b3 : Below w2.heap.size w2 (w2.alloc (.cells #[.int .i64 (n : Int), .int .i64 b, .int .i64 c] 103)) := (Below.refl _ _).alloc (Nat.le_refl _) _
  have z3 := heap_alloc_new w2 (.cells #[.int .i64 (n : Int), .int .i64 b, .int .i64 c] 103)
  obtain ⟨w3, hw3⟩ : ∃ w3, w3 = w2.alloc (.cells #[.int .i64 (n : Int), .int .i64 b, .int .i64 c] 103) := ⟨_, rfl⟩
  rw [← hw3] at b3 z3
  have hb3 := b2.trans (b3.mono b2.size)
  clear b2 b3
  have HB := Lib.hid hb3; clear hb3
  have hz3 : w2.heap.size < w3.heap.size := (Array.getElem?_eq_some_iff.1 z3).1
  have y0 := cells_at z3 0
  have y1 := cells_at z3 1
  have y2 := cells_at z3 2
  go_wp2_with fail
  rw [← hw3]
  clear hw3
  generalize w2.heap.size = g2' at *
  go_region
  all_goals
    go_wp2
    go_ret2
    first
      | (obtain ⟨F, h1, h2, h3⟩ := Hfin.out w3.drew w3.heap.size (w3.heap.size + 1) (HB.out.trans ((below_drew w3).mono HB.out.size)) (.inl ⟨rfl, rfl⟩) _ rfl
         refine ⟨_, F, ?_, h1, h2, h3⟩
         simp)
      | (obtain ⟨F, h1, h2, h3⟩ := Hfin.out w3.drew (w3.heap.size + 1) w3.heap.size (HB.out.trans ((below_drew w3).mono HB.out.size)) (.inr ⟨rfl, rfl⟩) _ rfl
         refine ⟨_, F, ?_, h1, h2, h3⟩
         simp)
end
section
variable {w0 w w' : World} {rb n : Nat} {F : Nat → Prop} {p : Pl} {st : Sta}
set_option maxHeartbeats 2000000 in
theorem Out_rn (h : Rn w0 w rb F n p st) (q : Int) (u : Bool) : Calls Tryd.prog 23 #[.pointer (some ⟨rb, 0, none⟩), .int .i64 q, .bool u] w fun e w' =>
    ∃ v, e = .returned v ∧ MOwn w' w0.heap.size v (outK n st (q, dirOf u)).1 ∧ (∀ g, v.ownBlock = some g → F g) ∧ Rn w0 w' rb (grownF F w w') n p (outK n st (q, dirOf u)).2 ∧ Mod F w w' := by
  obtain ⟨gu, gd, mv, h1, h2⟩ := h.is
  have hpt := rpart_calls h1 q
  have r3 := cells_at h1.root 3
  have r4 := cells_at h1.root 4
  rcases part_or (n := n) q u with ⟨i, hi, rfl, hp, hin⟩ | ⟨hp, hin⟩
  · rw [hp] at hpt
    have hres : ∃ v, mv (((i : Int), dirOf u), false) = v ∧ MOwn (w.setCell ⟨gwOf gu gd (dirOf u), i * 2, none⟩ (.slice none 0 0)) w0.heap.size v (outK n st ((i : Int), dirOf u)).1 ∧ (∀ g, v.ownBlock = some g → F g) ∧
        Rn w0 (w.setCell ⟨gwOf gu gd (dirOf u), i * 2, none⟩ (.slice none 0 0)) rb (grownF F w (w.setCell ⟨gwOf gu gd (dirOf u), i * 2, none⟩ (.slice none 0 0))) n p (outK n st ((i : Int), dirOf u)).2 ∧ Mod F w (w.setCell ⟨gwOf gu gd (dirOf u), i * 2, none⟩ (.slice none 0 0)) := by
      have hd : dirOf u = 0 ∨ dirOf u = 1 := by cases u; exact .inl rfl; exact .inr rfl
      obtain ⟨t1, t2, t3⟩ := h1.turn hi hd false (v' := .slice none 0 0) (l' := []) (Mod.refl _ w) (MOwn.nil _ _) (fun g hg => by cases hg)
      have e2 : (outK n st ((i : Int), dirOf u)) = ((st ((i : Int), dirOf u)).1, updE st ((i : Int), dirOf u) ([], (st ((i : Int), dirOf u)).2)) := if_pos hin
      rw [e2]
      obtain ⟨k1, k2⟩ := h.after h2 t1 t2 t3
      refine ⟨_, rfl, ?_, fun g hg => h2 g (.inr (.inr (.inr ⟨_, hin, hg⟩))), k1, k2⟩
      refine (h1.bag (((i : Int), dirOf u), false) hin).keep fun g hg _ => heap_setCell_other w _ g _ fun e => ?_
      have := h1.own _ hin g hg
      have e : g = gwOf gu gd (dirOf u) := e
      unfold gwOf at e
      split at e <;> omega
    have hcu := h1.at0 hi (d := 1) (.inr rfl)
    have hcd := h1.at0 hi (d := 0) (.inl rfl)
    have fu := frozen_of_row w _ (i * 2) _ _ (h1.row 1 (.inr rfl))
    have fd := frozen_of_row w _ (i * 2) _ _ (h1.row 0 (.inl rfl))
    obtain ⟨ua, uc, eu, -⟩ := h1.shape (k := (((i : Int), (1 : Int)), false)) (inside_of hi true)
    obtain ⟨da, dc, ed, -⟩ := h1.shape (k := (((i : Int), (0 : Int)), false)) (inside_of hi false)
    have i1 : (0 : Int) ≤ (i : Int) := by omega
    have i2 : (i : Int) < (n : Int) := by omega
    obtain ⟨v, ev, hres⟩ := hres
    have Hpt := Lib.hid hpt; clear hpt
    have Hres := Lib.hid hres; clear hres
    rw [eu] at hcu
    rw [ed] at hcd
    have hgu : gwOf gu gd 1 = gu := rfl
    have hgd : gwOf gu gd 0 = gd := rfl
    rw [hgu] at hcu fu
    rw [hgd] at hcd fd
    clear hgu hgd h1 h2 h hp hin
    cases u with
    | false =>
      have e1 : mv (((i : Int), dirOf false), false) = mv (((i : Int), (0 : Int)), false) := rfl
      rw [e1, ed] at ev
      subst ev
      have HR : Hid (MOwn (w.setCell ⟨gd, i * 2, none⟩ (.slice none 0 0)) w0.heap.size (.slice da (lsOf st (((i : Int), (0 : Int)), false)).length dc) (outK n st ((i : Int), dirOf false)).1 ∧ (∀ g, (Value.slice da (lsOf st (((i : Int), (0 : Int)), false)).length dc).ownBlock = some g → F g) ∧
        Rn w0 (w.setCell ⟨gd, i * 2, none⟩ (.slice none 0 0)) rb (grownF F w (w.setCell ⟨gd, i * 2, none⟩ (.slice none 0 0))) n p (outK n st ((i : Int), dirOf false)).2 ∧ Mod F w (w.setCell ⟨gd, i * 2, none⟩ (.slice none 0 0))) := Hres
      clear Hres e1 eu ed
      generalize (lsOf st (((i : Int), (0 : Int)), false)).length = LD at *
      generalize (lsOf st (((i : Int), (1 : Int)), false)).length = LU at *
      go_enter Tryd.func23, Tryd.ntmps23
      go_wp2_with fail
      refine Hpt.out.mono ?_
      rintro e w1 ⟨rfl, rfl⟩
      go_wp2
      go_ret
      exact ⟨_, rfl, HR.out⟩
    | true =>
      have e1 : mv (((i : Int), dirOf true), false) = mv (((i : Int), (1 : Int)), false) := rfl
      rw [e1, eu] at ev
      subst ev
      have HR : Hid (MOwn (w.setCell ⟨gu, i * 2, none⟩ (.slice none 0 0)) w0.heap.size (.slice ua (lsOf st (((i : Int), (1 : Int)), false)).length uc) (outK n st ((i : Int), dirOf true)).1 ∧ (∀ g, (Value.slice ua (lsOf st (((i : Int), (1 : Int)), false)).length uc).ownBlock = some g → F g) ∧
        Rn w0 (w.setCell ⟨gu, i * 2, none⟩ (.slice none 0 0)) rb (grownF F w (w.setCell ⟨gu, i * 2, none⟩ (.slice none 0 0))) n p (outK n st ((i : Int), dirOf true)).2 ∧ Mod F w (w.setCell ⟨gu, i * 2, none⟩ (.slice none 0 0))) := Hres
      clear Hres e1 eu ed
      generalize (lsOf st (((i : Int), (0 : Int)), false)).length = LD at *
      generalize (lsOf st (((i : Int), (1 : Int)), false)).length = LU at *
      go_enter Tryd.func23, Tryd.ntmps23
      go_wp2_with fail
      refine Hpt.out.mono ?_
      rintro e w1 ⟨rfl, rfl⟩
      go_wp2
      go_ret
      exact ⟨_, rfl, HR.out⟩
  · rw [hp] at hpt
    have e2 : (outK n st (q, dirOf u)) = ([], st) := if_neg hin
    rw [e2]
    have hs := h.same (Below.refl _ _)
    have Hs := Lib.hid hs; clear hs
    have Hpt := Lib.hid hpt; clear hpt h h1 h2 hin hp e2 r3 r4
    go_enter Tryd.func23, Tryd.ntmps23
    go_wp2_with fail
    refine Hpt.out.mono ?_
    rintro e w1 ⟨rfl, rfl⟩
    go_wp2
    go_ret
    exact ⟨_, rfl, MOwn.nil _ _, (fun g hg => by cases hg), Hs.out⟩
set_option maxHeartbeats 2000000 in
theorem Box_rn (h : Rn w0 w rb F n p st) (q : Int) (u : Bool) : Calls Tryd.prog 30 #[.pointer (some ⟨rb, 0, none⟩), .int .i64 q, .bool u] w fun e w' =>
    ∃ a c, e = .returned (.slice a (boxK n st (q, dirOf u)).length c) ∧ Msgs w a (boxK n st (q, dirOf u)).length c (boxK n st (q, dirOf u)) ∧ w' = w := by
  obtain ⟨gu, gd, mv, h1, h2⟩ := h.is
  have hpt := rpart_calls h1 q
  have r3 := cells_at h1.root 3
  have r4 := cells_at h1.root 4
  rcases part_or (n := n) q u with ⟨i, hi, rfl, hp, hin⟩ | ⟨hp, hin⟩
  · rw [hp] at hpt
    have e2 : boxK n st ((i : Int), dirOf u) = (st ((i : Int), dirOf u)).2 := if_pos hin
    rw [e2]
    have hcu := h1.at1 hi (d := 1) (.inr rfl)
    have hcd := h1.at1 hi (d := 0) (.inl rfl)
    obtain ⟨ua, uc, eu, mu⟩ := h1.shape (k := (((i : Int), (1 : Int)), true)) (inside_of hi true)
    obtain ⟨da, dc, ed, md⟩ := h1.shape (k := (((i : Int), (0 : Int)), true)) (inside_of hi false)
    have i1 : (0 : Int) ≤ (i : Int) := by omega
    have i2 : (i : Int) < (n : Int) := by omega
    have Hpt := Lib.hid hpt; clear hpt
    rw [eu] at hcu
    rw [ed] at hcd
    have hgu : gwOf gu gd 1 = gu := rfl
    have hgd : gwOf gu gd 0 = gd := rfl
    rw [hgu] at hcu
    rw [hgd] at hcd
    have lu : lsOf st (((i : Int), (1 : Int)), true) = (st ((i : Int), dirOf true)).2 := rfl
    have ld : lsOf st (((i : Int), (0 : Int)), true) = (st ((i : Int), dirOf false)).2 := rfl
    rw [lu] at hcu mu
    rw [ld] at hcd md
    have Mu := Lib.hid mu; clear mu
    have Md := Lib.hid md; clear md
    clear hgu hgd h1 h2 h hp hin eu ed lu ld e2
    cases u with
    | false =>
      generalize (st ((i : Int), dirOf true)).2 = XU at *
      generalize (st ((i : Int), dirOf false)).2 = XD at *
      go_enter Tryd.func30, Tryd.ntmps30
      go_wp2_with fail
      refine Hpt.out.mono ?_
      rintro e w1 ⟨rfl, rfl⟩
      go_wp2
      go_ret
      exact ⟨_, _, rfl, Md.out, rfl⟩
    | true =>
      generalize (st ((i : Int), dirOf true)).2 = XU at *
      generalize (st ((i : Int), dirOf false)).2 = XD at *
      go_enter Tryd.func30, Tryd.ntmps30
      go_wp2_with fail
      refine Hpt.out.mono ?_
      rintro e w1 ⟨rfl, rfl⟩
      go_wp2
      go_ret
      exact ⟨_, _, rfl, Mu.out, rfl⟩
  · rw [hp] at hpt
    have e2 : boxK n st (q, dirOf u) = [] := if_neg hin
    rw [e2]
    have Hpt := Lib.hid hpt; clear hpt h h1 h2 hin hp e2 r3 r4
    go_enter Tryd.func30, Tryd.ntmps30
    go_wp2_with fail
    refine Hpt.out.mono ?_
    rintro e w1 ⟨rfl, rfl⟩
    go_wp2
    go_ret
    exact ⟨_, _, rfl, Msgs.none0 (by decide), rfl⟩
end
end Go.Proofs.YtclgakdfeeefiaaDoor
/- The document's kernel: Carry, Send. -/
namespace Go.Proofs.YtclgakdfeeefiaaDoor
open Go.RowKit

section
variable {w0 w w' w8 w9 : World} {rb n : Nat} {F : Nat → Prop} {p : Pl} {st : Sta}
/-- A row has grown, and its cell is stored. -/
theorem Rn.grow (h : Rn w0 w rb F n p st) {gu gd : Nat} {mv : Ck → Value} (h1 : RK w w0.heap.size rb gu gd n p mv st) (h2 : ∀ x, rkfoot rb gu gd n mv x → F x) {i : Nat} (hi : i < n) {d : Int} (hd : d = 0 ∨ d = 1) (b : Bool) {v' : Value} {l' : List Msg}
    (hb : Below w.heap.size w w8) (hg : w8.grownBy w9 (mv (((i : Int), d), b)).ownBlock) (ho : MOwn w9 w0.heap.size v' l') (hw : v'.ownBlock = (mv (((i : Int), d), b)).ownBlock ∨ v'.ownBlock = some w8.heap.size) :
    Rn w0 (w9.setCell ⟨gwOf gu gd d, i * 2 + bitOf b, none⟩ v') rb (grownF F w (w9.setCell ⟨gwOf gu gd d, i * 2 + bitOf b, none⟩ v')) n p (updL st (((i : Int), d), b) l') ∧ Mod F w (w9.setCell ⟨gwOf gu gd d, i * 2 + bitOf b, none⟩ v') := by
  have hm : Mod (fun x => (mv (((i : Int), d), b)).ownBlock = some x) w w9 := (Mod.of_below (F := fun x => (mv (((i : Int), d), b)).ownBlock = some x) hb).trans (Mod.of_grown hg fun _ h => h) (fun _ h => h) fun _ _ h => h
  obtain ⟨t1, t2, t3⟩ := h1.turn hi hd b hm ho fun g hgo => by
    rcases hw with e | e
    · rw [e] at hgo; exact .inl hgo
    · rw [e] at hgo
      have : w8.heap.size = g := by injection hgo
      have := hb.size
      exact .inr (by omega)
  exact h.after h2 t1 t2 t3
/-- What stands at a cell behind a row's growth. -/
theorem RK.still {B gu gd : Nat} {mv : Ck → Value} (h1 : RK w B rb gu gd n p mv st) {i : Nat} (hi : i < n) {d : Int} (hd : d = 0 ∨ d = 1) (b : Bool) (hb : Below w.heap.size w w8) (hg : w8.grownBy w9 (mv (((i : Int), d), b)).ownBlock) :
    w9.cell? ⟨gwOf gu gd d, i * 2 + bitOf b, none⟩ = some (mv (((i : Int), d), b)) ∧ w9.frozen? ⟨gwOf gu gd d, i * 2 + bitOf b, none⟩ = false := by
  have hr := h1.row d hd
  have hl := (Array.getElem?_eq_some_iff.1 hr).1
  have hin : Inside n ((((i : Int), d), b) : Ck).1 := ⟨by show (0 : Int) ≤ (i : Int); omega, by show (i : Int) < (n : Int); omega, hd⟩
  have hr9 := (hg.block _ (Nat.lt_of_lt_of_le hl hb.size) fun e => by
    have := h1.own _ hin _ e.symm
    unfold gwOf at this
    split at this <;> omega).trans ((hb.block _ hl).trans hr)
  refine ⟨?_, frozen_of_row w9 _ _ _ _ hr9⟩
  rw [cells_at hr9 _, List.getElem?_toArray, rowK_at _ _ (by cases b <;> simp [bitOf] <;> omega), keyK_of]
set_option maxRecDepth 100000 in
set_option maxHeartbeats 8000000 in
theorem Carry_rn (h : Rn w0 w rb F n p st) (q : Int) (u : Bool) (m : Msg) : Calls Tryd.prog 24 #[.pointer (some ⟨rb, 0, none⟩), .int .i64 q, .bool u, .agg m.cells.toArray] w fun e w' =>
    e = .returned (.bool (carryK n st (q, dirOf u) m).1) ∧ Rn w0 w' rb (grownF F w w') n p (carryK n st (q, dirOf u) m).2 ∧ Mod F w w' := by
  obtain ⟨gu, gd, mv, h1, h2⟩ := h.is
  obtain ⟨w1, hw1⟩ : ∃ w1, w1 = w.alloc (.cells m.cells.toArray 39) := ⟨_, rfl⟩
  have c1 : Below w.heap.size w w1 := by rw [hw1]; exact (Below.refl _ _).alloc (Nat.le_refl _) _
  have z1 : w1.heap[w.heap.size]? = some (.cells m.cells.toArray 39 (0, 0)) := by rw [hw1]; exact heap_alloc_new w _
  have hpt := rpart_calls (h1.below c1) q
  have hfi := fun w : World => rfits_calls (w := w) q u m
  have H0 := Lib.hid h; clear h
  have C1 := Lib.hid c1; clear c1
  rcases part_or (n := n) q u with ⟨i, hi, rfl, hp, hin⟩ | ⟨hp, hin⟩
  case inr =>
    rw [hp] at hpt
    rw [show carryK n st (q, dirOf u) m = (false, st) from if_neg fun h => hin h.1]
    have Hpt := Lib.hid hpt; clear hpt hin hp h1 h2
    obtain ⟨k, pa, t, x⟩ := m
    simp only [Msg.cells, Msg.kind, Msg.part, Msg.tx, Msg.what] at hw1 z1 hfi ⊢
    have Z1 := Lib.hid z1; clear z1
    have Hfi := Lib.hid hfi; clear hfi
    go_enter Tryd.func24, Tryd.ntmps24
    go_wp2_with fail
    rw [← hw1]
    clear hw1
    refine Hpt.out.mono ?_
    rintro e w2 ⟨rfl, rfl⟩
    have hs := H0.out.same C1.out
    have HS := Lib.hid hs; clear hs
    go_wp2
    go_ret
    exact ⟨rfl, HS.out⟩
  case inl =>
  rw [hp] at hpt
  cases hf : fitsOf ((i : Int), dirOf u) m with
  | false =>
    rw [hf] at hfi
    rw [show carryK n st ((i : Int), dirOf u) m = (false, st) from if_neg (by rw [hf]; rintro ⟨-, h⟩; cases h)]
    have Hpt := Lib.hid hpt; clear hpt hin hp h1 h2 hf
    obtain ⟨k, pa, t, x⟩ := m
    simp only [Msg.cells, Msg.kind, Msg.part, Msg.tx, Msg.what] at hw1 z1 hfi ⊢
    have Z1 := Lib.hid z1; clear z1
    have Hfi := Lib.hid hfi; clear hfi
    go_enter Tryd.func24, Tryd.ntmps24
    go_wp2_with fail
    rw [← hw1]
    clear hw1
    refine Hpt.out.mono ?_
    rintro e w2 ⟨rfl, rfl⟩
    have m0 := cells_at Z1.out 0
    have m1 := cells_at Z1.out 1
    have m2 := cells_at Z1.out 2
    have m3 := cells_at Z1.out 3
    go_wp2_with fail
    clear m0 m1 m2 m3
    refine (Hfi.out _).mono ?_
    rintro e w3 ⟨rfl, b3⟩
    have hs := H0.out.same (C1.out.trans (b3.mono C1.out.size))
    clear b3
    have HS := Lib.hid hs; clear hs
    go_wp2
    go_ret
    exact ⟨rfl, HS.out⟩
  | true =>
  rw [hf] at hfi
  rw [show carryK n st ((i : Int), dirOf u) m = (decide ((st ((i : Int), dirOf u)).2.length < 8), updE st ((i : Int), dirOf u) ((st ((i : Int), dirOf u)).1, carryOf (st ((i : Int), dirOf u)).2 m)) from if_pos ⟨hin, hf⟩]
  obtain ⟨va, vc, hev, hvm⟩ := h1.shape (k := (((i : Int), dirOf u), true)) hin
  have hls : lsOf st (((i : Int), dirOf u), true) = (st ((i : Int), dirOf u)).2 := rfl
  rw [hls] at hev hvm
  obtain ⟨ms, hms⟩ : ∃ ms, ms = (st ((i : Int), dirOf u)).2 := ⟨_, rfl⟩
  rw [← hms] at hev hvm hls ⊢
  obtain ⟨L, hL⟩ : ∃ L, L = ms.length := ⟨_, rfl⟩
  rw [← hL] at hev ⊢
  have i1 : (0 : Int) ≤ (i : Int) := by omega
  have i2 : (i : Int) < (n : Int) := by omega
  have H1 := Lib.hid h1; clear h1
  have H2 := Lib.hid h2; clear h2
  have Hms := Lib.hid hls; clear hls hvm hms
  have HL := Lib.hid hL; clear hL
  have Hev := Lib.hid hev; clear hev
  have Hpt := Lib.hid hpt; clear hpt hin hp hf
  by_cases h8 : L < 8
  case neg =>
    have e8 : decide ((8 : Int) ≤ (L : Int)) = true := decide_eq_true (by omega)
    rw [decide_eq_false h8, show carryOf ms m = ms from if_neg (by rw [← HL.out]; exact h8)]
    have hup : updE st ((i : Int), dirOf u) ((st ((i : Int), dirOf u)).1, ms) = st := by
      funext y
      by_cases hy : y = ((i : Int), dirOf u)
      · rw [hy, updE_same, ← Hms.out]; rfl
      · rw [updE_other _ _ hy]
    rw [hup]
    clear hup h8
    cases u with
    | false =>
      obtain ⟨k, pa, t, x⟩ := m
      simp only [Msg.cells, Msg.kind, Msg.part, Msg.tx, Msg.what] at hw1 z1 hfi ⊢
      have Z1 := Lib.hid z1; clear z1
      have Hfi := Lib.hid hfi; clear hfi
      go_enter Tryd.func24, Tryd.ntmps24
      go_wp2_with fail
      rw [← hw1]
      clear hw1
      refine Hpt.out.mono ?_
      rintro e w2 ⟨rfl, rfl⟩
      have m0 := cells_at Z1.out 0
      have m1 := cells_at Z1.out 1
      have m2 := cells_at Z1.out 2
      have m3 := cells_at Z1.out 3
      go_wp2_with fail
      clear m0 m1 m2 m3
      refine (Hfi.out _).mono ?_
      rintro e w3 ⟨rfl, b3⟩
      have hb3 := C1.out.trans (b3.mono C1.out.size)
      have z3 := (b3.block _ (Array.getElem?_eq_some_iff.1 Z1.out).1).trans Z1.out
      clear b3
      have h3 := H1.out.below hb3
      have rr : w3.cell? ⟨rb, 4, none⟩ = some (.slice (some ⟨gd, 0, none⟩) n n) := cells_at h3.root 4
      have cc := h3.at1 hi (d := 0) (.inl rfl)
      have ev : mv (((i : Int), (0 : Int)), true) = .slice va L vc := Hev.out
      rw [ev, show gwOf gu gd 0 = gd from rfl] at cc
      clear h3
      clear ev z3
      have hs := H0.out.same hb3
      clear hb3
      have HS := Lib.hid hs; clear hs
      go_wp2
      go_ret
      exact ⟨rfl, HS.out⟩
    | true =>
      obtain ⟨k, pa, t, x⟩ := m
      simp only [Msg.cells, Msg.kind, Msg.part, Msg.tx, Msg.what] at hw1 z1 hfi ⊢
      have Z1 := Lib.hid z1; clear z1
      have Hfi := Lib.hid hfi; clear hfi
      go_enter Tryd.func24, Tryd.ntmps24
      go_wp2_with fail
      rw [← hw1]
      clear hw1
      refine Hpt.out.mono ?_
      rintro e w2 ⟨rfl, rfl⟩
      have m0 := cells_at Z1.out 0
      have m1 := cells_at Z1.out 1
      have m2 := cells_at Z1.out 2
      have m3 := cells_at Z1.out 3
      go_wp2_with fail
      clear m0 m1 m2 m3
      refine (Hfi.out _).mono ?_
      rintro e w3 ⟨rfl, b3⟩
      have hb3 := C1.out.trans (b3.mono C1.out.size)
      have z3 := (b3.block _ (Array.getElem?_eq_some_iff.1 Z1.out).1).trans Z1.out
      clear b3
      have h3 := H1.out.below hb3
      have rr : w3.cell? ⟨rb, 3, none⟩ = some (.slice (some ⟨gu, 0, none⟩) n n) := cells_at h3.root 3
      have cc := h3.at1 hi (d := 1) (.inr rfl)
      have ev : mv (((i : Int), (1 : Int)), true) = .slice va L vc := Hev.out
      rw [ev, show gwOf gu gd 1 = gu from rfl] at cc
      clear h3
      clear ev z3
      have hs := H0.out.same hb3
      clear hb3
      have HS := Lib.hid hs; clear hs
      go_wp2
      go_ret
      exact ⟨rfl, HS.out⟩
  case pos =>
    have e8 : decide ((8 : Int) ≤ (L : Int)) = false := decide_eq_false (by omega)
    rw [decide_eq_true h8, show carryOf ms m = ms ++ [m] from if_pos (by rw [← HL.out]; exact h8)]
    cases u with
    | false =>
      obtain ⟨k, pa, t, x⟩ := m
      simp only [Msg.cells, Msg.kind, Msg.part, Msg.tx, Msg.what] at hw1 z1 hfi ⊢
      have Z1 := Lib.hid z1; clear z1
      have Hfi := Lib.hid hfi; clear hfi
      go_enter Tryd.func24, Tryd.ntmps24
      go_wp2_with fail
      rw [← hw1]
      clear hw1
      refine Hpt.out.mono ?_
      rintro e w2 ⟨rfl, rfl⟩
      have m0 := cells_at Z1.out 0
      have m1 := cells_at Z1.out 1
      have m2 := cells_at Z1.out 2
      have m3 := cells_at Z1.out 3
      go_wp2_with fail
      clear m0 m1 m2 m3
      refine (Hfi.out _).mono ?_
      rintro e w3 ⟨rfl, b3⟩
      have hb3 := C1.out.trans (b3.mono C1.out.size)
      have z3 := (b3.block _ (Array.getElem?_eq_some_iff.1 Z1.out).1).trans Z1.out
      clear b3
      have h3 := H1.out.below hb3
      have rr : w3.cell? ⟨rb, 4, none⟩ = some (.slice (some ⟨gd, 0, none⟩) n n) := cells_at h3.root 4
      have cc := h3.at1 hi (d := 0) (.inl rfl)
      have ev : mv (((i : Int), (0 : Int)), true) = .slice va L vc := Hev.out
      rw [ev, show gwOf gu gd 0 = gd from rfl] at cc
      clear h3
      have HB := Lib.hid hb3; clear hb3
      have ZM := Lib.hid z3; clear z3
      clear Hev
      have Hev := Lib.hid ev; clear ev
      replace Hms : Hid (lsOf st (((i : Int), (0 : Int)), true) = ms) := Hms
      go_wp2_with fail
      clear rr cc
      have hcc := (H1.out.below HB.out).at1 hi (d := 0) (.inl rfl)
      rw [Hev.out, show gwOf gu gd 0 = gd from rfl] at hcc
      have hrr := cells_at (H1.out.below HB.out).root 4
      have hss : w3.cell? ⟨rb, 4, none⟩ = some (.slice (some ⟨gd, 0, none⟩) n n) ∧ w3.cell? ⟨gd, i * 2 + 1, none⟩ = some (.slice va L vc) ∧ w3.heap[w.heap.size]? = some (.cells #[.int .i64 k, .int .i64 pa, .int .i64 t, .int .i64 x] 39 (0, 0)) := ⟨hrr, hcc, ZM.out⟩
      clear hcc hrr
      obtain ⟨S, hS⟩ : ∃ S : World → Prop, S = fun w' => w'.cell? ⟨rb, 4, none⟩ = some (.slice (some ⟨gd, 0, none⟩) n n) ∧ w'.cell? ⟨gd, i * 2 + 1, none⟩ = some (.slice va L vc) ∧ w'.heap[w.heap.size]? = some (.cells #[.int .i64 k, .int .i64 pa, .int .i64 t, .int .i64 x] 39 (0, 0)) := ⟨_, rfl⟩
      have hstep : ∀ wa wz, S wa → Below wa.heap.size wa wz → S wz := fun wa wz h hb => by
        rw [hS] at h ⊢
        exact ⟨(hb.cell (World.block_lt_of_cell? _ _ h.1)).trans h.1, (hb.cell (World.block_lt_of_cell? _ _ h.2.1)).trans h.2.1, (hb.block _ (Array.getElem?_eq_some_iff.1 h.2.2).1).trans h.2.2⟩
      have s0 : S w3.drew := hstep w3 _ (by rw [hS]; exact hss) (below_drew _)
      clear hss
      refine wp_region_held S [0, 1, 2, 3, 4, 5, 6, 7, 8, 9, 10, 11, 12, 13] [[14], [15], [16, 17, 18]] (by kernel_rfl) (by kernel_rfl) rfl (by kernel_rfl) (fun _ _ _ h => by obtain ⟨_, h, _⟩ := h; cases h) (fun _ _ h => by obtain ⟨h, _⟩ := h; cases h) s0 (by kernel_rfl) ?_
      have b3 := below_drew w3
      generalize w3.drew = w3 at b3 s0 ⊢
      have hb3 := HB.out.trans (b3.mono HB.out.size)
      have HB3 := Lib.hid hb3; clear hb3 b3
      have HS0 := Lib.hid s0; clear s0
      have HSd := Lib.hid hS; clear hS
      have HSt := Lib.hid hstep; clear hstep
      apply Exists.intro
      apply And.intro
      · intro w' s
        rw [HSd.out] at s
        obtain ⟨rr, cc, zm⟩ := s
        have m0 := cells_at zm 0
        have m1 := cells_at zm 1
        have m2 := cells_at zm 2
        have m3 := cells_at zm 3
        clear zm
        simp only [List.map_cons, List.map_nil, List.getD_cons_zero, List.getD_cons_succ]
        go_wp2_with fail
        exact pre_end
      simp only [List.map_cons, List.map_nil, List.getD_cons_zero, List.getD_cons_succ]
      refine segs_more ?_
      go_wp2_with fail
      have x8 := heap_alloc_new w3 (.cells #[.int .i64 k, .int .i64 pa, .int .i64 t, .int .i64 x] 39)
      have b8 : Below w3.heap.size w3 (w3.alloc (.cells #[.int .i64 k, .int .i64 pa, .int .i64 t, .int .i64 x] 39)) := (Below.refl _ _).alloc (Nat.le_refl _) _
      have s8 := HSt.out _ _ HS0.out b8
      generalize w3.alloc (.cells #[.int .i64 k, .int .i64 pa, .int .i64 t, .int .i64 x] 39) = w8 at x8 b8 s8 ⊢
      generalize w3.heap.size = g8 at x8 ⊢
      have hb8 := HB3.out.trans (b8.mono HB3.out.size)
      refine seg_end s8 (segs_more ?_)
      go_wp2_with (with_reducible refine stop_builtin .append ?_)
      refine unpark ?_
      have own8 := (H1.out.below hb8).bag (((i : Int), 0), true) (inside_of hi false)
      rw [Hev.out, Hms.out] at own8
      refine wpList_append_msgs w8 rfl _ _ rfl w0.heap.size (.slice va L vc) ms rfl own8 g8 0 1 1 [(k, pa, t, x)] rfl rfl (by decide) (fun j u hu => by rw [Nat.zero_add, cells_at x8 j, List.getElem?_toArray]; exact hu) (by rw [← HL.out]; omega) (Nat.le_trans H0.out.bel.size hb8.size) ?_
      intro v' w9 own9 g9 hv9
      rw [← Hev.out] at g9 hv9
      obtain ⟨cs, fs⟩ := H1.out.still hi (.inl rfl) true hb8 g9
      obtain ⟨hrn, hmo⟩ := H0.out.grow H1.out H2.out hi (.inl rfl) true hb8 g9 own9 hv9
      rw [Hev.out, show gwOf gu gd 0 = gd from rfl] at cs
      rw [show gwOf gu gd 0 = gd from rfl] at fs hrn hmo
      rw [show bitOf true = 1 from rfl] at cs fs hrn hmo
      obtain ⟨va9, k9, vc9, e9, hm9, -⟩ := own9.msgs
      obtain rfl := hm9.len
      subst e9
      have s9 : S w9 := by
        have h8 := s8
        rw [HSd.out] at h8 ⊢
        have hown := H1.out.own (((i : Int), (0 : Int)), true) (inside_of hi false)
        refine ⟨((World.cell?_of_block (g9.block rb (World.block_lt_of_cell? _ _ h8.1) fun e => ?_)).trans h8.1), cs, (g9.block _ (Array.getElem?_eq_some_iff.1 h8.2.2).1 fun e => ?_).trans h8.2.2⟩
        · exact (hown rb e.symm).1 rfl
        · have := (World.ownsRow.lt (H1.out.bag (((i : Int), (0 : Int)), true) (inside_of hi false)) _ e.symm).2
          omega
      clear x8 b8 hb8 own8 own9 g9 hv9 hm9 HB3 s8
      generalize (ms ++ [(k, pa, t, x)]).length = L9 at *
      refine seg_end s9 (segs_last ?_)
      clear s9 HSt HSd HS0
      have HRn := Lib.hid (And.intro hrn hmo); clear hrn hmo
      go_wp2
      go_ret
      exact ⟨rfl, HRn.out⟩
    | true =>
      obtain ⟨k, pa, t, x⟩ := m
      simp only [Msg.cells, Msg.kind, Msg.part, Msg.tx, Msg.what] at hw1 z1 hfi ⊢
      have Z1 := Lib.hid z1; clear z1
      have Hfi := Lib.hid hfi; clear hfi
      go_enter Tryd.func24, Tryd.ntmps24
      go_wp2_with fail
      rw [← hw1]
      clear hw1
      refine Hpt.out.mono ?_
      rintro e w2 ⟨rfl, rfl⟩
      have m0 := cells_at Z1.out 0
      have m1 := cells_at Z1.out 1
      have m2 := cells_at Z1.out 2
      have m3 := cells_at Z1.out 3
      go_wp2_with fail
      clear m0 m1 m2 m3
      refine (Hfi.out _).mono ?_
      rintro e w3 ⟨rfl, b3⟩
      have hb3 := C1.out.trans (b3.mono C1.out.size)
      have z3 := (b3.block _ (Array.getElem?_eq_some_iff.1 Z1.out).1).trans Z1.out
      clear b3
      have h3 := H1.out.below hb3
      have rr : w3.cell? ⟨rb, 3, none⟩ = some (.slice (some ⟨gu, 0, none⟩) n n) := cells_at h3.root 3
      have cc := h3.at1 hi (d := 1) (.inr rfl)
      have ev : mv (((i : Int), (1 : Int)), true) = .slice va L vc := Hev.out
      rw [ev, show gwOf gu gd 1 = gu from rfl] at cc
      clear h3
      have HB := Lib.hid hb3; clear hb3
      have ZM := Lib.hid z3; clear z3
      clear Hev
      have Hev := Lib.hid ev; clear ev
      replace Hms : Hid (lsOf st (((i : Int), (1 : Int)), true) = ms) := Hms
      go_wp2_with fail
      clear rr cc
      have hcc := (H1.out.below HB.out).at1 hi (d := 1) (.inr rfl)
      rw [Hev.out, show gwOf gu gd 1 = gu from rfl] at hcc
      have hrr := cells_at (H1.out.below HB.out).root 3
      have hss : w3.cell? ⟨rb, 3, none⟩ = some (.slice (some ⟨gu, 0, none⟩) n n) ∧ w3.cell? ⟨gu, i * 2 + 1, none⟩ = some (.slice va L vc) ∧ w3.heap[w.heap.size]? = some (.cells #[.int .i64 k, .int .i64 pa, .int .i64 t, .int .i64 x] 39 (0, 0)) := ⟨hrr, hcc, ZM.out⟩
      clear hcc hrr
      obtain ⟨S, hS⟩ : ∃ S : World → Prop, S = fun w' => w'.cell? ⟨rb, 3, none⟩ = some (.slice (some ⟨gu, 0, none⟩) n n) ∧ w'.cell? ⟨gu, i * 2 + 1, none⟩ = some (.slice va L vc) ∧ w'.heap[w.heap.size]? = some (.cells #[.int .i64 k, .int .i64 pa, .int .i64 t, .int .i64 x] 39 (0, 0)) := ⟨_, rfl⟩
      have hstep : ∀ wa wz, S wa → Below wa.heap.size wa wz → S wz := fun wa wz h hb => by
        rw [hS] at h ⊢
        exact ⟨(hb.cell (World.block_lt_of_cell? _ _ h.1)).trans h.1, (hb.cell (World.block_lt_of_cell? _ _ h.2.1)).trans h.2.1, (hb.block _ (Array.getElem?_eq_some_iff.1 h.2.2).1).trans h.2.2⟩
      have s0 : S w3.drew := hstep w3 _ (by rw [hS]; exact hss) (below_drew _)
      clear hss
      refine wp_region_held S [0, 1, 2, 3, 4, 5, 6, 7, 8, 9, 10, 11, 12, 13] [[14], [15], [16, 17, 18]] (by kernel_rfl) (by kernel_rfl) rfl (by kernel_rfl) (fun _ _ _ h => by obtain ⟨_, h, _⟩ := h; cases h) (fun _ _ h => by obtain ⟨h, _⟩ := h; cases h) s0 (by kernel_rfl) ?_
      have b3 := below_drew w3
      generalize w3.drew = w3 at b3 s0 ⊢
      have hb3 := HB.out.trans (b3.mono HB.out.size)
      have HB3 := Lib.hid hb3; clear hb3 b3
      have HS0 := Lib.hid s0; clear s0
      have HSd := Lib.hid hS; clear hS
      have HSt := Lib.hid hstep; clear hstep
      apply Exists.intro
      apply And.intro
      · intro w' s
        rw [HSd.out] at s
        obtain ⟨rr, cc, zm⟩ := s
        have m0 := cells_at zm 0
        have m1 := cells_at zm 1
        have m2 := cells_at zm 2
        have m3 := cells_at zm 3
        clear zm
        simp only [List.map_cons, List.map_nil, List.getD_cons_zero, List.getD_cons_succ]
        go_wp2_with fail
        exact pre_end
      simp only [List.map_cons, List.map_nil, List.getD_cons_zero, List.getD_cons_succ]
      refine segs_more ?_
      go_wp2_with fail
      have x8 := heap_alloc_new w3 (.cells #[.int .i64 k, .int .i64 pa, .int .i64 t, .int .i64 x] 39)
      have b8 : Below w3.heap.size w3 (w3.alloc (.cells #[.int .i64 k, .int .i64 pa, .int .i64 t, .int .i64 x] 39)) := (Below.refl _ _).alloc (Nat.le_refl _) _
      have s8 := HSt.out _ _ HS0.out b8
      generalize w3.alloc (.cells #[.int .i64 k, .int .i64 pa, .int .i64 t, .int .i64 x] 39) = w8 at x8 b8 s8 ⊢
      generalize w3.heap.size = g8 at x8 ⊢
      have hb8 := HB3.out.trans (b8.mono HB3.out.size)
      refine seg_end s8 (segs_more ?_)
      go_wp2_with (with_reducible refine stop_builtin .append ?_)
      refine unpark ?_
      have own8 := (H1.out.below hb8).bag (((i : Int), 1), true) (inside_of hi true)
      rw [Hev.out, Hms.out] at own8
      refine wpList_append_msgs w8 rfl _ _ rfl w0.heap.size (.slice va L vc) ms rfl own8 g8 0 1 1 [(k, pa, t, x)] rfl rfl (by decide) (fun j u hu => by rw [Nat.zero_add, cells_at x8 j, List.getElem?_toArray]; exact hu) (by rw [← HL.out]; omega) (Nat.le_trans H0.out.bel.size hb8.size) ?_
      intro v' w9 own9 g9 hv9
      rw [← Hev.out] at g9 hv9
      obtain ⟨cs, fs⟩ := H1.out.still hi (.inr rfl) true hb8 g9
      obtain ⟨hrn, hmo⟩ := H0.out.grow H1.out H2.out hi (.inr rfl) true hb8 g9 own9 hv9
      rw [Hev.out, show gwOf gu gd 1 = gu from rfl] at cs
      rw [show gwOf gu gd 1 = gu from rfl] at fs hrn hmo
      rw [show bitOf true = 1 from rfl] at cs fs hrn hmo
      obtain ⟨va9, k9, vc9, e9, hm9, -⟩ := own9.msgs
      obtain rfl := hm9.len
      subst e9
      have s9 : S w9 := by
        have h8 := s8
        rw [HSd.out] at h8 ⊢
        have hown := H1.out.own (((i : Int), (1 : Int)), true) (inside_of hi true)
        refine ⟨((World.cell?_of_block (g9.block rb (World.block_lt_of_cell? _ _ h8.1) fun e => ?_)).trans h8.1), cs, (g9.block _ (Array.getElem?_eq_some_iff.1 h8.2.2).1 fun e => ?_).trans h8.2.2⟩
        · exact (hown rb e.symm).1 rfl
        · have := (World.ownsRow.lt (H1.out.bag (((i : Int), (1 : Int)), true) (inside_of hi true)) _ e.symm).2
          omega
      clear x8 b8 hb8 own8 own9 g9 hv9 hm9 HB3 s8
      generalize (ms ++ [(k, pa, t, x)]).length = L9 at *
      refine seg_end s9 (segs_last ?_)
      clear s9 HSt HSd HS0
      have HRn := Lib.hid (And.intro hrn hmo); clear hrn hmo
      go_wp2
      go_ret
      exact ⟨rfl, HRn.out⟩
set_option maxRecDepth 100000 in
set_option maxHeartbeats 16000000 in
theorem Send_rn (h : Rn w0 w rb F n p st) (hbd : ∀ e, (st e).1.length ≤ 1000) (who to : Int) (m : Msg) (now : Int) : Calls Tryd.prog 21 #[.pointer (some ⟨rb, 0, none⟩), .int .i64 who, .int .i64 to, .agg m.cells.toArray, .int .i64 now] w fun e w' =>
    e = .returned (.int .i64 (sendK n p st who to m now).1) ∧ Rn w0 w' rb (grownF F w w') n p (sendK n p st who to m now).2 ∧ Mod F w w' := by
  obtain ⟨gu, gd, mv, h1, h2⟩ := h.is
  obtain ⟨w1, hw1⟩ : ∃ w1, w1 = w.alloc (.cells m.cells.toArray 39) := ⟨_, rfl⟩
  have c1 : Below w.heap.size w w1 := by rw [hw1]; exact (Below.refl _ _).alloc (Nat.le_refl _) _
  have z1 : w1.heap[w.heap.size]? = some (.cells m.cells.toArray 39 (0, 0)) := by rw [hw1]; exact heap_alloc_new w _
  have hk := h1.below c1
  have hth := fun q => rthere_calls hk q
  have how := fun w : World => ROwner_calls (w := w) p h1.good.fine now
  have hfl := fun w2 (hb : Below w1.heap.size w1 w2) => RFlow_calls (hk.below hb) who to
  have hfi1 := fun w : World => rfits_calls (w := w) to false m
  have hfi2 := fun w : World => rfits_calls (w := w) who true m
  have hwh := hth who
  have hto := hth to
  have hn := h1.num
  have h6 := h1.six
  have H0 := Lib.hid h; clear h
  have C1 := Lib.hid c1; clear c1 hth
  have H1 := Lib.hid h1; clear h1
  have H2 := Lib.hid h2; clear h2
  have HKr := Lib.hid hk.root; clear hk
  have Hwh := Lib.hid hwh; clear hwh
  have Hto := Lib.hid hto; clear hto
  have How := Lib.hid how; clear how
  have Hfl := Lib.hid hfl; clear hfl
  have Hfi1 := Lib.hid hfi1; clear hfi1
  have Hfi2 := Lib.hid hfi2; clear hfi2
  have Hbd := Lib.hid hbd; clear hbd
  obtain ⟨pp1, pp2, pp3⟩ := p
  simp only [Pl.parts] at hn
  subst hn
  simp only [Pl.parts, Pl.window, Pl.delay] at HKr
  unfold sendK
  cases t1 : thereB n who with
  | false =>
    rw [t1] at Hwh
    rw [if_neg (fun h => by cases h.1)]
    clear t1
    obtain ⟨k, pa, t, x⟩ := m
    simp only [Msg.cells, Msg.kind, Msg.part, Msg.tx, Msg.what] at hw1 z1 Hfi1 Hfi2 ⊢
    have Z1 := Lib.hid z1; clear z1
    go_enter Tryd.func21, Tryd.ntmps21
    go_wp2_with fail
    rw [← hw1]
    clear hw1
    refine Hwh.out.mono ?_
    rintro e w2 ⟨rfl, rfl⟩
    have hs := H0.out.same C1.out
    have HS := Lib.hid hs; clear hs
    go_wp2
    go_ret
    exact ⟨rfl, HS.out⟩
  | true =>
  rw [t1] at Hwh
  cases t2 : thereB n to with
  | false =>
    rw [t2] at Hto
    rw [if_neg (fun h => by cases h.2.1)]
    clear t1 t2
    obtain ⟨k, pa, t, x⟩ := m
    simp only [Msg.cells, Msg.kind, Msg.part, Msg.tx, Msg.what] at hw1 z1 Hfi1 Hfi2 ⊢
    have Z1 := Lib.hid z1; clear z1
    go_enter Tryd.func21, Tryd.ntmps21
    go_wp2_with fail
    rw [← hw1]
    clear hw1
    refine Hwh.out.mono ?_
    rintro e w2 ⟨rfl, rfl⟩
    go_wp2_with fail
    refine Hto.out.mono ?_
    rintro e w2 ⟨rfl, rfl⟩
    have hs := H0.out.same C1.out
    have HS := Lib.hid hs; clear hs
    go_wp2
    go_ret
    exact ⟨rfl, HS.out⟩
  | true =>
  rw [t2] at Hto
  by_cases hwt : who = to
  · rw [if_neg (fun h => h.2.2 hwt)]
    have e1 : (who == to) = true := by simpa using hwt
    clear t1 t2 hwt
    obtain ⟨k, pa, t, x⟩ := m
    simp only [Msg.cells, Msg.kind, Msg.part, Msg.tx, Msg.what] at hw1 z1 Hfi1 Hfi2 ⊢
    have Z1 := Lib.hid z1; clear z1
    go_enter Tryd.func21, Tryd.ntmps21
    go_wp2_with fail
    rw [← hw1]
    clear hw1
    refine Hwh.out.mono ?_
    rintro e w2 ⟨rfl, rfl⟩
    go_wp2_with fail
    refine Hto.out.mono ?_
    rintro e w2 ⟨rfl, rfl⟩
    have hs := H0.out.same C1.out
    have HS := Lib.hid hs; clear hs
    go_wp2
    go_ret
    exact ⟨rfl, HS.out⟩
  have e1 : (who == to) = false := by simpa using hwt
  rw [if_pos ⟨rfl, rfl, hwt⟩]
  by_cases hown : ownOf ((n : Int), pp2, pp3) now = who
  case neg =>
    rw [if_neg hown]
    have e2 : (ownOf ((n : Int), pp2, pp3) now != who) = true := by simpa using hown
    clear t1 t2 hwt hown
    obtain ⟨k, pa, t, x⟩ := m
    simp only [Msg.cells, Msg.kind, Msg.part, Msg.tx, Msg.what] at hw1 z1 Hfi1 Hfi2 ⊢
    have Z1 := Lib.hid z1; clear z1
    go_enter Tryd.func21, Tryd.ntmps21
    go_wp2_with fail
    rw [← hw1]
    clear hw1
    refine Hwh.out.mono ?_
    rintro e w2 ⟨rfl, rfl⟩
    go_wp2_with fail
    refine Hto.out.mono ?_
    rintro e w2 ⟨rfl, rfl⟩
    have rk0 := cells_at HKr.out 0
    have rk1 := cells_at HKr.out 1
    have rk2 := cells_at HKr.out 2
    go_wp2_with fail
    clear rk0 rk1 rk2
    refine (How.out _).mono ?_
    rintro e w3 ⟨rfl, b3⟩
    have hb3 := C1.out.trans (b3.mono C1.out.size)
    have hs := H0.out.same hb3
    clear b3 hb3
    have HS := Lib.hid hs; clear hs
    go_wp2
    go_ret
    exact ⟨rfl, HS.out⟩
  case pos =>
  rw [if_pos hown]
  have e2 : (ownOf ((n : Int), pp2, pp3) now != who) = false := by simpa using hown
  clear hown
  cases hfw : flowOf n who to with
  | false =>
    rw [hfw] at Hfl
    rw [if_neg (fun h => by cases h)]
    clear hfw t1 t2 hwt
    obtain ⟨k, pa, t, x⟩ := m
    simp only [Msg.cells, Msg.kind, Msg.part, Msg.tx, Msg.what] at hw1 z1 Hfi1 Hfi2 ⊢
    have Z1 := Lib.hid z1; clear z1
    go_enter Tryd.func21, Tryd.ntmps21
    go_wp2_with fail
    rw [← hw1]
    clear hw1
    refine Hwh.out.mono ?_
    rintro e w2 ⟨rfl, rfl⟩
    go_wp2_with fail
    refine Hto.out.mono ?_
    rintro e w2 ⟨rfl, rfl⟩
    have rk0 := cells_at HKr.out 0
    have rk1 := cells_at HKr.out 1
    have rk2 := cells_at HKr.out 2
    go_wp2_with fail
    clear rk0 rk1 rk2
    refine (How.out _).mono ?_
    rintro e w3 ⟨rfl, b3⟩
    have hb3 := C1.out.trans (b3.mono C1.out.size)
    have B3 := Lib.hid b3; clear b3
    have HB3 := Lib.hid hb3; clear hb3
    go_wp2_with fail
    refine (Hfl.out _ B3.out).mono ?_
    rintro e w4 ⟨rfl, b4⟩
    have hb4 := HB3.out.trans (b4.mono HB3.out.size)
    have b14 := B3.out.trans (b4.mono B3.out.size)
    have z4 := (b14.block _ (Array.getElem?_eq_some_iff.1 Z1.out).1).trans Z1.out
    have r4 := (b14.block _ (Array.getElem?_eq_some_iff.1 HKr.out).1).trans HKr.out
    clear b4 b14 HB3 B3
    clear z4 r4
    have hs := H0.out.same hb4
    clear hb4
    have HS := Lib.hid hs; clear hs
    go_wp2
    go_ret
    exact ⟨rfl, HS.out⟩
  | true =>
  rw [hfw] at Hfl
  rw [if_pos rfl]
  clear hfw
  have w1t := of_decide_eq_true t1
  have w2t := of_decide_eq_true t2
  clear t1 t2
  by_cases hld : who = (n : Int)
  · have e3 : (who == (n : Int)) = true := by simpa using hld
    simp only [if_pos hld]
    replace hwt : ¬ to = (n : Int) := fun h => hwt (by rw [hld, h])
    subst hld
    cases hf : fitsOf (to, 0) m with
    | false =>
      have hf2 : fitsOf (to, dirOf false) m = false := hf
      rw [hf2] at Hfi1
      rw [if_neg (fun h => by cases h)]
      clear hf hf2 w1t w2t hwt
      obtain ⟨k, pa, t, x⟩ := m
      simp only [Msg.cells, Msg.kind, Msg.part, Msg.tx, Msg.what] at hw1 z1 Hfi1 Hfi2 ⊢
      have Z1 := Lib.hid z1; clear z1
      go_enter Tryd.func21, Tryd.ntmps21
      go_wp2_with fail
      rw [← hw1]
      clear hw1
      refine Hwh.out.mono ?_
      rintro e w2 ⟨rfl, rfl⟩
      go_wp2_with fail
      refine Hto.out.mono ?_
      rintro e w2 ⟨rfl, rfl⟩
      have rk0 := cells_at HKr.out 0
      have rk1 := cells_at HKr.out 1
      have rk2 := cells_at HKr.out 2
      go_wp2_with fail
      clear rk0 rk1 rk2
      refine (How.out _).mono ?_
      rintro e w3 ⟨rfl, b3⟩
      have hb3 := C1.out.trans (b3.mono C1.out.size)
      have B3 := Lib.hid b3; clear b3
      have HB3 := Lib.hid hb3; clear hb3
      go_wp2_with fail
      refine (Hfl.out _ B3.out).mono ?_
      rintro e w4 ⟨rfl, b4⟩
      have hb4 := HB3.out.trans (b4.mono HB3.out.size)
      have b14 := B3.out.trans (b4.mono B3.out.size)
      have z4 := (b14.block _ (Array.getElem?_eq_some_iff.1 Z1.out).1).trans Z1.out
      have r4 := (b14.block _ (Array.getElem?_eq_some_iff.1 HKr.out).1).trans HKr.out
      clear b4 b14 HB3 B3
      have Z4 := Lib.hid z4; clear z4
      have rk0 := cells_at r4 0
      clear r4
      have m0 := cells_at Z4.out 0
      have m1 := cells_at Z4.out 1
      have m2 := cells_at Z4.out 2
      have m3 := cells_at Z4.out 3
      have HB4 := Lib.hid hb4; clear hb4
      go_wp2_with fail
      clear rk0 m0 m1 m2 m3
      refine (Hfi1.out _).mono ?_
      rintro e w5 ⟨rfl, b5⟩
      have hb5 := HB4.out.trans (b5.mono HB4.out.size)
      have z5 := (b5.block _ (Array.getElem?_eq_some_iff.1 Z4.out).1).trans Z4.out
      clear b5 HB4 Z4
      clear z5
      have hs := H0.out.same hb5
      clear hb5
      have HS := Lib.hid hs; clear hs
      go_wp2
      go_ret
      exact ⟨rfl, HS.out⟩
    | true =>
    have hf2 : fitsOf (to, dirOf false) m = true := hf
    rw [hf2] at Hfi1
    rw [if_pos rfl]
    clear hf hf2
    obtain ⟨i, rfl⟩ : ∃ i : Nat, to = i := ⟨to.toNat, by omega⟩
    have hi : i < n := by omega
    obtain ⟨va, vc, hev, hvm⟩ := H1.out.shape (k := (((i : Int), (0 : Int)), false)) (inside_of hi false)
    have hls : lsOf st (((i : Int), (0 : Int)), false) = (st ((i : Int), 0)).1 := rfl
    rw [hls] at hev hvm
    have hb1 := Hbd.out ((i : Int), 0)
    obtain ⟨ms, hms⟩ : ∃ ms, ms = (st ((i : Int), 0)).1 := ⟨_, rfl⟩
    rw [← hms] at hev hvm hls hb1 ⊢
    obtain ⟨L, hL⟩ : ∃ L, L = ms.length := ⟨_, rfl⟩
    rw [← hL] at hev hb1
    have i1 : (0 : Int) ≤ (i : Int) := by omega
    have i2 : (i : Int) < (n : Int) := by omega
    have Hms := Lib.hid hls; clear hls hvm hms
    have HL := Lib.hid hL; clear hL
    have Hev := Lib.hid hev; clear hev
    clear w1t w2t hwt
    obtain ⟨k, pa, t, x⟩ := m
    simp only [Msg.cells, Msg.kind, Msg.part, Msg.tx, Msg.what] at hw1 z1 Hfi1 Hfi2 ⊢
    have Z1 := Lib.hid z1; clear z1
    go_enter Tryd.func21, Tryd.ntmps21
    go_wp2_with fail
    rw [← hw1]
    clear hw1
    refine Hwh.out.mono ?_
    rintro e w2 ⟨rfl, rfl⟩
    go_wp2_with fail
    refine Hto.out.mono ?_
    rintro e w2 ⟨rfl, rfl⟩
    have rk0 := cells_at HKr.out 0
    have rk1 := cells_at HKr.out 1
    have rk2 := cells_at HKr.out 2
    go_wp2_with fail
    clear rk0 rk1 rk2
    refine (How.out _).mono ?_
    rintro e w3 ⟨rfl, b3⟩
    have hb3 := C1.out.trans (b3.mono C1.out.size)
    have B3 := Lib.hid b3; clear b3
    have HB3 := Lib.hid hb3; clear hb3
    go_wp2_with fail
    refine (Hfl.out _ B3.out).mono ?_
    rintro e w4 ⟨rfl, b4⟩
    have hb4 := HB3.out.trans (b4.mono HB3.out.size)
    have b14 := B3.out.trans (b4.mono B3.out.size)
    have z4 := (b14.block _ (Array.getElem?_eq_some_iff.1 Z1.out).1).trans Z1.out
    have r4 := (b14.block _ (Array.getElem?_eq_some_iff.1 HKr.out).1).trans HKr.out
    clear b4 b14 HB3 B3
    have Z4 := Lib.hid z4; clear z4
    have rk0 := cells_at r4 0
    clear r4
    have m0 := cells_at Z4.out 0
    have m1 := cells_at Z4.out 1
    have m2 := cells_at Z4.out 2
    have m3 := cells_at Z4.out 3
    have HB4 := Lib.hid hb4; clear hb4
    go_wp2_with fail
    clear rk0 m0 m1 m2 m3
    refine (Hfi1.out _).mono ?_
    rintro e w5 ⟨rfl, b5⟩
    have hb5 := HB4.out.trans (b5.mono HB4.out.size)
    have z5 := (b5.block _ (Array.getElem?_eq_some_iff.1 Z4.out).1).trans Z4.out
    clear b5 HB4 Z4
    have HB := Lib.hid hb5; clear hb5
    have ZM := Lib.hid z5; clear z5
    go_wp2_with fail
    have hcc := (H1.out.below HB.out).at0 hi (d := 0) (.inl rfl)
    rw [Hev.out, show gwOf gu gd 0 = gd from rfl] at hcc
    have hrr := cells_at (H1.out.below HB.out).root 4
    have hss : w5.cell? ⟨rb, 4, none⟩ = some (.slice (some ⟨gd, 0, none⟩) n n) ∧ w5.cell? ⟨gd, i * 2, none⟩ = some (.slice va L vc) ∧ w5.heap[w.heap.size]? = some (.cells #[.int .i64 k, .int .i64 pa, .int .i64 t, .int .i64 x] 39 (0, 0)) := ⟨hrr, hcc, ZM.out⟩
    clear hcc hrr
    obtain ⟨S, hS⟩ : ∃ S : World → Prop, S = fun w' => w'.cell? ⟨rb, 4, none⟩ = some (.slice (some ⟨gd, 0, none⟩) n n) ∧ w'.cell? ⟨gd, i * 2, none⟩ = some (.slice va L vc) ∧ w'.heap[w.heap.size]? = some (.cells #[.int .i64 k, .int .i64 pa, .int .i64 t, .int .i64 x] 39 (0, 0)) := ⟨_, rfl⟩
    have hstep : ∀ wa wz, S wa → Below wa.heap.size wa wz → S wz := fun wa wz h hb => by
      rw [hS] at h ⊢
      exact ⟨(hb.cell (World.block_lt_of_cell? _ _ h.1)).trans h.1, (hb.cell (World.block_lt_of_cell? _ _ h.2.1)).trans h.2.1, (hb.block _ (Array.getElem?_eq_some_iff.1 h.2.2).1).trans h.2.2⟩
    have s0 : S w5.drew := hstep w5 _ (by rw [hS]; exact hss) (below_drew _)
    clear hss
    refine wp_region_held S [0, 1, 2, 3, 4, 5, 6, 7, 8, 9, 10, 11, 12, 13] [[14], [15], [16, 17, 18]] (by kernel_rfl) (by kernel_rfl) rfl (by kernel_rfl) (fun _ _ _ h => by obtain ⟨_, h, _⟩ := h; cases h) (fun _ _ h => by obtain ⟨h, _⟩ := h; cases h) s0 (by kernel_rfl) ?_
    have b3 := below_drew w5
    generalize w5.drew = w3 at b3 s0 ⊢
    have hb3 := HB.out.trans (b3.mono HB.out.size)
    have HB3 := Lib.hid hb3; clear hb3 b3
    have HS0 := Lib.hid s0; clear s0
    have HSd := Lib.hid hS; clear hS
    have HSt := Lib.hid hstep; clear hstep
    apply Exists.intro
    apply And.intro
    · intro w' s
      rw [HSd.out] at s
      obtain ⟨rr, cc, zm⟩ := s
      have m0 := cells_at zm 0
      have m1 := cells_at zm 1
      have m2 := cells_at zm 2
      have m3 := cells_at zm 3
      clear zm
      simp only [List.map_cons, List.map_nil, List.getD_cons_zero, List.getD_cons_succ]
      go_wp2_with fail
      exact pre_end
    simp only [List.map_cons, List.map_nil, List.getD_cons_zero, List.getD_cons_succ]
    refine segs_more ?_
    go_wp2_with fail
    have x8 := heap_alloc_new w3 (.cells #[.int .i64 k, .int .i64 pa, .int .i64 t, .int .i64 x] 39)
    have b8 : Below w3.heap.size w3 (w3.alloc (.cells #[.int .i64 k, .int .i64 pa, .int .i64 t, .int .i64 x] 39)) := (Below.refl _ _).alloc (Nat.le_refl _) _
    have s8 := HSt.out _ _ HS0.out b8
    generalize w3.alloc (.cells #[.int .i64 k, .int .i64 pa, .int .i64 t, .int .i64 x] 39) = w8 at x8 b8 s8 ⊢
    generalize w3.heap.size = g8 at x8 ⊢
    have hb8 := HB3.out.trans (b8.mono HB3.out.size)
    refine seg_end s8 (segs_more ?_)
    go_wp2_with (with_reducible refine stop_builtin .append ?_)
    refine unpark ?_
    have own8 := (H1.out.below hb8).bag (((i : Int), 0), false) (inside_of hi false)
    rw [Hev.out, Hms.out] at own8
    refine wpList_append_msgs w8 rfl _ _ rfl w0.heap.size (.slice va L vc) ms rfl own8 g8 0 1 1 [(k, pa, t, x)] rfl rfl (by decide) (fun j u hu => by rw [Nat.zero_add, cells_at x8 j, List.getElem?_toArray]; exact hu) (by rw [← HL.out]; omega) (Nat.le_trans H0.out.bel.size hb8.size) ?_
    intro v' w9 own9 g9 hv9
    rw [← Hev.out] at g9 hv9
    obtain ⟨cs, fs⟩ := H1.out.still hi (.inl rfl) false hb8 g9
    obtain ⟨hrn, hmo⟩ := H0.out.grow H1.out H2.out hi (.inl rfl) false hb8 g9 own9 hv9
    rw [Hev.out, show gwOf gu gd 0 = gd from rfl] at cs
    rw [show gwOf gu gd 0 = gd from rfl] at fs hrn hmo
    rw [show bitOf false = 0 from rfl] at cs fs hrn hmo
    rw [Nat.add_zero] at cs fs hrn hmo
    obtain ⟨va9, k9, vc9, e9, hm9, -⟩ := own9.msgs
    obtain rfl := hm9.len
    subst e9
    have s9 : S w9 := by
      have h8 := s8
      rw [HSd.out] at h8 ⊢
      have hown := H1.out.own (((i : Int), (0 : Int)), false) (inside_of hi false)
      refine ⟨((World.cell?_of_block (g9.block rb (World.block_lt_of_cell? _ _ h8.1) fun e => ?_)).trans h8.1), cs, (g9.block _ (Array.getElem?_eq_some_iff.1 h8.2.2).1 fun e => ?_).trans h8.2.2⟩
      · exact (hown rb e.symm).1 rfl
      · have := (World.ownsRow.lt (H1.out.bag (((i : Int), (0 : Int)), false) (inside_of hi false)) _ e.symm).2
        omega
    clear x8 b8 hb8 own8 own9 g9 hv9 hm9 HB3 s8
    generalize (ms ++ [(k, pa, t, x)]).length = L9 at *
    refine seg_end s9 (segs_last ?_)
    clear s9 HSt HSd HS0
    have HRn := Lib.hid (And.intro hrn hmo); clear hrn hmo
    go_wp2
    go_ret
    exact ⟨rfl, HRn.out⟩
  have e3 : (who == (n : Int)) = false := by simpa using hld
  simp only [if_neg hld]
  cases hf : fitsOf (who, 1) m with
  | false =>
    have hf2 : fitsOf (who, dirOf true) m = false := hf
    rw [hf2] at Hfi2
    rw [if_neg (fun h => by cases h)]
    clear hf hf2 w1t w2t hwt
    obtain ⟨k, pa, t, x⟩ := m
    simp only [Msg.cells, Msg.kind, Msg.part, Msg.tx, Msg.what] at hw1 z1 Hfi1 Hfi2 ⊢
    have Z1 := Lib.hid z1; clear z1
    go_enter Tryd.func21, Tryd.ntmps21
    go_wp2_with fail
    rw [← hw1]
    clear hw1
    refine Hwh.out.mono ?_
    rintro e w2 ⟨rfl, rfl⟩
    go_wp2_with fail
    refine Hto.out.mono ?_
    rintro e w2 ⟨rfl, rfl⟩
    have rk0 := cells_at HKr.out 0
    have rk1 := cells_at HKr.out 1
    have rk2 := cells_at HKr.out 2
    go_wp2_with fail
    clear rk0 rk1 rk2
    refine (How.out _).mono ?_
    rintro e w3 ⟨rfl, b3⟩
    have hb3 := C1.out.trans (b3.mono C1.out.size)
    have B3 := Lib.hid b3; clear b3
    have HB3 := Lib.hid hb3; clear hb3
    go_wp2_with fail
    refine (Hfl.out _ B3.out).mono ?_
    rintro e w4 ⟨rfl, b4⟩
    have hb4 := HB3.out.trans (b4.mono HB3.out.size)
    have b14 := B3.out.trans (b4.mono B3.out.size)
    have z4 := (b14.block _ (Array.getElem?_eq_some_iff.1 Z1.out).1).trans Z1.out
    have r4 := (b14.block _ (Array.getElem?_eq_some_iff.1 HKr.out).1).trans HKr.out
    clear b4 b14 HB3 B3
    have Z4 := Lib.hid z4; clear z4
    have rk0 := cells_at r4 0
    clear r4
    have m0 := cells_at Z4.out 0
    have m1 := cells_at Z4.out 1
    have m2 := cells_at Z4.out 2
    have m3 := cells_at Z4.out 3
    have HB4 := Lib.hid hb4; clear hb4
    go_wp2_with fail
    clear rk0 m0 m1 m2 m3
    refine (Hfi2.out _).mono ?_
    rintro e w5 ⟨rfl, b5⟩
    have hb5 := HB4.out.trans (b5.mono HB4.out.size)
    have z5 := (b5.block _ (Array.getElem?_eq_some_iff.1 Z4.out).1).trans Z4.out
    clear b5 HB4 Z4
    clear z5
    have hs := H0.out.same hb5
    clear hb5
    have HS := Lib.hid hs; clear hs
    go_wp2
    go_ret
    exact ⟨rfl, HS.out⟩
  | true =>
  have hf2 : fitsOf (who, dirOf true) m = true := hf
  rw [hf2] at Hfi2
  rw [if_pos rfl]
  clear hf hf2
  obtain ⟨i, rfl⟩ : ∃ i : Nat, who = i := ⟨who.toNat, by omega⟩
  have hi : i < n := by omega
  obtain ⟨va, vc, hev, hvm⟩ := H1.out.shape (k := (((i : Int), (1 : Int)), false)) (inside_of hi true)
  have hls : lsOf st (((i : Int), (1 : Int)), false) = (st ((i : Int), 1)).1 := rfl
  rw [hls] at hev hvm
  have hb1 := Hbd.out ((i : Int), 1)
  obtain ⟨ms, hms⟩ : ∃ ms, ms = (st ((i : Int), 1)).1 := ⟨_, rfl⟩
  rw [← hms] at hev hvm hls hb1 ⊢
  obtain ⟨L, hL⟩ : ∃ L, L = ms.length := ⟨_, rfl⟩
  rw [← hL] at hev hb1
  have i1 : (0 : Int) ≤ (i : Int) := by omega
  have i2 : (i : Int) < (n : Int) := by omega
  have Hms := Lib.hid hls; clear hls hvm hms
  have HL := Lib.hid hL; clear hL
  have Hev := Lib.hid hev; clear hev
  clear w1t w2t hwt
  obtain ⟨k, pa, t, x⟩ := m
  simp only [Msg.cells, Msg.kind, Msg.part, Msg.tx, Msg.what] at hw1 z1 Hfi1 Hfi2 ⊢
  have Z1 := Lib.hid z1; clear z1
  go_enter Tryd.func21, Tryd.ntmps21
  go_wp2_with fail
  rw [← hw1]
  clear hw1
  refine Hwh.out.mono ?_
  rintro e w2 ⟨rfl, rfl⟩
  go_wp2_with fail
  refine Hto.out.mono ?_
  rintro e w2 ⟨rfl, rfl⟩
  have rk0 := cells_at HKr.out 0
  have rk1 := cells_at HKr.out 1
  have rk2 := cells_at HKr.out 2
  go_wp2_with fail
  clear rk0 rk1 rk2
  refine (How.out _).mono ?_
  rintro e w3 ⟨rfl, b3⟩
  have hb3 := C1.out.trans (b3.mono C1.out.size)
  have B3 := Lib.hid b3; clear b3
  have HB3 := Lib.hid hb3; clear hb3
  go_wp2_with fail
  refine (Hfl.out _ B3.out).mono ?_
  rintro e w4 ⟨rfl, b4⟩
  have hb4 := HB3.out.trans (b4.mono HB3.out.size)
  have b14 := B3.out.trans (b4.mono B3.out.size)
  have z4 := (b14.block _ (Array.getElem?_eq_some_iff.1 Z1.out).1).trans Z1.out
  have r4 := (b14.block _ (Array.getElem?_eq_some_iff.1 HKr.out).1).trans HKr.out
  clear b4 b14 HB3 B3
  have Z4 := Lib.hid z4; clear z4
  have rk0 := cells_at r4 0
  clear r4
  have m0 := cells_at Z4.out 0
  have m1 := cells_at Z4.out 1
  have m2 := cells_at Z4.out 2
  have m3 := cells_at Z4.out 3
  have HB4 := Lib.hid hb4; clear hb4
  go_wp2_with fail
  clear rk0 m0 m1 m2 m3
  refine (Hfi2.out _).mono ?_
  rintro e w5 ⟨rfl, b5⟩
  have hb5 := HB4.out.trans (b5.mono HB4.out.size)
  have z5 := (b5.block _ (Array.getElem?_eq_some_iff.1 Z4.out).1).trans Z4.out
  clear b5 HB4 Z4
  have HB := Lib.hid hb5; clear hb5
  have ZM := Lib.hid z5; clear z5
  go_wp2_with fail
  have hcc := (H1.out.below HB.out).at0 hi (d := 1) (.inr rfl)
  rw [Hev.out, show gwOf gu gd 1 = gu from rfl] at hcc
  have hrr := cells_at (H1.out.below HB.out).root 3
  have hss : w5.cell? ⟨rb, 3, none⟩ = some (.slice (some ⟨gu, 0, none⟩) n n) ∧ w5.cell? ⟨gu, i * 2, none⟩ = some (.slice va L vc) ∧ w5.heap[w.heap.size]? = some (.cells #[.int .i64 k, .int .i64 pa, .int .i64 t, .int .i64 x] 39 (0, 0)) := ⟨hrr, hcc, ZM.out⟩
  clear hcc hrr
  obtain ⟨S, hS⟩ : ∃ S : World → Prop, S = fun w' => w'.cell? ⟨rb, 3, none⟩ = some (.slice (some ⟨gu, 0, none⟩) n n) ∧ w'.cell? ⟨gu, i * 2, none⟩ = some (.slice va L vc) ∧ w'.heap[w.heap.size]? = some (.cells #[.int .i64 k, .int .i64 pa, .int .i64 t, .int .i64 x] 39 (0, 0)) := ⟨_, rfl⟩
  have hstep : ∀ wa wz, S wa → Below wa.heap.size wa wz → S wz := fun wa wz h hb => by
    rw [hS] at h ⊢
    exact ⟨(hb.cell (World.block_lt_of_cell? _ _ h.1)).trans h.1, (hb.cell (World.block_lt_of_cell? _ _ h.2.1)).trans h.2.1, (hb.block _ (Array.getElem?_eq_some_iff.1 h.2.2).1).trans h.2.2⟩
  have s0 : S w5.drew := hstep w5 _ (by rw [hS]; exact hss) (below_drew _)
  clear hss
  refine wp_region_held S [0, 1, 2, 3, 4, 5, 6, 7, 8, 9, 10, 11, 12, 13] [[14], [15], [16, 17, 18]] (by kernel_rfl) (by kernel_rfl) rfl (by kernel_rfl) (fun _ _ _ h => by obtain ⟨_, h, _⟩ := h; cases h) (fun _ _ h => by obtain ⟨h, _⟩ := h; cases h) s0 (by kernel_rfl) ?_
  have b3 := below_drew w5
  generalize w5.drew = w3 at b3 s0 ⊢
  have hb3 := HB.out.trans (b3.mono HB.out.size)
  have HB3 := Lib.hid hb3; clear hb3 b3
  have HS0 := Lib.hid s0; clear s0
  have HSd := Lib.hid hS; clear hS
  have HSt := Lib.hid hstep; clear hstep
  apply Exists.intro
  apply And.intro
  · intro w' s
    rw [HSd.out] at s
    obtain ⟨rr, cc, zm⟩ := s
    have m0 := cells_at zm 0
    have m1 := cells_at zm 1
    have m2 := cells_at zm 2
    have m3 := cells_at zm 3
    clear zm
    simp only [List.map_cons, List.map_nil, List.getD_cons_zero, List.getD_cons_succ]
    go_wp2_with fail
    exact pre_end
  simp only [List.map_cons, List.map_nil, List.getD_cons_zero, List.getD_cons_succ]
  refine segs_more ?_
  go_wp2_with fail
  have x8 := heap_alloc_new w3 (.cells #[.int .i64 k, .int .i64 pa, .int .i64 t, .int .i64 x] 39)
  have b8 : Below w3.heap.size w3 (w3.alloc (.cells #[.int .i64 k, .int .i64 pa, .int .i64 t, .int .i64 x] 39)) := (Below.refl _ _).alloc (Nat.le_refl _) _
  have s8 := HSt.out _ _ HS0.out b8
  generalize w3.alloc (.cells #[.int .i64 k, .int .i64 pa, .int .i64 t, .int .i64 x] 39) = w8 at x8 b8 s8 ⊢
  generalize w3.heap.size = g8 at x8 ⊢
  have hb8 := HB3.out.trans (b8.mono HB3.out.size)
  refine seg_end s8 (segs_more ?_)
  go_wp2_with (with_reducible refine stop_builtin .append ?_)
  refine unpark ?_
  have own8 := (H1.out.below hb8).bag (((i : Int), 1), false) (inside_of hi true)
  rw [Hev.out, Hms.out] at own8
  refine wpList_append_msgs w8 rfl _ _ rfl w0.heap.size (.slice va L vc) ms rfl own8 g8 0 1 1 [(k, pa, t, x)] rfl rfl (by decide) (fun j u hu => by rw [Nat.zero_add, cells_at x8 j, List.getElem?_toArray]; exact hu) (by rw [← HL.out]; omega) (Nat.le_trans H0.out.bel.size hb8.size) ?_
  intro v' w9 own9 g9 hv9
  rw [← Hev.out] at g9 hv9
  obtain ⟨cs, fs⟩ := H1.out.still hi (.inr rfl) false hb8 g9
  obtain ⟨hrn, hmo⟩ := H0.out.grow H1.out H2.out hi (.inr rfl) false hb8 g9 own9 hv9
  rw [Hev.out, show gwOf gu gd 1 = gu from rfl] at cs
  rw [show gwOf gu gd 1 = gu from rfl] at fs hrn hmo
  rw [show bitOf false = 0 from rfl] at cs fs hrn hmo
  rw [Nat.add_zero] at cs fs hrn hmo
  obtain ⟨va9, k9, vc9, e9, hm9, -⟩ := own9.msgs
  obtain rfl := hm9.len
  subst e9
  have s9 : S w9 := by
    have h8 := s8
    rw [HSd.out] at h8 ⊢
    have hown := H1.out.own (((i : Int), (1 : Int)), false) (inside_of hi true)
    refine ⟨((World.cell?_of_block (g9.block rb (World.block_lt_of_cell? _ _ h8.1) fun e => ?_)).trans h8.1), cs, (g9.block _ (Array.getElem?_eq_some_iff.1 h8.2.2).1 fun e => ?_).trans h8.2.2⟩
    · exact (hown rb e.symm).1 rfl
    · have := (World.ownsRow.lt (H1.out.bag (((i : Int), (1 : Int)), false) (inside_of hi true)) _ e.symm).2
      omega
  clear x8 b8 hb8 own8 own9 g9 hv9 hm9 HB3 s8
  generalize (ms ++ [(k, pa, t, x)]).length = L9 at *
  refine seg_end s9 (segs_last ?_)
  clear s9 HSt HSd HS0
  have HRn := Lib.hid (And.intro hrn hmo); clear hrn hmo
  go_wp2
  go_ret
  exact ⟨rfl, HRn.out⟩
end
end Go.Proofs.YtclgakdfeeefiaaDoor
/- The document's kernel: without, Recv, Clear. -/
namespace Go.Proofs.YtclgakdfeeefiaaDoor
open Go.RowKit

set_option maxHeartbeats 4000000 in
theorem without_calls {w : World} {a : Option Addr} {N c : Nat} {xs : List Msg} (hx : Msgs w a N c xs) (hN : N ≤ 1000) {i : Nat} (hi : i < N) : Calls Tryd.prog 57 #[.slice a N c, .int .i64 (i : Int)] w fun e w' =>
    ∃ v, e = .returned v ∧ MOwn w' w.heap.size v (xs.eraseIdx i) ∧ Below w.heap.size w w' := by
  obtain ⟨b, o, rfl⟩ := hx.addr (by omega)
  have hle := hx.le
  have hmx := hx.max
  have hl := hx.len
  have h1 := hx.upto (i := i) (by omega)
  have h2 := hx.from (i := i + 1) (by omega)
  have i0 : (0 : Int) ≤ (i : Int) := by omega
  have i1 : (i : Int) ≤ (c : Int) := by omega
  have i2 : (i : Int) + 1 ≤ (N : Int) := by omega
  have i3 : (0 : Int) ≤ (i : Int) + 1 := by omega
  have i4 : (N : Int) ≤ (c : Int) := by omega
  have hres : xs.eraseIdx i = xs.take i ++ xs.drop (i + 1) := List.eraseIdx_eq_take_drop_succ _ _
  rw [hres]
  have hlt : (xs.take i).length = i := by rw [List.length_take]; omega
  have H1 := Lib.hid h1; clear h1
  have H2 := Lib.hid h2; clear h2
  have Hlt := Lib.hid hlt; clear hlt
  clear hx hres hl
  go_enter Tryd.func57, Tryd.ntmps57
  go_wp2_with (with_reducible refine stop_builtin .append ?_)
  refine unpark ?_
  have b1 : Below w.heap.size w (w.alloc (.cells #[] 39)) := (Below.refl _ _).alloc (Nat.le_refl _) _
  have o1 : MOwn (w.alloc (.cells #[] 39)) w.heap.size (.slice (some ⟨w.heap.size, 0, none⟩) 0 0) [] := World.ownsRow_made w #[] 0 (Nat.le_refl _) (by decide) rfl
  refine wpList_append_any _ rfl _ _ rfl w.heap.size _ [] rfl o1 _ i c (xs.take i) rfl (H1.out.keep b1) (by rw [List.length_nil]; omega) b1.size ?_
  intro v2 w2 own2 g2 hv2
  rw [List.nil_append] at own2
  have b2 := b1.grown g2 b1.size (fun k hk => by cases hk; exact Nat.le_refl _)
  obtain ⟨a2, k2, c2, rfl, hm2, -⟩ := own2.msgs
  obtain rfl : k2 = i := by rw [← hm2.len, Hlt.out]
  clear o1 b1 g2 hv2 hm2
  have O2 := Lib.hid own2; clear own2
  have B2 := Lib.hid b2; clear b2
  by_cases hce : c = k2 + 1
  · have hN1 : N - (k2 + 1) = 0 := by omega
    have hdr : xs.drop (k2 + 1) = [] := by
      refine List.drop_eq_nil_of_le ?_
      have := H2.out.len
      rw [List.length_drop] at this
      omega
    subst hce
    go_wp2_with (with_reducible refine stop_builtin .append ?_)
    refine unpark ?_
    refine wpList_append_any w2 rfl _ _ rfl w.heap.size _ (xs.take k2) rfl O2.out _ 0 0 [] rfl (Msgs.none0 (by decide)) (by rw [Hlt.out]; omega) B2.out.size ?_
    intro v3 w3 own3 g3 hv3
    have b3 := B2.out.grown g3 B2.out.size (fun k hk => by have := (World.ownsRow.lt O2.out k hk).1; omega)
    have own3 : MOwn w3 w.heap.size v3 (xs.take k2 ++ xs.drop (k2 + 1)) := by rw [hdr]; exact own3
    clear g3 hv3 O2 B2 hN1 hdr
    have O3 := Lib.hid own3; clear own3
    have B3 := Lib.hid b3; clear b3
    go_wp2
    go_ret
    exact ⟨_, rfl, O3.out, B3.out⟩
  · have hce2 : k2 + 1 < c := by omega
    go_wp2_with (with_reducible refine stop_builtin .append ?_)
    refine unpark ?_
    refine wpList_append_any w2 rfl _ _ rfl w.heap.size _ (xs.take k2) rfl O2.out _ (N - (k2 + 1)) (c - (k2 + 1)) (xs.drop (k2 + 1)) rfl (H2.out.keep B2.out) (by rw [Hlt.out]; omega) B2.out.size ?_
    intro v3 w3 own3 g3 hv3
    have b3 := B2.out.grown g3 B2.out.size (fun k hk => by have := (World.ownsRow.lt O2.out k hk).1; omega)
    clear g3 hv3 O2 B2
    have O3 := Lib.hid own3; clear own3
    have B3 := Lib.hid b3; clear b3
    go_wp2
    go_ret
    exact ⟨_, rfl, O3.out, B3.out⟩
section
variable {w0 w w6 w9 : World} {rb n : Nat} {F : Nat → Prop} {p : Pl} {st : Sta}
/-- A row made since is stored in place of one; then a cell of the call's own. -/
theorem Rn.taken (h : Rn w0 w rb F n p st) {gu gd : Nat} {mv : Ck → Value} (h1 : RK w w0.heap.size rb gu gd n p mv st) (h2 : ∀ x, rkfoot rb gu gd n mv x → F x) {i : Nat} (hi : i < n) {d : Int} (hd : d = 0 ∨ d = 1) (b : Bool) {v' : Value} {l' : List Msg} {C g : Nat}
    (hb : Below w.heap.size w w6) (ho : MOwn w6 C v' l') (hg : w.heap.size ≤ g ∧ g < C) (hgr : (w6.setCell ⟨gwOf gu gd d, i * 2 + bitOf b, none⟩ v').grownBy w9 (some g)) : Rn w0 w9 rb (grownF F w w9) n p (updL st (((i : Int), d), b) l') ∧ Mod F w w9 := by
  have hm : Mod (fun x => (mv (((i : Int), d), b)).ownBlock = some x) w w6 := Mod.of_below hb
  have hlt := fun x e => World.ownsRow.lt ho x e
  obtain ⟨t1, t2, t3⟩ := h1.turn hi hd b hm (ho.mono (Nat.le_trans h.bel.size (by omega))) fun g' hgo => .inr (by have := (hlt g' hgo).1; omega)
  have hx : ∀ x, rkfoot rb gu gd n (updC mv (((i : Int), d), b) v') x → x ≠ g := by
    rintro x (hx | hx | hx | ⟨k, hk, e⟩)
    · have := (h1.lt x (.inl hx)).2; omega
    · have := (h1.lt x (.inr (.inl hx))).2; omega
    · have := (h1.lt x (.inr (.inr (.inl hx)))).2; omega
    · by_cases he : k = (((i : Int), d), b)
      · rw [he, updC_same] at e
        have := (hlt x e).1; omega
      · rw [updC_other _ _ he] at e
        have := (h1.lt x (.inr (.inr (.inr ⟨k, hk, e⟩)))).2; omega
  refine h.after h2 (t1.keep fun x hxx => hgr.block x (t1.lt x hxx).2 fun e => hx x hxx (Option.some.inj e)) (t2.trans (Mod.of_grown hgr (F := fun x => x = g) fun k e => (Option.some.inj e).symm) (fun _ h => h) fun x hxl e => by have e : x = g := e; omega) fun x hxx => ?_
  rcases t3 x hxx with e | e
  · exact .inl e
  · exact .inr ⟨e.1, Nat.lt_of_lt_of_le e.2 hgr.size⟩
end
section
variable {w0 w w' : World} {rb n : Nat} {F : Nat → Prop} {p : Pl} {st : Sta}
set_option maxRecDepth 100000 in
set_option maxHeartbeats 16000000 in
theorem Recv_rn (h : Rn w0 w rb F n p st) (hbd : ∀ e, (st e).2.length ≤ 1000) (who q i now : Int) : Calls Tryd.prog 25 #[.pointer (some ⟨rb, 0, none⟩), .int .i64 who, .int .i64 q, .int .i64 i, .int .i64 now] w fun e w' =>
    e = .returned (.tuple #[.agg (recvK n p st who q i now).1.1.cells.toArray, .int .i64 (recvK n p st who q i now).1.2]) ∧ Rn w0 w' rb (grownF F w w') n p (recvK n p st who q i now).2 ∧ Mod F w w' := by
  obtain ⟨gu, gd, mv, h1, h2⟩ := h.is
  obtain ⟨w1, hw1⟩ : ∃ w1, w1 = w.alloc (.cells #[.int .i64 0, .int .i64 0, .int .i64 0, .int .i64 0] 39) := ⟨_, rfl⟩
  have c1 : Below w.heap.size w w1 := by rw [hw1]; exact (Below.refl _ _).alloc (Nat.le_refl _) _
  have z1 : w1.heap[w.heap.size]? = some (.cells #[.int .i64 0, .int .i64 0, .int .i64 0, .int .i64 0] 39 (0, 0)) := by rw [hw1]; exact heap_alloc_new w _
  have hk := h1.below c1
  have hth := rthere_calls hk who
  have hpt := rpart_calls hk q
  have how := fun w : World => ROwner_calls (w := w) p h1.good.fine now
  have hn := h1.num
  have h6 := h1.six
  have H0 := Lib.hid h; clear h
  have C1 := Lib.hid c1; clear c1
  have Z1 := Lib.hid z1; clear z1
  have H1 := Lib.hid h1; clear h1
  have H2 := Lib.hid h2; clear h2
  have HKr := Lib.hid hk.root; clear hk
  have Hth := Lib.hid hth; clear hth
  have Hpt := Lib.hid hpt; clear hpt
  have How := Lib.hid how; clear how
  have Hbd := Lib.hid hbd; clear hbd
  obtain ⟨pp1, pp2, pp3⟩ := p
  simp only [Pl.parts] at hn
  subst hn
  simp only [Pl.parts, Pl.window, Pl.delay] at HKr
  unfold recvK
  simp only
  cases t1 : thereB n who with
  | false =>
    rw [t1] at Hth
    rw [if_neg (fun h => by cases h.1)]
    clear t1
    simp only [noMsg, Msg.cells, Msg.kind, Msg.part, Msg.tx, Msg.what]
    go_enter Tryd.func25, Tryd.ntmps25
    go_wp2_with fail
    rw [← hw1]
    clear hw1
    refine Hth.out.mono ?_
    rintro e w2 ⟨rfl, rfl⟩
    go_wp2_with (with_reducible refine stop_store 39 ?_)
    refine unpark ?_
    refine wpList_store_at rfl _ _ _ rfl w.heap.size 0 rfl _ rfl [.int .i64 0, .int .i64 0, .int .i64 0, .int .i64 0] rfl _ _ Z1.out 4 rfl (by simp) (by simp [Value.oneCell']) Tryd.sizeMsg ?_
    intro w9 hz hg hs9
    clear hs9
    have hb9 := C1.out.grown hg C1.out.size (fun k hk => by cases hk; exact Nat.le_refl _)
    have zf : w9.heap[w.heap.size]? = some (.cells #[.int .i64 0, .int .i64 0, .int .i64 0, .int .i64 0] 39 (0, 0)) := hz
    have hs := H0.out.same hb9
    clear hz hg hb9
    have HS := Lib.hid hs; clear hs
    have ZF := Lib.hid zf; clear zf
    dsimp only [Act.put]
    go_wp2
    refine bodyPost_ret (results_row2 Tryd.results25 _ _ w.heap.size 39 _ _ _ rfl ZF.out Tryd.underlying39 rfl (by kernel_rfl)) rfl ?_
    exact ⟨rfl, HS.out⟩
  | true =>
  rw [t1] at Hth
  rcases part_or (n := n) q (decide (who = (n : Int))) with ⟨I, hI, rfl, hp, hin⟩ | ⟨hp, hin⟩
  case inr =>
    rw [hp] at Hpt
    rw [if_neg (fun h => hin h.2)]
    clear t1 hp hin
    simp only [noMsg, Msg.cells, Msg.kind, Msg.part, Msg.tx, Msg.what]
    go_enter Tryd.func25, Tryd.ntmps25
    go_wp2_with fail
    rw [← hw1]
    clear hw1
    refine Hth.out.mono ?_
    rintro e w2 ⟨rfl, rfl⟩
    go_wp2_with fail
    refine Hpt.out.mono ?_
    rintro e w2 ⟨rfl, rfl⟩
    go_wp2_with (with_reducible refine stop_store 39 ?_)
    refine unpark ?_
    refine wpList_store_at rfl _ _ _ rfl w.heap.size 0 rfl _ rfl [.int .i64 0, .int .i64 0, .int .i64 0, .int .i64 0] rfl _ _ Z1.out 4 rfl (by simp) (by simp [Value.oneCell']) Tryd.sizeMsg ?_
    intro w9 hz hg hs9
    clear hs9
    have hb9 := C1.out.grown hg C1.out.size (fun k hk => by cases hk; exact Nat.le_refl _)
    have zf : w9.heap[w.heap.size]? = some (.cells #[.int .i64 0, .int .i64 0, .int .i64 0, .int .i64 0] 39 (0, 0)) := hz
    have hs := H0.out.same hb9
    clear hz hg hb9
    have HS := Lib.hid hs; clear hs
    have ZF := Lib.hid zf; clear zf
    dsimp only [Act.put]
    go_wp2
    refine bodyPost_ret (results_row2 Tryd.results25 _ _ w.heap.size 39 _ _ _ rfl ZF.out Tryd.underlying39 rfl (by kernel_rfl)) rfl ?_
    exact ⟨rfl, HS.out⟩
  case inl =>
  rw [hp] at Hpt
  rw [if_pos ⟨rfl, hin⟩]
  by_cases hown : ownOf ((n : Int), pp2, pp3) now = who
  case neg =>
    rw [if_neg hown]
    have e2 : (ownOf ((n : Int), pp2, pp3) now != who) = true := by simpa using hown
    clear t1 hp hin hown
    simp only [noMsg, Msg.cells, Msg.kind, Msg.part, Msg.tx, Msg.what]
    go_enter Tryd.func25, Tryd.ntmps25
    go_wp2_with fail
    rw [← hw1]
    clear hw1
    refine Hth.out.mono ?_
    rintro e w2 ⟨rfl, rfl⟩
    go_wp2_with fail
    refine Hpt.out.mono ?_
    rintro e w2 ⟨rfl, rfl⟩
    have rk0 := cells_at HKr.out 0
    have rk1 := cells_at HKr.out 1
    have rk2 := cells_at HKr.out 2
    go_wp2_with fail
    clear rk0 rk1 rk2
    refine (How.out _).mono ?_
    rintro e w3 ⟨rfl, b3⟩
    have z3 := (b3.block _ (Array.getElem?_eq_some_iff.1 Z1.out).1).trans Z1.out
    have hb3 := C1.out.trans (b3.mono C1.out.size)
    have r3 := (b3.block _ (Array.getElem?_eq_some_iff.1 HKr.out).1).trans HKr.out
    clear b3
    clear r3
    have HB3 := Lib.hid hb3; clear hb3
    have Z3 := Lib.hid z3; clear z3
    go_wp2_with (with_reducible refine stop_store 39 ?_)
    refine unpark ?_
    refine wpList_store_at rfl _ _ _ rfl w.heap.size 0 rfl _ rfl [.int .i64 0, .int .i64 0, .int .i64 0, .int .i64 0] rfl _ _ Z3.out 4 rfl (by simp) (by simp [Value.oneCell']) Tryd.sizeMsg ?_
    intro w9 hz hg hs9
    clear hs9
    have hb9 := HB3.out.grown hg HB3.out.size (fun k hk => by cases hk; exact Nat.le_refl _)
    have zf : w9.heap[w.heap.size]? = some (.cells #[.int .i64 0, .int .i64 0, .int .i64 0, .int .i64 0] 39 (0, 0)) := hz
    have hs := H0.out.same hb9
    clear hz hg hb9
    have HS := Lib.hid hs; clear hs
    have ZF := Lib.hid zf; clear zf
    dsimp only [Act.put]
    go_wp2
    refine bodyPost_ret (results_row2 Tryd.results25 _ _ w.heap.size 39 _ _ _ rfl ZF.out Tryd.underlying39 rfl (by kernel_rfl)) rfl ?_
    exact ⟨rfl, HS.out⟩
  case pos =>
  rw [if_pos hown]
  have e2 : (ownOf ((n : Int), pp2, pp3) now != who) = false := by simpa using hown
  clear hown hp
  have w1t := of_decide_eq_true t1
  clear t1
  have i1 : (0 : Int) ≤ (I : Int) := by omega
  have i2 : (I : Int) < (n : Int) := by omega
  by_cases hne : ¬ who = (n : Int) ∧ ¬ who = (I : Int)
  case pos =>
    rw [take_blind (two_apart h6.2 (a := (I : Int)) (b := who) (by omega) (by omega) (by omega))]
    have hup : updE st ((I : Int), dirOf (decide (who = (n : Int)))) ((st ((I : Int), dirOf (decide (who = (n : Int))))).1, (st ((I : Int), dirOf (decide (who = (n : Int))))).2) = st := by
      funext y
      by_cases hy : y = ((I : Int), dirOf (decide (who = (n : Int))))
      · rw [hy, updE_same]
      · rw [updE_other _ _ hy]
    simp only [hup]
    have e3 : (who != (n : Int)) = true := by simpa using hne.1
    have e4 : (who != (I : Int)) = true := by simpa using hne.2
    clear hup hne hin
    simp only [noMsg, Msg.cells, Msg.kind, Msg.part, Msg.tx, Msg.what]
    go_enter Tryd.func25, Tryd.ntmps25
    go_wp2_with fail
    rw [← hw1]
    clear hw1
    refine Hth.out.mono ?_
    rintro e w2 ⟨rfl, rfl⟩
    go_wp2_with fail
    refine Hpt.out.mono ?_
    rintro e w2 ⟨rfl, rfl⟩
    have rk0 := cells_at HKr.out 0
    have rk1 := cells_at HKr.out 1
    have rk2 := cells_at HKr.out 2
    go_wp2_with fail
    clear rk0 rk1 rk2
    refine (How.out _).mono ?_
    rintro e w3 ⟨rfl, b3⟩
    have z3 := (b3.block _ (Array.getElem?_eq_some_iff.1 Z1.out).1).trans Z1.out
    have hb3 := C1.out.trans (b3.mono C1.out.size)
    have r3 := (b3.block _ (Array.getElem?_eq_some_iff.1 HKr.out).1).trans HKr.out
    clear b3
    have rk0 := cells_at r3 0
    clear r3
    have HB3 := Lib.hid hb3; clear hb3
    have Z3 := Lib.hid z3; clear z3
    go_wp2_with (with_reducible refine stop_store 39 ?_)
    refine unpark ?_
    refine wpList_store_at rfl _ _ _ rfl w.heap.size 0 rfl _ rfl [.int .i64 0, .int .i64 0, .int .i64 0, .int .i64 0] rfl _ _ Z3.out 4 rfl (by simp) (by simp [Value.oneCell']) Tryd.sizeMsg ?_
    intro w9 hz hg hs9
    clear hs9
    have hb9 := HB3.out.grown hg HB3.out.size (fun k hk => by cases hk; exact Nat.le_refl _)
    have zf : w9.heap[w.heap.size]? = some (.cells #[.int .i64 0, .int .i64 0, .int .i64 0, .int .i64 0] 39 (0, 0)) := hz
    have hs := H0.out.same hb9
    clear hz hg hb9
    have HS := Lib.hid hs; clear hs
    have ZF := Lib.hid zf; clear zf
    dsimp only [Act.put]
    go_wp2
    refine bodyPost_ret (results_row2 Tryd.results25 _ _ w.heap.size 39 _ _ _ rfl ZF.out Tryd.underlying39 rfl (by kernel_rfl)) rfl ?_
    exact ⟨rfl, HS.out⟩
  case neg =>
  by_cases hld : who = (n : Int)
  · subst hld
    clear hne
    have hdir : dirOf (decide ((n : Int) = (n : Int))) = 1 := by rw [decide_eq_true rfl]; rfl
    rw [hdir]
    have hwith : withOf (labOf n (I : Int)) (labOf n (n : Int)) 0 = true := with_lead n (by omega) I (by omega) h6.1 hI
    have htk : ∀ ms : List Msg, takeOf (labOf n (I : Int)) ms (labOf n (n : Int)) 0 i = if 0 ≤ i ∧ i < (ms.length : Int) then (ms.getD i.toNat noMsg, 0, ms.eraseIdx i.toNat) else (noMsg, 12, ms) := fun ms => by
      unfold takeOf
      rw [hwith]
      rfl
    rw [htk]
    clear htk hwith
    have hin2 : Inside n ((I : Int), 1) := inside_of hI true
    obtain ⟨va, vc, hev, hvm⟩ := H1.out.shape (k := (((I : Int), (1 : Int)), true)) hin2
    obtain ⟨vb, vd, hev2, -⟩ := H1.out.shape (k := (((I : Int), (0 : Int)), true)) (inside_of hI false)
    have hls : lsOf st (((I : Int), (1 : Int)), true) = (st ((I : Int), 1)).2 := rfl
    rw [hls] at hev hvm
    have hb1 := Hbd.out ((I : Int), 1)
    obtain ⟨ms, hms⟩ : ∃ ms, ms = (st ((I : Int), 1)).2 := ⟨_, rfl⟩
    rw [← hms] at hev hvm hb1 ⊢
    obtain ⟨Ln, hL⟩ : ∃ L, L = ms.length := ⟨_, rfl⟩
    rw [← hL] at hev hvm hb1 ⊢
    clear hls
    have Hvm := Lib.hid hvm; clear hvm
    have HL := Lib.hid hL; clear hL
    have Hms := Lib.hid hms; clear hms
    have e3 : ((n : Int) != (n : Int)) = false := by simp
    have e4 : ((n : Int) == (n : Int)) = true := by simp
    have e5 : ((n : Int) != (I : Int)) = true := by simp; omega
    by_cases hat : 0 ≤ i ∧ i < (Ln : Int)
    case neg =>
      rw [if_neg hat]
      have hup : updE st ((I : Int), 1) ((st ((I : Int), 1)).1, ms) = st := by
        funext y
        by_cases hy : y = ((I : Int), 1)
        · rw [hy, updE_same, Hms.out]
        · rw [updE_other _ _ hy]
      simp only [hup]
      simp only [noMsg, Msg.cells, Msg.kind, Msg.part, Msg.tx, Msg.what]
      have ha : decide (i < 0) = true ∨ decide (i < 0) = false ∧ decide ((Ln : Int) ≤ i) = true := by
        by_cases h : i < 0
        · exact .inl (decide_eq_true h)
        · exact .inr ⟨decide_eq_false h, decide_eq_true (by omega)⟩
      clear hat hup hin hin2 w1t hdir
      rcases ha with a1 | ⟨a1, a2⟩
      · go_enter Tryd.func25, Tryd.ntmps25
        go_wp2_with fail
        rw [← hw1]
        clear hw1
        refine Hth.out.mono ?_
        rintro e w2 ⟨rfl, rfl⟩
        go_wp2_with fail
        refine Hpt.out.mono ?_
        rintro e w2 ⟨rfl, rfl⟩
        have rk0 := cells_at HKr.out 0
        have rk1 := cells_at HKr.out 1
        have rk2 := cells_at HKr.out 2
        go_wp2_with fail
        clear rk0 rk1 rk2
        refine (How.out _).mono ?_
        rintro e w3 ⟨rfl, b3⟩
        have z3 := (b3.block _ (Array.getElem?_eq_some_iff.1 Z1.out).1).trans Z1.out
        have hb3 := C1.out.trans (b3.mono C1.out.size)
        have r3 := (b3.block _ (Array.getElem?_eq_some_iff.1 HKr.out).1).trans HKr.out
        clear b3
        have rk0 := cells_at r3 0
        have rk3 := cells_at r3 3
        have rk4 := cells_at r3 4
        have h3 := H1.out.below hb3
        have cd := h3.at1 hI (d := 0) (.inl rfl)
        have cu := h3.at1 hI (d := 1) (.inr rfl)
        rw [hev2, show gwOf gu gd 0 = gd from rfl] at cd
        rw [hev, show gwOf gu gd 1 = gu from rfl] at cu
        clear r3 h3
        have HB3 := Lib.hid hb3; clear hb3
        have Z3 := Lib.hid z3; clear z3
        clear hev hev2
        go_wp2_with (with_reducible refine stop_store 39 ?_)
        refine unpark ?_
        refine wpList_store_at rfl _ _ _ rfl w.heap.size 0 rfl _ rfl [.int .i64 0, .int .i64 0, .int .i64 0, .int .i64 0] rfl _ _ Z3.out 4 rfl (by simp) (by simp [Value.oneCell']) Tryd.sizeMsg ?_
        intro w9 hz hg hs9
        clear hs9
        have hb9 := HB3.out.grown hg HB3.out.size (fun k hk => by cases hk; exact Nat.le_refl _)
        have zf : w9.heap[w.heap.size]? = some (.cells #[.int .i64 0, .int .i64 0, .int .i64 0, .int .i64 0] 39 (0, 0)) := hz
        have hs := H0.out.same hb9
        clear hz hg hb9
        have HS := Lib.hid hs; clear hs
        have ZF := Lib.hid zf; clear zf
        dsimp only [Act.put]
        go_wp2
        refine bodyPost_ret (results_row2 Tryd.results25 _ _ w.heap.size 39 _ _ _ rfl ZF.out Tryd.underlying39 rfl (by kernel_rfl)) rfl ?_
        exact ⟨rfl, HS.out⟩
      · go_enter Tryd.func25, Tryd.ntmps25
        go_wp2_with fail
        rw [← hw1]
        clear hw1
        refine Hth.out.mono ?_
        rintro e w2 ⟨rfl, rfl⟩
        go_wp2_with fail
        refine Hpt.out.mono ?_
        rintro e w2 ⟨rfl, rfl⟩
        have rk0 := cells_at HKr.out 0
        have rk1 := cells_at HKr.out 1
        have rk2 := cells_at HKr.out 2
        go_wp2_with fail
        clear rk0 rk1 rk2
        refine (How.out _).mono ?_
        rintro e w3 ⟨rfl, b3⟩
        have z3 := (b3.block _ (Array.getElem?_eq_some_iff.1 Z1.out).1).trans Z1.out
        have hb3 := C1.out.trans (b3.mono C1.out.size)
        have r3 := (b3.block _ (Array.getElem?_eq_some_iff.1 HKr.out).1).trans HKr.out
        clear b3
        have rk0 := cells_at r3 0
        have rk3 := cells_at r3 3
        have rk4 := cells_at r3 4
        have h3 := H1.out.below hb3
        have cd := h3.at1 hI (d := 0) (.inl rfl)
        have cu := h3.at1 hI (d := 1) (.inr rfl)
        rw [hev2, show gwOf gu gd 0 = gd from rfl] at cd
        rw [hev, show gwOf gu gd 1 = gu from rfl] at cu
        clear r3 h3
        have HB3 := Lib.hid hb3; clear hb3
        have Z3 := Lib.hid z3; clear z3
        clear hev hev2
        go_wp2_with (with_reducible refine stop_store 39 ?_)
        refine unpark ?_
        refine wpList_store_at rfl _ _ _ rfl w.heap.size 0 rfl _ rfl [.int .i64 0, .int .i64 0, .int .i64 0, .int .i64 0] rfl _ _ Z3.out 4 rfl (by simp) (by simp [Value.oneCell']) Tryd.sizeMsg ?_
        intro w9 hz hg hs9
        clear hs9
        have hb9 := HB3.out.grown hg HB3.out.size (fun k hk => by cases hk; exact Nat.le_refl _)
        have zf : w9.heap[w.heap.size]? = some (.cells #[.int .i64 0, .int .i64 0, .int .i64 0, .int .i64 0] 39 (0, 0)) := hz
        have hs := H0.out.same hb9
        clear hz hg hb9
        have HS := Lib.hid hs; clear hs
        have ZF := Lib.hid zf; clear zf
        dsimp only [Act.put]
        go_wp2
        refine bodyPost_ret (results_row2 Tryd.results25 _ _ w.heap.size 39 _ _ _ rfl ZF.out Tryd.underlying39 rfl (by kernel_rfl)) rfl ?_
        exact ⟨rfl, HS.out⟩
    case pos =>
    rw [if_pos hat]
    obtain ⟨A, rfl⟩ : ∃ A : Nat, i = A := ⟨i.toNat, by omega⟩
    have hA : A < Ln := by omega
    rw [Int.toNat_natCast]
    have hAm : A < ms.length := by rw [← HL.out]; exact hA
    have hget : ms.getD A noMsg = ms[A] := by rw [List.getD_eq_getElem?_getD, List.getElem?_eq_getElem hAm, Option.getD_some]
    rw [hget]
    obtain ⟨bv, ov, rfl⟩ := Hvm.out.addr (by omega)
    have hcx := fun w3 (hb : Below w.heap.size w w3) => (Hvm.out.keep hb).at hAm
    obtain ⟨mm, hmm⟩ : ∃ mm, mm = ms[A] := ⟨_, rfl⟩
    rw [← hmm] at hcx ⊢
    clear hmm hget hat
    obtain ⟨k1, k2, k3, k4⟩ := mm
    have a1 : decide ((A : Int) < 0) = false := decide_eq_false (by omega)
    have a2 : decide ((Ln : Int) ≤ (A : Int)) = false := decide_eq_false (by omega)
    have a2' : decide (Ln ≤ A) = false := decide_eq_false (by omega)
    have a3 : (0 : Int) ≤ (A : Int) := by omega
    have a4 : (A : Int) < (Ln : Int) := by omega
    have Hcx := Lib.hid hcx; clear hcx
    clear hin hin2 w1t hdir hAm
    simp only [Msg.cells, Msg.kind, Msg.part, Msg.tx, Msg.what]
    go_enter Tryd.func25, Tryd.ntmps25
    go_wp2_with fail
    rw [← hw1]
    clear hw1
    refine Hth.out.mono ?_
    rintro e w2 ⟨rfl, rfl⟩
    go_wp2_with fail
    refine Hpt.out.mono ?_
    rintro e w2 ⟨rfl, rfl⟩
    have rk0 := cells_at HKr.out 0
    have rk1 := cells_at HKr.out 1
    have rk2 := cells_at HKr.out 2
    go_wp2_with fail
    clear rk0 rk1 rk2
    refine (How.out _).mono ?_
    rintro e w3 ⟨rfl, b3⟩
    have z3 := (b3.block _ (Array.getElem?_eq_some_iff.1 Z1.out).1).trans Z1.out
    have hb3 := C1.out.trans (b3.mono C1.out.size)
    have r3 := (b3.block _ (Array.getElem?_eq_some_iff.1 HKr.out).1).trans HKr.out
    clear b3
    have rk0 := cells_at r3 0
    have rk3 := cells_at r3 3
    have rk4 := cells_at r3 4
    have h3 := H1.out.below hb3
    have cd := h3.at1 hI (d := 0) (.inl rfl)
    have cu := h3.at1 hI (d := 1) (.inr rfl)
    rw [hev2, show gwOf gu gd 0 = gd from rfl] at cd
    rw [hev, show gwOf gu gd 1 = gu from rfl] at cu
    have x0 := Hcx.out w3 hb3 0 _ rfl
    have x1 := Hcx.out w3 hb3 1 _ rfl
    have x2 := Hcx.out w3 hb3 2 _ rfl
    have x3 := Hcx.out w3 hb3 3 _ rfl
    simp only [Nat.add_zero, Msg.kind, Msg.part, Msg.tx, Msg.what] at x0 x1 x2 x3
    clear h3
    have b4 : Below w3.heap.size w3 (w3.alloc (.cells #[.int .i64 k1, .int .i64 k2, .int .i64 k3, .int .i64 k4] 39)) := (Below.refl _ _).alloc (Nat.le_refl _) _
    have z4 := heap_alloc_new w3 (.cells #[.int .i64 k1, .int .i64 k2, .int .i64 k3, .int .i64 k4] 39)
    obtain ⟨w4, hw4⟩ : ∃ w4, w4 = w3.alloc (.cells #[.int .i64 k1, .int .i64 k2, .int .i64 k3, .int .i64 k4] 39) := ⟨_, rfl⟩
    rw [← hw4] at b4 z4
    have zr4 := (b4.block _ (Array.getElem?_eq_some_iff.1 z3).1).trans z3
    have r4 := (b4.block _ (Array.getElem?_eq_some_iff.1 r3).1).trans r3
    have hb4 := hb3.trans (b4.mono hb3.size)
    have hne3 : w3.heap.size ≠ w.heap.size := by have := (Array.getElem?_eq_some_iff.1 z3).1; omega
    have rk0' : w4.cell? ⟨rb, 0, none⟩ = some (.int .i64 (n : Int)) := cells_at r4 0
    rw [hw4] at rk0'
    have Z3 := Lib.hid z3
    clear b4 z3 r3
    have HB4 := Lib.hid hb4; clear hb4
    have Z4 := Lib.hid z4; clear z4
    have ZR4 := Lib.hid zr4; clear zr4
    have R4 := Lib.hid r4; clear r4
    have HN3 := Lib.hid hne3; clear hne3 hb3
    have Hev := Lib.hid hev; clear hev
    have hgmw : w.heap.size < w3.heap.size := (Array.getElem?_eq_some_iff.1 Z3.out).1
    generalize hgm : w3.heap.size = gm at Z4 HN3 hgmw
    have HGM := Lib.hid hgmw; clear hgmw
    have Hgm := Lib.hid hgm; clear hgm
    go_wp2_with fail
    rw [← hw4]
    try rw [Hgm.out]
    clear hw4 Hgm rk0 rk0' rk3 rk4 cd x0 x1 x2 x3 cu
    obtain ⟨S, hS⟩ : ∃ S : World → Prop, S = fun w' => Below w4.heap.size w4 w' := ⟨_, rfl⟩
    have s0 : S w4.drew := by rw [hS]; exact below_drew w4
    refine wp_region_held S [0, 1, 2, 3, 4, 5, 6] [[7], [8, 9, 10]] (by kernel_rfl) (by kernel_rfl) rfl (by kernel_rfl) (fun _ _ _ h => by obtain ⟨_, h, _⟩ := h; cases h) (fun _ _ h => by obtain ⟨h, _⟩ := h; cases h) s0 (by kernel_rfl) ?_
    generalize w4.drew = w5 at s0 ⊢
    have HS0 := Lib.hid s0; clear s0
    have HSd := Lib.hid hS; clear hS
    apply Exists.intro
    apply And.intro
    · intro w' s
      rw [HSd.out] at s
      have rr := cells_at ((s.block _ (Array.getElem?_eq_some_iff.1 R4.out).1).trans R4.out) 3
      clear s
      simp only [List.map_cons, List.map_nil, List.getD_cons_zero, List.getD_cons_succ]
      go_wp2_with fail
      exact pre_end
    simp only [List.map_cons, List.map_nil, List.getD_cons_zero, List.getD_cons_succ]
    have b5 : Below w4.heap.size w4 w5 := by have := HS0.out; rw [HSd.out] at this; exact this
    have hb5 := HB4.out.trans (b5.mono HB4.out.size)
    have hwo := without_calls (Hvm.out.keep hb5) hb1 hA
    have Hwo := Lib.hid hwo; clear hwo
    have B5 := Lib.hid b5; clear b5
    have HB5 := Lib.hid hb5; clear hb5
    refine segs_more ?_
    go_wp2_with fail
    refine Hwo.out.mono ?_
    rintro e w6 ⟨v6, rfl, own6, b6⟩
    have s6 : S w6 := by rw [HSd.out]; exact B5.out.trans (b6.mono B5.out.size)
    have hb6 := HB5.out.trans (b6.mono HB5.out.size)
    have b46 := B5.out.trans (b6.mono B5.out.size)
    have z6 := (b46.block _ (Array.getElem?_eq_some_iff.1 Z4.out).1).trans Z4.out
    have zr6 := (b46.block _ (Array.getElem?_eq_some_iff.1 ZR4.out).1).trans ZR4.out
    have h6k := H1.out.below hb6
    have c6 := h6k.at1 hI (d := 1) (.inr rfl)
    have f6 := frozen_of_row w6 _ (I * 2 + 1) _ _ (h6k.row 1 (.inr rfl))
    rw [Hev.out, show gwOf gu gd 1 = gu from rfl] at c6
    rw [show gwOf gu gd 1 = gu from rfl] at f6
    have hgl : gu < w.heap.size := (H1.out.lt _ (H1.out.g 1)).2
    have hszg : w.heap.size < w5.heap.size := Nat.lt_of_lt_of_le (Array.getElem?_eq_some_iff.1 ZR4.out).1 B5.out.size
    have z7 : (w6.setCell ⟨gu, I * 2 + 1, none⟩ v6).heap[gm]? = _ := (heap_setCell_other w6 _ gm _ (fun e => by have e : gm = gu := e; have := HGM.out; omega)).trans z6
    have zr7 : (w6.setCell ⟨gu, I * 2 + 1, none⟩ v6).heap[w.heap.size]? = _ := (heap_setCell_other w6 _ w.heap.size _ (fun e => by have e : w.heap.size = gu := e; omega)).trans zr6
    obtain ⟨va6, k6, vc6, e6, hm6, -⟩ := own6.msgs
    obtain rfl := hm6.len
    subst e6
    have O6 := Lib.hid own6; clear own6 hm6
    have HB6 := Lib.hid hb6; clear hb6 b46 b6 z6 zr6 h6k
    have Z7 := Lib.hid z7; clear z7
    have ZR7 := Lib.hid zr7; clear zr7
    have HZ := Lib.hid hszg; clear hszg hgl
    generalize (ms.eraseIdx A).length = L6 at *
    go_wp2_with fail
    refine seg_end s6 (segs_last ?_)
    clear s6
    have x0 := cells_at Z7.out 0
    have x1 := cells_at Z7.out 1
    have x2 := cells_at Z7.out 2
    have x3 := cells_at Z7.out 3
    go_wp2_with (with_reducible refine stop_store 39 ?_)
    refine unpark ?_
    refine wpList_store_at rfl _ _ _ rfl w.heap.size 0 rfl _ rfl [.int .i64 k1, .int .i64 k2, .int .i64 k3, .int .i64 k4] rfl _ _ ZR7.out 4 rfl (by simp) (by simp [Value.oneCell']) Tryd.sizeMsg ?_
    intro w9 hz hg hs9
    clear hs9
    have hfin := H0.out.taken H1.out H2.out hI (.inr rfl) true HB6.out O6.out ⟨Nat.le_refl _, HZ.out⟩ hg
    rw [updL_box] at hfin
    have zf : w9.heap[w.heap.size]? = some (.cells #[.int .i64 k1, .int .i64 k2, .int .i64 k3, .int .i64 k4] 39 (0, 0)) := hz
    clear hz hg x0 x1 x2 x3 c6 f6 Z7 ZR7 O6
    have HF := Lib.hid hfin; clear hfin
    have ZF := Lib.hid zf; clear zf
    dsimp only [Act.put]
    go_wp2
    refine bodyPost_ret (results_row2 Tryd.results25 _ _ w.heap.size 39 _ _ _ rfl ZF.out Tryd.underlying39 rfl (by kernel_rfl)) rfl ?_
    exact ⟨rfl, HF.out⟩
  have hwI : who = (I : Int) := by omega
  subst hwI
  clear hne
  have hdir : dirOf (decide ((I : Int) = (n : Int))) = 0 := by rw [decide_eq_false (by omega)]; rfl
  rw [hdir]
  have hwith : withOf (labOf n (I : Int)) (labOf n (I : Int)) 0 = true := with_same n (by omega) I (by omega)
  have htk : ∀ ms : List Msg, takeOf (labOf n (I : Int)) ms (labOf n (I : Int)) 0 i = if 0 ≤ i ∧ i < (ms.length : Int) then (ms.getD i.toNat noMsg, 0, ms.eraseIdx i.toNat) else (noMsg, 12, ms) := fun ms => by
    unfold takeOf
    rw [hwith]
    rfl
  rw [htk]
  clear htk hwith
  have hin2 : Inside n ((I : Int), 0) := inside_of hI false
  obtain ⟨va, vc, hev, hvm⟩ := H1.out.shape (k := (((I : Int), (0 : Int)), true)) hin2
  skip
  have hls : lsOf st (((I : Int), (0 : Int)), true) = (st ((I : Int), 0)).2 := rfl
  rw [hls] at hev hvm
  have hb1 := Hbd.out ((I : Int), 0)
  obtain ⟨ms, hms⟩ : ∃ ms, ms = (st ((I : Int), 0)).2 := ⟨_, rfl⟩
  rw [← hms] at hev hvm hb1 ⊢
  obtain ⟨Ln, hL⟩ : ∃ L, L = ms.length := ⟨_, rfl⟩
  rw [← hL] at hev hvm hb1 ⊢
  clear hls
  have Hvm := Lib.hid hvm; clear hvm
  have HL := Lib.hid hL; clear hL
  have Hms := Lib.hid hms; clear hms
  have e3 : ((I : Int) != (n : Int)) = true := by simp; omega
  have e4 : ((I : Int) == (n : Int)) = false := by simp; omega
  have e5 : ((I : Int) != (I : Int)) = false := by simp
  by_cases hat : 0 ≤ i ∧ i < (Ln : Int)
  case neg =>
    rw [if_neg hat]
    have hup : updE st ((I : Int), 0) ((st ((I : Int), 0)).1, ms) = st := by
      funext y
      by_cases hy : y = ((I : Int), 0)
      · rw [hy, updE_same, Hms.out]
      · rw [updE_other _ _ hy]
    simp only [hup]
    simp only [noMsg, Msg.cells, Msg.kind, Msg.part, Msg.tx, Msg.what]
    have ha : decide (i < 0) = true ∨ decide (i < 0) = false ∧ decide ((Ln : Int) ≤ i) = true := by
      by_cases h : i < 0
      · exact .inl (decide_eq_true h)
      · exact .inr ⟨decide_eq_false h, decide_eq_true (by omega)⟩
    clear hat hup hin hin2 w1t hdir
    rcases ha with a1 | ⟨a1, a2⟩
    · go_enter Tryd.func25, Tryd.ntmps25
      go_wp2_with fail
      rw [← hw1]
      clear hw1
      refine Hth.out.mono ?_
      rintro e w2 ⟨rfl, rfl⟩
      go_wp2_with fail
      refine Hpt.out.mono ?_
      rintro e w2 ⟨rfl, rfl⟩
      have rk0 := cells_at HKr.out 0
      have rk1 := cells_at HKr.out 1
      have rk2 := cells_at HKr.out 2
      go_wp2_with fail
      clear rk0 rk1 rk2
      refine (How.out _).mono ?_
      rintro e w3 ⟨rfl, b3⟩
      have z3 := (b3.block _ (Array.getElem?_eq_some_iff.1 Z1.out).1).trans Z1.out
      have hb3 := C1.out.trans (b3.mono C1.out.size)
      have r3 := (b3.block _ (Array.getElem?_eq_some_iff.1 HKr.out).1).trans HKr.out
      clear b3
      have rk0 := cells_at r3 0
      have rk3 := cells_at r3 3
      have rk4 := cells_at r3 4
      have h3 := H1.out.below hb3
      have cd := h3.at1 hI (d := 0) (.inl rfl)
      rw [hev, show gwOf gu gd 0 = gd from rfl] at cd
      clear r3 h3
      have HB3 := Lib.hid hb3; clear hb3
      have Z3 := Lib.hid z3; clear z3
      clear hev
      go_wp2_with (with_reducible refine stop_store 39 ?_)
      refine unpark ?_
      refine wpList_store_at rfl _ _ _ rfl w.heap.size 0 rfl _ rfl [.int .i64 0, .int .i64 0, .int .i64 0, .int .i64 0] rfl _ _ Z3.out 4 rfl (by simp) (by simp [Value.oneCell']) Tryd.sizeMsg ?_
      intro w9 hz hg hs9
      clear hs9
      have hb9 := HB3.out.grown hg HB3.out.size (fun k hk => by cases hk; exact Nat.le_refl _)
      have zf : w9.heap[w.heap.size]? = some (.cells #[.int .i64 0, .int .i64 0, .int .i64 0, .int .i64 0] 39 (0, 0)) := hz
      have hs := H0.out.same hb9
      clear hz hg hb9
      have HS := Lib.hid hs; clear hs
      have ZF := Lib.hid zf; clear zf
      dsimp only [Act.put]
      go_wp2
      refine bodyPost_ret (results_row2 Tryd.results25 _ _ w.heap.size 39 _ _ _ rfl ZF.out Tryd.underlying39 rfl (by kernel_rfl)) rfl ?_
      exact ⟨rfl, HS.out⟩
    · go_enter Tryd.func25, Tryd.ntmps25
      go_wp2_with fail
      rw [← hw1]
      clear hw1
      refine Hth.out.mono ?_
      rintro e w2 ⟨rfl, rfl⟩
      go_wp2_with fail
      refine Hpt.out.mono ?_
      rintro e w2 ⟨rfl, rfl⟩
      have rk0 := cells_at HKr.out 0
      have rk1 := cells_at HKr.out 1
      have rk2 := cells_at HKr.out 2
      go_wp2_with fail
      clear rk0 rk1 rk2
      refine (How.out _).mono ?_
      rintro e w3 ⟨rfl, b3⟩
      have z3 := (b3.block _ (Array.getElem?_eq_some_iff.1 Z1.out).1).trans Z1.out
      have hb3 := C1.out.trans (b3.mono C1.out.size)
      have r3 := (b3.block _ (Array.getElem?_eq_some_iff.1 HKr.out).1).trans HKr.out
      clear b3
      have rk0 := cells_at r3 0
      have rk3 := cells_at r3 3
      have rk4 := cells_at r3 4
      have h3 := H1.out.below hb3
      have cd := h3.at1 hI (d := 0) (.inl rfl)
      rw [hev, show gwOf gu gd 0 = gd from rfl] at cd
      clear r3 h3
      have HB3 := Lib.hid hb3; clear hb3
      have Z3 := Lib.hid z3; clear z3
      clear hev
      go_wp2_with (with_reducible refine stop_store 39 ?_)
      refine unpark ?_
      refine wpList_store_at rfl _ _ _ rfl w.heap.size 0 rfl _ rfl [.int .i64 0, .int .i64 0, .int .i64 0, .int .i64 0] rfl _ _ Z3.out 4 rfl (by simp) (by simp [Value.oneCell']) Tryd.sizeMsg ?_
      intro w9 hz hg hs9
      clear hs9
      have hb9 := HB3.out.grown hg HB3.out.size (fun k hk => by cases hk; exact Nat.le_refl _)
      have zf : w9.heap[w.heap.size]? = some (.cells #[.int .i64 0, .int .i64 0, .int .i64 0, .int .i64 0] 39 (0, 0)) := hz
      have hs := H0.out.same hb9
      clear hz hg hb9
      have HS := Lib.hid hs; clear hs
      have ZF := Lib.hid zf; clear zf
      dsimp only [Act.put]
      go_wp2
      refine bodyPost_ret (results_row2 Tryd.results25 _ _ w.heap.size 39 _ _ _ rfl ZF.out Tryd.underlying39 rfl (by kernel_rfl)) rfl ?_
      exact ⟨rfl, HS.out⟩
  case pos =>
  rw [if_pos hat]
  obtain ⟨A, rfl⟩ : ∃ A : Nat, i = A := ⟨i.toNat, by omega⟩
  have hA : A < Ln := by omega
  rw [Int.toNat_natCast]
  have hAm : A < ms.length := by rw [← HL.out]; exact hA
  have hget : ms.getD A noMsg = ms[A] := by rw [List.getD_eq_getElem?_getD, List.getElem?_eq_getElem hAm, Option.getD_some]
  rw [hget]
  obtain ⟨bv, ov, rfl⟩ := Hvm.out.addr (by omega)
  have hcx := fun w3 (hb : Below w.heap.size w w3) => (Hvm.out.keep hb).at hAm
  obtain ⟨mm, hmm⟩ : ∃ mm, mm = ms[A] := ⟨_, rfl⟩
  rw [← hmm] at hcx ⊢
  clear hmm hget hat
  obtain ⟨k1, k2, k3, k4⟩ := mm
  have a1 : decide ((A : Int) < 0) = false := decide_eq_false (by omega)
  have a2 : decide ((Ln : Int) ≤ (A : Int)) = false := decide_eq_false (by omega)
  have a2' : decide (Ln ≤ A) = false := decide_eq_false (by omega)
  have a3 : (0 : Int) ≤ (A : Int) := by omega
  have a4 : (A : Int) < (Ln : Int) := by omega
  have Hcx := Lib.hid hcx; clear hcx
  clear hin hin2 w1t hdir hAm
  simp only [Msg.cells, Msg.kind, Msg.part, Msg.tx, Msg.what]
  go_enter Tryd.func25, Tryd.ntmps25
  go_wp2_with fail
  rw [← hw1]
  clear hw1
  refine Hth.out.mono ?_
  rintro e w2 ⟨rfl, rfl⟩
  go_wp2_with fail
  refine Hpt.out.mono ?_
  rintro e w2 ⟨rfl, rfl⟩
  have rk0 := cells_at HKr.out 0
  have rk1 := cells_at HKr.out 1
  have rk2 := cells_at HKr.out 2
  go_wp2_with fail
  clear rk0 rk1 rk2
  refine (How.out _).mono ?_
  rintro e w3 ⟨rfl, b3⟩
  have z3 := (b3.block _ (Array.getElem?_eq_some_iff.1 Z1.out).1).trans Z1.out
  have hb3 := C1.out.trans (b3.mono C1.out.size)
  have r3 := (b3.block _ (Array.getElem?_eq_some_iff.1 HKr.out).1).trans HKr.out
  clear b3
  have rk0 := cells_at r3 0
  have rk3 := cells_at r3 3
  have rk4 := cells_at r3 4
  have h3 := H1.out.below hb3
  have cd := h3.at1 hI (d := 0) (.inl rfl)
  rw [hev, show gwOf gu gd 0 = gd from rfl] at cd
  have x0 := Hcx.out w3 hb3 0 _ rfl
  have x1 := Hcx.out w3 hb3 1 _ rfl
  have x2 := Hcx.out w3 hb3 2 _ rfl
  have x3 := Hcx.out w3 hb3 3 _ rfl
  simp only [Nat.add_zero, Msg.kind, Msg.part, Msg.tx, Msg.what] at x0 x1 x2 x3
  clear h3
  have b4 : Below w3.heap.size w3 (w3.alloc (.cells #[.int .i64 k1, .int .i64 k2, .int .i64 k3, .int .i64 k4] 39)) := (Below.refl _ _).alloc (Nat.le_refl _) _
  have z4 := heap_alloc_new w3 (.cells #[.int .i64 k1, .int .i64 k2, .int .i64 k3, .int .i64 k4] 39)
  obtain ⟨w4, hw4⟩ : ∃ w4, w4 = w3.alloc (.cells #[.int .i64 k1, .int .i64 k2, .int .i64 k3, .int .i64 k4] 39) := ⟨_, rfl⟩
  rw [← hw4] at b4 z4
  have zr4 := (b4.block _ (Array.getElem?_eq_some_iff.1 z3).1).trans z3
  have r4 := (b4.block _ (Array.getElem?_eq_some_iff.1 r3).1).trans r3
  have hb4 := hb3.trans (b4.mono hb3.size)
  have hne3 : w3.heap.size ≠ w.heap.size := by have := (Array.getElem?_eq_some_iff.1 z3).1; omega
  have rk0' : w4.cell? ⟨rb, 0, none⟩ = some (.int .i64 (n : Int)) := cells_at r4 0
  rw [hw4] at rk0'
  have Z3 := Lib.hid z3
  clear b4 z3 r3
  have HB4 := Lib.hid hb4; clear hb4
  have Z4 := Lib.hid z4; clear z4
  have ZR4 := Lib.hid zr4; clear zr4
  have R4 := Lib.hid r4; clear r4
  have HN3 := Lib.hid hne3; clear hne3 hb3
  have Hev := Lib.hid hev; clear hev
  have hgmw : w.heap.size < w3.heap.size := (Array.getElem?_eq_some_iff.1 Z3.out).1
  generalize hgm : w3.heap.size = gm at Z4 HN3 hgmw
  have HGM := Lib.hid hgmw; clear hgmw
  have Hgm := Lib.hid hgm; clear hgm
  go_wp2_with fail
  rw [← hw4]
  try rw [Hgm.out]
  clear hw4 Hgm rk0 rk0' rk3 rk4 cd x0 x1 x2 x3
  obtain ⟨S, hS⟩ : ∃ S : World → Prop, S = fun w' => Below w4.heap.size w4 w' := ⟨_, rfl⟩
  have s0 : S w4.drew := by rw [hS]; exact below_drew w4
  refine wp_region_held S [0, 1, 2, 3, 4, 5, 6] [[7], [8, 9, 10]] (by kernel_rfl) (by kernel_rfl) rfl (by kernel_rfl) (fun _ _ _ h => by obtain ⟨_, h, _⟩ := h; cases h) (fun _ _ h => by obtain ⟨h, _⟩ := h; cases h) s0 (by kernel_rfl) ?_
  generalize w4.drew = w5 at s0 ⊢
  have HS0 := Lib.hid s0; clear s0
  have HSd := Lib.hid hS; clear hS
  apply Exists.intro
  apply And.intro
  · intro w' s
    rw [HSd.out] at s
    have rr := cells_at ((s.block _ (Array.getElem?_eq_some_iff.1 R4.out).1).trans R4.out) 4
    clear s
    simp only [List.map_cons, List.map_nil, List.getD_cons_zero, List.getD_cons_succ]
    go_wp2_with fail
    exact pre_end
  simp only [List.map_cons, List.map_nil, List.getD_cons_zero, List.getD_cons_succ]
  have b5 : Below w4.heap.size w4 w5 := by have := HS0.out; rw [HSd.out] at this; exact this
  have hb5 := HB4.out.trans (b5.mono HB4.out.size)
  have hwo := without_calls (Hvm.out.keep hb5) hb1 hA
  have Hwo := Lib.hid hwo; clear hwo
  have B5 := Lib.hid b5; clear b5
  have HB5 := Lib.hid hb5; clear hb5
  refine segs_more ?_
  go_wp2_with fail
  refine Hwo.out.mono ?_
  rintro e w6 ⟨v6, rfl, own6, b6⟩
  have s6 : S w6 := by rw [HSd.out]; exact B5.out.trans (b6.mono B5.out.size)
  have hb6 := HB5.out.trans (b6.mono HB5.out.size)
  have b46 := B5.out.trans (b6.mono B5.out.size)
  have z6 := (b46.block _ (Array.getElem?_eq_some_iff.1 Z4.out).1).trans Z4.out
  have zr6 := (b46.block _ (Array.getElem?_eq_some_iff.1 ZR4.out).1).trans ZR4.out
  have h6k := H1.out.below hb6
  have c6 := h6k.at1 hI (d := 0) (.inl rfl)
  have f6 := frozen_of_row w6 _ (I * 2 + 1) _ _ (h6k.row 0 (.inl rfl))
  rw [Hev.out, show gwOf gu gd 0 = gd from rfl] at c6
  rw [show gwOf gu gd 0 = gd from rfl] at f6
  have hgl : gd < w.heap.size := (H1.out.lt _ (H1.out.g 0)).2
  have hszg : w.heap.size < w5.heap.size := Nat.lt_of_lt_of_le (Array.getElem?_eq_some_iff.1 ZR4.out).1 B5.out.size
  have z7 : (w6.setCell ⟨gd, I * 2 + 1, none⟩ v6).heap[gm]? = _ := (heap_setCell_other w6 _ gm _ (fun e => by have e : gm = gd := e; have := HGM.out; omega)).trans z6
  have zr7 : (w6.setCell ⟨gd, I * 2 + 1, none⟩ v6).heap[w.heap.size]? = _ := (heap_setCell_other w6 _ w.heap.size _ (fun e => by have e : w.heap.size = gd := e; omega)).trans zr6
  obtain ⟨va6, k6, vc6, e6, hm6, -⟩ := own6.msgs
  obtain rfl := hm6.len
  subst e6
  have O6 := Lib.hid own6; clear own6 hm6
  have HB6 := Lib.hid hb6; clear hb6 b46 b6 z6 zr6 h6k
  have Z7 := Lib.hid z7; clear z7
  have ZR7 := Lib.hid zr7; clear zr7
  have HZ := Lib.hid hszg; clear hszg hgl
  generalize (ms.eraseIdx A).length = L6 at *
  go_wp2_with fail
  refine seg_end s6 (segs_last ?_)
  clear s6
  have x0 := cells_at Z7.out 0
  have x1 := cells_at Z7.out 1
  have x2 := cells_at Z7.out 2
  have x3 := cells_at Z7.out 3
  go_wp2_with (with_reducible refine stop_store 39 ?_)
  refine unpark ?_
  refine wpList_store_at rfl _ _ _ rfl w.heap.size 0 rfl _ rfl [.int .i64 k1, .int .i64 k2, .int .i64 k3, .int .i64 k4] rfl _ _ ZR7.out 4 rfl (by simp) (by simp [Value.oneCell']) Tryd.sizeMsg ?_
  intro w9 hz hg hs9
  clear hs9
  have hfin := H0.out.taken H1.out H2.out hI (.inl rfl) true HB6.out O6.out ⟨Nat.le_refl _, HZ.out⟩ hg
  rw [updL_box] at hfin
  have zf : w9.heap[w.heap.size]? = some (.cells #[.int .i64 k1, .int .i64 k2, .int .i64 k3, .int .i64 k4] 39 (0, 0)) := hz
  clear hz hg x0 x1 x2 x3 c6 f6 Z7 ZR7 O6
  have HF := Lib.hid hfin; clear hfin
  have ZF := Lib.hid zf; clear zf
  dsimp only [Act.put]
  go_wp2
  refine bodyPost_ret (results_row2 Tryd.results25 _ _ w.heap.size 39 _ _ _ rfl ZF.out Tryd.underlying39 rfl (by kernel_rfl)) rfl ?_
  exact ⟨rfl, HF.out⟩
/-- The ways as they are when the first parts are cleared. -/
def clearP (n : Nat) (st : Sta) (who : Int) (j : Nat) : Sta := fun e => if 0 ≤ e.1 ∧ e.1 < (j : Int) ∧ (e.2 = 0 ∨ e.2 = 1) then clearE n who e (st e) else st e
theorem clearP_all (n : Nat) (st : Sta) (who : Int) {e : End} (h : Inside n e) : clearP n st who n e = clearK n st who e := if_pos h
theorem clearP_zero (n : Nat) (st : Sta) (who : Int) : clearP n st who 0 = st := by
  funext e
  exact if_neg (by omega)
/-- One part more. -/
theorem clearP_next (n : Nat) (st : Sta) (who : Int) (j : Nat) : clearP n st who (j + 1) = updE (updE (clearP n st who j) ((j : Int), 0) (clearE n who ((j : Int), 0) (st ((j : Int), 0)))) ((j : Int), 1) (clearE n who ((j : Int), 1) (st ((j : Int), 1))) := by
  funext e
  by_cases h1 : e = ((j : Int), 1)
  · subst h1
    rw [updE_same]
    exact if_pos ⟨by show (0 : Int) ≤ (j : Int); omega, by show (j : Int) < ((j + 1 : Nat) : Int); omega, .inr rfl⟩
  · rw [updE_other _ _ h1]
    by_cases h0 : e = ((j : Int), 0)
    · subst h0
      rw [updE_same]
      exact if_pos ⟨by show (0 : Int) ≤ (j : Int); omega, by show (j : Int) < ((j + 1 : Nat) : Int); omega, .inl rfl⟩
    · rw [updE_other _ _ h0]
      obtain ⟨e1, e2⟩ := e
      unfold clearP
      simp only [Prod.mk.injEq, not_and] at h0 h1
      by_cases hc : 0 ≤ e1 ∧ e1 < (j : Int) ∧ (e2 = 0 ∨ e2 = 1)
      · rw [if_pos hc, if_pos ⟨hc.1, by omega, hc.2.2⟩]
      · rw [if_neg hc, if_neg]
        rintro ⟨a1, a2, a3⟩
        by_cases hj : e1 = (j : Int)
        · rcases a3 with a3 | a3
          · exact h0 hj a3
          · exact h1 hj a3
        · exact hc ⟨a1, by omega, a3⟩
theorem clearP_at (n : Nat) (st : Sta) (who : Int) (j : Nat) (d : Int) : clearP n st who j ((j : Int), d) = st ((j : Int), d) := if_neg (by rintro ⟨-, h, -⟩; simp at h)
theorem RK.like {w : World} {B rb gu gd n : Nat} {p : Pl} {mv : Ck → Value} {st st' : Sta} (h : RK w B rb gu gd n p mv st) (he : ∀ e, Inside n e → st e = st' e) : RK w B rb gu gd n p mv st' :=
  ⟨h.root, h.row, fun k hk => by
    have := h.bag k hk
    unfold lsOf at this ⊢
    rw [← he k.1 hk]
    exact this, h.own, h.apart, h.base, h.good, h.num⟩
/-- Two cells of a part are stored with none. -/
theorem RK.bare2 {w : World} {B rb gu gd n : Nat} {p : Pl} {mv : Ck → Value} {st : Sta} (h : RK w B rb gu gd n p mv st) {i : Nat} (hi : i < n) {d d' : Int} (hd : d = 0 ∨ d = 1) (hd' : d' = 0 ∨ d' = 1) (b b' : Bool) :
    RK ((w.setCell ⟨gwOf gu gd d, i * 2 + bitOf b, none⟩ (.slice none 0 0)).setCell ⟨gwOf gu gd d', i * 2 + bitOf b', none⟩ (.slice none 0 0)) B rb gu gd n p (updC (updC mv (((i : Int), d), b) (.slice none 0 0)) (((i : Int), d'), b') (.slice none 0 0)) (updL (updL st (((i : Int), d), b) []) (((i : Int), d'), b') []) ∧
      Mod (rkfoot rb gu gd n mv) w ((w.setCell ⟨gwOf gu gd d, i * 2 + bitOf b, none⟩ (.slice none 0 0)).setCell ⟨gwOf gu gd d', i * 2 + bitOf b', none⟩ (.slice none 0 0)) ∧
      ∀ x, rkfoot rb gu gd n (updC (updC mv (((i : Int), d), b) (.slice none 0 0)) (((i : Int), d'), b') (.slice none 0 0)) x → rkfoot rb gu gd n mv x := by
  obtain ⟨t1, t2, t3⟩ := h.turn hi hd b (v' := .slice none 0 0) (l' := []) (Mod.refl _ w) (MOwn.nil _ _) (fun g hg => by cases hg)
  obtain ⟨u1, u2, u3⟩ := t1.turn hi hd' b' (v' := .slice none 0 0) (l' := []) (Mod.refl _ _) (MOwn.nil _ _) (fun g hg => by cases hg)
  have s1 : (w.setCell ⟨gwOf gu gd d, i * 2 + bitOf b, none⟩ (.slice none 0 0)).heap.size = w.heap.size := by simp
  have s2 : ((w.setCell ⟨gwOf gu gd d, i * 2 + bitOf b, none⟩ (.slice none 0 0)).setCell ⟨gwOf gu gd d', i * 2 + bitOf b', none⟩ (.slice none 0 0)).heap.size = w.heap.size := by simp
  have k3 : ∀ x, rkfoot rb gu gd n (updC mv (((i : Int), d), b) (.slice none 0 0)) x → rkfoot rb gu gd n mv x := fun x hx => (t3 x hx).elim (fun h => h) fun h => by omega
  exact ⟨u1, t2.trans u2 (fun _ h => h) fun x _ hx => k3 x hx, fun x hx => (u3 x hx).elim (k3 x) fun h => by omega⟩
set_option maxHeartbeats 8000000 in
theorem Clear_rn (h : Rn w0 w rb F n p st) (who : Int) : Calls Tryd.prog 27 #[.pointer (some ⟨rb, 0, none⟩), .int .i64 who] w fun e w' => e = .returned (.tuple #[]) ∧ Rn w0 w' rb (grownF F w w') n p (clearK n st who) ∧ Mod F w w' := by
  obtain ⟨gu, gd, mv, h1, h2⟩ := h.is
  have H0 := Lib.hid h; clear h
  have H1 := Lib.hid h1; clear h1
  have H2 := Lib.hid h2; clear h2
  go_enter Tryd.func27, Tryd.ntmps27
  go_wp2_with fail
  go_loopw [4] (fun i wr => ∃ (j : Nat) (mv' : Ck → Value), j ≤ n ∧ i = .int .i64 (j : Int) ∧ RK wr w0.heap.size rb gu gd n p mv' (clearP n st who j) ∧ Mod (rkfoot rb gu gd n mv) w wr ∧ ∀ x, rkfoot rb gu gd n mv' x → rkfoot rb gu gd n mv x) (fun i _ => n - (intOf i).toNat)
  case atStart => exact ⟨0, mv, Nat.zero_le _, rfl, by rw [clearP_zero]; exact H1.out, Mod.refl _ w, fun _ h => h⟩
  case round =>
    obtain ⟨j, mv', hj, rfl, hk, hm, hx⟩ := hrel
    have hn := hk.num
    have h6 := hk.six
    have rk0 := cells_at hk.root 0
    have rk3 := cells_at hk.root 3
    have rk4 := cells_at hk.root 4
    rw [hn] at rk0
    have HX := Lib.hid (And.intro hm hx); clear hm hx hn
    by_cases hlt : j < n
    case neg =>
      obtain rfl : j = n := by omega
      obtain ⟨hm, hx⟩ := HX.out
      have hs := H0.out.after H2.out (hk.like (fun e he => clearP_all j st who he)) hm fun x h => .inl (hx x h)
      clear hk hm hx
      have HS := Lib.hid hs; clear hs
      go_wp2
      go_end0
      exact ⟨rfl, HS.out⟩
    case pos =>
    have i1 : (j : Int) < (n : Int) := by omega
    have i2 : (0 : Int) ≤ (j : Int) := by omega
    have cu0 := hk.at0 hlt (d := 1) (.inr rfl)
    have cu1 := hk.at1 hlt (d := 1) (.inr rfl)
    have cd0 := hk.at0 hlt (d := 0) (.inl rfl)
    have cd1 := hk.at1 hlt (d := 0) (.inl rfl)
    have fu0 := frozen_of_row wr _ (j * 2) _ _ (hk.row 1 (.inr rfl))
    have fu1 := frozen_of_row wr _ (j * 2 + 1) _ _ (hk.row 1 (.inr rfl))
    have fd0 := frozen_of_row wr _ (j * 2) _ _ (hk.row 0 (.inl rfl))
    have fd1 := frozen_of_row wr _ (j * 2 + 1) _ _ (hk.row 0 (.inl rfl))
    rw [show gwOf gu gd 1 = gu from rfl] at cu0 cu1 fu0 fu1
    rw [show gwOf gu gd 0 = gd from rfl] at cd0 cd1 fd0 fd1
    have hg := hk.base
    have HK := Lib.hid hk; clear hk
    by_cases hw1 : who = (j : Int)
    · subst hw1
      have e1 : ((j : Int) == (j : Int)) = true := by simp
      have e2 : ((j : Int) == (n : Int)) = false := by simp; omega
      obtain ⟨b1, b2, b3⟩ := HK.out.bare2 hlt (d := 0) (d' := 1) (.inl rfl) (.inr rfl) true false
      have hst : updL (updL (clearP n st (j : Int) j) (((j : Int), 0), true) []) (((j : Int), 1), false) [] = clearP n st (j : Int) (j + 1) := by
        rw [clearP_next, updL_out, updL_box, updE_other _ _ (show ((j : Int), (1 : Int)) ≠ ((j : Int), 0) by simp), clearP_at, clearP_at]
        have c0 : clearE n (j : Int) ((j : Int), 0) (st ((j : Int), 0)) = ((st ((j : Int), 0)).1, []) := by simp [clearE, endsB, beginsB]; omega
        have c1 : clearE n (j : Int) ((j : Int), 1) (st ((j : Int), 1)) = ([], (st ((j : Int), 1)).2) := by simp [clearE, endsB, beginsB]; omega
        rw [c0, c1]
      rw [hst] at b1
      clear hst
      obtain ⟨hm, hx⟩ := HX.out
      have hm2 := hm.trans b2 (fun _ h => h) fun x _ h => hx x h
      have HR := Lib.hid (And.intro b1 (And.intro hm2 fun x h => hx x (b3 x h))); clear b1 b2 b3 hm hx hm2
      have hgne := hg.2.2.2.2.2
      have n1 : rb ≠ gd := hg.2.2.2.2.1
      have n2 : gd ≠ rb := fun e => n1 e.symm
      have n3 : rb ≠ gu := hg.2.2.2.1
      have n4 : gu ≠ rb := fun e => n3 e.symm
      have n5 : gd ≠ gu := fun e => hgne e.symm
      clear hg
      go_wp2_with fail
      go_roundw
      case rel => exact ⟨j + 1, _, by omega, by go_num, HR.out⟩
      case measure => simp [intOf]; omega
    · have e1 : (who == (j : Int)) = false := by simpa using hw1
      by_cases hw2 : who = (n : Int)
      · subst hw2
        have e2 : ((n : Int) == (n : Int)) = true := by simp
        have hjn : ¬ (j : Int) = (n : Int) := by omega
        obtain ⟨b1, b2, b3⟩ := HK.out.bare2 hlt (d := 1) (d' := 0) (.inr rfl) (.inl rfl) true false
        have hst : updL (updL (clearP n st (n : Int) j) (((j : Int), 1), true) []) (((j : Int), 0), false) [] = clearP n st (n : Int) (j + 1) := by
          rw [clearP_next, updL_out, updL_box, updE_other _ _ (show ((j : Int), (0 : Int)) ≠ ((j : Int), 1) by simp), clearP_at, clearP_at]
          have c0 : clearE n (n : Int) ((j : Int), 0) (st ((j : Int), 0)) = ([], (st ((j : Int), 0)).2) := by simp [clearE, endsB, beginsB, hjn]
          have c1 : clearE n (n : Int) ((j : Int), 1) (st ((j : Int), 1)) = ((st ((j : Int), 1)).1, []) := by simp [clearE, endsB, beginsB, hjn]
          rw [c0, c1]
          funext e
          by_cases h1 : e = ((j : Int), 1)
          · rw [h1, updE_same, updE_other _ _ (by simp), updE_same]
          · by_cases h0 : e = ((j : Int), 0)
            · rw [h0, updE_same, updE_other _ _ (by simp), updE_same]
            · rw [updE_other _ _ h0, updE_other _ _ h1, updE_other _ _ h1, updE_other _ _ h0]
        rw [hst] at b1
        clear hst hw1
        obtain ⟨hm, hx⟩ := HX.out
        have hm2 := hm.trans b2 (fun _ h => h) fun x _ h => hx x h
        have HR := Lib.hid (And.intro b1 (And.intro hm2 fun x h => hx x (b3 x h))); clear b1 b2 b3 hm hx hm2
        have hgne := hg.2.2.2.2.2
        have n1 : rb ≠ gd := hg.2.2.2.2.1
        have n2 : gd ≠ rb := fun e => n1 e.symm
        have n3 : rb ≠ gu := hg.2.2.2.1
        have n4 : gu ≠ rb := fun e => n3 e.symm
        have n5 : gd ≠ gu := fun e => hgne e.symm
        clear hg
        go_wp2_with fail
        go_roundw
        case rel => exact ⟨j + 1, _, by omega, by go_num, HR.out⟩
        case measure => simp [intOf]; omega
      · have e2 : (who == (n : Int)) = false := by simpa using hw2
        have hst : clearP n st who (j + 1) = clearP n st who j := by
          rw [clearP_next]
          have hw1' : ¬ (j : Int) = who := fun h => hw1 h.symm
          have c0 : clearE n who ((j : Int), 0) (st ((j : Int), 0)) = st ((j : Int), 0) := by simp [clearE, endsB, beginsB, hw1', hw2]
          have c1 : clearE n who ((j : Int), 1) (st ((j : Int), 1)) = st ((j : Int), 1) := by simp [clearE, endsB, beginsB, hw1', hw2]
          rw [c0, c1]
          funext e
          by_cases h1 : e = ((j : Int), 1)
          · rw [h1, updE_same, clearP_at]
          · rw [updE_other _ _ h1]
            by_cases h0 : e = ((j : Int), 0)
            · rw [h0, updE_same, clearP_at]
            · rw [updE_other _ _ h0]
        clear hw1 hw2
        go_wp2_with fail
        go_roundw
        case rel => exact ⟨j + 1, mv', by omega, by go_num, by rw [hst]; exact HK.out, HX.out⟩
        case measure => simp [intOf]; omega
end
end Go.Proofs.YtclgakdfeeefiaaDoor
/- A kernel and the document's, side by side. -/
namespace Go.Proofs.YtclgakdfeeefiaaDoor
open Go.RowKit

/-- No box holds more than eight. -/
def Boxs (st : Sta) : Prop := ∀ e, (st e).2.length ≤ 8
section
variable {n : Nat} {st : Sta} {p : Pl}
theorem boxs0 : Boxs st0 := fun _ => Nat.zero_le _
theorem Boxs.upd (h : Boxs st) (e : End) (a b : List Msg) (hb : b.length ≤ 8) : Boxs (updE st e (a, b)) := fun x => by
  by_cases hx : x = e
  · subst hx; rw [updE_same]; exact hb
  · rw [updE_other _ _ hx]; exact h x
theorem Boxs.send (h : Boxs st) (who to : Int) (m : Msg) (now : Int) : Boxs (sendK n p st who to m now).2 := by
  have h2 : ∀ e : End, Boxs (if fitsOf e m = true then ((0 : Int), updE st e ((st e).1 ++ [m], (st e).2)) else (10, st)).2 := fun e => by
    split
    · exact h.upd _ _ _ (h e)
    · exact h
  unfold sendK
  split
  · split
    · split
      · exact h2 _
      · exact h
    · exact h
  · exact h
theorem Boxs.out (h : Boxs st) (e : End) : Boxs (outK n st e).2 := by
  unfold outK
  split
  · exact h.upd _ _ _ (h e)
  · exact h
theorem Boxs.carry (h : Boxs st) (e : End) (m : Msg) : Boxs (carryK n st e m).2 := by
  unfold carryK
  split
  · refine h.upd _ _ _ ?_
    unfold carryOf
    split
    · rw [List.length_append, List.length_singleton]; omega
    · exact h e
  · exact h
theorem take_len (l : Label) (ms : List Msg) (t : Label) (o i : Int) : (takeOf l ms t o i).2.2.length ≤ ms.length := by
  unfold takeOf
  split
  · split
    · exact List.length_eraseIdx_le _ _
    · exact Nat.le_refl _
  · exact Nat.le_refl _
theorem Boxs.recv (h : Boxs st) (who q i now : Int) : Boxs (recvK n p st who q i now).2 := by
  unfold recvK
  simp only
  split
  · split
    · exact h.upd _ _ _ (Nat.le_trans (take_len _ _ _ _ _) (h _))
    · exact h
  · exact h
theorem Boxs.clear (h : Boxs st) (who : Int) : Boxs (clearK n st who) := fun e => by
  unfold clearK clearE
  simp only
  split
  · exact Nat.zero_le _
  · exact h e
end
def KR (w0 w : World) (k1 k2 n : Nat) (p : Pl) (s1 s2 : Sta) (L : List (Nat × Obj)) : Prop :=
  ∃ F1 F2, Kn w0 w k1 F1 n p s1 ∧ Rn w0 w k2 F2 n p s2 ∧ (∀ k, F1 k → ¬ F2 k) ∧ ∀ x ∈ L, w.heap[x.1]? = some x.2 ∧ ¬ F1 x.1 ∧ ¬ F2 x.1
section
variable {w0 w w' : World} {k1 k2 n : Nat} {p : Pl} {s1 s2 s' : Sta} {L : List (Nat × Obj)} {f : Nat} {args : Array Value} {P : Ending → Prop}
theorem KR.step (h : KR w0 w k1 k2 n p s1 s2 L) (hb : Below w.heap.size w w') : KR w0 w' k1 k2 n p s1 s2 L := by
  obtain ⟨F1, F2, h1, h2, h3, h4⟩ := h
  exact ⟨F1, F2, h1.step hb, h2.step hb, h3, fun x hx => ⟨(hb.block _ (Array.getElem?_eq_some_iff.1 (h4 x hx).1).1).trans (h4 x hx).1, (h4 x hx).2⟩⟩
theorem KR.bel (h : KR w0 w k1 k2 n p s1 s2 L) : Below w0.heap.size w0 w := by
  obtain ⟨F1, F2, h1, -⟩ := h
  exact h1.bel
theorem KR.at (h : KR w0 w k1 k2 n p s1 s2 L) {g : Nat} {o : Obj} (hx : (g, o) ∈ L) : w.heap[g]? = some o := by
  obtain ⟨F1, F2, -, -, -, h4⟩ := h
  exact (h4 _ hx).1
theorem KR.drop {x : Nat × Obj} (h : KR w0 w k1 k2 n p s1 s2 (x :: L)) : KR w0 w k1 k2 n p s1 s2 L := by
  obtain ⟨F1, F2, h1, h2, h3, h4⟩ := h
  exact ⟨F1, F2, h1, h2, h3, fun y hy => h4 y (.tail _ hy)⟩
theorem KR.made (h : KR w0 w k1 k2 n p s1 s2 L) (o : Obj) : KR w0 (w.alloc o) k1 k2 n p s1 s2 ((w.heap.size, o) :: L) := by
  have hb : Below w.heap.size w (w.alloc o) := (Below.refl _ _).alloc (Nat.le_refl _) o
  obtain ⟨F1, F2, h1, h2, h3, h4⟩ := h
  refine ⟨F1, F2, h1.step hb, h2.step hb, h3, fun x hx => ?_⟩
  rcases List.mem_cons.1 hx with rfl | hx
  · exact ⟨heap_alloc_new w o, fun hf => Nat.lt_irrefl _ (h1.low _ hf).2, fun hf => Nat.lt_irrefl _ (h2.low _ hf).2⟩
  · exact ⟨(hb.block _ (Array.getElem?_eq_some_iff.1 (h4 x hx).1).1).trans (h4 x hx).1, (h4 x hx).2⟩
theorem KR.fst (h : KR w0 w k1 k2 n p s1 s2 L) (hc : ∀ F, Kn w0 w k1 F n p s1 → Calls Tryd.prog f args w fun e w' => P e ∧ Kn w0 w' k1 (grownF F w w') n p s' ∧ Mod F w w') :
    Calls Tryd.prog f args w fun e w' => P e ∧ KR w0 w' k1 k2 n p s' s2 L := by
  obtain ⟨F1, F2, h1, h2, h3, h4⟩ := h
  refine (hc F1 h1).mono ?_
  rintro e w' ⟨hp, hk, hm⟩
  have hv : ∀ k, k < w.heap.size → ¬ F1 k → ¬ grownF F1 w w' k := by
    rintro k hl hf (hk | hk)
    · exact hf hk
    · omega
  refine ⟨hp, _, F2, hk, h2.aside hm (fun k hk hk' => h3 k hk' hk) (fun k hk => (h1.low k hk).1), fun k hk hk' => hv k (h2.low k hk').2 (fun h => h3 k h hk') hk, fun x hx => ?_⟩
  have hl := (Array.getElem?_eq_some_iff.1 (h4 x hx).1).1
  exact ⟨(hm.block _ hl (h4 x hx).2.1).trans (h4 x hx).1, hv _ hl (h4 x hx).2.1, (h4 x hx).2.2⟩
theorem KR.snd (h : KR w0 w k1 k2 n p s1 s2 L) (hc : ∀ F, Rn w0 w k2 F n p s2 → Calls Tryd.prog f args w fun e w' => P e ∧ Rn w0 w' k2 (grownF F w w') n p s' ∧ Mod F w w') :
    Calls Tryd.prog f args w fun e w' => P e ∧ KR w0 w' k1 k2 n p s1 s' L := by
  obtain ⟨F1, F2, h1, h2, h3, h4⟩ := h
  refine (hc F2 h2).mono ?_
  rintro e w' ⟨hp, hk, hm⟩
  have hv : ∀ k, k < w.heap.size → ¬ F2 k → ¬ grownF F2 w w' k := by
    rintro k hl hf (hk | hk)
    · exact hf hk
    · omega
  refine ⟨hp, F1, _, h1.aside hm (fun k hk hk' => h3 k hk hk') (fun k hk => (h2.low k hk).1), hk, fun k hk hk' => hv k (h1.low k hk).2 (fun h => h3 k hk h) hk', fun x hx => ?_⟩
  have hl := (Array.getElem?_eq_some_iff.1 (h4 x hx).1).1
  exact ⟨(hm.block _ hl (h4 x hx).2.2).trans (h4 x hx).1, (h4 x hx).2.1, hv _ hl (h4 x hx).2.2⟩
theorem KR.ask1 {R : Ending → World → Prop} (h : KR w0 w k1 k2 n p s1 s2 L) (hc : ∀ F, Kn w0 w k1 F n p s1 → Calls Tryd.prog f args w R) : Calls Tryd.prog f args w R := by
  obtain ⟨F1, F2, h1, h2, h3, h4⟩ := h
  exact hc F1 h1
theorem KR.ask2 {R : Ending → World → Prop} (h : KR w0 w k1 k2 n p s1 s2 L) (hc : ∀ F, Rn w0 w k2 F n p s2 → Calls Tryd.prog f args w R) : Calls Tryd.prog f args w R := by
  obtain ⟨F1, F2, h1, h2, h3, h4⟩ := h
  exact hc F2 h2
/-- .. and messages that were out on the first one's ways. -/
def KRM (w0 w : World) (k1 k2 n : Nat) (p : Pl) (s1 s2 : Sta) (L : List (Nat × Obj)) (a : Option Addr) (N c : Nat) (ms : List Msg) : Prop :=
  ∃ F1 F2, Kn w0 w k1 F1 n p s1 ∧ Rn w0 w k2 F2 n p s2 ∧ (∀ k, F1 k → ¬ F2 k) ∧ (∀ x ∈ L, w.heap[x.1]? = some x.2 ∧ ¬ F1 x.1 ∧ ¬ F2 x.1) ∧ Msgs w a N c ms ∧ ∀ b o, a = some ⟨b, o, none⟩ → F1 b
theorem KRM.kr {a : Option Addr} {N c : Nat} {ms : List Msg} (h : KRM w0 w k1 k2 n p s1 s2 L a N c ms) : KR w0 w k1 k2 n p s1 s2 L := by
  obtain ⟨F1, F2, h1, h2, h3, h4, -⟩ := h
  exact ⟨F1, F2, h1, h2, h3, h4⟩
theorem KR.out1 (h : KR w0 w k1 k2 n p s1 s2 L) (q : Int) (u : Bool) : Calls Tryd.prog 22 #[.pointer (some ⟨k1, 0, none⟩), .int .i64 q, .bool u] w fun e w' =>
    ∃ a c, e = .returned (.slice a (outK n s1 (q, dirOf u)).1.length c) ∧ KRM w0 w' k1 k2 n p (outK n s1 (q, dirOf u)).2 s2 L a (outK n s1 (q, dirOf u)).1.length c (outK n s1 (q, dirOf u)).1 := by
  obtain ⟨F1, F2, h1, h2, h3, h4⟩ := h
  refine (Out_kn h1 q u).mono ?_
  rintro e w' ⟨v, rfl, hv, hg, hk, hm⟩
  have hvk : ∀ k, k < w.heap.size → ¬ F1 k → ¬ grownF F1 w w' k := by
    rintro k hl hf (hk | hk)
    · exact hf hk
    · omega
  obtain ⟨a, k, c, rfl, hms, -⟩ := hv.msgs
  have hl := hms.len
  subst hl
  refine ⟨a, c, rfl, _, F2, hk, h2.aside hm (fun k hk hk' => h3 k hk' hk) (fun k hk => (h1.low k hk).1), fun k hk hk' => hvk k (h2.low k hk').2 (fun h => h3 k h hk') hk, fun x hx => ?_, hms, fun b o e => .inl (hg b (by rw [e]; rfl))⟩
  have hl := (Array.getElem?_eq_some_iff.1 (h4 x hx).1).1
  exact ⟨(hm.block _ hl (h4 x hx).2.1).trans (h4 x hx).1, hvk _ hl (h4 x hx).2.1, (h4 x hx).2.2⟩
theorem KRM.out2 {a : Option Addr} {N c : Nat} {ms : List Msg} (h : KRM w0 w k1 k2 n p s1 s2 L a N c ms) (q : Int) (u : Bool) : Calls Tryd.prog 23 #[.pointer (some ⟨k2, 0, none⟩), .int .i64 q, .bool u] w fun e w' =>
    ∃ a' c', e = .returned (.slice a' (outK n s2 (q, dirOf u)).1.length c') ∧ Msgs w' a' (outK n s2 (q, dirOf u)).1.length c' (outK n s2 (q, dirOf u)).1 ∧ Msgs w' a N c ms ∧ KR w0 w' k1 k2 n p s1 (outK n s2 (q, dirOf u)).2 L := by
  obtain ⟨F1, F2, h1, h2, h3, h4, h5, h6⟩ := h
  refine (Out_rn h2 q u).mono ?_
  rintro e w' ⟨v, rfl, hv, hg, hk, hm⟩
  have hvk : ∀ k, k < w.heap.size → ¬ F2 k → ¬ grownF F2 w w' k := by
    rintro k hl hf (hk | hk)
    · exact hf hk
    · omega
  obtain ⟨a', k, c', rfl, hms, -⟩ := hv.msgs
  have hl := hms.len
  subst hl
  refine ⟨a', c', rfl, hms, h5.keepPos fun b o _ e hl => hm.block b hl fun hf => h3 b (h6 b o e) hf, F1, _, h1.aside hm (fun k hk hk' => h3 k hk hk') (fun k hk => (h2.low k hk).1), hk, fun k hk hk' => hvk k (h1.low k hk).2 (fun h => h3 k hk h) hk', fun x hx => ?_⟩
  have hl := (Array.getElem?_eq_some_iff.1 (h4 x hx).1).1
  exact ⟨(hm.block _ hl (h4 x hx).2.2).trans (h4 x hx).1, (h4 x hx).2.1, hvk _ hl (h4 x hx).2.2⟩
/-- The document's kernel is made beside one. -/
theorem KnL.beside {s : Sta} (h : KnL w0 w k1 n p s L) : Calls Tryd.prog 20 #[.int .i64 p.parts, .int .i64 p.window, .int .i64 p.delay] w fun e w' =>
    ∃ k2, e = .returned (.tuple #[.pointer (some ⟨k2, 0, none⟩), .int .i64 0]) ∧ KR w0 w' k1 k2 n p s st0 L := by
  obtain ⟨F, h1, h2⟩ := h
  refine (RNew_good h1.bel h1.good h1.num).mono ?_
  rintro e w' ⟨k2, F2, rfl, hk, hf, hb⟩
  refine ⟨k2, rfl, F, F2, h1.step hb, hk, fun k hk hk' => by have := hf k hk'; have := (h1.low k hk).2; omega, fun x hx => ?_⟩
  have hl := (Array.getElem?_eq_some_iff.1 (h2 x hx).1).1
  exact ⟨(hb.block _ hl).trans (h2 x hx).1, (h2 x hx).2, fun h => by have := hf _ h; omega⟩
theorem RLabel_rn {F : Nat → Prop} (h : Rn w0 w k2 F n p s2) (q : Int) : Calls Tryd.prog 28 #[.pointer (some ⟨k2, 0, none⟩), .int .i64 q] w fun e w' => e = .returned (.agg (labelOf n q).cells.toArray) ∧ Below w.heap.size w w' := by
  obtain ⟨gu, gd, mv, h1, -⟩ := h.is
  exact RLabel_calls h1 q
theorem RFlow_rn {F : Nat → Prop} (h : Rn w0 w k2 F n p s2) (a b : Int) : Calls Tryd.prog 29 #[.pointer (some ⟨k2, 0, none⟩), .int .i64 a, .int .i64 b] w fun e w' => e = .returned (.bool (flowOf n a b)) ∧ Below w.heap.size w w' := by
  obtain ⟨gu, gd, mv, h1, -⟩ := h.is
  exact RFlow_calls h1 a b
end
end Go.Proofs.YtclgakdfeeefiaaDoor
