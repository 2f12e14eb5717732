/- Timers: Len, First, Drop, Set. -/
import Derived.Test.YtfldohfopileeaaSlot4
namespace Go.Proofs.Ytfldohfopileeaa
open Go.RowKit

structure TmAt (w : World) (B b : Nat) (v : Value) (xs : List Tm) : Prop where
  cell : w.heap[b]? = some (.cells #[v] 39 (0, 0))
  row : TRow w B v xs
  ne : v.ownBlock ≠ some b
  base : B ≤ b
theorem TmAt.lt {w : World} {B b : Nat} {v : Value} {xs : List Tm} (h : TmAt w B b v xs) : b < w.heap.size := (Array.getElem?_eq_some_iff.1 h.cell).1
theorem TmAt.below {w w' : World} {B b : Nat} {v : Value} {xs : List Tm} (h : TmAt w B b v xs) (hb : Below w.heap.size w w') : TmAt w' B b v xs :=
  ⟨(hb.block b h.lt).trans h.cell, h.row.below hb, h.ne, h.base⟩
theorem TmAt.aside {w w' : World} {B b : Nat} {v : Value} {xs : List Tm} {G : Nat → Prop} (h : TmAt w B b v xs) (hm : Mod G w w') (hb : ¬ G b) (hv : ∀ g, v.ownBlock = some g → ¬ G g) : TmAt w' B b v xs :=
  ⟨(hm.block b h.lt hb).trans h.cell, h.row.grown hm hv, h.ne, h.base⟩
/-- The list is stored anew. -/
theorem TmAt.put {w : World} {B b : Nat} {v v' : Value} {xs : List Tm} (hc : w.heap[b]? = some (.cells #[v] 39 (0, 0))) (hr : TRow w B v' xs) (hn : v'.ownBlock ≠ some b) (hb : B ≤ b) : TmAt (w.setCell ⟨b, 0, none⟩ v') B b v' xs :=
  ⟨heap_setCell_same w b 0 _ _ _ hc, hr.keep fun g hg _ => heap_setCell_other w _ g _ (fun e => hn (by rw [hg]; exact congrArg some e)), hn, hb⟩
theorem mod_setCell (w : World) (b j : Nat) (v : Value) (F : Nat → Prop) (h : F b) : Mod F w (w.setCell ⟨b, j, none⟩ v) :=
  ⟨rfl, rfl, rfl, by simp, fun x _ hn => heap_setCell_other w _ x _ (fun e => hn (by rw [show x = b from e]; exact h))⟩

theorem Len_calls {w : World} {B b : Nat} {v : Value} {xs : List Tm} (h : TmAt w B b v xs) : Calls Try.prog 30 #[.pointer (some ⟨b, 0, none⟩)] w fun e w' => e = .returned (.int .i64 xs.length) ∧ w' = w := by
  obtain ⟨a, c, rfl, -, -⟩ := h.row.recs
  have y := cells_at h.cell 0
  clear h
  generalize xs.length = n at *
  go_enter Try.func30, Try.ntmps30
  go_wp2
  go_ret
  exact ⟨rfl, rfl⟩
theorem First_calls {w : World} {B b : Nat} {v : Value} {xs : List Tm} (h : TmAt w B b v xs) : Calls Try.prog 29 #[.pointer (some ⟨b, 0, none⟩)] w fun e w' => e = .returned (.tuple #[.int .i64 (xs.headD (0, 0)).1, .bool (decide (0 < xs.length))]) ∧ w' = w := by
  obtain ⟨a, c, rfl, hr, -⟩ := h.row.recs
  have y := cells_at h.cell 0
  clear h
  cases xs with
  | nil =>
    go_enter Try.func29, Try.ntmps29
    go_wp2
    go_ret2
    exact ⟨rfl, rfl⟩
  | cons x xs =>
    obtain ⟨g, o, rfl⟩ := hr.addr (by simp)
    obtain ⟨c0, -⟩ := tm_at hr (j := 0) (by simp)
    have c0' : w.cell? ⟨g, o, none⟩ = some (.int .i64 x.1) := by simpa using c0
    clear c0
    have hR : decide (0 < (x :: xs).length) = true := by simp
    rw [hR]
    show Calls _ _ _ _ fun e w' => e = .returned (.tuple #[.int .i64 x.1, .bool true]) ∧ w' = w
    obtain ⟨n, hn⟩ : ∃ n, n = (x :: xs).length := ⟨_, rfl⟩
    have hn0 : 0 < n := by rw [hn]; simp
    rw [← hn] at y
    clear hn hR hr
    have i1 : ((n : Int) == 0) = false := by simp; omega
    have i2 : (0 : Int) < (n : Int) := by omega
    go_enter Try.func29, Try.ntmps29
    go_wp2
    go_ret2
    exact ⟨rfl, rfl⟩
set_option maxHeartbeats 1000000 in
theorem Drop_calls {w : World} {B b : Nat} {id : Int} {v : Value} {xs : List Tm} (h : TmAt w B b v xs) (hn : xs.length ≤ 1000000) : Calls Try.prog 28 #[.pointer (some ⟨b, 0, none⟩), .int .i64 id] w fun e w' =>
    e = .returned (.bool (decide ((xs.filter (kpT id)).length < xs.length))) ∧ ∃ v', TmAt w' B b v' (xs.filter (kpT id)) ∧ Mod (fun k => k = b ∨ v.ownBlock = some k) w w' ∧ v'.ownBlock = v.ownBlock := by
  obtain ⟨w1, hw1⟩ : ∃ w1, w1 = w.alloc (.cells #[.int .i64 id] 3) := ⟨_, rfl⟩
  have hx1 : w1.heap[w.heap.size]? = some (.cells #[.int .i64 id] 3 (0, 0)) := by rw [hw1]; exact heap_alloc_new w _
  have hb1 : Below w.heap.size w w1 := by rw [hw1]; exact (Below.refl _ _).alloc (Nat.le_refl _) _
  have h1 := h.below hb1
  have hne : v.ownBlock ≠ some w.heap.size := fun e => Nat.lt_irrefl _ (h.row.lt _ e).2
  have hd := DelFunc_calls h1.row (cells_at hx1 0) hne hn
  have hvb := h.ne
  have hbb := h.base
  obtain ⟨a, c, hv, -, -⟩ := h.row.recs
  subst hv
  have y := cells_at h1.cell 0
  have H1 := Lib.hid h1; clear h1 h
  have Hd := Lib.hid hd; clear hd
  have Hb1 := Lib.hid hb1; clear hb1 hx1 hne
  have Hvb := Lib.hid hvb; clear hvb
  generalize hX : xs.filter (kpT id) = X at *
  clear hX
  generalize hL : xs.length = L at *
  have HL := Lib.hid hL; clear hL
  have y0 : (w.alloc (.cells #[.int .i64 id] 3)).cell? ⟨b, 0, none⟩ = some (.slice a L c) := by rw [← hw1]; exact y
  clear y
  go_enter Try.func28, Try.ntmps28
  go_wp2_with fail
  rw [← hw1]
  clear hw1 y0
  refine Hd.out.mono ?_
  rintro e w2 ⟨v', rfl, hr, hm, ho⟩
  obtain ⟨a', c', rfl, -, -⟩ := hr.recs
  have hc2 := (hm.block b H1.out.lt Hvb.out).trans H1.out.cell
  have hne2 : Value.ownBlock (.slice a' X.length c') ≠ some b := by rw [ho]; exact Hvb.out
  have y2 := cells_at hc2 0
  have f2 := frozen_of_row w2 b 0 _ _ hc2
  have ht := TmAt.put hc2 hr hne2 hbb
  have hm2 : Mod (fun k => k = b ∨ Value.ownBlock (.slice a L c) = some k) w (w2.setCell ⟨b, 0, none⟩ (.slice a' X.length c')) :=
    ((Mod.of_below Hb1.out).trans hm (fun _ h => h) (fun _ _ h => .inr h)).trans (mod_setCell w2 b 0 _ (fun k => k = b) rfl) (fun _ h => h) (fun _ _ h => .inl h)
  have y3 := cells_at ht.cell 0
  have Ht := Lib.hid ht; clear ht
  have Hm2 := Lib.hid hm2; clear hm2 hm hr hc2 hne2
  have Ho := Lib.hid ho; clear ho
  generalize hXL : X.length = XL at *
  have HXL := Lib.hid hXL; clear hXL
  go_wp2
  go_ret
  refine ⟨by simp [HXL.out], _, Ht.out, Hm2.out, Ho.out⟩
def SortT (xs : List Tm) : Prop := xs.Pairwise fun a b => ordT a b < 0
theorem ord_trans {a b c : Tm} (h1 : ordT a b < 0) (h2 : ordT b c < 0) : ordT a c < 0 := by
  rw [ord_neg] at *; omega
theorem sort_mono {xs : List Tm} (h : SortT xs) (x : Tm) : Mono xs x := by
  intro j k hjk hk hx
  have hj : j < xs.length := by omega
  rw [List.getD_eq_getElem?_getD, List.getElem?_eq_getElem hk] at hx
  rw [List.getD_eq_getElem?_getD, List.getElem?_eq_getElem hj]
  have hx' : ltT x xs[k] = true := hx
  show ltT x xs[j] = true
  rcases Nat.lt_or_eq_of_le hjk with hlt | rfl
  · exact decide_eq_true (ord_trans (List.pairwise_iff_getElem.1 h j k hj hk hlt) (of_decide_eq_true hx'))
  · exact hx'
def setT (xs : List Tm) (t id : Int) : List Tm :=
  (xs.filter (kpT id)).take (posT (xs.filter (kpT id)) (t, id)) ++ (t, id) :: (xs.filter (kpT id)).drop (posT (xs.filter (kpT id)) (t, id))
theorem sort_filter {xs : List Tm} (h : SortT xs) (id : Int) : SortT (xs.filter (kpT id)) := List.Pairwise.filter _ h
set_option maxHeartbeats 2000000 in
theorem Set_calls {w : World} {B b : Nat} {t id : Int} {v : Value} {xs : List Tm} (h : TmAt w B b v xs) (hB : B ≤ w.heap.size) (hn : xs.length ≤ 800000) (hs : SortT xs) : Calls Try.prog 22 #[.pointer (some ⟨b, 0, none⟩), .int .i64 t, .int .i64 id] w fun e w' =>
    e = .returned (.tuple #[]) ∧ ∃ v', TmAt w' B b v' (setT xs t id) ∧ Mod (fun k => k = b ∨ v.ownBlock = some k) w w' ∧ (v'.ownBlock = v.ownBlock ∨ ∃ g, v'.ownBlock = some g ∧ w.heap.size ≤ g) := by
  have hd := Drop_calls (id := id) h (by omega)
  have hfl : (xs.filter (kpT id)).length ≤ xs.length := List.length_filter_le _ _
  have hmo := sort_mono (sort_filter hs id) (t, id)
  unfold setT
  generalize xs.filter (kpT id) = Y at *
  have hYn : Y.length ≤ 900000 := by omega
  have hpl := pos_le Y (t, id)
  clear hfl hs h hn
  have Hd := Lib.hid hd; clear hd
  go_enter Try.func22, Try.ntmps22
  go_wp2_with fail
  refine Hd.out.mono ?_
  rintro e w1 ⟨rfl, v1, h1, m1, o1⟩
  have hx2 := heap_alloc_new w1 (.cells #[.int .i64 t, .int .i64 id] tE)
  have b2 := (Below.refl w1.heap.size w1).alloc (Nat.le_refl _) (.cells #[.int .i64 t, .int .i64 id] tE)
  have h2 := h1.below b2
  have m2 := m1.trans (Mod.of_below (F := fun k => k = b ∨ v.ownBlock = some k) b2) (fun _ h => h) (fun _ _ h => h)
  have hne : v1.ownBlock ≠ some w1.heap.size := fun e => Nat.lt_irrefl _ (h1.row.lt _ e).2
  have hbne : b ≠ w1.heap.size := Nat.ne_of_lt h1.lt
  have hsz : w.heap.size ≤ w1.heap.size := m1.size
  clear h1 m1 b2 Hd
  go_wp2_with fail
  generalize w1.heap.size = gx at *
  generalize w1.alloc (.cells #[.int .i64 t, .int .i64 id] tE) = w2 at *
  have b3 := below_drew w2
  have h3 := h2.below b3
  have hx3 := (b3.block gx (Array.getElem?_eq_some_iff.1 hx2).1).trans hx2
  have m3 := m2.trans (Mod.of_below (F := fun k => k = b ∨ v.ownBlock = some k) b3) (fun _ h => h) (fun _ _ h => h)
  clear h2 hx2 m2 b3
  refine wp_region_free [0, 1, 2, 3, 4, 5, 6, 7, 8, 9, 10] (by kernel_rfl) (by kernel_rfl) rfl (by kernel_rfl) (fun _ _ _ h => by obtain ⟨_, h, _⟩ := h; cases h) (fun _ _ h => by obtain ⟨h, _⟩ := h; cases h) ?_
  generalize w2.drew = w3 at *
  simp only [List.map_cons, List.map_nil, List.getD_cons_zero, List.getD_cons_succ]
  obtain ⟨a, c, rfl, hr, -⟩ := h3.row.recs
  have y0 := cells_at h3.cell 0
  have y1 := cells_at hx3 0
  have y2 := cells_at hx3 1
  have hse := Search_calls hr hYn hmo
  have Hse := Lib.hid hse; clear hse hr
  have H3 := Lib.hid h3; clear h3
  have HX3 := Lib.hid hx3; clear hx3
  have M3 := Lib.hid m3; clear m3
  have Ho1 := Lib.hid o1; clear o1
  have Hne := Lib.hid hne; clear hne
  generalize hYL : Y.length = L at *
  have HYL := Lib.hid hYL; clear hYL
  go_wp2_with fail
  refine Hse.out.mono ?_
  rintro e w4 ⟨bb, rfl, b4⟩
  have h4 := H3.out.below b4
  have hx4 := (b4.block gx (Array.getElem?_eq_some_iff.1 HX3.out).1).trans HX3.out
  have m4 := M3.out.trans (Mod.of_below (F := fun k => k = b ∨ v.ownBlock = some k) b4) (fun _ h => h) (fun _ _ h => h)
  clear H3 HX3 M3 b4 y0 y1 y2 Hse
  go_wp2_with fail
  have b5 := below_drew w4
  have h5 := h4.below b5
  have hx5 := (b5.block gx (Array.getElem?_eq_some_iff.1 hx4).1).trans hx4
  have m5 := m4.trans (Mod.of_below (F := fun k => k = b ∨ v.ownBlock = some k) b5) (fun _ h => h) (fun _ _ h => h)
  clear h4 hx4 m4 b5
  refine wp_region_free [0, 1, 2, 3, 4, 5, 6, 7, 8, 9, 10, 11] (by kernel_rfl) (by kernel_rfl) rfl (by kernel_rfl) (fun _ _ _ h => by obtain ⟨_, h, _⟩ := h; cases h) (fun _ _ h => by obtain ⟨h, _⟩ := h; cases h) ?_
  generalize w4.drew = w5 at *
  simp only [List.map_cons, List.map_nil, List.getD_cons_zero, List.getD_cons_succ]
  have y0 := cells_at h5.cell 0
  have y1 := cells_at hx5 0
  have y2 := cells_at hx5 1
  have b6 := (Below.refl w5.heap.size w5).alloc (Nat.le_refl _) (.cells #[.int .i64 t, .int .i64 id] tE)
  have z6 := heap_alloc_new w5 (.cells #[.int .i64 t, .int .i64 id] tE)
  have h6 := h5.below b6
  have hsz5 : w.heap.size ≤ w5.heap.size := m5.size
  have m6 := m5.trans (Mod.of_below (F := fun k => k = b ∨ v.ownBlock = some k) b6) (fun _ h => h) (fun _ _ h => h)
  have hne5 : Value.ownBlock (.slice a L c) ≠ some w5.heap.size := fun e => Nat.lt_irrefl _ (h5.row.lt _ e).2
  have hbase : B ≤ (w5.alloc (.cells #[.int .i64 t, .int .i64 id] tE)).heap.size := Nat.le_trans hB (Nat.le_trans hsz5 b6.size)
  have hsz6 : w.heap.size ≤ (w5.alloc (.cells #[.int .i64 t, .int .i64 id] tE)).heap.size := Nat.le_trans hsz5 b6.size
  have hin := Insert_calls h6.row hbase z6 hne5 (x := (t, id)) (i := posT Y (t, id)) (by rw [HYL.out]; exact hpl) (by rw [HYL.out]; exact hYn)
  clear hx5 m5 b6 hbase h5
  have Hin := Lib.hid hin; clear hin z6 hne5
  have H6 := Lib.hid h6; clear h6
  have M6 := Lib.hid m6; clear m6
  have Hsz6 := Lib.hid hsz6; clear hsz6
  go_wp2_with fail
  clear y0 y1 y2
  generalize w5.heap.size = g5 at *
  generalize w5.alloc (.cells #[.int .i64 t, .int .i64 id] tE) = w6 at *
  refine Hin.out.mono ?_
  rintro e w7 ⟨v7, rfl, r7, gr7, o7⟩
  have m7 := Mod.of_grown (F := fun k => Value.ownBlock (.slice a L c) = some k) gr7 (fun k h => h)
  have hvb := H6.out.ne
  have c7 := (m7.block b H6.out.lt hvb).trans H6.out.cell
  have hb6 := H6.out.base
  have hlt6 := H6.out.lt
  have hn7 : v7.ownBlock ≠ some b := by
    rcases o7 with o7 | o7
    · rw [o7]; exact hvb
    · rw [o7]; exact fun e => Nat.ne_of_lt hlt6 (Option.some.inj e).symm
  obtain ⟨a7, c7', rfl, -, -⟩ := r7.recs
  have t8 := TmAt.put c7 r7 hn7 hb6
  have f8 := frozen_of_row w7 b 0 _ _ c7
  have y8 := cells_at c7 0
  have ho1 := Ho1.out
  have m8 := (M6.out.trans m7 (fun _ h => h) (fun k _ h => .inr (by rw [← ho1]; exact h))).trans (mod_setCell w7 b 0 (.slice a7 (Y.take (posT Y (t, id)) ++ (t, id) :: Y.drop (posT Y (t, id))).length c7') (fun k => k = b) rfl) (fun _ h => h) (fun _ _ h => .inl h)
  have o8 : Value.ownBlock (.slice a7 (Y.take (posT Y (t, id)) ++ (t, id) :: Y.drop (posT Y (t, id))).length c7') = v.ownBlock ∨ ∃ g, Value.ownBlock (.slice a7 (Y.take (posT Y (t, id)) ++ (t, id) :: Y.drop (posT Y (t, id))).length c7') = some g ∧ w.heap.size ≤ g := by
    rcases o7 with o7 | o7
    · exact .inl (o7.trans ho1)
    · exact .inr ⟨_, o7, Hsz6.out⟩
  have T8 := Lib.hid t8
  have M8 := Lib.hid m8
  have O8 := Lib.hid o8
  clear t8 m8 o8 o7 m7 gr7 r7 hn7 c7 hvb hb6 hlt6 ho1 Hin H6 M6
  generalize hX : (Y.take (posT Y (t, id)) ++ (t, id) :: Y.drop (posT Y (t, id))) = X at *
  have HX := Lib.hid hX; clear hX
  generalize X.length = XL at *
  go_wp2
  go_end0
  exact ⟨rfl, _, by rw [HX.out]; exact T8.out, M8.out, O8.out⟩
end Go.Proofs.Ytfldohfopileeaa
