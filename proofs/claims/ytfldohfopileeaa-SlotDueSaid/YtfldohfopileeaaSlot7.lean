/- The document's timers: Drop, Set, Due. -/
import Derived.Test.YtfldohfopileeaaSlot6
namespace Go.Proofs.Ytfldohfopileeaa
open Go.RowKit

abbrev rE : TypeId := 56
abbrev RO := ROwn tmF rE
theorem relem : Elem Try.prog tmF 40 rE := ⟨Try.underlying40, ⟨_, _, rfl, rfl, rfl, rfl, by decide⟩⟩
theorem ro_len {w : World} {B : Nat} {v : Value} {xs : List Tm} (h : RO w B v xs) : lenOfV v = xs.length := by
  obtain ⟨a, c, rfl, -⟩ := h.recs
  rfl
theorem filter_take {α : Type} (p : α → Bool) (xs : List α) {j : Nat} (hj : j < xs.length) : (xs.take (j + 1)).filter p = if p xs[j] then (xs.take j).filter p ++ [xs[j]] else (xs.take j).filter p := by
  rw [List.take_add_one, List.getElem?_eq_getElem hj, List.filter_append]
  simp only [Option.toList_some]
  cases h : p xs[j] <;> simp [h]
set_option maxHeartbeats 2000000 in
theorem RDrop_calls {w : World} {a : Option Addr} {n c : Nat} {id : Int} {xs : List Tm} (h : Recs tmF w a n c xs) (hn : n ≤ 100000) : Calls Try.prog 27 #[.slice a n c, .int .i64 id] w fun e w' =>
    ∃ v, e = .returned v ∧ RO w' w.heap.size v (xs.filter (kpT id)) ∧ Below w.heap.size w w' := by
  have hl := h.len
  have b0 : Below w.heap.size w (w.alloc (.cells #[] rE)) := (Below.refl _ _).alloc (Nat.le_refl _) _
  have o0 := ROwn.made (F := tmF) (E := rE) w
  obtain ⟨X, hX⟩ : ∃ X, X = xs.filter (kpT id) := ⟨_, rfl⟩
  rw [← hX]
  have HX := Lib.hid hX; clear hX
  have Hl := Lib.hid hl; clear hl
  have B0 := Lib.hid b0; clear b0
  have O0 := Lib.hid o0; clear o0
  have H := Lib.hid h; clear h
  go_enter Try.func27, Try.ntmps27
  go_wp2_with fail
  obtain ⟨w1, hw1⟩ : ∃ w1, w1 = w.alloc (.cells #[] rE) := ⟨_, rfl⟩
  rw [← hw1] at B0 O0 ⊢
  clear hw1
  go_loopw [5, 6] (fun u i wr => ∃ j : Nat, j ≤ n ∧ i = .int .i64 j ∧ RO wr w.heap.size u ((xs.take j).filter (kpT id)) ∧ Below w.heap.size w wr) (fun _ i _ => n - (intOf i).toNat)
  case atStart => exact ⟨0, by omega, rfl, O0.out, B0.out⟩
  case round =>
    obtain ⟨j, hj, rfl, ho, hb⟩ := hrel
    have hr := H.out.keep hb
    have Ho := Lib.hid ho; clear ho
    have Hb := Lib.hid hb; clear hb
    have Hr := Lib.hid hr; clear hr
    by_cases hlt : j < n
    · obtain ⟨g, o, rfl⟩ := Hr.out.addr (by omega)
      have hjl : j < xs.length := by rw [Hl.out]; exact hlt
      obtain ⟨c0, c1⟩ := tm_at Hr.out hlt
      have hft := filter_take (kpT id) xs hjl
      have e : xs.getD j (0, 0) = xs[j] := by rw [List.getD_eq_getElem?_getD, List.getElem?_eq_getElem hjl]; rfl
      rw [e] at c0 c1
      obtain ⟨y, hy⟩ : ∃ y, y = xs[j] := ⟨_, rfl⟩
      rw [← hy] at c0 c1 hft
      clear hy e
      have i1 : (0 : Int) ≤ (j : Int) := by omega
      have i2 : (j : Int) < (n : Int) := by omega
      obtain ⟨t, x⟩ := y
      simp only at c0 c1
      by_cases hx : x = id
      · subst hx
        have d1 : (x != x) = false := by simp
        have hft' : (xs.take (j + 1)).filter (kpT x) = (xs.take j).filter (kpT x) := by
          rw [if_neg (by simp [kpT])] at hft
          exact hft
        have Hft := Lib.hid hft'; clear hft' hft
        go_wp2_with fail
        go_roundw
        case rel => exact ⟨j + 1, by omega, by go_num, by rw [Hft.out]; exact Ho.out, Hb.out⟩
        case measure => simp [intOf]; omega
      · have d1 : (x != id) = true := by simpa using hx
        have hft' : (xs.take (j + 1)).filter (kpT id) = (xs.take j).filter (kpT id) ++ [(t, x)] := by
          rw [if_pos (by simp [kpT, hx])] at hft
          exact hft
        have hlen : ((xs.take j).filter (kpT id)).length + 1 ≤ 1000000 := by
          have := List.length_filter_le (kpT id) (xs.take j)
          rw [List.length_take] at this
          omega
        have Hft := Lib.hid hft'; clear hft' hft
        have Hlen := Lib.hid hlen; clear hlen
        have b3 := (Below.refl wr.heap.size wr).alloc (Nat.le_refl _) (.cells #[.int .i64 t, .int .i64 x] rE)
        have hx3 := heap_alloc_new wr (.cells #[.int .i64 t, .int .i64 x] rE)
        have o3 := Ho.out.below b3
        have hb3 := Hb.out.trans (b3.mono Hb.out.size)
        have hsz := hb3.size
        clear b3 Ho Hb Hr
        have Hx3 := Lib.hid hx3; clear hx3
        have O3 := Lib.hid o3; clear o3
        have B3 := Lib.hid hb3; clear hb3
        have Hsz := Lib.hid hsz; clear hsz
        go_wp2_with (with_reducible refine stop_builtin .append ?_)
        clear c0 c1
        generalize wr.heap.size = gr at *
        generalize wr.alloc (.cells #[.int .i64 t, .int .i64 x] rE) = w3 at *
        refine unpark ?_
        refine wpList_append_rec1 relem _ rfl _ _ rfl w.heap.size _ _ rfl O3.out gr 1 (by decide) (by decide) (t, x) rfl Hx3.out (fun k u hu => by simpa [tmF] using hu) Hlen.out Hsz.out ?_
        intro v5 w5 o5 g5 _
        rw [← Hft.out] at o5
        have hb5 := B3.out.grown g5 Hsz.out (fun k hk => (O3.out.lt k hk).1)
        have B5 := Lib.hid hb5; clear hb5
        have O5 := Lib.hid o5; clear o5 g5 O3 B3
        go_wp2_with fail
        go_roundw
        case rel => exact ⟨j + 1, by omega, by go_num, O5.out, B5.out⟩
        case measure => simp [intOf]; omega
    · obtain rfl : j = n := by omega
      have e : X = (xs.take j).filter (kpT id) := by rw [HX.out, List.take_of_length_le (by rw [Hl.out]; exact Nat.le_refl _)]
      clear HX
      subst e
      go_wp2
      go_ret
      exact ⟨_, rfl, Ho.out, Hb.out⟩
def gtT (x y : Tm) : Bool := decide (x.1 < y.1) || (y.1 == x.1) && decide (x.2 < y.2)
def stepR (x : Tm) (s : Bool × List Tm) (y : Tm) : Bool × List Tm := if (!s.1 && gtT x y) = true then (true, s.2 ++ [x] ++ [y]) else (s.1, s.2 ++ [y])
def foldR (x : Tm) (ys : List Tm) : Bool × List Tm := ys.foldl (stepR x) (false, [])
def insR (x : Tm) (ys : List Tm) : List Tm := if (foldR x ys).1 then (foldR x ys).2 else (foldR x ys).2 ++ [x]
theorem foldR_step (x : Tm) (ys : List Tm) {j : Nat} (hj : j < ys.length) : foldR x (ys.take (j + 1)) = stepR x (foldR x (ys.take j)) ys[j] := by
  unfold foldR
  rw [List.take_add_one, List.getElem?_eq_getElem hj, List.foldl_append]
  rfl
def mR (s : Bool × List Tm) : Nat := s.2.length + if s.1 then 0 else 1
theorem stepR_m (x : Tm) (s : Bool × List Tm) (y : Tm) : mR (stepR x s y) = mR s + 1 := by
  obtain ⟨b, l⟩ := s
  unfold stepR mR
  cases b <;> cases gtT x y <;> simp
theorem foldl_m (x : Tm) : ∀ (zs : List Tm) (s : Bool × List Tm), mR (zs.foldl (stepR x) s) = mR s + zs.length
  | [], _ => rfl
  | z :: zs, s => by rw [List.foldl_cons, foldl_m x zs, stepR_m, List.length_cons]; omega
theorem foldR_len (x : Tm) (ys : List Tm) : (foldR x ys).2.length ≤ ys.length + 1 := by
  have := foldl_m x ys (false, [])
  have e : mR (foldR x ys) = mR (false, []) + ys.length := this
  have h2 : mR (false, ([] : List Tm)) = 1 := rfl
  unfold mR at e h2
  omega
set_option maxHeartbeats 4000000 in
theorem RSet_calls {w : World} {a : Option Addr} {n c : Nat} {t id : Int} {xs : List Tm} (h : Recs tmF w a n c xs) (hn : n ≤ 100000) : Calls Try.prog 23 #[.slice a n c, .int .i64 t, .int .i64 id] w fun e w' =>
    ∃ v, e = .returned v ∧ RO w' w.heap.size v (insR (t, id) (xs.filter (kpT id))) ∧ Below w.heap.size w w' := by
  have b0 : Below w.heap.size w (w.alloc (.cells #[] rE)) := (Below.refl _ _).alloc (Nat.le_refl _) _
  have o0 := ROwn.made (F := tmF) (E := rE) w
  have h0 := h.keep b0
  obtain ⟨w1, hw1⟩ : ∃ w1, w1 = w.alloc (.cells #[] rE) := ⟨_, rfl⟩
  have hs1 : w1.heap.size = w.heap.size + 1 := by rw [hw1, World.size_alloc]
  rw [← hw1] at b0 o0 h0
  have hd := RDrop_calls (id := id) h0 hn
  have hfl : (xs.filter (kpT id)).length ≤ n := by rw [← h.len]; exact List.length_filter_le _ _
  unfold insR
  generalize xs.filter (kpT id) = Y at *
  obtain ⟨X, hX⟩ : ∃ X, X = (if (foldR (t, id) Y).1 then (foldR (t, id) Y).2 else (foldR (t, id) Y).2 ++ [(t, id)]) := ⟨_, rfl⟩
  rw [← hX]
  have hYn : Y.length ≤ 100000 := by omega
  have HX := Lib.hid hX; clear hX h h0 hfl hn
  have B0 := Lib.hid b0; clear b0
  have O0 := Lib.hid o0; clear o0
  have Hd := Lib.hid hd; clear hd
  have Hs1 := Lib.hid hs1; clear hs1
  go_enter Try.func23, Try.ntmps23
  go_wp2_with fail
  rw [← hw1]
  clear hw1
  refine Hd.out.mono ?_
  rintro e w2 ⟨v2, rfl, r2, b2⟩
  obtain ⟨ra, rc, rfl, hr2, hlt2⟩ := r2.recs
  have o2 := O0.out.below b2
  have b2' := B0.out.trans (b2.mono B0.out.size)
  have hyl : ∃ L, L = Y.length := ⟨_, rfl⟩
  obtain ⟨L, hL⟩ := hyl
  rw [← hL] at hr2 hYn ⊢
  have HL := Lib.hid hL; clear hL
  have O2 := Lib.hid o2; clear o2 r2
  have B2 := Lib.hid b2'; clear b2' b2 Hd O0 B0
  have R2 := Lib.hid hr2; clear hr2
  have Hne0 := Lib.hid (show ∀ b o, ra = some ⟨b, o, none⟩ → Value.ownBlock (.slice (some ⟨w.heap.size, 0, none⟩) 0 0) ≠ some b from fun b o he e => by
    have h1 := (hlt2 b o he).1
    have h3 := Hs1.out
    have h2 : w.heap.size = b := Option.some.inj e
    omega)
  clear hlt2
  go_wp2_with fail
  go_loopw [7, 8, 10] (fun u d i wr => ∃ j : Nat, j ≤ L ∧ i = .int .i64 j ∧ d = .bool (foldR (t, id) (Y.take j)).1 ∧ RO wr w.heap.size u (foldR (t, id) (Y.take j)).2 ∧ Below w.heap.size w wr ∧ Recs tmF wr ra L rc Y ∧ (∀ b o, ra = some ⟨b, o, none⟩ → u.ownBlock ≠ some b)) (fun _ _ i _ => L - (intOf i).toNat)
  case atStart => exact ⟨0, by omega, rfl, rfl, O2.out, B2.out, R2.out, Hne0.out⟩
  case round =>
    obtain ⟨j, hj, rfl, rfl, ho, hb, hr, hne⟩ := hrel
    have Ho := Lib.hid ho; clear ho
    have Hb := Lib.hid hb; clear hb
    have Hr := Lib.hid hr; clear hr
    have Hne := Lib.hid hne; clear hne
    by_cases hlt : j < L
    · obtain ⟨g, o, rfl⟩ := Hr.out.addr (by omega)
      have hjl : j < Y.length := by rw [← HL.out]; exact hlt
      obtain ⟨c0, c1⟩ := tm_at Hr.out hlt
      have hft := foldR_step (t, id) Y hjl
      have hfl := foldR_len (t, id) (Y.take j)
      rw [List.length_take] at hfl
      have e : Y.getD j (0, 0) = Y[j] := by rw [List.getD_eq_getElem?_getD, List.getElem?_eq_getElem hjl]; rfl
      rw [e] at c0 c1
      obtain ⟨y, hy⟩ : ∃ y, y = Y[j] := ⟨_, rfl⟩
      rw [← hy] at c0 c1 hft
      have hyj := Lib.hid (show Y.getD j (0, 0) = y by rw [e, hy])
      clear hy e
      have i1 : (0 : Int) ≤ (j : Int) := by omega
      have i2 : (j : Int) < (L : Int) := by omega
      obtain ⟨t1, x1⟩ := y
      simp only at c0 c1
      unfold stepR at hft
      obtain ⟨FB, hFB⟩ : ∃ s, s = foldR (t, id) (Y.take j) := ⟨_, rfl⟩
      rw [← hFB] at hft hfl Ho ⊢
      clear hFB
      obtain ⟨done, O⟩ := FB
      simp only at hft hfl Ho ⊢
      have hgt : gtT (t, id) (t1, x1) = (decide (t < t1) || (t1 == t) && decide (id < x1)) := rfl
      rw [hgt] at hft
      clear hgt
      -- the record that stands there, behind a row that the call owns
      have hcp : (done = false ∧ (decide (t < t1) || (t1 == t) && decide (id < x1)) = true ∧ foldR (t, id) (Y.take (j + 1)) = (true, O ++ [(t, id)] ++ [(t1, x1)])) ∨ ((done = true ∨ (done = false ∧ (decide (t < t1) || (t1 == t) && decide (id < x1)) = false)) ∧ foldR (t, id) (Y.take (j + 1)) = (done, O ++ [(t1, x1)])) := by
        cases done with
        | true => exact .inr ⟨.inl rfl, by simpa using hft⟩
        | false =>
          cases hg : (decide (t < t1) || (t1 == t) && decide (id < x1)) with
          | true => rw [hg] at hft; exact .inl ⟨rfl, rfl, by simpa using hft⟩
          | false => rw [hg] at hft; exact .inr ⟨.inr ⟨rfl, rfl⟩, by simpa using hft⟩
      clear hft
      have hOl : O.length + 2 ≤ 1000000 := by omega
      rcases hcp with ⟨rfl, hg, hnx⟩ | ⟨hg, hnx⟩
      · have Hnx := Lib.hid hnx; clear hnx
        have hg2 : (decide (t < t1) = true) ∨ (decide (t < t1) = false ∧ (t1 == t) = true ∧ decide (id < x1) = true) := by
          cases h1 : decide (t < t1) with
          | true => exact .inl rfl
          | false => rw [h1, Bool.false_or, Bool.and_eq_true] at hg; exact .inr ⟨rfl, hg⟩
        clear hg
        have HOl := Lib.hid hOl; clear hOl hfl
        rcases hg2 with d1 | ⟨d1, d2, d3⟩
        all_goals
          have b3 := (Below.refl wr.heap.size wr).alloc (Nat.le_refl _) (.cells #[.int .i64 t, .int .i64 id] rE)
          have hx3 := heap_alloc_new wr (.cells #[.int .i64 t, .int .i64 id] rE)
          have o3 := Ho.out.below b3
          have hb3 := Hb.out.trans (b3.mono Hb.out.size)
          have hr3 := Hr.out.keep b3
          have hsz := hb3.size
          clear b3 Ho Hb Hr
          have Hx3 := Lib.hid hx3; clear hx3
          have O3 := Lib.hid o3; clear o3
          have B3 := Lib.hid hb3; clear hb3
          have R3 := Lib.hid hr3; clear hr3
          have Hsz := Lib.hid hsz; clear hsz
          go_wp2_with (with_reducible refine stop_builtin .append ?_)
          generalize wr.heap.size = gr3 at *
          generalize wr.alloc (.cells #[.int .i64 t, .int .i64 id] rE) = w3 at *
          refine unpark ?_
          refine wpList_append_rec1 relem _ rfl _ _ rfl w.heap.size _ O rfl O3.out gr3 1 (by decide) (by decide) (t, id) rfl Hx3.out (fun k u hu => by simpa [tmF] using hu) (by have := HOl.out; omega) Hsz.out ?_
          intro v3 w3' o5 g5 ob5
          have hb5 := B3.out.grown g5 Hsz.out (fun k hk => (O3.out.lt k hk).1)
          have hr5 := R3.out.keepPos (w' := w3') fun b o' _ he hlt' => g5.block b hlt' (fun e => Hne.out b o' he e.symm)
          have hne5 : ∀ b oo, (some ⟨g, o, none⟩ : Option Addr) = some ⟨b, oo, none⟩ → v3.ownBlock ≠ some b := fun b o' he => by
            rcases ob5 with ob5 | ob5
            · rw [ob5]; exact Hne.out b o' he
            · rw [ob5]; exact fun e => by
                have := R3.out.block b o' (by omega) he
                have e' := Option.some.inj e
                omega
          have Ho := Lib.hid o5; clear o5 g5 O3
          have Hb := Lib.hid hb5; clear hb5 B3
          have Hr := Lib.hid hr5; clear hr5 R3
          clear Hne ob5 Hx3 Hsz
          have Hne := Lib.hid hne5; clear hne5
          clear c0 c1
          obtain ⟨c0, c1⟩ := tm_at Hr.out hlt
          rw [hyj.out] at c0 c1
          simp only at c0 c1
          have b3 := (Below.refl w3'.heap.size w3').alloc (Nat.le_refl _) (.cells #[.int .i64 t1, .int .i64 x1] rE)
          have hx3 := heap_alloc_new w3' (.cells #[.int .i64 t1, .int .i64 x1] rE)
          have o3 := Ho.out.below b3
          have hb3 := Hb.out.trans (b3.mono Hb.out.size)
          have hr3 := Hr.out.keep b3
          have hsz := hb3.size
          clear b3 Ho Hb Hr
          have Hx3 := Lib.hid hx3; clear hx3
          have O3 := Lib.hid o3; clear o3
          have B3 := Lib.hid hb3; clear hb3
          have R3 := Lib.hid hr3; clear hr3
          have Hsz := Lib.hid hsz; clear hsz
          go_wp2_with (with_reducible refine stop_builtin .append ?_)
          generalize w3'.heap.size = gr5 at *
          generalize w3'.alloc (.cells #[.int .i64 t1, .int .i64 x1] rE) = w5 at *
          refine unpark ?_
          refine wpList_append_rec1 relem _ rfl _ _ rfl w.heap.size _ (O ++ [(t, id)]) rfl O3.out gr5 1 (by decide) (by decide) (t1, x1) rfl Hx3.out (fun k u hu => by simpa [tmF] using hu) (by have := HOl.out; rw [List.length_append, List.length_singleton]; omega) Hsz.out ?_
          intro v5 w5' o5 g5 ob5
          have hb5 := B3.out.grown g5 Hsz.out (fun k hk => (O3.out.lt k hk).1)
          have hr5 := R3.out.keepPos (w' := w5') fun b o' _ he hlt' => g5.block b hlt' (fun e => Hne.out b o' he e.symm)
          have hne5 : ∀ b oo, (some ⟨g, o, none⟩ : Option Addr) = some ⟨b, oo, none⟩ → v5.ownBlock ≠ some b := fun b o' he => by
            rcases ob5 with ob5 | ob5
            · rw [ob5]; exact Hne.out b o' he
            · rw [ob5]; exact fun e => by
                have := R3.out.block b o' (by omega) he
                have e' := Option.some.inj e
                omega
          have Ho := Lib.hid o5; clear o5 g5 O3
          have Hb := Lib.hid hb5; clear hb5 B3
          have Hr := Lib.hid hr5; clear hr5 R3
          clear Hne ob5 Hx3 Hsz
          have Hne := Lib.hid hne5; clear hne5
          go_wp2_with fail
          go_roundw
          case rel => exact ⟨j + 1, by omega, by go_num, by rw [Hnx.out], by rw [Hnx.out]; exact Ho.out, Hb.out, Hr.out, Hne.out⟩
          case measure => simp [intOf]; omega
      · have Hnx := Lib.hid hnx; clear hnx
        have HOl := Lib.hid hOl; clear hOl hfl
        have hg2 : (done = true) ∨ (done = false ∧ decide (t < t1) = false ∧ (t1 == t) = false) ∨ (done = false ∧ decide (t < t1) = false ∧ (t1 == t) = true ∧ decide (id < x1) = false) := by
          rcases hg with h | ⟨h, hg⟩
          · exact .inl h
          · rw [Bool.or_eq_false_iff, Bool.and_eq_false_iff] at hg
            cases h2 : (t1 == t) with
            | false => exact .inr (.inl ⟨h, hg.1, rfl⟩)
            | true => exact .inr (.inr ⟨h, hg.1, rfl, hg.2.resolve_left (by rw [h2]; decide)⟩)
        clear hg
        rcases hg2 with rfl | ⟨rfl, d1, d2⟩ | ⟨rfl, d1, d2, d3⟩
        all_goals
          have b3 := (Below.refl wr.heap.size wr).alloc (Nat.le_refl _) (.cells #[.int .i64 t1, .int .i64 x1] rE)
          have hx3 := heap_alloc_new wr (.cells #[.int .i64 t1, .int .i64 x1] rE)
          have o3 := Ho.out.below b3
          have hb3 := Hb.out.trans (b3.mono Hb.out.size)
          have hr3 := Hr.out.keep b3
          have hsz := hb3.size
          clear b3 Ho Hb Hr
          have Hx3 := Lib.hid hx3; clear hx3
          have O3 := Lib.hid o3; clear o3
          have B3 := Lib.hid hb3; clear hb3
          have R3 := Lib.hid hr3; clear hr3
          have Hsz := Lib.hid hsz; clear hsz
          go_wp2_with (with_reducible refine stop_builtin .append ?_)
          generalize wr.heap.size = gr3 at *
          generalize wr.alloc (.cells #[.int .i64 t1, .int .i64 x1] rE) = w3 at *
          refine unpark ?_
          refine wpList_append_rec1 relem _ rfl _ _ rfl w.heap.size _ O rfl O3.out gr3 1 (by decide) (by decide) (t1, x1) rfl Hx3.out (fun k u hu => by simpa [tmF] using hu) (by have := HOl.out; omega) Hsz.out ?_
          intro v3 w3' o5 g5 ob5
          have hb5 := B3.out.grown g5 Hsz.out (fun k hk => (O3.out.lt k hk).1)
          have hr5 := R3.out.keepPos (w' := w3') fun b o' _ he hlt' => g5.block b hlt' (fun e => Hne.out b o' he e.symm)
          have hne5 : ∀ b oo, (some ⟨g, o, none⟩ : Option Addr) = some ⟨b, oo, none⟩ → v3.ownBlock ≠ some b := fun b o' he => by
            rcases ob5 with ob5 | ob5
            · rw [ob5]; exact Hne.out b o' he
            · rw [ob5]; exact fun e => by
                have := R3.out.block b o' (by omega) he
                have e' := Option.some.inj e
                omega
          have Ho := Lib.hid o5; clear o5 g5 O3
          have Hb := Lib.hid hb5; clear hb5 B3
          have Hr := Lib.hid hr5; clear hr5 R3
          clear Hne ob5 Hx3 Hsz
          have Hne := Lib.hid hne5; clear hne5
          go_wp2_with fail
          go_roundw
          case rel => exact ⟨j + 1, by omega, by go_num, by rw [Hnx.out], by rw [Hnx.out]; exact Ho.out, Hb.out, Hr.out, Hne.out⟩
          case measure => simp [intOf]; omega
    · obtain rfl : j = L := by omega
      have e : Y.take j = Y := List.take_of_length_le (by rw [← HL.out]; exact Nat.le_refl _)
      rw [e] at Ho ⊢
      obtain ⟨FB, hFB⟩ : ∃ s, s = foldR (t, id) Y := ⟨_, rfl⟩
      have hfl := foldR_len (t, id) Y
      have hX := HX.out
      rw [← hFB] at Ho hX hfl ⊢
      clear hFB HX e
      obtain ⟨done, O⟩ := FB
      simp only at hX Ho hfl ⊢
      rw [← HL.out] at hfl
      cases done with
      | true =>
        have e : X = O := by simpa using hX
        subst e
        clear hX
        go_wp2
        go_ret
        exact ⟨_, rfl, Ho.out, Hb.out⟩
      | false =>
        have e : X = O ++ [(t, id)] := by simpa using hX
        subst e
        clear hX
        have b3 := (Below.refl wr.heap.size wr).alloc (Nat.le_refl _) (.cells #[.int .i64 t, .int .i64 id] rE)
        have hx3 := heap_alloc_new wr (.cells #[.int .i64 t, .int .i64 id] rE)
        have o3 := Ho.out.below b3
        have hb3 := Hb.out.trans (b3.mono Hb.out.size)
        have hr3 := Hr.out.keep b3
        have hsz := hb3.size
        clear b3 Ho Hb Hr
        have Hx3 := Lib.hid hx3; clear hx3
        have O3 := Lib.hid o3; clear o3
        have B3 := Lib.hid hb3; clear hb3
        have R3 := Lib.hid hr3; clear hr3
        have Hsz := Lib.hid hsz; clear hsz
        go_wp2_with (with_reducible refine stop_builtin .append ?_)
        generalize wr.heap.size = gr3 at *
        generalize wr.alloc (.cells #[.int .i64 t, .int .i64 id] rE) = w3 at *
        refine unpark ?_
        refine wpList_append_rec1 relem _ rfl _ _ rfl w.heap.size _ O rfl O3.out gr3 1 (by decide) (by decide) (t, id) rfl Hx3.out (fun k u hu => by simpa [tmF] using hu) (by have := hYn; omega) Hsz.out ?_
        intro v3 w3' o5 g5 ob5
        have hb5 := B3.out.grown g5 Hsz.out (fun k hk => (O3.out.lt k hk).1)
        have Ho := Lib.hid o5; clear o5 g5 O3
        have Hb := Lib.hid hb5; clear hb5 B3
        go_wp2
        go_ret
        exact ⟨_, rfl, Ho.out, Hb.out⟩
end Go.Proofs.Ytfldohfopileeaa
