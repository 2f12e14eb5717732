/- Timers: slices.DeleteFunc. -/
import Derived.Test.YtfldohfopileeaaSlot3
namespace Go.Proofs.Ytfldohfopileeaa
open Go.RowKit

abbrev hasV (q : Nat) : Value := .func (.func 38) #[] #[.pointer (some ⟨q, 0, none⟩)]
theorem Has_calls {w : World} {q : Nat} {id : Int} (x : Tm) (hq : w.cell? ⟨q, 0, none⟩ = some (.int .i64 id)) : Calls Try.prog 38 #[.agg #[.int .i64 x.1, .int .i64 x.2], .pointer (some ⟨q, 0, none⟩)] w fun e w' => e = .returned (.bool (x.2 == id)) ∧ Below w.heap.size w w' := by
  have hb := (Below.refl w.heap.size w).alloc (Nat.le_refl _) (.cells #[.int .i64 x.1, .int .i64 x.2] tE)
  have hx := heap_alloc_new w (.cells #[.int .i64 x.1, .int .i64 x.2] tE)
  have y1 := cells_at hx 1
  have y2 := (hb.cell (block_lt_of_cell hq)).trans hq
  have Hb := Lib.hid hb; clear hb hx hq
  go_enter Try.func38, Try.ntmps38
  go_wp2
  go_ret
  exact ⟨rfl, Hb.out⟩
def kpT (id : Int) (x : Tm) : Bool := !(x.2 == id)
def badAt (id : Int) : List Tm → Nat → Option Nat
  | [], _ => none
  | x :: xs, i => if kpT id x then badAt id xs (i + 1) else some i
theorem badAt_none (id : Int) : ∀ (l : List Tm) (i : Nat), badAt id l i = none → l.filter (kpT id) = l
  | [], _, _ => rfl
  | m :: l, i, h => by
    unfold badAt at h
    split at h
    · next hr => rw [List.filter_cons, if_pos hr, badAt_none id l (i + 1) h]
    · cases h
theorem badAt_skip (id : Int) : ∀ (l : List Tm) (i j : Nat), j ≤ l.length → (∀ m ∈ l.take j, kpT id m = true) → badAt id l i = badAt id (l.drop j) (i + j)
  | l, i, 0, _, _ => by rw [List.drop_zero, Nat.add_zero]
  | m :: l, i, j + 1, hj, h => by
    have hm : kpT id m = true := h m (by simp)
    unfold badAt
    rw [if_pos hm, List.drop_succ_cons, badAt_skip id l (i + 1) j (by simpa using hj) (fun x hx => h x (by rw [List.take_succ_cons]; exact List.mem_cons_of_mem _ hx)), show i + 1 + j = i + (j + 1) by omega]
    cases l.drop j <;> rfl
  | [], _, j + 1, hj, _ => by simp at hj
def idxOf (id : Int) (ms : List Tm) : Int := match badAt id ms 0 with | some i => (i : Int) | none => -1
theorem idxOf_all {id : Int} {ms : List Tm} (h : ∀ m ∈ ms, kpT id m = true) : idxOf id ms = -1 := by
  have := badAt_skip id ms 0 ms.length (Nat.le_refl _) (by rw [List.take_length]; exact h)
  rw [List.drop_length] at this
  unfold idxOf; rw [this]; rfl
theorem idxOf_at {id : Int} {ms : List Tm} {j : Nat} (hj : j < ms.length) (h : ∀ m ∈ ms.take j, kpT id m = true) (hb : kpT id ms[j] = false) : idxOf id ms = (j : Int) := by
  have := badAt_skip id ms 0 j (Nat.le_of_lt hj) h
  have e : badAt id (ms[j] :: ms.drop (j + 1)) (0 + j) = some (0 + j) := by
    unfold badAt
    rw [if_neg (by rw [hb]; decide)]
  rw [List.drop_eq_getElem_cons hj, e, Nat.zero_add] at this
  unfold idxOf
  rw [this]
theorem first_bad (id : Int) : ∀ ms : List Tm, (∀ m ∈ ms, kpT id m = true) ∨ ∃ i, ∃ hi : i < ms.length, (∀ m ∈ ms.take i, kpT id m = true) ∧ kpT id ms[i] = false
  | [] => .inl fun _ h => by cases h
  | m :: l => by
    cases hm : kpT id m with
    | false => exact .inr ⟨0, by simp, by simp, hm⟩
    | true =>
      rcases first_bad id l with h | ⟨i, hi, h1, h2⟩
      · exact .inl fun x hx => by
          rcases List.mem_cons.1 hx with rfl | hx
          · exact hm
          · exact h x hx
      · refine .inr ⟨i + 1, by simpa using hi, fun x hx => ?_, h2⟩
        rw [List.take_succ_cons] at hx
        rcases List.mem_cons.1 hx with rfl | hx
        · exact hm
        · exact h1 x hx
theorem idxOf_cases (id : Int) (ms : List Tm) : (idxOf id ms = -1 ∧ ms.filter (kpT id) = ms) ∨ ∃ i, ∃ hi : i < ms.length, idxOf id ms = (i : Int) ∧ (∀ m ∈ ms.take i, kpT id m = true) ∧ kpT id ms[i] = false := by
  rcases first_bad id ms with h | ⟨i, hi, h1, h2⟩
  · exact .inl ⟨idxOf_all h, List.filter_eq_self.2 h⟩
  · exact .inr ⟨i, hi, idxOf_at hi h1 h2, h1, h2⟩
set_option maxHeartbeats 1000000 in
theorem Index_calls {w : World} {a : Option Addr} {n c q : Nat} {id : Int} {ms : List Tm} (h : Recs tmF w a n c ms) (hq : w.cell? ⟨q, 0, none⟩ = some (.int .i64 id)) (hn : n ≤ 1000000) :
    Calls Try.prog 43 #[.slice a n c, hasV q] w fun e w' => e = .returned (.int .i64 (idxOf id ms)) ∧ Below w.heap.size w w' := by
  have hl := h.len
  obtain ⟨I, hI⟩ : ∃ I, I = idxOf id ms := ⟨_, rfl⟩
  rw [← hI]
  have HI := Lib.hid hI; clear hI
  have Hl := Lib.hid hl; clear hl
  have Hrec := Lib.hid h; clear h
  have Hq := Lib.hid hq; clear hq
  go_enter Try.func43, Try.ntmps43
  go_wp2_with fail
  go_loopw [8] (fun i wr => ∃ j : Nat, j ≤ n ∧ i = .int .i64 j ∧ Below w.heap.size w wr ∧ ∀ m ∈ ms.take j, kpT id m = true) (fun i _ => n - (intOf i).toNat)
  case atStart => exact ⟨0, by omega, rfl, Below.refl _ _, by simp⟩
  case round =>
    obtain ⟨j, hj, rfl, hb, hr⟩ := hrel
    have Hb := Lib.hid hb; clear hb
    have Hr := Lib.hid hr; clear hr
    by_cases hlt : j < n
    · have hrj := Hrec.out.keep Hb.out
      have hqj := (Hb.out.cell (block_lt_of_cell Hq.out)).trans Hq.out
      obtain ⟨gx, ox, rfl⟩ := hrj.addr (by omega)
      have hjl : j < ms.length := by rw [Hl.out]; exact hlt
      have hc := hrj.at hjl
      have hat : kpT id ms[j] = false → I = (j : Int) := fun e => by rw [HI.out]; exact idxOf_at hjl Hr.out e
      have hsn : kpT id ms[j] = true → ∀ m ∈ ms.take (j + 1), kpT id m = true := fun e m hm => by
        rw [List.take_add_one, List.getElem?_eq_getElem hjl] at hm
        rcases List.mem_append.1 hm with hm | hm
        · exact Hr.out m hm
        · simp at hm; rw [hm]; exact e
      obtain ⟨m, hm⟩ : ∃ m, m = ms[j] := ⟨_, rfl⟩
      rw [← hm] at hc hat hsn
      clear hm hrj
      have hcl := Has_calls (w := wr) m hqj
      unfold kpT at hat
      have hsn' : (!(m.2 == id)) = true → ∀ m ∈ ms.take (j + 1), kpT id m = true := hsn
      clear hsn
      generalize (m.2 == id) = R at hcl hat hsn'
      obtain ⟨t, x⟩ := m
      have x0 : wr.cell? ⟨gx, ox + j * 2, none⟩ = some (.int .i64 t) := hc 0 _ rfl
      have x1 : wr.cell? ⟨gx, ox + j * 2 + 1, none⟩ = some (.int .i64 x) := hc 1 _ rfl
      simp only at hcl
      have Hcl := Lib.hid hcl; clear hcl hc hqj
      have Hsn := Lib.hid hsn'; clear hsn'
      have i1 : (0 : Int) ≤ (j : Int) := by omega
      have i2 : (j : Int) < (n : Int) := by omega
      go_wp2_with fail
      refine Hcl.out.mono ?_
      rintro e w2 ⟨rfl, b2⟩
      have b3 := Hb.out.trans (b2.mono Hb.out.size)
      have Hb3 := Lib.hid b3; clear b3 b2 x0 x1 Hcl
      cases R with
      | true =>
        have e := hat rfl
        clear hat HI
        subst e
        go_wp2
        go_ret
        exact ⟨rfl, Hb3.out⟩
      | false =>
        clear hat
        go_wp2_with fail
        go_roundw
        case rel => exact ⟨j + 1, by omega, by go_num, Hb3.out, Hsn.out rfl⟩
        case measure => simp [intOf]; omega
    · obtain rfl : j = n := by omega
      have e : I = -1 := by
        rw [HI.out]
        refine idxOf_all fun m hm => Hr.out m ?_
        rw [List.take_of_length_le (by rw [Hl.out]; exact Nat.le_refl _)]
        exact hm
      clear HI
      subst e
      go_wp2
      go_ret
      exact ⟨rfl, Hb.out⟩
theorem zcells_len (n : Nat) : (Builtin.zeroCells #[Value.int .i64 0, .int .i64 0] n).toList.length = n * 2 := by simp [Builtin.zeroCells]
theorem zcells_one (n : Nat) : ∀ u ∈ (Builtin.zeroCells #[Value.int .i64 0, .int .i64 0] n).toList, u.oneCell' = true := by
  intro u hu
  unfold Builtin.zeroCells at hu
  rw [Array.toList_map] at hu
  obtain ⟨i, _, rfl⟩ := List.mem_map.1 hu
  have h4 : i % 2 < 2 := Nat.mod_lt _ (by decide)
  show ((#[Value.int .i64 0, .int .i64 0] : Array Value)[i % 2]!).oneCell' = true
  match i % 2, h4 with
  | 0, _ | 1, _ => rfl
/-- A record is written into a row that the call owns. -/
theorem row_set {α : Type} {F : Fmt α} (zs : List α) (i : Nat) (hi : i < zs.length) (x : α) (rest : List Value) : splice (F.row zs ++ rest) (i * F.m) (F.cells x) = F.row (zs.set i x) ++ rest := by
  unfold splice
  have h1 : i * F.m ≤ (F.row zs).length := by rw [F.row_len]; exact Nat.mul_le_mul_right _ (by omega)
  have h2 : (F.cells x).length = F.m := F.len x
  have h3 : i * F.m + F.m ≤ (F.row zs).length := by
    rw [F.row_len, ← Nat.succ_mul]; exact Nat.mul_le_mul_right _ hi
  rw [List.take_append_of_le_length h1, h2, List.drop_append_of_le_length h3, F.row_take, show i * F.m + F.m = (i + 1) * F.m by rw [Nat.succ_mul], F.row_drop, List.set_eq_take_append_cons_drop, if_pos hi]
  simp [Fmt.row]
set_option maxHeartbeats 4000000 in
theorem DelFunc_calls {w : World} {B q : Nat} {id : Int} {v : Value} {ms : List Tm} (h : TRow w B v ms) (hq : w.cell? ⟨q, 0, none⟩ = some (.int .i64 id)) (hqv : v.ownBlock ≠ some q) (hn : ms.length ≤ 1000000) :
    Calls Try.prog 37 #[v, hasV q] w fun e w' => ∃ v', e = .returned v' ∧ TRow w' B v' (ms.filter (kpT id)) ∧ Mod (fun k => v.ownBlock = some k) w w' ∧ v'.ownBlock = v.ownBlock := by
  obtain ⟨a, c, rfl, hrec, hlt⟩ := h.recs
  have hidx := Index_calls hrec hq hn
  rcases idxOf_cases id ms with ⟨hi, hf⟩ | ⟨i, hin, hi, hr, hb⟩
  · rw [hi] at hidx
    rw [hf]
    have Hidx := Lib.hid hidx; clear hidx
    have Hh := Lib.hid h; clear h
    clear hrec hlt hqv
    go_enter Try.func37, Try.ntmps37
    go_wp2_with fail
    refine Hidx.out.mono ?_
    rintro e w1 ⟨rfl, b1⟩
    have h2 := Hh.out.below b1
    have b2 := Mod.of_below (F := fun k => Value.ownBlock (.slice a ms.length c) = some k) b1
    have Hb := Lib.hid b2; clear b2 b1
    have Hh2 := Lib.hid h2; clear h2
    go_wp2
    go_ret
    exact ⟨_, rfl, Hh2.out, Hb.out, rfl⟩
  · rw [hi] at hidx
    rcases h with ⟨hv, h0⟩ | ⟨g, off, c', A, R, hv, hB, hf⟩
    · subst h0; exact absurd hin (by simp)
    cases hv
    have hqg : q ≠ g := fun e => hqv (by rw [e]; rfl)
    have hql := block_lt_of_cell hq
    have hoff := hf.off
    have hcm := hf.max
    have hnc := hf.le
    have hRl : (c - ms.length) * 2 ≤ R.length := hf.spare
    have hg := hf.heap
    obtain ⟨n, hN⟩ : ∃ n, n = ms.length := ⟨_, rfl⟩
    rw [← hN] at hn hidx hnc hRl ⊢
    have hg1 := hf.lt
    have hst : ms.take i = (ms.take (i + 1)).filter (kpT id) := by
      rw [List.take_add_one, List.getElem?_eq_getElem hin, List.filter_append, List.filter_eq_self.2 hr]
      simp [hb]
    have Hidx := Lib.hid hidx; clear hidx
    have Hst := Lib.hid hst; clear hst
    have HRl := Lib.hid hRl; clear hRl
    have HN := Lib.hid hN; clear hN
    have Hg := Lib.hid hg; clear hg
    have Hoff := Lib.hid hoff; clear hoff
    have hin' : i < n := by rw [HN.out]; exact hin
    have Hq := Lib.hid hq; clear hq
    clear hrec hlt hi hr hb hin hf hqv
    go_enter Try.func37, Try.ntmps37
    go_wp2_with fail
    refine Hidx.out.mono ?_
    rintro e w1 ⟨rfl, b1⟩
    have g2 := (b1.block g hg1).trans Hg.out
    have q2 := (b1.cell hql).trans Hq.out
    have b2 := Mod.of_below (F := fun k => k = g) b1
    have Hb := Lib.hid b2; clear b2 b1 Hidx Hg Hq
    have Hg := Lib.hid g2; clear g2
    have Hq := Lib.hid q2; clear q2
    have i1 : ((i : Int) == -1) = false := by simp
    go_wp2_with fail
    go_loopw [5, 6] (fun x y wr => ∃ (p q' : Nat) (zs : List Tm), p < q' ∧ q' ≤ n ∧ x = .int .i64 p ∧ y = .int .i64 q' ∧ zs.length = n ∧ wr.heap[g]? = some (.cells (A ++ (tmF.row zs ++ R)).toArray tE (0, 0)) ∧ zs.take p = (ms.take q').filter (kpT id) ∧ zs.drop q' = ms.drop q' ∧ wr.cell? ⟨q, 0, none⟩ = some (.int .i64 id) ∧ Mod (fun k => k = g) w wr) (fun _ y _ => n - (intOf y).toNat)
    case atStart => exact ⟨i, i + 1, ms, by omega, by omega, rfl, by go_num, HN.out.symm, Hg.out, Hst.out, rfl, Hq.out, Hb.out⟩
    case round =>
      clear Hb Hg Hq
      obtain ⟨p, q', zs, hpq, hqn, rfl, rfl, hzl, hg, htk, hdr, hq, hb⟩ := hrel
      have Hb := Lib.hid hb; clear hb
      have Hq := Lib.hid hq; clear hq
      have hgl := (Array.getElem?_eq_some_iff.1 hg).1
      by_cases hlt : q' < n
      · have hqz : q' < zs.length := by omega
        have hqm : q' < ms.length := by rw [← HN.out]; exact hlt
        have hzq : zs[q'] = ms[q'] ∧ zs.drop (q' + 1) = ms.drop (q' + 1) := by
          rw [List.drop_eq_getElem_cons hqz, List.drop_eq_getElem_cons hqm] at hdr
          exact ⟨(List.cons.inj hdr).1, (List.cons.inj hdr).2⟩
        have hcc : ∀ k u, (tmF.cells zs[q'])[k]? = some u → wr.cell? ⟨g, off + q' * 2 + k, none⟩ = some u := fun k u hu => by
          have hk : k < 2 := by have := (List.getElem?_eq_some_iff.1 hu).1; rwa [tmF.len] at this
          rw [cells_at hg, List.getElem?_toArray, ← Hoff.out, Nat.add_assoc, List.getElem?_append_right (Nat.le_add_right _ _), show A.length + (q' * 2 + k) - A.length = q' * 2 + k by omega, List.getElem?_append_left (by rw [tmF.row_len]; show q' * 2 + k < zs.length * 2; omega)]
          exact (tmF.row_at zs hqz k hk).trans hu
        have hfl : (ms.take (q' + 1)).filter (kpT id) = (ms.take q').filter (kpT id) ++ (if kpT id ms[q'] then [ms[q']] else []) := by
          rw [List.take_add_one, List.getElem?_eq_getElem hqm, List.filter_append]
          simp only [Option.toList_some]
          cases hr : kpT id ms[q'] <;> simp [hr]
        rw [← hzq.1] at hfl
        obtain ⟨m, hm⟩ : ∃ m, m = zs[q'] := ⟨_, rfl⟩
        rw [← hm] at hcc hfl
        have hzd := hzq.2
        clear hzq hm hdr
        have hcl := fun (w : World) hq => Has_calls (w := w) (q := q) (id := id) m hq
        unfold kpT at hfl
        have hfl' : (ms.take (q' + 1)).filter (kpT id) = (ms.take q').filter (kpT id) ++ (if (!(m.2 == id)) = true then [m] else []) := hfl
        clear hfl
        generalize (m.2 == id) = T at hcl hfl'
        have hzset : (zs.set p m).take (p + 1) = zs.take p ++ [m] := by
          rw [List.set_eq_take_append_cons_drop, if_pos (by omega), List.take_append, List.take_of_length_le (by rw [List.length_take]; omega), List.length_take, Nat.min_eq_left (by omega), show p + 1 - p = 1 by omega]
          rfl
        have hzdr : (zs.set p m).drop (q' + 1) = zs.drop (q' + 1) := by rw [List.drop_set_of_lt (by omega)]
        have hrs : splice (A ++ (tmF.row zs ++ R)) (off + p * 2) (tmF.cells m) = A ++ (tmF.row (zs.set p m) ++ R) := by
          rw [← Hoff.out, splice_behind]
          congr 1
          exact row_set (F := tmF) zs p (by omega) m R
        obtain ⟨t, x⟩ := m
        have x0 : wr.cell? ⟨g, off + q' * 2, none⟩ = some (.int .i64 t) := hcc 0 _ rfl
        have x1 : wr.cell? ⟨g, off + q' * 2 + 1, none⟩ = some (.int .i64 x) := hcc 1 _ rfl
        clear hcc
        simp only at hcl
        have Hcl := Lib.hid hcl; clear hcl
        have Hfl := Lib.hid hfl'; clear hfl'
        have Hzset := Lib.hid hzset; clear hzset
        have Hzdr := Lib.hid hzdr; clear hzdr
        have Hrs := Lib.hid hrs; clear hrs
        have Htk := Lib.hid htk; clear htk
        have Hzd := Lib.hid hzd; clear hzd
        have Hzl := Lib.hid hzl; clear hzl
        have i2 : (0 : Int) ≤ (q' : Int) := by omega
        have i3 : (q' : Int) < (n : Int) := by omega
        have i4 : (0 : Int) ≤ (p : Int) := by omega
        have i5 : (p : Int) < (n : Int) := by omega
        have b3 := Hb.out.trans (Mod.of_below (F := fun k => k = g) ((Below.refl wr.heap.size wr).alloc (Nat.le_refl _) (.cells #[.int .i64 t, .int .i64 x] tE))) (fun _ h => h) (fun _ _ h => h)
        have hx3 := heap_alloc_new wr (.cells #[.int .i64 t, .int .i64 x] tE)
        have g3 := (Below.heap_alloc wr (.cells #[.int .i64 t, .int .i64 x] tE) g hgl).trans hg
        have q3 : (wr.alloc (.cells #[.int .i64 t, .int .i64 x] tE)).cell? ⟨q, 0, none⟩ = some (.int .i64 id) := (((Below.refl wr.heap.size wr).alloc (Nat.le_refl _) (.cells #[.int .i64 t, .int .i64 x] tE)).cell (block_lt_of_cell Hq.out)).trans Hq.out
        have hgn : g ≠ wr.heap.size := by omega
        have Hb3 := Lib.hid b3; clear b3
        have Hg3 := Lib.hid g3; clear g3 hg
        have Hq3 := Lib.hid q3; clear q3
        go_wp2_with fail
        generalize wr.heap.size = gz at *
        generalize wr.alloc (.cells #[.int .i64 t, .int .i64 x] tE) = w4 at *
        refine (Hcl.out _ Hq3.out).mono ?_
        rintro e w5 ⟨rfl, b5⟩
        have g5 := (b5.block g (Array.getElem?_eq_some_iff.1 Hg3.out).1).trans Hg3.out
        have z5 := (b5.block gz (Array.getElem?_eq_some_iff.1 hx3).1).trans hx3
        have q5 := (b5.cell (block_lt_of_cell Hq3.out)).trans Hq3.out
        have y0 := cells_at z5 0
        have y1 := cells_at z5 1
        have b6 := Hb3.out.trans (Mod.of_below (F := fun k => k = g) b5) (fun _ h => h) (fun _ _ h => h)
        clear z5 hx3 b5 Hb3 Hg3 Hcl x0 x1 Hq3 Hq
        have Hb := Lib.hid b6; clear b6
        have Hg := Lib.hid g5; clear g5
        have Hq := Lib.hid q5; clear q5
        cases T with
        | true =>
          go_wp2_with fail
          go_roundw
          case rel => exact ⟨p, q' + 1, zs, by omega, by omega, rfl, by go_num, Hzl.out, Hg.out, by rw [Hfl.out, Htk.out]; simp, Hzd.out, Hq.out, Hb.out⟩
          case measure => simp [intOf]; omega
        | false =>
          go_wp2_with (with_reducible refine stop_store tE ?_)
          refine unpark ?_
          refine wpList_store_at rfl tE _ _ rfl g (off + p * 2) rfl (.agg #[.int .i64 t, .int .i64 x]) rfl (tmF.cells (t, x)) rfl tE _ Hg.out 2 rfl (by
            have h1 := tmF.row_len zs
            have h2 := Hzl.out
            have h3 : tmF.m = 2 := rfl
            rw [List.size_toArray, List.length_append, List.length_append, h1, h2, h3, Hoff.out]
            omega) (tmF.one _) (by kernel_rfl) ?_
          intro w6 g6 gr6 hs6
          have e6 : splice (A ++ (tmF.row zs ++ R)).toArray.toList (off + p * 2) (tmF.cells (t, x)) = A ++ (tmF.row (zs.set p (t, x)) ++ R) := Hrs.out
          rw [e6] at g6
          have b7 := Hb.out.trans (Mod.of_grown (F := fun k => k = g) gr6 (fun k hk => by cases hk; rfl)) (fun _ h => h) (fun _ _ h => h)
          have q7 : w6.cell? ⟨q, 0, none⟩ = some (.int .i64 id) := (World.cell?_of_block (gr6.block q (block_lt_of_cell Hq.out) (fun e => hqg (Option.some.inj e)))).trans Hq.out
          clear e6 gr6 Hg Hb y0 y1 Hq
          have Hb := Lib.hid b7; clear b7
          have Hg := Lib.hid g6; clear g6
          have Hq := Lib.hid q7; clear q7
          go_wp2_with fail
          go_roundw
          case rel => exact ⟨p + 1, q' + 1, zs.set p (t, x), by omega, by omega, by go_num, by go_num, by rw [List.length_set, Hzl.out], Hg.out, by rw [Hzset.out, Hfl.out, Htk.out]; simp, by rw [Hzdr.out, Hzd.out], Hq.out, Hb.out⟩
          case measure => simp [intOf]; omega
      · obtain rfl : q' = n := by omega
        have hfin : zs.take p = ms.filter (kpT id) := by rw [htk, HN.out, List.take_length]
        have hpl : (zs.take p).length = p := by rw [List.length_take]; omega
        have hZl : (Builtin.zeroCells #[Value.int .i64 0, .int .i64 0] (q' - p)).toList.length = (q' - p) * 2 := zcells_len _
        obtain ⟨Z, hZ⟩ : ∃ Z, Z = (Builtin.zeroCells #[Value.int .i64 0, .int .i64 0] (q' - p)).toList := ⟨_, rfl⟩
        have hZ1 : ∀ u ∈ Z, u.oneCell' = true := by rw [hZ]; exact zcells_one _
        rw [← hZ] at hZl
        have hrl := tmF.row_len zs
        have hrow : splice (A ++ (tmF.row zs ++ R)) (off + p * 2) Z = A ++ (tmF.row (zs.take p) ++ (Z ++ R)) := by
          rw [← Hoff.out, splice_behind]
          congr 1
          have e1 : tmF.row zs = tmF.row (zs.take p) ++ tmF.row (zs.drop p) := by rw [← tmF.row_append, List.take_append_drop]
          have e2 : (tmF.row (zs.take p)).length = p * 2 := by rw [tmF.row_len, hpl]; rfl
          rw [e1, List.append_assoc, ← e2]
          exact splice_mid _ _ _ _ (by rw [hZl, tmF.row_len, List.length_drop, hzl]; rfl)
        have hfit : off + p * 2 + Z.length ≤ (A ++ (tmF.row zs ++ R)).toArray.size := by
          rw [hZl, List.size_toArray, List.length_append, List.length_append, tmF.row_len, hzl, Hoff.out]
          show off + p * 2 + (q' - p) * 2 ≤ off + (q' * 2 + R.length)
          omega
        have Hg := Lib.hid hg; clear hg
        have Hfin := Lib.hid hfin; clear hfin
        have Hpl := Lib.hid hpl; clear hpl
        have Hrow := Lib.hid hrow; clear hrow
        have Hfit := Lib.hid hfit; clear hfit
        have HZ := Lib.hid hZ; clear hZ
        have HZl := Lib.hid hZl; clear hZl
        have HZ1 := Lib.hid hZ1; clear hZ1
        clear htk hdr hrl
        have i2 : (0 : Int) ≤ (p : Int) := by omega
        have i3 : (p : Int) ≤ (q' : Int) := by omega
        have i4 : (q' : Int) ≤ (c : Int) := by omega
        have i5 : (p : Int) ≤ (c : Int) := by omega
        have i6 : c ≠ p := by omega
        go_wp2_with (with_reducible refine stop_builtin .clear ?_)
        refine unpark ?_
        refine wpList_clear_row rfl _ tS rfl tE (.agg #[.int .i64 0, .int .i64 0]) Z Try.underlying37 (fun w => by kernel_rfl) (q' - p) (c - p) (by omega) HZ.out.symm g (off + p * 2) rfl _ Hg.out Hfit.out HZ1.out ?_
        intro w2 hw2 hg2 hs2
        have hw2' : w2.heap[g]? = some (.cells (A ++ (tmF.row (zs.take p) ++ (Z ++ R))).toArray tE (0, 0)) := by rw [← Hrow.out]; exact hw2
        have b7 := Hb.out.trans (Mod.of_grown (F := fun k => k = g) hg2 (fun k hk => by cases hk; rfl)) (fun _ h => h) (fun _ _ h => h)
        have Hb7 := Lib.hid b7; clear b7 hg2 hw2
        have Hw2 := Lib.hid hw2'; clear hw2'
        go_wp2_with fail
        go_ret
        have hpf : p = (ms.filter (kpT id)).length := by rw [← Hfin.out, Hpl.out]
        refine ⟨_, rfl, .inr ⟨g, off, c, A, Z ++ R, ?_, hB, ⟨?_, Hoff.out, ?_, hcm, ?_⟩⟩, Hb7.out.mono (fun k hk => by rw [hk]; rfl), rfl⟩
        · rw [← hpf]; rfl
        · rw [← Hfin.out]; exact Hw2.out
        · rw [← hpf]; omega
        · rw [← hpf, List.length_append, HZl.out]
          have := HRl.out
          show (c - p) * 2 ≤ _
          omega
end Go.Proofs.Ytfldohfopileeaa
