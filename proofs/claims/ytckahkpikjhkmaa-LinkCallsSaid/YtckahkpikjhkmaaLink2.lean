/- Messages: IndexFunc, DeleteFunc with the closure that asks for wrong ones. -/
import Derived.Test.YtckahkpikjhkmaaLink1
import Derived.Test.YtckahkpikjhkmaaDel
import Derived.Test.YtckahkpikjhkmaaHeld
namespace Go.Proofs.Ytckahkpikjhkmaa
open Go.RowKit

abbrev wrongV : Value := .func (.func 25) #[] #[]
theorem Wrong_calls {w : World} (m : Msg) : Calls Try.prog 25 #[.agg m.cells.toArray] w fun e w' => e = .returned (.bool (!rightOf m)) ∧ Below w.heap.size w w' := by
  have hr := fun w : World => Right_calls (w := w) m
  obtain ⟨k, p, t, x⟩ := m
  generalize rightOf (k, p, t, x) = R at hr
  simp only [Msg.cells, Msg.kind, Msg.part, Msg.tx, Msg.what] at hr ⊢
  have Hr := Lib.hid hr; clear hr
  have b1 := (Below.refl w.heap.size w).alloc (Nat.le_refl _) (.cells #[.int .i64 k, .int .i64 p, .int .i64 t, .int .i64 x] 38)
  have Hb1 := Lib.hid b1; clear b1
  go_enter Try.func25, Try.ntmps25
  go_wp2_with fail
  refine (Hr.out _).mono ?_
  rintro e w2 ⟨rfl, b2⟩
  have b3 := Hb1.out.trans (b2.mono Hb1.out.size)
  have Hb3 := Lib.hid b3; clear b3 b2
  go_wp2
  go_ret
  exact ⟨rfl, Hb3.out⟩

/-- The place of the first wrong message. -/
def badAt : List Msg → Nat → Option Nat
  | [], _ => none
  | m :: l, i => if rightOf m then badAt l (i + 1) else some i
theorem badAt_none : ∀ (l : List Msg) (i : Nat), badAt l i = none → l.filter rightOf = l
  | [], _, _ => rfl
  | m :: l, i, h => by
    unfold badAt at h
    split at h
    · rename_i hm
      rw [List.filter_cons_of_pos hm, badAt_none l _ h]
    · cases h
theorem badAt_skip : ∀ (l : List Msg) (i j : Nat), j ≤ l.length → (∀ m ∈ l.take j, rightOf m = true) → badAt l i = badAt (l.drop j) (i + j)
  | l, i, 0, _, _ => by simp
  | [], _, j + 1, hj, _ => by simp at hj
  | m :: l, i, j + 1, hj, h => by
    have hm : rightOf m = true := h m (by simp)
    unfold badAt
    rw [if_pos hm, List.drop_succ_cons, badAt_skip l (i + 1) j (by simpa using hj) fun x hx => h x (by simp [hx])]
    rw [show i + 1 + j = i + (j + 1) by omega]
    rw [badAt.eq_def]
def idxOf (ms : List Msg) : Int := match badAt ms 0 with | some i => (i : Int) | none => -1
theorem idxOf_all {ms : List Msg} (h : ∀ m ∈ ms, rightOf m = true) : idxOf ms = -1 := by
  unfold idxOf
  rw [badAt_skip ms 0 ms.length (Nat.le_refl _) (by rwa [List.take_length]), List.drop_length]
  rfl
theorem idxOf_at {ms : List Msg} {j : Nat} (hj : j < ms.length) (h : ∀ m ∈ ms.take j, rightOf m = true) (hb : rightOf ms[j] = false) : idxOf ms = (j : Int) := by
  unfold idxOf
  rw [badAt_skip ms 0 j (by omega) h, List.drop_eq_getElem_cons hj]
  unfold badAt
  rw [if_neg (by rw [hb]; decide), Nat.zero_add]
theorem idxOf_cases (ms : List Msg) : (idxOf ms = -1 ∧ ms.filter rightOf = ms) ∨ ∃ i, ∃ hi : i < ms.length, idxOf ms = (i : Int) ∧ (∀ m ∈ ms.take i, rightOf m = true) ∧ rightOf ms[i] = false := by
  by_cases h : ∀ m ∈ ms, rightOf m = true
  · exact .inl ⟨idxOf_all h, List.filter_eq_self.2 h⟩
  · right
    have key : ∀ (l : List Msg), ¬ (∀ m ∈ l, rightOf m = true) → ∃ i, ∃ hi : i < l.length, (∀ m ∈ l.take i, rightOf m = true) ∧ rightOf l[i] = false := by
      intro l
      induction l with
      | nil => intro h; exact absurd (fun _ h => by cases h) h
      | cons m l ih =>
        intro h
        cases hm : rightOf m with
        | false => exact ⟨0, by simp, by simp, hm⟩
        | true =>
          obtain ⟨i, hi, h1, h2⟩ := ih fun hl => h fun x hx => (List.mem_cons.1 hx).elim (fun e => by rw [e]; exact hm) (hl x)
          refine ⟨i + 1, by simpa using hi, fun x hx => ?_, by simpa using h2⟩
          rw [List.take_succ_cons, List.mem_cons] at hx
          exact hx.elim (fun e => by rw [e]; exact hm) (h1 x)
    obtain ⟨i, hi, h1, h2⟩ := key ms h
    exact ⟨i, hi, idxOf_at hi h1 h2, h1, h2⟩

set_option maxHeartbeats 2000000 in
theorem Index_calls {w : World} {a : Option Addr} {n c : Nat} {ms : List Msg} (h : Recs msgF w a n c ms) (hn : n ≤ 1000000) :
    Calls Try.prog 32 #[.slice a n c, wrongV] w fun e w' => e = .returned (.int .i64 (idxOf ms)) ∧ Below w.heap.size w w' := by
  have hl := h.len
  obtain ⟨I, hI⟩ : ∃ I, I = idxOf ms := ⟨_, rfl⟩
  rw [← hI]
  have HI := Lib.hid hI; clear hI
  have Hl := Lib.hid hl; clear hl
  have Hrec := Lib.hid h; clear h
  go_enter Try.func32, Try.ntmps32
  go_wp2_with fail
  go_loopw [8] (fun i wr => ∃ j : Nat, j ≤ n ∧ i = .int .i64 j ∧ Below w.heap.size w wr ∧ ∀ m ∈ ms.take j, rightOf m = true) (fun i _ => n - (intOf i).toNat)
  case atStart => exact ⟨0, by omega, rfl, Below.refl _ _, by simp⟩
  case round =>
    obtain ⟨j, hj, rfl, hb, hr⟩ := hrel
    have Hb := Lib.hid hb; clear hb
    have Hr := Lib.hid hr; clear hr
    by_cases hlt : j < n
    · have hrj := Hrec.out.keep Hb.out
      obtain ⟨gx, ox, rfl⟩ := hrj.addr (by omega)
      have hjl : j < ms.length := by rw [Hl.out]; exact hlt
      have hc := hrj.at hjl
      have hat : rightOf ms[j] = false → I = (j : Int) := fun e => by rw [HI.out]; exact idxOf_at hjl Hr.out e
      have hsn : rightOf ms[j] = true → ∀ m ∈ ms.take (j + 1), rightOf m = true := fun e m hm => by
        rw [List.take_add_one, List.getElem?_eq_getElem hjl] at hm
        rcases List.mem_append.1 hm with hm | hm
        · exact Hr.out m hm
        · simp at hm; rw [hm]; exact e
      obtain ⟨m, hm⟩ : ∃ m, m = ms[j] := ⟨_, rfl⟩
      rw [← hm] at hc hat hsn
      clear hm hrj
      have hcl := Wrong_calls (w := wr) m
      generalize rightOf m = R at hcl hat hsn
      obtain ⟨k, p, t, x⟩ := m
      have x0 : wr.cell? ⟨gx, ox + j * 4, none⟩ = some (.int .i64 k) := hc 0 _ rfl
      have x1 : wr.cell? ⟨gx, ox + j * 4 + 1, none⟩ = some (.int .i64 p) := hc 1 _ rfl
      have x2 : wr.cell? ⟨gx, ox + j * 4 + 2, none⟩ = some (.int .i64 t) := hc 2 _ rfl
      have x3 : wr.cell? ⟨gx, ox + j * 4 + 3, none⟩ = some (.int .i64 x) := hc 3 _ rfl
      simp only [Msg.cells, Msg.kind, Msg.part, Msg.tx, Msg.what] at hcl
      have Hcl := Lib.hid hcl; clear hcl hc
      have Hsn := Lib.hid hsn; clear hsn
      have i1 : (0 : Int) ≤ (j : Int) := by omega
      have i2 : (j : Int) < (n : Int) := by omega
      go_wp2_with fail
      refine Hcl.out.mono ?_
      rintro e w2 ⟨rfl, b2⟩
      have b3 := Hb.out.trans (b2.mono Hb.out.size)
      have Hb3 := Lib.hid b3; clear b3 b2 x0 x1 x2 x3 Hcl
      cases R with
      | false =>
        have e := hat rfl
        clear hat HI
        subst e
        go_wp2
        go_ret
        exact ⟨rfl, Hb3.out⟩
      | true =>
        clear hat
        go_wp2_with fail
        go_roundw
        case rel => exact ⟨j + 1, by omega, by go_num, Hb3.out, Hsn.out trivial⟩
        case measure => simp [intOf]; omega
    · obtain rfl : j = n := by omega
      have e : I = -1 := by
        rw [HI.out]
        refine idxOf_all fun m hm => Hr.out m ?_
        rw [List.take_of_length_le (by rw [Hl.out]; exact Nat.le_refl _)]
        exact hm
      clear HI
      subst e
      go_wp2
      go_ret
      exact ⟨rfl, Hb.out⟩

theorem zcells_len (n : Nat) : (Builtin.zeroCells #[Value.int .i64 0, .int .i64 0, .int .i64 0, .int .i64 0] n).toList.length = n * 4 := by simp [Builtin.zeroCells]
theorem zcells_one (n : Nat) : ∀ u ∈ (Builtin.zeroCells #[Value.int .i64 0, .int .i64 0, .int .i64 0, .int .i64 0] n).toList, u.oneCell' = true := by
  intro u hu
  unfold Builtin.zeroCells at hu
  rw [Array.toList_map] at hu
  obtain ⟨i, _, rfl⟩ := List.mem_map.1 hu
  have h4 : i % 4 < 4 := Nat.mod_lt _ (by decide)
  show ((#[Value.int .i64 0, .int .i64 0, .int .i64 0, .int .i64 0] : Array Value)[i % 4]!).oneCell' = true
  match i % 4, h4 with
  | 0, _ | 1, _ | 2, _ | 3, _ => rfl
/-- A record is written into a row that the call owns. -/
theorem row_set {α : Type} {F : Fmt α} (zs : List α) (i : Nat) (hi : i < zs.length) (x : α) (rest : List Value) : splice (F.row zs ++ rest) (i * F.m) (F.cells x) = F.row (zs.set i x) ++ rest := by
  unfold splice
  have h1 : i * F.m ≤ (F.row zs).length := by rw [F.row_len]; exact Nat.mul_le_mul_right _ (by omega)
  have h2 : (F.cells x).length = F.m := F.len x
  have h3 : i * F.m + F.m ≤ (F.row zs).length := by
    rw [F.row_len, ← Nat.succ_mul]; exact Nat.mul_le_mul_right _ hi
  rw [List.take_append_of_le_length h1, h2, List.drop_append_of_le_length h3, F.row_take, show i * F.m + F.m = (i + 1) * F.m by rw [Nat.succ_mul], F.row_drop, List.set_eq_take_append_cons_drop, if_pos hi]
  simp [Fmt.row]

abbrev Mo := ROwn msgF 38
set_option maxHeartbeats 4000000 in
theorem DelFunc_calls {w0 w : World} {v : Value} {ms : List Msg} (h : Mo w w0.heap.size v ms) (hw : Below w0.heap.size w0 w) (hn : ms.length ≤ 1000000) :
    Calls Try.prog 27 #[v, wrongV] w fun e w' => ∃ v', e = .returned v' ∧ Mo w' w0.heap.size v' (ms.filter rightOf) ∧ Below w0.heap.size w0 w' := by
  obtain ⟨a, c, rfl, hrec, hlt⟩ := h.recs
  have hidx := Index_calls hrec hn
  rcases idxOf_cases ms with ⟨hi, hf⟩ | ⟨i, hin, hi, hr, hb⟩
  · rw [hi] at hidx
    rw [hf]
    have Hidx := Lib.hid hidx; clear hidx
    have Hh := Lib.hid h; clear h
    clear hrec hlt
    go_enter Try.func27, Try.ntmps27
    go_wp2_with fail
    refine Hidx.out.mono ?_
    rintro e w1 ⟨rfl, b1⟩
    have b2 := hw.trans (b1.mono hw.size)
    have h2 := Hh.out.below b1
    have Hb := Lib.hid b2; clear b2 b1
    have Hh2 := Lib.hid h2; clear h2
    go_wp2
    go_ret
    exact ⟨_, rfl, Hh2.out, Hb.out⟩
  · rw [hi] at hidx
    obtain ⟨g, o, rfl⟩ := hrec.addr (by omega)
    obtain ⟨g', cap, cur, hv, hB, hg, hnc, hcm, hcs, ht⟩ := h.2.resolve_left fun h => by cases h.1
    cases hv
    obtain ⟨n, hN⟩ : ∃ n, n = ms.length := ⟨_, rfl⟩
    rw [← hN] at hn hidx hnc ht ⊢
    have hcs : cur.size = c * 4 := hcs
    have ht : cur.toList.take (n * 4) = msgF.row ms := ht
    have hcm' : c ≤ 9223372036854775807 := by simpa [maxLen] using hcm
    obtain ⟨R, hR⟩ : ∃ R, R = cur.toList.drop (n * 4) := ⟨_, rfl⟩
    have hcur : cur = (msgF.row ms ++ R).toArray := by rw [← ht, hR, List.take_append_drop]
    have hRl : R.length = c * 4 - n * 4 := by rw [hR, List.length_drop, Array.length_toList, hcs]
    subst hcur
    clear hR ht hcs
    have hg1 := (Array.getElem?_eq_some_iff.1 hg).1
    have hst : ms.take i = (ms.take (i + 1)).filter rightOf := by
      rw [List.take_add_one, List.getElem?_eq_getElem hin, List.filter_append, List.filter_eq_self.2 hr]
      simp [hb]
    have Hidx := Lib.hid hidx; clear hidx
    have Hst := Lib.hid hst; clear hst
    have HRl := Lib.hid hRl; clear hRl
    have HN := Lib.hid hN; clear hN
    have Hg := Lib.hid hg; clear hg
    have hin' : i < n := by rw [HN.out]; exact hin
    clear hrec hlt hi hr hb h hin
    go_enter Try.func27, Try.ntmps27
    go_wp2_with fail
    refine Hidx.out.mono ?_
    rintro e w1 ⟨rfl, b1⟩
    have b2 := hw.trans (b1.mono hw.size)
    have g2 := (b1.block g hg1).trans Hg.out
    have Hb := Lib.hid b2; clear b2 b1 Hidx Hg
    have Hg := Lib.hid g2; clear g2
    have i1 : ((i : Int) == -1) = false := by simp
    go_wp2_with fail
    go_loopw [5, 6] (fun x y wr => ∃ (p q : Nat) (zs : List Msg), p < q ∧ q ≤ n ∧ x = .int .i64 p ∧ y = .int .i64 q ∧ zs.length = n ∧ wr.heap[g]? = some (.cells (msgF.row zs ++ R).toArray 38 (0, 0)) ∧ zs.take p = (ms.take q).filter rightOf ∧ zs.drop q = ms.drop q ∧ Below w0.heap.size w0 wr) (fun _ y _ => n - (intOf y).toNat)
    case atStart => exact ⟨i, i + 1, ms, by omega, by omega, rfl, by go_num, HN.out.symm, Hg.out, Hst.out, rfl, Hb.out⟩
    case round =>
      clear Hb Hg
      obtain ⟨p, q, zs, hpq, hqn, rfl, rfl, hzl, hg, htk, hdr, hb⟩ := hrel
      have Hb := Lib.hid hb; clear hb
      have hgl := (Array.getElem?_eq_some_iff.1 hg).1
      by_cases hlt : q < n
      · have hqz : q < zs.length := by omega
        have hqm : q < ms.length := by rw [← HN.out]; exact hlt
        have hzq : zs[q] = ms[q] ∧ zs.drop (q + 1) = ms.drop (q + 1) := by
          rw [List.drop_eq_getElem_cons hqz, List.drop_eq_getElem_cons hqm] at hdr
          exact ⟨(List.cons.inj hdr).1, (List.cons.inj hdr).2⟩
        have hcc : ∀ k u, (msgF.cells zs[q])[k]? = some u → wr.cell? ⟨g, q * 4 + k, none⟩ = some u := fun k u hu => by
          have hk : k < 4 := by have := (List.getElem?_eq_some_iff.1 hu).1; rwa [msgF.len] at this
          rw [cells_at hg, List.getElem?_toArray, List.getElem?_append_left (by rw [msgF.row_len]; show q * 4 + k < zs.length * 4; omega)]
          exact (msgF.row_at zs hqz k hk).trans hu
        have hfl : (ms.take (q + 1)).filter rightOf = (ms.take q).filter rightOf ++ (if rightOf ms[q] then [ms[q]] else []) := by
          rw [List.take_add_one, List.getElem?_eq_getElem hqm, List.filter_append]
          simp only [Option.toList_some]
          cases hr : rightOf ms[q] <;> simp [hr]
        rw [← hzq.1] at hfl
        obtain ⟨m, hm⟩ : ∃ m, m = zs[q] := ⟨_, rfl⟩
        rw [← hm] at hcc hfl
        have hzd := hzq.2
        clear hzq hm hdr
        have hcl := fun w : World => Wrong_calls (w := w) m
        generalize rightOf m = T at hcl hfl
        have hset : zs.take (p + 1) = zs.take p ++ [zs[p]'(by omega)] := by rw [List.take_add_one, List.getElem?_eq_getElem (by omega)]; rfl
        have hzset : (zs.set p m).take (p + 1) = zs.take p ++ [m] := by
          rw [List.set_eq_take_append_cons_drop, if_pos (by omega), List.take_append, List.take_of_length_le (by rw [List.length_take]; omega), List.length_take, Nat.min_eq_left (by omega), show p + 1 - p = 1 by omega]
          rfl
        have hzdr : (zs.set p m).drop (q + 1) = zs.drop (q + 1) := by rw [List.drop_set_of_lt (by omega)]
        have hrs := row_set (F := msgF) zs p (by omega) m R
        clear hset
        obtain ⟨k, pt, t, x⟩ := m
        have x0 : wr.cell? ⟨g, q * 4, none⟩ = some (.int .i64 k) := hcc 0 _ rfl
        have x1 : wr.cell? ⟨g, q * 4 + 1, none⟩ = some (.int .i64 pt) := hcc 1 _ rfl
        have x2 : wr.cell? ⟨g, q * 4 + 2, none⟩ = some (.int .i64 t) := hcc 2 _ rfl
        have x3 : wr.cell? ⟨g, q * 4 + 3, none⟩ = some (.int .i64 x) := hcc 3 _ rfl
        clear hcc
        simp only [Msg.cells, Msg.kind, Msg.part, Msg.tx, Msg.what] at hcl
        have Hcl := Lib.hid hcl; clear hcl
        have Hfl := Lib.hid hfl; clear hfl
        have Hzset := Lib.hid hzset; clear hzset
        have Hzdr := Lib.hid hzdr; clear hzdr
        have Hrs := Lib.hid hrs; clear hrs
        have Htk := Lib.hid htk; clear htk
        have Hzd := Lib.hid hzd; clear hzd
        have Hzl := Lib.hid hzl; clear hzl
        have i2 : (0 : Int) ≤ (q : Int) := by omega
        have i3 : (q : Int) < (n : Int) := by omega
        have i4 : (0 : Int) ≤ (p : Int) := by omega
        have i5 : (p : Int) < (n : Int) := by omega
        have b3 := Hb.out.alloc Hb.out.size (.cells #[.int .i64 k, .int .i64 pt, .int .i64 t, .int .i64 x] 38)
        have hx3 := heap_alloc_new wr (.cells #[.int .i64 k, .int .i64 pt, .int .i64 t, .int .i64 x] 38)
        have g3 := (Below.heap_alloc wr (.cells #[.int .i64 k, .int .i64 pt, .int .i64 t, .int .i64 x] 38) g hgl).trans hg
        have hgn : g ≠ wr.heap.size := by omega
        have Hb3 := Lib.hid b3; clear b3
        have Hg3 := Lib.hid g3; clear g3 hg
        go_wp2_with fail
        generalize wr.heap.size = gz at *
        generalize wr.alloc (.cells #[.int .i64 k, .int .i64 pt, .int .i64 t, .int .i64 x] 38) = w4 at *
        refine (Hcl.out _).mono ?_
        rintro e w5 ⟨rfl, b5⟩
        have g5 := (b5.block g (Array.getElem?_eq_some_iff.1 Hg3.out).1).trans Hg3.out
        have z5 := (b5.block gz (Array.getElem?_eq_some_iff.1 hx3).1).trans hx3
        have y0 := cells_at z5 0
        have y1 := cells_at z5 1
        have y2 := cells_at z5 2
        have y3 := cells_at z5 3
        have b6 := Hb3.out.trans (b5.mono Hb3.out.size)
        clear z5 hx3 b5 Hb3 Hg3 Hcl x0 x1 x2 x3
        have Hb := Lib.hid b6; clear b6
        have Hg := Lib.hid g5; clear g5
        cases T with
        | false =>
          go_wp2_with fail
          go_roundw
          case rel => exact ⟨p, q + 1, zs, by omega, by omega, rfl, by go_num, Hzl.out, Hg.out, by rw [Hfl.out, Htk.out]; simp, Hzd.out, Hb.out⟩
          case measure => simp [intOf]; omega
        | true =>
          go_wp2_with (with_reducible refine stop_store 38 ?_)
          refine unpark ?_
          refine wpList_store_at rfl 38 _ _ rfl g (p * 4) rfl (.agg #[.int .i64 k, .int .i64 pt, .int .i64 t, .int .i64 x]) rfl (msgF.cells (k, pt, t, x)) rfl 38 _ Hg.out 4 rfl (by
            have h1 := msgF.row_len zs
            have h2 := Hzl.out
            have h3 : msgF.m = 4 := rfl
            rw [List.size_toArray, List.length_append, h1, h2, h3, HRl.out]
            omega) (msgF.one _) (by kernel_rfl) ?_
          intro w6 g6 gr6 hs6
          have e6 : splice (msgF.row zs ++ R).toArray.toList (p * 4) (msgF.cells (k, pt, t, x)) = msgF.row (zs.set p (k, pt, t, x)) ++ R := Hrs.out
          rw [e6] at g6
          have b7 := Hb.out.grown gr6 Hb.out.size (fun k hk => by cases hk; exact hB)
          clear e6 gr6 Hg Hb y0 y1 y2 y3
          have Hb := Lib.hid b7; clear b7
          have Hg := Lib.hid g6; clear g6
          go_wp2_with fail
          go_roundw
          case rel => exact ⟨p + 1, q + 1, zs.set p (k, pt, t, x), by omega, by omega, by go_num, by go_num, by rw [List.length_set, Hzl.out], Hg.out, by rw [Hzset.out, Hfl.out, Htk.out]; simp, by rw [Hzdr.out, Hzd.out], Hb.out⟩
          case measure => simp [intOf]; omega
      · obtain rfl : q = n := by omega
        have hfin : zs.take p = ms.filter rightOf := by rw [htk, HN.out, List.take_length]
        have hpl : (zs.take p).length = p := by rw [List.length_take]; omega
        have hrow : (splice (msgF.row zs ++ R) (p * 4) (Builtin.zeroCells #[Value.int .i64 0, .int .i64 0, .int .i64 0, .int .i64 0] (q - p)).toList).take (p * 4) = msgF.row (zs.take p) := by
          unfold splice
          have h1 : p * 4 ≤ (msgF.row zs).length := by rw [msgF.row_len, hzl]; show p * 4 ≤ q * 4; omega
          rw [List.take_append_of_le_length h1, List.take_append_of_le_length (by rw [List.length_take]; omega), List.take_take, Nat.min_self]
          exact msgF.row_take zs p
        have hsz : (splice (msgF.row zs ++ R) (p * 4) (Builtin.zeroCells #[Value.int .i64 0, .int .i64 0, .int .i64 0, .int .i64 0] (q - p)).toList).length = c * 4 := by
          have h1 : (msgF.row zs ++ R).length = c * 4 := by rw [List.length_append, msgF.row_len, hzl, HRl.out]; show q * 4 + (c * 4 - q * 4) = c * 4; omega
          simp only [splice, List.length_append, List.length_take, List.length_drop, h1, zcells_len]
          omega
        have hfit : p * 4 + (Builtin.zeroCells #[Value.int .i64 0, .int .i64 0, .int .i64 0, .int .i64 0] (q - p)).toList.length ≤ (msgF.row zs ++ R).toArray.size := by
          rw [zcells_len, List.size_toArray, List.length_append, msgF.row_len, hzl, HRl.out]
          show p * 4 + (q - p) * 4 ≤ q * 4 + (c * 4 - q * 4)
          omega
        have Hg := Lib.hid hg; clear hg
        have Hfin := Lib.hid hfin; clear hfin
        have Hpl := Lib.hid hpl; clear hpl
        have Hrow := Lib.hid hrow; clear hrow
        have Hsz := Lib.hid hsz; clear hsz
        have Hfit := Lib.hid hfit; clear hfit
        clear htk hdr
        have i2 : (0 : Int) ≤ (p : Int) := by omega
        have i3 : (p : Int) ≤ (q : Int) := by omega
        have i4 : (q : Int) ≤ (c : Int) := by omega
        have i5 : (p : Int) ≤ (c : Int) := by omega
        have i6 : c ≠ p := by omega
        go_wp2_with (with_reducible refine stop_builtin .clear ?_)
        refine unpark ?_
        refine wpList_clear_row rfl _ 32 rfl 38 (.agg #[.int .i64 0, .int .i64 0, .int .i64 0, .int .i64 0]) _ Try.underlying32 (fun w => by kernel_rfl) (q - p) (c - p) (by omega) rfl g (p * 4) rfl _ Hg.out Hfit.out (zcells_one _) ?_
        intro w2 hw2 hg2 hs2
        have b7 := Hb.out.grown hg2 Hb.out.size (fun k hk => by cases hk; exact hB)
        have Hb7 := Lib.hid b7; clear b7 hg2
        have Hw2 := Lib.hid hw2; clear hw2
        go_wp2_with fail
        go_ret
        refine ⟨_, rfl, ⟨?_, .inr ⟨g, c, _, ?_, hB, Hw2.out, ?_, hcm, ?_, ?_⟩⟩, Hb7.out⟩
        · exact msgF.row_len _
        · show Value.slice (some ⟨g, 0, none⟩) p c = Value.slice (some ⟨g, 0, none⟩) (ms.filter rightOf).length c
          rw [← Hfin.out, Hpl.out]
        · rw [← Hfin.out, Hpl.out]; omega
        · rw [List.size_toArray]; exact Hsz.out
        · rw [← Hfin.out, Hpl.out]
          exact Hrow.out
end Go.Proofs.Ytckahkpikjhkmaa
