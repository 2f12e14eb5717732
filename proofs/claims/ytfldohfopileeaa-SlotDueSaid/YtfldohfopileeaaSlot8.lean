/- The document's Due; equal rows of numbers; what Set answers. -/
import Derived.Test.YtfldohfopileeaaSlot7
import Derived.BigQuiet
namespace Go.Proofs.Ytfldohfopileeaa
open Go.RowKit

theorem below_drawn' (w : World) (n : Nat) : Below w.heap.size w (w.drewN n) := ⟨rfl, rfl, rfl, Nat.le_refl _, fun _ _ => rfl⟩
set_option maxHeartbeats 1000000 in
theorem SameInts_calls {a1 a2 : Option Addr} {n1 n2 c1 c2 : Nat} {xs ys : List Int} {w : World} (hx : Ints w .i64 a1 n1 c1 xs) (hy : Ints w .i64 a2 n2 c2 ys) (he : xs = ys) :
    Calls Try.prog 25 #[.slice a1 n1 c1, .slice a2 n2 c2] w fun e w' => e = .returned (.bool true) ∧ Below w.heap.size w w' := by
  subst he
  have hl1 := hx.len
  have hl2 := hy.len
  have m1 := hx.max
  have m2 := hy.max
  have p1 := hx.le
  have p2 := hy.le
  obtain rfl : n1 = n2 := by omega
  have hne : ((n1 : Int) != (n1 : Int)) = false := by simp
  have Hl1 := Lib.hid hl1; clear hl1
  have Hl2 := Lib.hid hl2; clear hl2
  go_enter Try.func25, Try.ntmps25
  go_wp2_with fail
  go_loopw [5] (fun i wr => ∃ k : Nat, k ≤ n1 ∧ i = .int .i64 k ∧ ∃ n, wr = w.drewN n) (fun i _ => n1 - (intOf i).toNat)
  case atStart => exact ⟨0, by omega, rfl, 0, rfl⟩
  case round =>
    obtain ⟨k, hk, rfl, nd, rfl⟩ := hrel
    by_cases hlt : k < n1
    · obtain ⟨b1, o1, rfl, cx⟩ := hx.cell (by omega)
      obtain ⟨b2, o2, rfl, cy⟩ := hy.cell (by omega)
      have hcx := cx k hlt
      have hcy := cy k hlt
      generalize xs.getD k 0 = z at hcx hcy
      have hq : (z != z) = false := by simp
      have i1 : (0 : Int) ≤ (k : Int) := by omega
      have i2 : (k : Int) < (n1 : Int) := by omega
      clear cx cy
      go_wp2_with fail
      go_quiet (fail)
      go_wp2_with fail
      go_roundw
      case rel => exact ⟨k + 1, by omega, by go_num, _, rfl⟩
      case measure => simp [intOf]; omega
    · obtain rfl : k = n1 := by omega
      go_wp2
      go_ret
      exact ⟨rfl, below_drawn' w _⟩

set_option maxHeartbeats 2000000 in
theorem RDue_calls {w : World} {a : Option Addr} {n c : Nat} {t : Int} {xs : List Tm} (h : Recs tmF w a n c xs) (hn : n ≤ 100000) (hok : OkT xs) : Calls Try.prog 24 #[.slice a n c, .int .i64 t] w fun e w' =>
    ∃ out a' c', e = .returned (.tuple #[out, .slice a' (restT xs t).length c']) ∧ Own w' w.heap.size 3 .i64 out (idsT (dueT xs t)) ∧ Recs tmF w' a' (restT xs t).length c' (restT xs t) ∧ (∀ b o, a' = some ⟨b, o, none⟩ → ∃ o', a = some ⟨b, o', none⟩) ∧ Below w.heap.size w w' := by
  have b0 : Below w.heap.size w (w.alloc (.cells #[] 3)) := (Below.refl _ _).alloc (Nat.le_refl _) _
  have o0 : Own (w.alloc (.cells #[] 3)) w.heap.size 3 .i64 (.slice (some ⟨w.heap.size, 0, none⟩) 0 0) [] := ⟨World.ownsRow_made w #[] 0 (Nat.le_refl _) (by unfold maxLen; omega) rfl, fun z hz => by cases hz⟩
  have hl := h.len
  obtain ⟨DU, hDU⟩ : ∃ d, d = dueT xs t := ⟨_, rfl⟩
  obtain ⟨RE, hRE⟩ : ∃ d, d = restT xs t := ⟨_, rfl⟩
  rw [← hDU, ← hRE]
  have HDU := Lib.hid hDU; clear hDU
  have HRE := Lib.hid hRE; clear hRE
  have H := Lib.hid h; clear h
  have Hl := Lib.hid hl; clear hl
  have Hok := Lib.hid hok; clear hok
  have B0 := Lib.hid b0; clear b0
  have O0 := Lib.hid o0; clear o0
  go_enter Try.func24, Try.ntmps24
  go_wp2_with fail
  obtain ⟨w1, hw1⟩ : ∃ w1, w1 = w.alloc (.cells #[] 3) := ⟨_, rfl⟩
  rw [← hw1] at B0 O0 ⊢
  clear hw1
  go_loopw [6, 7] (fun u i wr => ∃ j : Nat, j ≤ n ∧ i = .int .i64 j ∧ (∀ d ∈ xs.take j, leT t d = true) ∧ Own wr w.heap.size 3 .i64 u (idsT (xs.take j)) ∧ Below w.heap.size w wr) (fun _ i _ => n - (intOf i).toNat)
  case atStart => exact ⟨0, by omega, rfl, (fun d hd => by simp at hd), O0.out, B0.out⟩
  case round =>
    obtain ⟨j, hj, rfl, hD, ho, hb⟩ := hrel
    have hr := H.out.keep hb
    have HD := Lib.hid hD; clear hD
    have Ho := Lib.hid ho; clear ho
    have Hb := Lib.hid hb; clear hb
    by_cases hlt : j < n
    · obtain ⟨g, o, rfl⟩ := hr.addr (by omega)
      have hjl : j < xs.length := by rw [Hl.out]; exact hlt
      have hle := hr.le
      obtain ⟨c0, c1⟩ := tm_at hr hlt
      have e : xs.getD j (0, 0) = xs[j] := by rw [List.getD_eq_getElem?_getD, List.getElem?_eq_getElem hjl]; rfl
      rw [e] at c0 c1
      have htk : xs.take (j + 1) = xs.take j ++ [xs[j]] := by rw [List.take_add_one, List.getElem?_eq_getElem hjl]; rfl
      have hdr : xs = xs.take j ++ xs.drop j := (List.take_append_drop j xs).symm
      have hhd : (xs.drop j).head? = some xs[j] := by rw [List.drop_eq_getElem_cons hjl]; rfl
      have hyw : (Lit.int .i64 xs[j].2).wf = true := Hok.out _ (List.getElem_mem _)
      obtain ⟨y, hy⟩ : ∃ y, y = xs[j] := ⟨_, rfl⟩
      rw [← hy] at c0 c1 htk hhd hyw
      clear hy e
      have i1 : (0 : Int) ≤ (j : Int) := by omega
      have i2 : (j : Int) < (n : Int) := by omega
      by_cases hyt : y.1 ≤ t
      · have d1 : decide (t < y.1) = false := decide_eq_false (by omega)
        have hD2 : ∀ d ∈ xs.take (j + 1), leT t d = true := fun d hd => by
          rw [htk] at hd
          rcases List.mem_append.1 hd with hd | hd
          · exact HD.out d hd
          · simp at hd; subst hd; exact decide_eq_true hyt
        have hids : idsT (xs.take (j + 1)) = idsT (xs.take j) ++ [y.2] := by rw [htk]; simp [idsT]
        have hbnd : ((idsT (xs.take j)).length + 1) * 8 ≤ 140737488355328 := by rw [idsT, List.length_map, List.length_take]; omega
        have b3 := (Below.refl wr.heap.size wr).alloc (Nat.le_refl _) (.cells #[.int .i64 y.2] 3)
        have z3 := heap_alloc_new wr (.cells #[.int .i64 y.2] 3)
        have i3 : Ints (wr.alloc (.cells #[.int .i64 y.2] 3)) .i64 (some ⟨wr.heap.size, 0, none⟩) 1 1 [y.2] := ⟨rfl, Nat.le_refl _, by decide, fun z hz => by simp at hz; subst hz; exact hyw, fun _ => ⟨_, _, rfl, fun j hj => by
          obtain rfl : j = 0 := by omega
          exact cells_at z3 0⟩⟩
        have o3 := Ho.out.below b3
        have hb3 := Hb.out.trans (b3.mono Hb.out.size)
        have hsz := hb3.size
        clear b3 z3 hdr hhd hyw htk Ho Hb hr HD
        have HD2 := Lib.hid hD2; clear hD2
        have Hids := Lib.hid hids; clear hids
        have Hbnd := Lib.hid hbnd; clear hbnd
        have I3 := Lib.hid i3; clear i3
        have O3 := Lib.hid o3; clear o3
        have B3 := Lib.hid hb3; clear hb3
        have Hsz := Lib.hid hsz; clear hsz
        go_wp2_with (with_reducible refine stop_builtin .append ?_)
        clear c0 c1
        generalize wr.heap.size = gr at *
        generalize wr.alloc (.cells #[.int .i64 y.2] 3) = w3 at *
        refine unpark ?_
        refine wpList_append_ints _ rfl _ _ 45 rfl .i64 w.heap.size 3 (.int .i64 0) 8 Try.underlying45 (by kernel_rfl) rfl _ _ rfl O3.out _ 1 1 [y.2] rfl I3.out Hbnd.out (by decide) Hsz.out ?_
        intro v5 w5 own5 g5 _
        rw [← Hids.out] at own5
        have hb5 := B3.out.grown g5 Hsz.out (fun k hk => (O3.out.block k hk).1)
        have Own5 := Lib.hid own5; clear own5 g5
        have B5 := Lib.hid hb5; clear hb5 B3 O3
        go_wp2_with fail
        go_roundw
        case rel => exact ⟨j + 1, by omega, by go_num, HD2.out, Own5.out, B5.out⟩
        case measure => simp [intOf]; omega
      · have hds := due_split hdr HD.out (fun z hz => by
          rw [hhd] at hz
          cases hz
          exact decide_eq_false hyt)
        have e1 : DU = xs.take j := HDU.out.trans hds.1
        have e2 : RE = xs.drop j := HRE.out.trans hds.2
        subst e1 e2
        have d1 : decide (t < y.1) = true := decide_eq_true (by omega)
        have hfr := hr.from (i := j) (by omega)
        have hln : (xs.drop j).length = n - j := by rw [List.length_drop, Hl.out]
        have Hln := Lib.hid hln
        have i4 : (j : Int) ≤ (n : Int) := by omega
        have i5 : ¬ (c = j) := by omega
        have Hfr := Lib.hid hfr; clear hfr hr hds hdr hhd hyt hyw htk HD HDU HRE hln
        go_wp2_with fail
        refine wp_region_quiet_below (by kernel_rfl) (by kernel_rfl) ?_
        repeat (any_goals (first | go_big_quiet_step (fail) | quiet_step (fail)))
        refine wpQuiet_nil ?_
        intro wq hwq
        have bk : Below wr.heap.size wr wq := by obtain ⟨q, rfl⟩ := hwq; exact below_regrown _ _ _
        have ho2 := Ho.out.below bk
        have hf2 := Hfr.out.keep bk
        have bn := Hb.out.trans (bk.mono Hb.out.size)
        clear hwq bk Hb Ho Hfr c0 c1
        have Ho := Lib.hid ho2; clear ho2
        have Hf := Lib.hid hf2; clear hf2
        have Hb := Lib.hid bn; clear bn
        go_wp2
        go_ret2
        rw [Hln.out]
        exact ⟨_, _, _, rfl, Ho.out, Hf.out, (fun b o' e => by cases e; exact ⟨_, rfl⟩), Hb.out⟩
    · obtain rfl : j = n := by omega
      have hxs : xs.take j = xs := List.take_of_length_le (by rw [Hl.out]; exact Nat.le_refl _)
      have hD := HD.out
      rw [hxs] at hD
      have hds := due_split (D := xs) (ys := []) (t := t) (List.append_nil xs).symm hD (fun y hy => by cases hy)
      have e1 : DU = xs.take j := by rw [hxs]; exact HDU.out.trans hds.1
      clear hD hxs
      have e2 : RE = [] := HRE.out.trans hds.2
      subst e1 e2
      clear hds HDU HRE hr
      go_wp2
      go_ret2
      exact ⟨_, _, _, rfl, Ho.out, Recs.none0 (by decide), (fun b o' e => by cases e), Hb.out⟩
/-- Both ways to set a timer. -/
theorem foldl_done (x : Tm) : ∀ (ys O : List Tm), ys.foldl (stepR x) (true, O) = (true, O ++ ys)
  | [], O => by simp
  | y :: ys, O => by
    rw [List.foldl_cons]
    have : stepR x (true, O) y = (true, O ++ [y]) := by simp [stepR]
    rw [this, foldl_done x ys, List.append_assoc]; rfl
theorem foldl_ins (x : Tm) : ∀ (ys O : List Tm), (let s := ys.foldl (stepR x) (false, O); if s.1 then s.2 else s.2 ++ [x]) = O ++ (ys.takeWhile (fun y => !gtT x y) ++ x :: ys.dropWhile (fun y => !gtT x y))
  | [], O => by simp
  | y :: ys, O => by
    simp only
    rw [List.foldl_cons]
    cases hg : gtT x y with
    | true =>
      have : stepR x (false, O) y = (true, O ++ [x] ++ [y]) := by simp [stepR, hg]
      rw [this, foldl_done]
      simp [hg]
    | false =>
      have : stepR x (false, O) y = (false, O ++ [y]) := by simp [stepR, hg]
      rw [this]
      have := foldl_ins x ys (O ++ [y])
      simp only at this
      rw [this]
      simp [hg]
theorem insR_eq (x : Tm) (ys : List Tm) : insR x ys = ys.takeWhile (fun y => !gtT x y) ++ x :: ys.dropWhile (fun y => !gtT x y) := by
  have := foldl_ins x ys []
  simp only [List.nil_append] at this
  exact this
theorem gt_lt {x y : Tm} (h : y.2 ≠ x.2) : (!gtT x y) = ltT x y := by
  unfold gtT ltT
  rw [Bool.eq_iff_iff, decide_eq_true_iff, ord_neg]
  simp
  omega
theorem takeWhile_congr' {α : Type} {p q : α → Bool} : ∀ (l : List α), (∀ a ∈ l, p a = q a) → l.takeWhile p = l.takeWhile q ∧ l.dropWhile p = l.dropWhile q
  | [], _ => ⟨rfl, rfl⟩
  | a :: l, h => by
    have h0 := h a (by simp)
    have ih := takeWhile_congr' l fun b hb => h b (by simp [hb])
    rw [List.takeWhile_cons, List.takeWhile_cons, List.dropWhile_cons, List.dropWhile_cons, h0, ih.1, ih.2]
    exact ⟨rfl, rfl⟩
theorem take_len_takeWhile {α : Type} (p : α → Bool) : ∀ l : List α, l.take (l.takeWhile p).length = l.takeWhile p ∧ l.drop (l.takeWhile p).length = l.dropWhile p
  | [] => ⟨rfl, rfl⟩
  | a :: l => by
    have ih := take_len_takeWhile p l
    rw [List.takeWhile_cons, List.dropWhile_cons]
    cases h : p a with
    | true => simp [ih.1, ih.2]
    | false => simp
theorem setR_setT (xs : List Tm) (t id : Int) : insR (t, id) (xs.filter (kpT id)) = setT xs t id := by
  unfold setT posT
  have h1 := take_len_takeWhile (ltT (t, id)) (xs.filter (kpT id))
  rw [h1.1, h1.2, insR_eq]
  have h2 := takeWhile_congr' (p := fun y => !gtT (t, id) y) (q := ltT (t, id)) (xs.filter (kpT id)) (fun y hy => gt_lt (by
    have := (List.mem_filter.1 hy).2
    simpa [kpT] using this))
  rw [h2.1, h2.2]
/-- What timers are always. -/
structure Good (xs : List Tm) : Prop where
  sort : SortT xs
  ok : OkT xs
theorem Good.nil : Good [] := ⟨List.Pairwise.nil, fun _ h => by cases h⟩
theorem Good.drop {xs : List Tm} (h : Good xs) (id : Int) : Good (xs.filter (kpT id)) := ⟨sort_filter h.sort id, fun x hx => h.ok x (List.mem_filter.1 hx).1⟩
theorem Good.rest {xs : List Tm} (h : Good xs) (t : Int) : Good (restT xs t) := ⟨h.sort.sublist (List.dropWhile_sublist _), fun x hx => h.ok x ((List.dropWhile_sublist _).mem hx)⟩
theorem mem_setT {xs : List Tm} {t id : Int} {y : Tm} : y ∈ setT xs t id ↔ y = (t, id) ∨ (y ∈ xs ∧ y.2 ≠ id) := by
  unfold setT
  have e : ∀ n, y ∈ (xs.filter (kpT id)).take n ++ (t, id) :: (xs.filter (kpT id)).drop n ↔ y = (t, id) ∨ y ∈ xs.filter (kpT id) := fun n => by
    rw [List.mem_append, List.mem_cons]
    constructor
    · rintro (h | h | h)
      · exact .inr (List.mem_of_mem_take h)
      · exact .inl h
      · exact .inr (List.mem_of_mem_drop h)
    · rintro (h | h)
      · exact .inr (.inl h)
      · rw [← List.take_append_drop n (xs.filter (kpT id)), List.mem_append] at h
        rcases h with h | h
        · exact .inl h
        · exact .inr (.inr h)
  rw [e, List.mem_filter]
  simp [kpT]
theorem Good.set {xs : List Tm} (h : Good xs) (t : Int) {id : Int} (hid : (Lit.int .i64 id).wf = true) : Good (setT xs t id) := by
  refine ⟨?_, fun x hx => ?_⟩
  · have hs := sort_filter h.sort id
    unfold setT posT
    have h1 := take_len_takeWhile (ltT (t, id)) (xs.filter (kpT id))
    rw [h1.1, h1.2]
    have hid2 : ∀ y ∈ xs.filter (kpT id), y.2 ≠ id := fun y hy => by simpa [kpT] using (List.mem_filter.1 hy).2
    generalize xs.filter (kpT id) = Y at *
    have hall : ∀ y ∈ Y.takeWhile (ltT (t, id)), ltT (t, id) y = true := fun y hy => List.all_eq_true.1 (List.all_takeWhile (l := Y) (p := ltT (t, id))) y hy
    have hsp : Y = Y.takeWhile (ltT (t, id)) ++ Y.dropWhile (ltT (t, id)) := (List.takeWhile_append_dropWhile).symm
    have hge : ∀ y ∈ Y.dropWhile (ltT (t, id)), ordT (t, id) y < 0 := by
      cases hD : Y.dropWhile (ltT (t, id)) with
      | nil => intro y hy; cases hy
      | cons z D =>
        have hz : ltT (t, id) z = false := by
          have := List.head?_dropWhile_not (ltT (t, id)) Y
          rw [hD] at this
          simpa using this
        have hzY : z ∈ Y := by rw [hsp, hD]; simp
        have hzid := hid2 z hzY
        have hz2 : ordT (t, id) z < 0 := by
          have := of_decide_eq_false hz
          rw [ord_neg] at this ⊢
          simp at this hzid ⊢
          omega
        intro y hy
        rcases List.mem_cons.1 hy with rfl | hy
        · exact hz2
        · refine ord_trans hz2 ?_
          have hs2 : SortT (z :: D) := by rw [← hD]; exact hs.sublist (List.dropWhile_sublist _)
          exact (List.pairwise_cons.1 hs2).1 y hy
    refine List.pairwise_append.2 ⟨hs.sublist (List.takeWhile_sublist _), List.pairwise_cons.2 ⟨hge, hs.sublist (List.dropWhile_sublist _)⟩, fun a ha b hb => ?_⟩
    have ha' : ordT a (t, id) < 0 := of_decide_eq_true (hall a ha)
    rcases List.mem_cons.1 hb with rfl | hb
    · exact ha'
    · exact ord_trans ha' (hge b hb)
  · rcases mem_setT.1 hx with rfl | ⟨hx, -⟩
    · exact hid
    · exact h.ok x hx
theorem setT_len (xs : List Tm) (t id : Int) : (setT xs t id).length = (xs.filter (kpT id)).length + 1 := by
  unfold setT
  rw [List.length_append, List.length_cons, List.length_take, List.length_drop]
  have := pos_le (xs.filter (kpT id)) (t, id)
  omega
end Go.Proofs.Ytfldohfopileeaa
