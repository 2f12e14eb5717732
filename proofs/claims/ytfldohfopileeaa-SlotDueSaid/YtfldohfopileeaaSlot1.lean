/- Timers: slices.Insert. -/
import Derived.Test.YtfldohfopileeaaFar
import Derived.Test.YtfldohfopileeaaPark
import Derived.Test.YtfldohfopileeaaChain
import Derived.Test.YtfldohfopileeaaFree
import Derived.Test.YtfldohfopileeaaSeq
import Derived.Test.YtfldohfopileeaaPhase
import Derived.Test.YtfldohfopileeaaChecked
import Derived.Lib.Overlaps
namespace Go.Proofs.Ytfldohfopileeaa
open Go.RowKit

abbrev Tm := Int × Int
def tmF : Fmt Tm where
  cells x := [.int .i64 x.1, .int .i64 x.2]
  m := 2
  len _ := rfl
  pos := by decide
  one x u hu := by
    rcases List.mem_cons.1 hu with rfl | hu
    · rfl
    · rcases List.mem_cons.1 hu with rfl | hu
      · rfl
      · cases hu
abbrev tE : TypeId := 61
abbrev tS : TypeId := 37
abbrev TAt := FAt tmF tE
abbrev TRow := FRow tmF tE
theorem tm_info : ∃ ti z, Try.prog.info? tE = some ti ∧ ti.size = tmF.m ∧ ti.zero = some z ∧ z.cells.size = tmF.m ∧ ti.bytes ≤ 1000 := ⟨_, _, rfl, rfl, rfl, rfl, by decide⟩
theorem one_src {w : World} {vb : Nat} {x : Tm} (h : w.heap[vb]? = some (.cells #[.int .i64 x.1, .int .i64 x.2] tE (0, 0))) : Src Try.prog tmF.m tS (.slice (some ⟨vb, 0, none⟩) 1 1) 1 (tmF.cells x) w :=
  Src.ofSlice w Try.underlying37 _ _ _ _ rfl (fun j u hu => by rw [Addr.add_lit, cells_at h, Nat.zero_add]; simpa [tmF] using hu) (tmF.one x)

set_option maxHeartbeats 1000000 in
/-- At the end, there is room. -/
theorem Insert_end {w : World} {g off c vb : Nat} {xs : List Tm} {A R : List Value} {x : Tm} (h : TAt w g off c xs A R) (hx : w.heap[vb]? = some (.cells #[.int .i64 x.1, .int .i64 x.2] tE (0, 0))) (hroom : xs.length + 1 ≤ c) :
    Calls Try.prog 36 #[.slice (some ⟨g, off, none⟩) xs.length c, .int .i64 xs.length, .slice (some ⟨vb, 0, none⟩) 1 1] w fun e w' =>
      e = .returned (.slice (some ⟨g, off, none⟩) (xs.length + 1) c) ∧ TAt w' g off c (xs ++ [x]) A (R.drop 2) ∧ w.grownBy w' (some g) := by
  obtain ⟨ti, z, hi, hsz, -⟩ := tm_info
  obtain ⟨w1, hr, h1, g1, -⟩ := run_append_far (P := Try.prog) Try.underlying37 hi hsz h (one_src hx) hroom
  have hmax := h.max
  have hle := h.le
  clear h hx hi hsz
  have H1 := Lib.hid h1; clear h1
  have G1 := Lib.hid g1; clear g1
  have Hr := Lib.hid hr; clear hr
  generalize xs.length = n at *
  have i1 : ¬ (c = n) := by omega
  go_enter Try.func36, Try.ntmps36
  go_wp2_with (at_builtin; refine Lib.wpList_append_run _ rfl _ _ _ _ rfl _ _ rfl rfl _ _ (Hr.out _) ?_)
  go_ret
  exact ⟨rfl, H1.out, G1.out⟩
set_option maxHeartbeats 1000000 in
/-- At the end, there is no room. -/
theorem Insert_grow {w : World} {a : Option Addr} {c vb : Nat} {xs : List Tm} {x : Tm} (h : Recs tmF w a xs.length c xs) (hx : w.heap[vb]? = some (.cells #[.int .i64 x.1, .int .i64 x.2] tE (0, 0))) (hroom : c < xs.length + 1) (hn : xs.length ≤ 1000000) (ha : a = none → c = 0) (hs : ∀ b, a = some b → b.spot = none) :
    Calls Try.prog 36 #[.slice a xs.length c, .int .i64 xs.length, .slice (some ⟨vb, 0, none⟩) 1 1] w fun e w' =>
      ∃ c' R', e = .returned (.slice (some ⟨w.heap.size, 0, none⟩) (xs.length + 1) c') ∧ TAt w' w.heap.size 0 c' (xs ++ [x]) [] R' ∧ w.grownBy w' none := by
  obtain ⟨ti, z, hi, hsz, hz, hzc, hby⟩ := tm_info
  obtain ⟨w1, c', R', hr, h1, g1⟩ := run_append_grow1 (P := Try.prog) Try.underlying37 hi hsz hz hzc hby h (one_src hx) hroom hn
  have hle := h.le
  have hmax := h.max
  clear h hx hi hsz hz hzc hby
  have H1 := Lib.hid h1; clear h1
  have G1 := Lib.hid g1; clear g1
  have Hr := Lib.hid hr; clear hr
  generalize xs.length = n at *
  obtain rfl : c = n := by omega
  cases a with
  | none =>
    obtain rfl := ha rfl
    go_enter Try.func36, Try.ntmps36
    go_wp2_with (at_builtin; refine Lib.wpList_append_run _ rfl _ _ _ _ rfl _ _ rfl rfl _ _ (Hr.out _) ?_)
    go_ret
    first | exact ⟨_, _, rfl, H1.out, G1.out⟩ | exact ⟨_, rfl, ⟨_, H1.out⟩, G1.out⟩ | exact ⟨_, ⟨_, H1.out⟩, G1.out⟩
  | some a =>
    obtain ⟨b, o, s⟩ := a
    have hs := hs _ rfl
    subst hs
    clear ha
    go_enter Try.func36, Try.ntmps36
    go_wp2_with (at_builtin; refine Lib.wpList_append_run _ rfl _ _ _ _ rfl _ _ rfl rfl _ _ (Hr.out _) ?_)
    go_ret
    first | exact ⟨_, _, rfl, H1.out, G1.out⟩ | exact ⟨_, rfl, ⟨_, H1.out⟩, G1.out⟩ | exact ⟨_, ⟨_, H1.out⟩, G1.out⟩
theorem overlaps_no {w : World} {vb g : Nat} {cs ds : Array Value} {o lb cb : Nat} (hx : w.heap[vb]? = some (.cells cs tE (0, 0))) (hg : w.heap[g]? = some (.cells ds tE (0, 0))) (hd : ds.size ≠ 0) (hne : vb ≠ g) :
    (callFunc 41 #[.slice (some ⟨vb, 0, none⟩) 1 1, .slice (some ⟨g, o, none⟩) lb cb]).run Try.prog w = .ok (.value (.bool false)) w := by
  rw [run_callFunc_extern Try.func41 (by kernel_rfl) (by kernel_rfl) (by kernel_rfl) (e := Extern.SlicesOverlaps.overlaps #[tS, tS] #[4]) (by kernel_rfl),
    Lib.run_overlaps_apart w tS 4 tE Try.underlying37 2 (fun _ => by kernel_rfl) ⟨vb, 0, none⟩ ⟨g, o, none⟩ 1 1 lb cb hne tE tE cs.size ds.size (by simp [World.shape?, hx]) (by simp [World.shape?, hg]) hd (frozen_of_row w vb 0 _ _ hx) (frozen_of_row w vb _ _ _ hx)]
  rfl
set_option maxHeartbeats 2000000 in
/-- In the middle, there is room. -/
theorem Insert_shift {w : World} {g off c vb i : Nat} {xs : List Tm} {A R : List Value} {x : Tm} (h : TAt w g off c xs A R) (hx : w.heap[vb]? = some (.cells #[.int .i64 x.1, .int .i64 x.2] tE (0, 0))) (hvb : vb ≠ g) (hi : i < xs.length) (hroom : xs.length + 1 ≤ c) :
    Calls Try.prog 36 #[.slice (some ⟨g, off, none⟩) xs.length c, .int .i64 i, .slice (some ⟨vb, 0, none⟩) 1 1] w fun e w' =>
      e = .returned (.slice (some ⟨g, off, none⟩) (xs.length + 1) c) ∧ TAt w' g off c (xs.take i ++ x :: xs.drop i) A (R.drop 2) ∧ w.grownBy w' (some g) := by
  obtain ⟨ti, z, hti, hsz, -⟩ := tm_info
  have hmax := h.max
  have hsp := h.spare
  have hm : tmF.m = 2 := rfl
  have hl := tmF.row_len xs
  have hrow := tmF.row_append (xs.take i) (xs.drop i)
  rw [List.take_append_drop] at hrow
  have hP : (tmF.row (xs.take i)).length = i * 2 := by rw [tmF.row_len, List.length_take, Nat.min_eq_left (by omega)]; rfl
  have hQ : (tmF.row (xs.drop i)).length = (xs.length - i) * 2 := by rw [tmF.row_len, List.length_drop]; rfl
  have hR : 2 ≤ R.length := by rw [hm] at hsp; omega
  -- the first copy
  have hgd : w.drew.heap[g]? = some (.cells (A ++ (tmF.row xs ++ R)).toArray tE (0, 0)) := h.heap
  obtain ⟨w1, hr1, h1, g1, s1⟩ := run_copy_far (P := Try.prog) (F := tmF) (t := tS) (g := g) (o := off + (i + 1) * 2) (dLen := xs.length - i) (dCap := c - (i + 1)) (sLen := xs.length + 1 - i) (sCap := c - i) (k := xs.length - i) (a := ⟨g, off + i * 2, none⟩) Try.underlying37 hti hsz hgd (cs := tmF.row (xs.drop i)) (by simp only [Nat.min_def]; split <;> omega) hQ
    (fun j v hj => by
      have hj2 : j < (xs.length - i) * 2 := by have := (List.getElem?_eq_some_iff.1 hj).1; rwa [hQ] at this
      rw [Addr.add_lit, cells_at hgd, List.getElem?_toArray, ← h.off, Nat.add_assoc, List.getElem?_append_right (Nat.le_add_right _ _), show A.length + (i * 2 + j) - A.length = i * 2 + j by omega, hrow, List.append_assoc, List.getElem?_append_right (by rw [hP]; omega), hP, show i * 2 + j - i * 2 = j by omega, List.getElem?_append_left (by rw [hQ]; exact hj2)]
      exact hj)
    (by rw [hQ, List.length_append, List.length_append, hl, hm, h.off]; omega) (tmF.row_one _)
  -- the second copy
  have hv1 : w1.heap[vb]? = some (.cells #[.int .i64 x.1, .int .i64 x.2] tE (0, 0)) := (g1.block vb (Array.getElem?_eq_some_iff.1 hx).1 (fun e => hvb (Option.some.inj e))).trans hx
  obtain ⟨w2, hr2, h2, g2, s2⟩ := run_copy_far (P := Try.prog) (F := tmF) (t := tS) (g := g) (o := off + i * 2) (dLen := xs.length + 1 - i) (dCap := c - i) (sLen := 1) (sCap := 1) (k := 1) (a := ⟨vb, 0, none⟩) Try.underlying37 hti hsz h1 (cs := tmF.cells x) (by simp only [Nat.min_def]; split <;> omega) rfl
    (fun j v hj => by rw [Addr.add_lit, cells_at hv1, Nat.zero_add]; simpa [tmF] using hj)
    (by rw [splice_len _ _ _ (by rw [hQ, List.length_append, List.length_append, hl, hm, h.off]; omega), List.length_append, List.length_append, hl, hm, h.off]; show off + i * 2 + 2 ≤ _; omega) (tmF.one x)
  have e : splice (splice (A ++ (tmF.row xs ++ R)) (off + (i + 1) * 2) (tmF.row (xs.drop i))) (off + i * 2) (tmF.cells x) = A ++ (tmF.row (xs.take i ++ x :: xs.drop i) ++ R.drop 2) := by
    have := splice_shift A (tmF.row (xs.take i)) (tmF.row (xs.drop i)) R (tmF.cells x) hR
    rw [hP, h.off, show i * 2 + (tmF.cells x).length = (i + 1) * 2 by rw [Nat.succ_mul]; rfl] at this
    rw [hrow, List.append_assoc, this, tmF.row_append]
    show _ = A ++ (tmF.row (xs.take i) ++ (tmF.cells x ++ tmF.row (xs.drop i)) ++ R.drop 2)
    simp only [List.append_assoc]
    rfl
  rw [e] at h2
  have hfin : TAt w2 g off c (xs.take i ++ x :: xs.drop i) A (R.drop 2) := ⟨h2, h.off, by rw [List.length_append, List.length_cons, List.length_take, List.length_drop]; omega, h.max, by
    rw [List.length_append, List.length_cons, List.length_take, List.length_drop, List.length_drop, hm]
    rw [hm] at hsp
    omega⟩
  have hgg : w.grownBy w2 (some g) := ⟨g2.os.trans g1.os, g2.tape.trans g1.tape, g2.output.trans g1.output, by rw [s2, s1]; exact Nat.le_refl _, fun k hk hne => (g2.block k (by rw [s1]; exact hk) hne).trans (g1.block k hk hne)⟩
  have hov := fun o lb cb => overlaps_no (o := o) (lb := lb) (cb := cb) hx h.heap (by rw [List.size_toArray, List.length_append, List.length_append, hl, hm]; omega) hvb
  clear e h1 h2 g1 g2 s1 s2 hv1 hgd hrow hP hQ hR hl hsp hti hsz h hx hvb
  have Hfin := Lib.hid hfin; clear hfin
  have Hgg := Lib.hid hgg; clear hgg
  have Hr1 := Lib.hid hr1; clear hr1
  have Hr2 := Lib.hid hr2; clear hr2
  generalize xs.length = n at *
  have i1 : ¬ (c = i) := by omega
  have i2 : ¬ (c = i + 1) := by omega
  have i3 : ¬ ((i : Int) = (n : Int)) := by omega
  have i4 : IntKind.i64.wrap ((n : Int) + 1) = (n : Int) + 1 := by rw [IntKind.wrap_i64]; omega
  have i5 : IntKind.i64.wrap ((i : Int) + 1) = (i : Int) + 1 := by rw [IntKind.wrap_i64]; omega
  have i6 : ((n : Int) + 1).toNat = n + 1 := by omega
  have i7 : ((i : Int) + 1).toNat = i + 1 := by omega
  have i8 : (0 : Int) ≤ (i : Int) + 1 := by omega
  have i9 : i ≤ n := by omega
  have ia : (i : Int) ≤ (n : Int) + 1 := by omega
  go_enter Try.func36, Try.ntmps36
  go_wp2_with (simp only [hov])
  go_region_law (refine step_copy_run rfl _ _ tS tS rfl _ _ (by simp [Act.eval, Act.put]) (by simp [Act.eval, Act.put]) Hr1.out ?_)
  go_wp2_with (with_reducible refine stop_builtin .copy ?_)
  refine unpark ?_
  refine wpList_copy_run rfl _ _ tS tS rfl _ _ rfl rfl Hr2.out ?_
  go_wp2
  go_ret
  exact ⟨rfl, Hfin.out, Hgg.out⟩
set_option maxHeartbeats 2000000 in
/-- In the middle, there is no room. -/
theorem Insert_anew {w : World} {g off c vb i : Nat} {xs : List Tm} {A R : List Value} {x : Tm} (h : TAt w g off c xs A R) (hx : w.heap[vb]? = some (.cells #[.int .i64 x.1, .int .i64 x.2] tE (0, 0))) (hi : i < xs.length) (hroom : c < xs.length + 1) (hn : xs.length ≤ 900000) :
    Calls Try.prog 36 #[.slice (some ⟨g, off, none⟩) xs.length c, .int .i64 i, .slice (some ⟨vb, 0, none⟩) 1 1] w fun e w' =>
      ∃ c' R', e = .returned (.slice (some ⟨w.heap.size, 0, none⟩) (xs.length + 1) c') ∧ TAt w' w.heap.size 0 c' (xs.take i ++ x :: xs.drop i) [] R' ∧ w.grownBy w' none := by
  obtain ⟨ti, z, hti, hsz, hz, hzc, hby⟩ := tm_info
  have hm : tmF.m = 2 := rfl
  have hle := h.le
  have hgl := h.lt
  have hvl := (Array.getElem?_eq_some_iff.1 hx).1
  have hrec := h.recs
  have hQ : (tmF.row (xs.drop i)).length = (xs.length - i) * 2 := by rw [tmF.row_len, List.length_drop]; rfl
  have hP : (tmF.row (xs.take i)).length = i * 2 := by rw [tmF.row_len, List.length_take, Nat.min_eq_left (by omega)]; rfl
  obtain ⟨w1, c', Z, hr1, h1, hZ, hc', hmax', g1⟩ := run_append_noughts (P := Try.prog) (tn := 3) Try.underlying37 Try.underlying3 hti hsz hz hzc hby (hrec.upto (i := i) (by omega)) (k := xs.length + 1 - i) (by omega) (by omega) (by omega)
  rw [hm] at hZ
  have hin : i + (xs.length + 1 - i) = xs.length + 1 := by omega
  rw [hin] at hr1 hc'
  -- the first copy
  have hv1 : w1.heap[vb]? = some (.cells #[.int .i64 x.1, .int .i64 x.2] tE (0, 0)) := (g1.block vb hvl (fun e => by cases e)).trans hx
  obtain ⟨w2, hr2, h2, g2, s2⟩ := run_copy_far (P := Try.prog) (F := tmF) (t := tS) (g := w.heap.size) (o := i * 2) (dLen := xs.length + 1 - i) (dCap := c' - i) (sLen := 1) (sCap := 1) (k := 1) (a := ⟨vb, 0, none⟩) Try.underlying37 hti hsz h1 (cs := tmF.cells x) (by simp only [Nat.min_def]; split <;> omega) rfl
    (fun j v hj => by rw [Addr.add_lit, cells_at hv1, Nat.zero_add]; simpa [tmF] using hj)
    (by rw [List.length_append, hP, hZ]; show i * 2 + 2 ≤ _; omega) (tmF.one x)
  have hZ2 : (Z.take 2).length = 2 := by rw [List.length_take]; omega
  have e1 : splice (tmF.row (xs.take i) ++ Z) (i * 2) (tmF.cells x) = tmF.row (xs.take i) ++ (tmF.cells x ++ Z.drop 2) := by
    have := splice_mid (tmF.row (xs.take i)) (Z.take 2) (Z.drop 2) (tmF.cells x) (by rw [hZ2]; rfl)
    rw [List.take_append_drop, hP] at this
    exact this
  rw [e1] at h2
  have hg2 : w2.drew.heap[w.heap.size]? = some (.cells (tmF.row (xs.take i) ++ (tmF.cells x ++ Z.drop 2)).toArray tE (0, 0)) := h2
  have hold : w2.drew.heap[g]? = some (.cells (A ++ (tmF.row xs ++ R)).toArray tE (0, 0)) := by
    show w2.heap[g]? = _
    rw [g2.block g (Nat.lt_of_lt_of_le hgl g1.size) (fun e => Nat.ne_of_lt hgl (Option.some.inj e)), g1.block g hgl (fun e => by cases e)]
    exact h.heap
  have hrec2 : Recs tmF w2.drew (some ⟨g, off, none⟩) xs.length c xs := (FAt.recs ⟨hold, h.off, h.le, h.max, h.spare⟩ : Recs tmF w2.drew (some ⟨g, off, none⟩) xs.length c xs)
  have hrec3 := hrec2.from (i := i) (by omega)
  obtain ⟨b', o', hb', hc3⟩ := hrec3.cell (by omega)
  cases hb'
  obtain ⟨w3, hr3, h3, g3, s3⟩ := run_copy_far (P := Try.prog) (F := tmF) (t := tS) (g := w.heap.size) (o := (i + 1) * 2) (dLen := xs.length - i) (dCap := c' - (i + 1)) (sLen := xs.length - i) (sCap := c - i) (k := xs.length - i) (a := ⟨g, off + i * 2, none⟩) Try.underlying37 hti hsz hg2 (cs := tmF.row (xs.drop i)) (by simp) hQ
    (fun j v hj => by rw [Addr.add_lit]; exact hc3 j v hj)
    (by rw [hQ, List.length_append, List.length_append, hP, List.length_drop, hZ]; show (i + 1) * 2 + (xs.length - i) * 2 ≤ i * 2 + (2 + _); omega) (tmF.row_one _)
  have e2 : splice (tmF.row (xs.take i) ++ (tmF.cells x ++ Z.drop 2)) ((i + 1) * 2) (tmF.row (xs.drop i)) = tmF.row (xs.take i ++ x :: xs.drop i) ++ (Z.drop 2).drop ((xs.length - i) * 2) := by
    have hl2 : (tmF.row (xs.take i) ++ tmF.cells x).length = (i + 1) * 2 := by rw [List.length_append, hP, Nat.succ_mul]; rfl
    have := splice_mid (tmF.row (xs.take i) ++ tmF.cells x) ((Z.drop 2).take ((xs.length - i) * 2)) ((Z.drop 2).drop ((xs.length - i) * 2)) (tmF.row (xs.drop i)) (by rw [hQ, List.length_take, List.length_drop, hZ]; omega)
    rw [List.take_append_drop, hl2, List.append_assoc] at this
    rw [this, tmF.row_append]
    show _ = tmF.row (xs.take i) ++ (tmF.cells x ++ tmF.row (xs.drop i)) ++ _
    simp only [List.append_assoc]
  rw [e2] at h3
  have hfin : TAt w3 w.heap.size 0 c' (xs.take i ++ x :: xs.drop i) [] ((Z.drop 2).drop ((xs.length - i) * 2)) := ⟨by rw [List.nil_append]; exact h3, rfl, by rw [List.length_append, List.length_cons, List.length_take, List.length_drop]; omega, hmax', by
    rw [List.length_append, List.length_cons, List.length_take, List.length_drop, List.length_drop, List.length_drop, hm, hZ]
    omega⟩
  have hgg : w.grownBy w3 none := ⟨g3.os.trans (g2.os.trans g1.os), g3.tape.trans (g2.tape.trans g1.tape), g3.output.trans (g2.output.trans g1.output), by
      rw [s3]; show w.heap.size ≤ w2.heap.size; rw [s2]; exact g1.size, fun k hk _ => by
      have hk1 := Nat.lt_of_lt_of_le hk g1.size
      rw [g3.block k (by show k < w2.heap.size; rw [s2]; exact hk1) (fun e => Nat.ne_of_lt hk (Option.some.inj e))]
      show w2.heap[k]? = _
      rw [g2.block k hk1 (fun e => Nat.ne_of_lt hk (Option.some.inj e)), g1.block k hk (fun e => by cases e)]⟩
  have hmax := h.max
  clear e1 e2 h1 h2 h3 g1 g2 g3 s2 s3 hv1 hg2 hold hrec hrec2 hrec3 hc3 hP hQ hZ2 hZ hti hsz hz hzc hby h hx hgl hvl
  have Hfin := Lib.hid hfin; clear hfin
  have Hgg := Lib.hid hgg; clear hgg
  have Hr1 := Lib.hid hr1; clear hr1
  have Hr2 := Lib.hid hr2; clear hr2
  have Hr3 := Lib.hid hr3; clear hr3
  generalize w.heap.size = G at *
  generalize xs.length = n at *
  obtain rfl : c = n := by omega
  have i1 : ¬ (c = i) := by omega
  have i2 : ¬ (c' = i) := by omega
  have i3 : ¬ ((i : Int) = (c : Int)) := by omega
  have i4 : IntKind.i64.wrap ((c : Int) + 1) = (c : Int) + 1 := by rw [IntKind.wrap_i64]; omega
  have i5 : IntKind.i64.wrap ((i : Int) + 1) = (i : Int) + 1 := by rw [IntKind.wrap_i64]; omega
  have i6 : IntKind.i64.wrap ((c : Int) + 1 - (i : Int)) = ((c + 1 - i : Nat) : Int) := by rw [IntKind.wrap_i64]; omega
  have i7 : ((i : Int) + 1).toNat = i + 1 := by omega
  have i8 : (0 : Int) ≤ (i : Int) + 1 := by omega
  have i9 : i ≤ c := by omega
  have ia : (i : Int) ≤ (c : Int) + 1 := by omega
  have ib : (i : Int) ≤ (c : Int) := by omega
  have id : ¬ (c' = i + 1) := by omega
  go_enter Try.func36, Try.ntmps36
  go_wp2_with (with_reducible refine stop_builtin .append ?_)
  refine unpark ?_
  refine Lib.wpList_append_run _ rfl _ _ _ _ rfl _ _ rfl rfl _ _ (Hr1.out _) ?_
  go_wp2_with (with_reducible refine stop_builtin .copy ?_)
  refine unpark ?_
  refine wpList_copy_run rfl _ _ tS tS rfl _ _ rfl rfl Hr2.out ?_
  go_wp2_with fail
  go_region_law (refine step_copy_run rfl _ _ tS tS rfl _ _ (by simp [Act.eval, Act.put]) (by simp [Act.eval, Act.put]) Hr3.out ?_)
  go_wp2
  go_ret
  first | exact ⟨_, _, rfl, Hfin.out, Hgg.out⟩ | exact ⟨_, rfl, ⟨_, Hfin.out⟩, Hgg.out⟩ | exact ⟨_, ⟨_, Hfin.out⟩, Hgg.out⟩
theorem grown_any {w w' : World} (h : w.grownBy w' none) (row : Option Nat) : w.grownBy w' row := ⟨h.os, h.tape, h.output, h.size, fun k hk _ => h.block k hk (fun e => by cases e)⟩
theorem Insert_calls {w : World} {B vb i : Nat} {v : Value} {xs : List Tm} {x : Tm} (h : TRow w B v xs) (hB : B ≤ w.heap.size) (hx : w.heap[vb]? = some (.cells #[.int .i64 x.1, .int .i64 x.2] tE (0, 0))) (hvb : v.ownBlock ≠ some vb) (hi : i ≤ xs.length) (hn : xs.length ≤ 900000) :
    Calls Try.prog 36 #[v, .int .i64 i, .slice (some ⟨vb, 0, none⟩) 1 1] w fun e w' =>
      ∃ v', e = .returned v' ∧ TRow w' B v' (xs.take i ++ x :: xs.drop i) ∧ w.grownBy w' v.ownBlock ∧ (v'.ownBlock = v.ownBlock ∨ v'.ownBlock = some w.heap.size) := by
  have hl : (xs.take i ++ x :: xs.drop i).length = xs.length + 1 := by rw [List.length_append, List.length_cons, List.length_take, List.length_drop]; omega
  have he : xs.take xs.length ++ x :: xs.drop xs.length = xs ++ [x] := by rw [List.take_length, List.drop_length]
  rcases h with ⟨rfl, rfl⟩ | ⟨g, off, c, A, R, rfl, hb, hf⟩
  · obtain rfl : i = 0 := by simpa using hi
    refine (Insert_grow (xs := []) (x := x) ⟨rfl, Nat.le_refl _, by decide, fun h => by cases h⟩ hx (by decide) (by decide) (fun _ => rfl) (fun _ h => by cases h)).mono ?_
    rintro e w' ⟨c', R', he, hf, hg⟩
    exact ⟨_, he, .inr ⟨_, _, _, _, _, rfl, hB, hf⟩, hg, .inr rfl⟩
  · rcases Nat.lt_or_ge i xs.length with hlt | hge
    · rcases Nat.lt_or_ge c (xs.length + 1) with hc | hc
      · refine (Insert_anew hf hx hlt hc hn).mono ?_
        rintro e w' ⟨c', R', he, hf', hg⟩
        exact ⟨_, he, .inr ⟨_, _, _, _, _, by rw [hl], hB, hf'⟩, grown_any hg _, .inr rfl⟩
      · refine (Insert_shift hf hx (fun e => hvb (by rw [e]; rfl)) hlt hc).mono ?_
        rintro e w' ⟨he, hf', hg⟩
        exact ⟨_, he, .inr ⟨_, _, _, _, _, by rw [hl], hb, hf'⟩, hg, .inl rfl⟩
    · obtain rfl : i = xs.length := by omega
      rw [he] at hl ⊢
      rcases Nat.lt_or_ge c (xs.length + 1) with hc | hc
      · refine (Insert_grow (xs := xs) (x := x) hf.recs hx hc (by omega) (fun e => by cases e) (fun b e => by cases e; rfl)).mono ?_
        rintro e w' ⟨c', R', he, hf', hg⟩
        exact ⟨_, he, .inr ⟨_, _, _, _, _, by rw [hl], hB, hf'⟩, grown_any hg _, .inr rfl⟩
      · refine (Insert_end hf hx hc).mono ?_
        rintro e w' ⟨he, hf', hg⟩
        exact ⟨_, he, .inr ⟨_, _, _, _, _, by rw [hl], hb, hf'⟩, hg, .inl rfl⟩
end Go.Proofs.Ytfldohfopileeaa
