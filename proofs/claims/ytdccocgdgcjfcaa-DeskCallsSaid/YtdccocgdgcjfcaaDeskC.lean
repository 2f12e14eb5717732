/- The document's desk: May, In, Over. -/
import Derived.Test.YtdccocgdgcjfcaaDeskB
namespace Go.Proofs.Ytdccocgdgcjfcaa
open Go.RowKit
section
variable {w w' : World} {B b : Nat} {mv : Value} {p : Pl} {es : List Ent}
set_option maxHeartbeats 2000000 in
theorem RMay_calls (h : RDeskAt w B b mv p es) (c part now : Int) : Calls Try.prog 13 #[.pointer (some ⟨b, 0, none⟩), .int .i64 c, .int .i64 part, .int .i64 now] w fun e w' =>
    e = .returned (.tuple #[.int .i64 ((mayOf p es c part now).1 : Nat), .int .i64 (mayOf p es c part now).2]) ∧ Below w.heap.size w w' := by
  have ho := ROf_calls h c now
  have hle := ofOf_le p es c now
  obtain ⟨R, hR⟩ : ∃ R, R = mayOf p es c part now := ⟨_, rfl⟩
  rw [← hR]
  unfold mayOf at hR
  generalize ofOf p es c now = K at ho hle hR
  have hbl := (h.lt b (.inl rfl)).2
  have Ho := Lib.hid ho; clear ho
  have Hh := Lib.hid h; clear h
  have HR := Lib.hid hR; clear hR
  rcases Nat.eq_zero_or_pos K with h0 | h0
  · subst h0
    have e0 : R = (0, 12) := by rw [HR.out]; rfl
    subst e0
    clear HR
    go_enter Try.func13, Try.ntmps13
    go_wp2_with fail
    refine Ho.out.mono ?_
    rintro e w1 ⟨rfl, b1⟩
    have Hb1 := Lib.hid b1; clear b1
    go_wp2
    go_ret2
    exact ⟨rfl, Hb1.out⟩
  · obtain ⟨i, rfl⟩ : ∃ i, K = i + 1 := ⟨K - 1, by omega⟩
    have hi : i < es.length := by omega
    have h64 := Hh.out.len
    have eb : decide (i + 1 ≠ 0) = true := decide_eq_true (by omega)
    have hok := Hh.out.ok _ (List.getElem_mem hi)
    have hR := HR.out
    rw [if_neg (by omega), show i + 1 - 1 = i by omega, List.getD_eq_getElem?_getD, List.getElem?_eq_getElem hi, Option.getD_some] at hR
    clear HR
    obtain ⟨va, vc, rfl, hrec, -⟩ := Hh.out.row.recs
    obtain ⟨gx, ox, rfl⟩ := hrec.addr (by omega)
    have hcl := hrec.at hi
    obtain ⟨en, hene⟩ : ∃ en, en = es[i] := ⟨_, rfl⟩
    rw [← hene] at hcl hR hok
    clear hene hrec
    have hm := hok.mask
    have hdl := fun w : World => RDeadline_calls (w := w) p Hh.out.good en.begin
    have hhas := fun w : World => R14Has_calls (w := w) hm part
    generalize deadOf p en.begin = D at hdl hR
    generalize inMask en.mask part = I at hhas hR
    have p0 : w.cell? ⟨b, 0, none⟩ = some (.int .i64 p.parts) := cells_at Hh.out.root 0
    have p1 : w.cell? ⟨b, 1, none⟩ = some (.int .i64 p.window) := cells_at Hh.out.root 1
    have p2 : w.cell? ⟨b, 2, none⟩ = some (.int .i64 p.delay) := cells_at Hh.out.root 2
    have p3 : w.cell? ⟨b, 3, none⟩ = some (.slice (some ⟨gx, ox, none⟩) es.length vc) := cells_at Hh.out.root 3
    clear hok
    obtain ⟨x, y, z⟩ := en
    obtain ⟨a, d, f⟩ := p
    simp only [Ent.begin, Ent.mask, Pl.cells, Pl.parts, Pl.window, Pl.delay] at hdl hhas hm p0 p1 p2
    have x1 : w.cell? ⟨gx, ox + i * 3 + 1, none⟩ = some (.int .i64 y) := hcl 1 _ rfl
    have x2 : w.cell? ⟨gx, ox + i * 3 + 2, none⟩ = some (.int .u16 z) := hcl 2 _ rfl
    have gxl := World.block_lt_of_cell? _ _ x1
    generalize es.length = L at hi h64 p3 hle
    have Hdl := Lib.hid hdl; clear hdl
    have Hhas := Lib.hid hhas; clear hhas
    have HR := Lib.hid hR; clear hR
    rw [eb] at Ho
    clear hcl Hh hm hle
    have i1 : (0 : Int) ≤ (i : Int) := by omega
    have i2 : (i : Int) < (L : Int) := by omega
    go_enter Try.func13, Try.ntmps13
    go_wp2_with fail
    refine Ho.out.mono ?_
    rintro e w1 ⟨rfl, b1⟩
    have q0 := (b1.cell hbl).trans p0
    have q1 := (b1.cell hbl).trans p1
    have q2 := (b1.cell hbl).trans p2
    have q3 := (b1.cell hbl).trans p3
    have y1 := (b1.cell gxl).trans x1
    have y2 := (b1.cell gxl).trans x2
    clear p0 p1 p2 p3 x1 x2
    have Hb1 := Lib.hid b1; clear b1
    go_wp2_with fail
    refine (Hhas.out _).mono ?_
    rintro e w5 ⟨rfl, rfl⟩
    cases I with
    | false =>
      have e0 : R = (0, 14) := by rw [HR.out]; rfl
      subst e0
      clear HR
      go_wp2
      go_ret2
      exact ⟨rfl, Hb1.out⟩
    | true =>
      have hR := HR.out
      simp only [Bool.true_eq_false, if_false] at hR
      clear HR
      have HR := Lib.hid hR; clear hR
      have z0 := cell_regrown q0
      have z1 := cell_regrown q1
      have z2 := cell_regrown q2
      have z3 := cell_regrown q3
      have z4 := cell_regrown y1
      have hd : (decide (D ≤ now) = true ∧ R = (0, 19)) ∨ (decide (D ≤ now) = false ∧ R = (i + 1, 0)) := by
        by_cases hn : D ≤ now
        · exact .inl ⟨decide_eq_true hn, by rw [HR.out, if_pos hn]⟩
        · exact .inr ⟨decide_eq_false hn, by rw [HR.out, if_neg hn]⟩
      clear HR
      go_wp2_with fail
      rcases hd with ⟨d1, rfl⟩ | ⟨d1, rfl⟩
      all_goals
        refine wp_region_quiet_below (by kernel_rfl) (by kernel_rfl) ?_
        repeat (any_goals (first | go_big_quiet_step ((go_at_call 29; exact Calls.regrown_of (Hdl.out _))) | quiet_step ((go_at_call 29; exact Calls.regrown_of (Hdl.out _)))))
        refine wpQuiet_nil ?_
        intro w3 hw3
        have bf : Below w5.heap.size w5 w3 := by obtain ⟨q, rfl⟩ := hw3; exact below_regrown _ _ _
        clear hw3
        have bz := Hb1.out.trans (bf.mono Hb1.out.size)
        clear bf q0 q1 q2 q3 y1 y2 z0 z1 z2 z3 z4
        have Hbz := Lib.hid bz; clear bz
        go_wp2
        go_ret2
        exact ⟨by first | rfl | simp, Hbz.out⟩
set_option maxHeartbeats 4000000 in
theorem RIn_calls (h : RDeskAt w B b mv p es) (part : Int) : Calls Try.prog 19 #[.pointer (some ⟨b, 0, none⟩), .int .i64 part] w fun e w' => ∃ v, e = .returned v ∧ Own w' w.heap.size 3 .i64 v (thoseOf (fun e => inMask e.mask part) es) ∧ Below w.heap.size w w' := by
  obtain ⟨va, vc, hmv, hr, hlt⟩ := h.row.recs
  subst hmv
  have c0 : w.cell? ⟨b, 0, none⟩ = some (.int .i64 p.parts) := cells_at h.root 0
  have c1 : w.cell? ⟨b, 1, none⟩ = some (.int .i64 p.window) := cells_at h.root 1
  have c2 : w.cell? ⟨b, 2, none⟩ = some (.int .i64 p.delay) := cells_at h.root 2
  have c3 : w.cell? ⟨b, 3, none⟩ = some (.slice va es.length vc) := cells_at h.root 3
  have hbl := (h.lt b (.inl rfl)).2
  have hlen := h.len
  have hgood := h.good
  have hoks := h.ok
  have hrec := fun (w1 : World) (b1 : Below w.heap.size w w1) => hr.keep b1
  have Hrec := Lib.hid hrec; clear hrec
  obtain ⟨L, hL⟩ : ∃ L, L = es.length := ⟨_, rfl⟩
  rw [← hL] at c3 hlen Hrec hr
  clear h hlt
  have HL := Lib.hid hL; clear hL
  have Hgood := Lib.hid hgood; clear hgood
  have Hoks := Lib.hid hoks; clear hoks
  obtain ⟨G, hG⟩ : ∃ G : Ent → Bool, G = (fun e => inMask e.mask part) := ⟨_, rfl⟩
  rw [← hG]
  have HG := Lib.hid hG; clear hG
  have ow0 : Own (w.alloc (.cells #[] 3)) w.heap.size 3 .i64 (.slice (some ⟨w.heap.size, 0, none⟩) 0 0) [] := ⟨World.ownsRow_made w #[] 0 (Nat.le_refl _) (by unfold maxLen; omega) (by rfl), fun _ h => by cases h⟩
  have C0 := Lib.hid c0; clear c0
  have C1 := Lib.hid c1; clear c1
  have C2 := Lib.hid c2; clear c2
  have C3 := Lib.hid c3; clear c3
  have Ow0 := Lib.hid ow0; clear ow0
  go_enter Try.func19, Try.ntmps19
  go_wp2_with fail
  go_loopw [5, 6] (fun v i wr => ∃ j : Nat, j ≤ L ∧ i = .int .i64 j ∧ Own wr w.heap.size 3 .i64 v (thoseOf G (es.take j)) ∧ Below w.heap.size w wr) (fun _ i _ => L - (intOf i).toNat)
  case atStart => exact ⟨0, by omega, rfl, Ow0.out, (Below.refl _ _).alloc (Nat.le_refl _) _⟩
  case round =>
    clear Ow0
    obtain ⟨j, hj, rfl, hown, hb⟩ := hrel
    have c3 := (hb.cell hbl).trans C3.out
    by_cases hlt : j < L
    · have hjl : j < es.length := by rw [← HL.out]; exact hlt
      have hrj := Hrec.out wr hb
      obtain ⟨gx, ox, rfl⟩ := hrj.addr (by omega)
      have hc := hrj.at hjl
      have hok := Hoks.out _ (List.getElem_mem hjl)
      have hsn : thoseOf G (es.take (j + 1)) = thoseOf G (es.take j) ++ (if G es[j] then [((j : Int) + 1)] else []) := by
        rw [List.take_add_one, List.getElem?_eq_getElem hjl]
        simp only [Option.toList_some]
        rw [thoseOf_snoc, List.length_take, Nat.min_eq_left (by omega)]
      obtain ⟨e0, he0⟩ : ∃ e0, e0 = es[j] := ⟨_, rfl⟩
      rw [← he0] at hc hsn hok
      clear he0
      have hff := fun w : World => R14Has_calls (w := w) hok.mask part
      have hGe : G e0 = inMask e0.mask part := by rw [HG.out]
      rw [← hGe] at hff
      clear hGe
      generalize G e0 = K at *
      obtain ⟨x, y, z⟩ := e0
      simp only [Ent.mask] at hff
      have x2 : wr.cell? ⟨gx, ox + j * 3 + 2, none⟩ = some (.int .u16 z) := hc 2 _ rfl
      have i1 : (0 : Int) ≤ (j : Int) := by omega
      have i2 : (j : Int) < (L : Int) := by omega
      have Hff := Lib.hid hff; clear hff
      have Hsn := Lib.hid hsn; clear hsn
      have Hb := Lib.hid hb; clear hb
      have Own1 := Lib.hid hown; clear hown
      clear hc hrj hok
      go_wp2_with fail
      refine (Hff.out _).mono ?_
      rintro e w2 ⟨rfl, rfl⟩
      have b2 := Below.refl w2.heap.size w2
      have b3 := Hb.out.trans (b2.mono Hb.out.size)
      have own2 := Own1.out.below b2
      have c3 := (b3.cell hbl).trans C3.out
      cases K with
      | false =>
        have hsn := Hsn.out
        simp only [Bool.false_eq_true, if_false, List.append_nil] at hsn
        rw [← hsn] at own2
        have Hb3 := Lib.hid b3; clear b3 b2
        have Own2 := Lib.hid own2; clear own2 hsn
        go_wp2_with fail
        go_roundw
        case rel => exact ⟨j + 1, by omega, by go_num, Own2.out, Hb3.out⟩
        case measure => simp [intOf]; omega
      | true =>
        have hsn := Hsn.out
        simp only [if_true] at hsn
        have Hb3 := Lib.hid b3; clear b3 b2
        have Own2 := Lib.hid own2; clear own2
        have Hsn2 := Lib.hid hsn; clear hsn
        go_wp2_with (with_reducible refine stop_builtin .append ?_)
        refine unpark ?_
        have i63 : (Lit.int .i64 ((j : Int) + 1)).wf = true := by simp [Lit.wf, IntKind.min, IntKind.max, IntKind.signed, IntKind.bits]; omega
        have hx3 := heap_alloc_new w2 (.cells #[.int .i64 ((j : Int) + 1)] 3)
        have b3 : Below w2.heap.size w2 (w2.alloc (.cells #[.int .i64 ((j : Int) + 1)] 3)) := (Below.refl _ _).alloc (Nat.le_refl _) _
        generalize w2.alloc (.cells #[.int .i64 ((j : Int) + 1)] 3) = w3 at hx3 b3 ⊢
        have hi3 : Ints w3 .i64 (some ⟨w2.heap.size, 0, none⟩) 1 1 [(j : Int) + 1] := Ints.of rfl (Nat.le_refl _) (by decide) (fun z hz => by rw [List.mem_singleton] at hz; rw [hz]; exact i63) (fun k hk => by
          obtain rfl : k = 0 := by omega
          exact cells_at hx3 0)
        have hlt := thoseOf_len G (es.take j)
        rw [List.length_take] at hlt
        have b03 := Hb3.out.trans (b3.mono Hb3.out.size)
        refine wpList_append_ints _ rfl _ _ 47 rfl .i64 w.heap.size 3 (.int .i64 0) 8 Try.underlying47 Try.infoInt rfl _ _ rfl (Own2.out.below b3) _ 1 1 _ rfl hi3 (by omega) (by decide) b03.size ?_
        intro v' w4 own4 g4 _
        rw [← Hsn2.out] at own4
        have b04 := b03.grown g4 b03.size (fun k hk => (Own2.out.block k hk).1)
        clear hi3 hx3 b3 Own2 Hb3 b03 g4
        have Hb4 := Lib.hid b04; clear b04
        have Own4 := Lib.hid own4; clear own4
        go_wp2_with fail
        go_roundw
        case rel => exact ⟨j + 1, by omega, by go_num, Own4.out, Hb4.out⟩
        case measure => simp [intOf]; omega
    · obtain rfl : j = L := by omega
      have e : es.take j = es := by rw [HL.out, List.take_length]
      rw [e] at hown
      have Hown := Lib.hid hown; clear hown
      have Hb := Lib.hid hb; clear hb
      go_wp2_with fail
      go_ret
      exact ⟨_, rfl, Hown.out, Hb.out⟩
set_option maxHeartbeats 4000000 in
theorem ROver_calls (h : RDeskAt w B b mv p es) (now : Int) : Calls Try.prog 21 #[.pointer (some ⟨b, 0, none⟩), .int .i64 now] w fun e w' => ∃ v, e = .returned v ∧ Own w' w.heap.size 3 .i64 v (thoseOf (fun e => decide (releaseOf p e.begin ≤ now)) es) ∧ Below w.heap.size w w' := by
  obtain ⟨va, vc, hmv, hr, hlt⟩ := h.row.recs
  subst hmv
  have c0 : w.cell? ⟨b, 0, none⟩ = some (.int .i64 p.parts) := cells_at h.root 0
  have c1 : w.cell? ⟨b, 1, none⟩ = some (.int .i64 p.window) := cells_at h.root 1
  have c2 : w.cell? ⟨b, 2, none⟩ = some (.int .i64 p.delay) := cells_at h.root 2
  have c3 : w.cell? ⟨b, 3, none⟩ = some (.slice va es.length vc) := cells_at h.root 3
  have hbl := (h.lt b (.inl rfl)).2
  have hlen := h.len
  have hgood := h.good
  have hoks := h.ok
  have hrec := fun (w1 : World) (b1 : Below w.heap.size w w1) => hr.keep b1
  have Hrec := Lib.hid hrec; clear hrec
  obtain ⟨L, hL⟩ : ∃ L, L = es.length := ⟨_, rfl⟩
  rw [← hL] at c3 hlen Hrec hr
  clear h hlt
  have HL := Lib.hid hL; clear hL
  have Hgood := Lib.hid hgood; clear hgood
  have Hoks := Lib.hid hoks; clear hoks
  obtain ⟨G, hG⟩ : ∃ G : Ent → Bool, G = (fun e => decide (releaseOf p e.begin ≤ now)) := ⟨_, rfl⟩
  rw [← hG]
  have HG := Lib.hid hG; clear hG
  have ow0 : Own (w.alloc (.cells #[] 3)) w.heap.size 3 .i64 (.slice (some ⟨w.heap.size, 0, none⟩) 0 0) [] := ⟨World.ownsRow_made w #[] 0 (Nat.le_refl _) (by unfold maxLen; omega) (by rfl), fun _ h => by cases h⟩
  have C0 := Lib.hid c0; clear c0
  have C1 := Lib.hid c1; clear c1
  have C2 := Lib.hid c2; clear c2
  have C3 := Lib.hid c3; clear c3
  have Ow0 := Lib.hid ow0; clear ow0
  go_enter Try.func21, Try.ntmps21
  go_wp2_with fail
  go_loopw [5, 6] (fun v i wr => ∃ j : Nat, j ≤ L ∧ i = .int .i64 j ∧ Own wr w.heap.size 3 .i64 v (thoseOf G (es.take j)) ∧ Below w.heap.size w wr) (fun _ i _ => L - (intOf i).toNat)
  case atStart => exact ⟨0, by omega, rfl, Ow0.out, (Below.refl _ _).alloc (Nat.le_refl _) _⟩
  case round =>
    clear Ow0
    obtain ⟨j, hj, rfl, hown, hb⟩ := hrel
    have c3 := (hb.cell hbl).trans C3.out
    by_cases hlt : j < L
    · have hjl : j < es.length := by rw [← HL.out]; exact hlt
      have hrj := Hrec.out wr hb
      obtain ⟨gx, ox, rfl⟩ := hrj.addr (by omega)
      have hc := hrj.at hjl
      have hok := Hoks.out _ (List.getElem_mem hjl)
      have hsn : thoseOf G (es.take (j + 1)) = thoseOf G (es.take j) ++ (if G es[j] then [((j : Int) + 1)] else []) := by
        rw [List.take_add_one, List.getElem?_eq_getElem hjl]
        simp only [Option.toList_some]
        rw [thoseOf_snoc, List.length_take, Nat.min_eq_left (by omega)]
      obtain ⟨e0, he0⟩ : ∃ e0, e0 = es[j] := ⟨_, rfl⟩
      rw [← he0] at hc hsn hok
      clear he0
      have hff := fun w : World => RRelease_calls (w := w) p Hgood.out e0.begin
      have hGe : G e0 = decide (releaseOf p e0.begin ≤ now) := by rw [HG.out]
      obtain ⟨R, hR⟩ : ∃ R, R = releaseOf p e0.begin := ⟨_, rfl⟩
      rw [← hR] at hff hGe
      clear hR
      generalize G e0 = K at *
      obtain ⟨x, y, z⟩ := e0
      simp only [Ent.begin, Pl.cells] at hff
      have x1 : wr.cell? ⟨gx, ox + j * 3 + 1, none⟩ = some (.int .i64 y) := hc 1 _ rfl
      have z0 := cell_regrown ((hb.cell hbl).trans C0.out)
      have z1 := cell_regrown ((hb.cell hbl).trans C1.out)
      have z2 := cell_regrown ((hb.cell hbl).trans C2.out)
      have z3 := cell_regrown c3
      have z4 := cell_regrown x1
      have i1 : (0 : Int) ≤ (j : Int) := by omega
      have i2 : (j : Int) < (L : Int) := by omega
      have Hff := Lib.hid hff; clear hff
      have Hsn := Lib.hid hsn; clear hsn
      have Hb := Lib.hid hb; clear hb
      have Own1 := Lib.hid hown; clear hown
      clear hc hrj hok
      have HK := Lib.hid hGe; clear hGe
      go_wp2_with fail
      refine wp_region_quiet_below (by kernel_rfl) (by kernel_rfl) ?_
      repeat (any_goals (first | go_big_quiet_step ((go_at_call 30; exact Calls.regrown_of (Hff.out _))) | quiet_step ((go_at_call 30; exact Calls.regrown_of (Hff.out _)))))
      refine wpQuiet_nil ?_
      intro w2 hw3
      have b2 : Below wr.heap.size wr w2 := by obtain ⟨q, rfl⟩ := hw3; exact below_regrown _ _ _
      clear hw3 z0 z1 z2 z3 z4
      rw [← HK.out]
      have b3 := Hb.out.trans (b2.mono Hb.out.size)
      have own2 := Own1.out.below b2
      have c3 := (b3.cell hbl).trans C3.out
      cases K with
      | false =>
        have hsn := Hsn.out
        simp only [Bool.false_eq_true, if_false, List.append_nil] at hsn
        rw [← hsn] at own2
        have Hb3 := Lib.hid b3; clear b3 b2
        have Own2 := Lib.hid own2; clear own2 hsn
        go_wp2_with fail
        go_roundw
        case rel => exact ⟨j + 1, by omega, by go_num, Own2.out, Hb3.out⟩
        case measure => simp [intOf]; omega
      | true =>
        have hsn := Hsn.out
        simp only [if_true] at hsn
        have Hb3 := Lib.hid b3; clear b3 b2
        have Own2 := Lib.hid own2; clear own2
        have Hsn2 := Lib.hid hsn; clear hsn
        go_wp2_with (with_reducible refine stop_builtin .append ?_)
        refine unpark ?_
        have i63 : (Lit.int .i64 ((j : Int) + 1)).wf = true := by simp [Lit.wf, IntKind.min, IntKind.max, IntKind.signed, IntKind.bits]; omega
        have hx3 := heap_alloc_new w2 (.cells #[.int .i64 ((j : Int) + 1)] 3)
        have b3 : Below w2.heap.size w2 (w2.alloc (.cells #[.int .i64 ((j : Int) + 1)] 3)) := (Below.refl _ _).alloc (Nat.le_refl _) _
        generalize w2.alloc (.cells #[.int .i64 ((j : Int) + 1)] 3) = w3 at hx3 b3 ⊢
        have hi3 : Ints w3 .i64 (some ⟨w2.heap.size, 0, none⟩) 1 1 [(j : Int) + 1] := Ints.of rfl (Nat.le_refl _) (by decide) (fun z hz => by rw [List.mem_singleton] at hz; rw [hz]; exact i63) (fun k hk => by
          obtain rfl : k = 0 := by omega
          exact cells_at hx3 0)
        have hlt := thoseOf_len G (es.take j)
        rw [List.length_take] at hlt
        have b03 := Hb3.out.trans (b3.mono Hb3.out.size)
        refine wpList_append_ints _ rfl _ _ 47 rfl .i64 w.heap.size 3 (.int .i64 0) 8 Try.underlying47 Try.infoInt rfl _ _ rfl (Own2.out.below b3) _ 1 1 _ rfl hi3 (by omega) (by decide) b03.size ?_
        intro v' w4 own4 g4 _
        rw [← Hsn2.out] at own4
        have b04 := b03.grown g4 b03.size (fun k hk => (Own2.out.block k hk).1)
        clear hi3 hx3 b3 Own2 Hb3 b03 g4
        have Hb4 := Lib.hid b04; clear b04
        have Own4 := Lib.hid own4; clear own4
        go_wp2_with fail
        go_roundw
        case rel => exact ⟨j + 1, by omega, by go_num, Own4.out, Hb4.out⟩
        case measure => simp [intOf]; omega
    · obtain rfl : j = L := by omega
      have e : es.take j = es := by rw [HL.out, List.take_length]
      rw [e] at hown
      have Hown := Lib.hid hown; clear hown
      have Hb := Lib.hid hb; clear hb
      go_wp2_with fail
      go_ret
      exact ⟨_, rfl, Hown.out, Hb.out⟩
end
end Go.Proofs.Ytdccocgdgcjfcaa
