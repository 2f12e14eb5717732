/- The law DeskMay. -/
import Derived.Test.YtdccocgdgcjfcaaDesk9
namespace Go.Proofs.Ytdccocgdgcjfcaa
open Go.RowKit

theorem mayOf_err {p : Pl} {es : List Ent} {c part now : Int} (h : (mayOf p es c part now).2 ≠ 0) : (mayOf p es c part now).1 = 0 := by
  unfold mayOf at h ⊢
  split
  · rfl
  · rename_i h1
    rw [if_neg h1] at h
    split
    · rfl
    · rename_i h2
      rw [if_neg h2] at h
      split
      · rfl
      · rename_i h3
        rw [if_neg h3] at h
        exact absurd rfl h
theorem ofOf_at {p : Pl} {es : List Ent} {c now : Int} {i : Nat} (h : ofOf p es c now = i + 1) : ∃ hi : i < es.length, es[i].client = c ∧ ∀ j (h : j < es.length), i < j → es[j].client ≠ c := by
  unfold ofOf at h
  split at h
  · cases h
  · split at h
    · cases h
    · exact lastOf_at es c i h
theorem mayOf_ok {p : Pl} {es : List Ent} {c part now : Int} (h : (mayOf p es c part now).2 = 0) : ∃ (i : Nat) (hi : i < es.length), (mayOf p es c part now).1 = i + 1 ∧ ofOf p es c now = i + 1 ∧ es[i].client = c ∧ (∀ j (h : j < es.length), i < j → es[j].client ≠ c) ∧
    inMask es[i].mask part = true ∧ ¬ deadOf p es[i].begin ≤ now := by
  unfold mayOf at h ⊢
  by_cases h1 : ofOf p es c now = 0
  · rw [if_pos h1] at h; cases h
  · rw [if_neg h1] at h ⊢
    obtain ⟨i, hi⟩ : ∃ i, ofOf p es c now = i + 1 := ⟨ofOf p es c now - 1, by omega⟩
    obtain ⟨hlt, h2, h3⟩ := ofOf_at hi
    rw [hi, Nat.add_sub_cancel, List.getD_eq_getElem?_getD, List.getElem?_eq_getElem hlt, Option.getD_some] at h ⊢
    by_cases h4 : inMask es[i].mask part = false
    · rw [if_pos h4] at h; cases h
    · rw [if_neg h4] at h ⊢
      by_cases h5 : deadOf p es[i].begin ≤ now
      · rw [if_pos h5] at h; cases h
      · rw [if_neg h5]
        exact ⟨i, hlt, rfl, rfl, h2, h3, by simpa using h4, h5⟩

set_option maxHeartbeats 8000000 in
set_option maxRecDepth 100000 in
theorem lawDeskMay {w : World} {P : Int} {a : Option Addr} {n c : Nat} {xs : List CallD} {cl part now : Int} (hP : (Lit.int .i64 P).wf = true) (hx : DRow w a n c xs) (hcl : (Lit.int .i64 cl).wf = true) (hpart : (Lit.int .i64 part).wf = true) (hnow : (Lit.int .i64 now).wf = true) :
    Calls Try.prog 5 #[.int .i64 P, .slice a n c, .int .i64 cl, .int .i64 part, .int .i64 now] w fun e w' => e = .returned (.bool true) ∧ Below w.heap.size w w' := by
  have hl := hx.recs.len
  have hle := hx.recs.le
  have hmx := hx.recs.max
  have Hx := Lib.hid hx; clear hx
  have Hl := Lib.hid hl; clear hl
  go_enter Try.func5, Try.ntmps5
  go_wp2_with fail
  refine alive_calls.mono ?_
  rintro e w1 ⟨rfl, b1⟩
  have Hb1 := Lib.hid b1; clear b1
  by_cases h0 : 150 < n
  · have e0 : decide ((150 : Int) < (n : Int)) = true := decide_eq_true (by omega)
    go_wp2
    go_ret
    exact ⟨rfl, Hb1.out⟩
  have e0 : decide ((150 : Int) < (n : Int)) = false := decide_eq_false (by omega)
  by_cases h1 : P < 1
  · have e1 : decide (P < 1) = true := decide_eq_true h1
    go_wp2
    go_ret
    exact ⟨rfl, Hb1.out⟩
  have e1 : decide (P < 1) = false := decide_eq_false h1
  by_cases h2 : 6 < P
  · have e2 : decide (6 < P) = true := decide_eq_true h2
    go_wp2
    go_ret
    exact ⟨rfl, Hb1.out⟩
  have e2 : decide (6 < P) = false := decide_eq_false h2
  have hgood := small_good h1 h2
  clear h1 h2
  have hnl : n ≤ 150 := by omega
  clear h0
  have b2 := Hb1.out.alloc Hb1.out.size (.cells #[.int .i64 P, .int .i64 1, .int .i64 2] 29)
  have hx2 := heap_alloc_new w1 (.cells #[.int .i64 P, .int .i64 1, .int .i64 2] 29)
  have en := New_dk (w0 := w) b2 hgood
  simp only [Pl.cells, Pl.parts, Pl.window, Pl.delay] at en
  have EN := Lib.hid en; clear en
  have Hb2 := Lib.hid b2; clear b2 Hb1
  have Hx2 := Lib.hid hx2; clear hx2
  have Hgood := Lib.hid hgood; clear hgood
  go_wp2_with fail
  generalize w1.alloc (.cells #[.int .i64 P, .int .i64 1, .int .i64 2] 29) = w2 at EN Hb2 Hx2 ⊢
  generalize w1.heap.size = g at Hx2 ⊢
  refine EN.out.mono ?_
  rintro e w3 ⟨b, F, rfl, d3, hF3, b3⟩
  have l3 : Lie w3 g (.cells #[.int .i64 P, .int .i64 1, .int .i64 2] 29) F := by
    have hlt := (Array.getElem?_eq_some_iff.1 Hx2.out).1
    exact ⟨(b3.block g hlt).trans Hx2.out, fun h => by have := hF3 g h; omega⟩
  clear EN Hb2 Hx2 b3 hF3 e0 e1 e2
  have Hd3 := Lib.hid d3; clear d3
  have Hl3 := Lib.hid l3; clear l3
  go_wp2_with fail
  go_loopw [14] (fun i wr => ∃ (j : Nat) (es : List Ent) (F : Nat → Prop), j ≤ n ∧ i = .int .i64 j ∧ Dk w wr b F (P, 1, 2) es ∧ Lie wr g (.cells #[.int .i64 P, .int .i64 1, .int .i64 2] 29) F) (fun i _ => n - (intOf i).toNat)
  case atStart => exact ⟨0, [], F, by omega, rfl, Hd3.out, Hl3.out⟩
  case round =>
    obtain ⟨j, es, F4, hj, rfl, hd, hli⟩ := hrel
    clear Hd3 Hl3
    have hxr := (Hx.out.keep hd.bel).recs
    have Hd := Lib.hid hd; clear hd
    have Hli := Lib.hid hli; clear hli
    by_cases hlt : j < n
    · obtain ⟨bx, ox, rfl⟩ := hxr.addr (by omega)
      have hjx : j < xs.length := by rw [Hl.out]; exact hlt
      have hcx := hxr.at hjx
      have hok := Hx.out.ok _ (List.getElem_mem hjx)
      obtain ⟨m, hm⟩ : ∃ m, m = xs[j] := ⟨_, rfl⟩
      rw [← hm] at hcx hok
      clear hm hxr
      obtain ⟨k1, k2, k3, k4, k5⟩ := m
      have hbeg := Begin_dk (Hd.out.step (below_drew wr)) k2 k5 k4 hok.client hok.mask
      have x1 : wr.cell? ⟨bx, ox + j * 5 + 1, none⟩ = some (.int .i64 k2) := hcx 1 _ rfl
      have x3 : wr.cell? ⟨bx, ox + j * 5 + 3, none⟩ = some (.int .i64 k4) := hcx 3 _ rfl
      have x4 : wr.cell? ⟨bx, ox + j * 5 + 4, none⟩ = some (.int .u16 k5) := hcx 4 _ rfl
      have Hbeg := Lib.hid hbeg; clear hbeg
      clear hcx hok
      have i1 : (0 : Int) ≤ (j : Int) := by omega
      have i2 : (j : Int) < (n : Int) := by omega
      go_wp2_with fail
      refine wp_region_free [0, 1, 2, 3, 4, 5, 6, 7, 8, 9, 10, 11, 12, 13, 14, 15, 16] (by kernel_rfl) (by kernel_rfl) rfl (by kernel_rfl) (fun _ _ _ h => by obtain ⟨_, h, _⟩ := h; cases h) (fun _ _ h => by obtain ⟨h, _⟩ := h; cases h) ?_
      simp only [List.map_cons, List.map_nil, List.getD_cons_zero, List.getD_cons_succ]
      have y1 : wr.drew.cell? ⟨bx, ox + j * 5 + 1, none⟩ = some (.int .i64 k2) := x1
      have y3 : wr.drew.cell? ⟨bx, ox + j * 5 + 3, none⟩ = some (.int .i64 k4) := x3
      have y4 : wr.drew.cell? ⟨bx, ox + j * 5 + 4, none⟩ = some (.int .u16 k5) := x4
      have hli' := Hli.out.step (below_drew wr)
      have Hli' := Lib.hid hli'; clear hli' x1 x3 x4 Hd
      generalize wr.drew = w5 at *
      go_wp2_with fail
      refine Hbeg.out.mono ?_
      rintro e w6 ⟨rfl, d6, m6⟩
      have li6 := Hli'.out.mod m6
      have Hd6 := Lib.hid d6; clear d6 m6
      have Hli6 := Lib.hid li6; clear li6 y1 y3 y4 Hbeg
      go_wp2_with fail
      go_roundw
      case rel => exact ⟨j + 1, _, _, by omega, by go_num, Hd6.out, Hli6.out⟩
      case measure => simp [intOf]; omega
    · obtain rfl : j = n := by omega
      clear hxr
      go_wp2_with fail
      refine (May_dk Hd.out cl part now hcl).mono ?_
      rintro e w5 ⟨rfl, b5, -⟩
      have d5 := Hd.out.step b5
      have l5 := Hli.out.step b5
      clear Hd Hli b5
      have Hd5 := Lib.hid d5; clear d5
      have Hl5 := Lib.hid l5; clear l5
      go_wp2_with fail
      refine (Of_dk Hd5.out cl now hcl).mono ?_
      rintro e w6 ⟨rfl, b6, -⟩
      have d6 := Hd5.out.step b6
      have l6 := Hl5.out.step b6
      clear Hd5 Hl5 b6
      have Hd6 := Lib.hid d6; clear d6
      have Hl6 := Lib.hid l6; clear l6
      by_cases hE : (mayOf (P, 1, 2) es cl part now).2 = 0
      · obtain ⟨i, hi, em, eo, ec, elast, emask, edead⟩ := mayOf_ok hE
        rw [hE, em, eo]
        have Helast := Lib.hid elast; clear elast
        clear hE em eo
        have hent : entAt es (((i + 1 : Nat) : Int)) = es[i] := by
          unfold entAt
          rw [if_pos (by omega), show (((i + 1 : Nat) : Int) - 1).toNat = i by omega, List.getD_eq_getElem?_getD, List.getElem?_eq_getElem hi, Option.getD_some]
        have h64 := Hd6.out.facts.2.1
        have hen := Entry_dk Hd6.out ((i + 1 : Nat) : Int) (by simp [Lit.wf, IntKind.min, IntKind.max, IntKind.signed, IntKind.bits]; omega)
        rw [hent, decide_eq_true (by omega)] at hen
        have hok := Hd6.out.facts.2.2 _ (List.getElem_mem hi)
        have hdl := fun w : World => Deadline_calls (w := w) (P, 1, 2) Hgood.out es[i].begin
        obtain ⟨en, hene⟩ : ∃ en, en = es[i] := ⟨_, rfl⟩
        rw [← hene] at hen ec emask edead hok hdl
        clear hene hent
        generalize deadOf (P, 1, 2) en.begin = D at edead hdl
        obtain ⟨x, y, z⟩ := en
        simp only [Ent.cells, Ent.client, Ent.begin, Ent.mask, Pl.cells, Pl.parts, Pl.window, Pl.delay] at hen ec emask hdl
        have hz := hok.mask
        have hz1 := has_shift16 hz
        clear hok
        subst ec
        unfold inMask at emask
        rw [Bool.and_eq_true, decide_eq_true_iff] at emask
        obtain ⟨⟨p0, p1⟩, hhas⟩ := emask
        obtain ⟨k, rfl⟩ : ∃ k : Nat, part = k := ⟨part.toNat, by omega⟩
        have Hen := Lib.hid hen; clear hen
        have Hdl := Lib.hid hdl; clear hdl
        generalize hL : es.length = L at hi h64
        have HL := Lib.hid hL; clear hL
        have q7 := (hz1 k).trans (by rw [show has z k = true from hhas]; rfl : (!has z k) = false)
        have q8 := and15 k (by omega)
        clear hhas hz1
        have q1 : decide ((k : Int) < 0) = false := decide_eq_false (by omega)
        have q2 : decide (15 < (k : Int)) = false := decide_eq_false (by omega)
        have q3 : decide (D ≤ now) = false := decide_eq_false edead
        have q4 : (x != x) = false := by simp
        have q5 : (((i + 1 : Nat) : Int) != ((i + 1 : Nat) : Int)) = false := by simp
        have q6 : decide (i + 1 ≠ 0) = true := by simp
        rw [q6]
        go_wp2_with fail
        refine Hen.out.mono ?_
        rintro e w7 ⟨rfl, b7, -⟩
        have d7 := Hd6.out.step b7
        have l7 := Hl6.out.step b7
        clear Hd6 Hl6 b7 Hen
        have b8 := (Below.refl w7.heap.size w7).alloc (Nat.le_refl _) (.cells #[.int .i64 x, .int .i64 y, .int .u16 z] 50)
        have hx8 := heap_alloc_new w7 (.cells #[.int .i64 x, .int .i64 y, .int .u16 z] 50)
        have d8 := d7.step b8
        have l8 := l7.step b8
        have c0 := cells_at l8.is 0
        have c1 := cells_at l8.is 1
        have c2 := cells_at l8.is 2
        have v0 := cells_at hx8 0
        have v1 := cells_at hx8 1
        have v2 := cells_at hx8 2
        clear d7 l7 b8 hx8
        have Hd8 := Lib.hid d8; clear d8
        have Hl8 := Lib.hid l8; clear l8
        go_wp2_with (with_reducible refine stop_load 3 ?_)
        refine unpark ?_
        generalize w7.heap.size = g8 at *
        generalize w7.alloc (.cells #[.int .i64 x, .int .i64 y, .int .u16 z] 50) = w8 at *
        go_wp2_with fail
        refine (Hdl.out _).mono ?_
        rintro e w9 ⟨rfl, b9⟩
        have d9 := Hd8.out.step b9
        clear Hd8 Hl8 b9 Hdl c0 c1 c2 v0 v1 v2
        have Hd9 := Lib.hid d9; clear d9
        go_wp2_with fail
        go_loopw [20] (fun t wr => ∃ (n : Nat), i + 2 ≤ n ∧ n ≤ L + 1 ∧ t = .int .i64 n ∧ Dk w wr b F4 (P, 1, 2) es) (fun t _ => L + 2 - (intOf t).toNat)
        case atStart => exact ⟨i + 2, by omega, by omega, by go_num, Hd9.out⟩
        case round =>
          obtain ⟨m, hm1, hm2, rfl, hd⟩ := hrel
          clear Hd9
          have hcnt := Count_dk hd
          rw [HL.out] at hcnt
          have Hcnt := Lib.hid hcnt; clear hcnt
          have Hd := Lib.hid hd; clear hd
          by_cases hlt2 : m < L + 1
          · have r1 : decide ((m : Int) ≤ (L : Int)) = true := decide_eq_true (by omega)
            have hmL : m - 1 < es.length := by rw [HL.out]; omega
            have hne := Helast.out (m - 1) hmL (by omega)
            have hen := Entry_dk Hd.out (m : Int) (by simp [Lit.wf, IntKind.min, IntKind.max, IntKind.signed, IntKind.bits]; omega)
            have hent : entAt es ((m : Int)) = es[m - 1] := by
              unfold entAt
              rw [HL.out, if_pos (by omega), show ((m : Int) - 1).toNat = m - 1 by omega, List.getD_eq_getElem?_getD, List.getElem?_eq_getElem hmL, Option.getD_some]
            rw [hent] at hen
            obtain ⟨en, hene⟩ : ∃ en, en = es[m - 1] := ⟨_, rfl⟩
            rw [← hene] at hen hne
            clear hene hent hmL
            obtain ⟨x2, y2, z2⟩ := en
            simp only [Ent.cells, Ent.client, Ent.begin, Ent.mask] at hen hne
            have r2 : (x2 == x) = false := by simpa using hne
            have Hen := Lib.hid hen; clear hen
            go_wp2_with fail
            refine Hcnt.out.mono ?_
            rintro e w10 ⟨rfl, rfl⟩
            go_wp2_with fail
            refine Hen.out.mono ?_
            rintro e w11 ⟨rfl, b11, -⟩
            have b12 := (Below.refl w11.heap.size w11).alloc (Nat.le_refl _) (.cells #[.int .i64 x2, .int .i64 y2, .int .u16 z2] 50)
            have hx12 := heap_alloc_new w11 (.cells #[.int .i64 x2, .int .i64 y2, .int .u16 z2] 50)
            have d12 := (Hd.out.step b11).step b12
            have v0 := cells_at hx12 0
            clear Hd b11 b12 hx12 Hcnt Hen
            have Hd12 := Lib.hid d12; clear d12
            go_wp2_with (with_reducible refine stop_load 3 ?_)
            refine unpark ?_
            generalize w11.heap.size = g12 at *
            generalize w11.alloc (.cells #[.int .i64 x2, .int .i64 y2, .int .u16 z2] 50) = w12 at *
            go_wp2_with fail
            go_roundw
            case rel => exact ⟨m + 1, by omega, by omega, by go_num, Hd12.out⟩
            case measure => simp [intOf]; omega
          · obtain rfl : m = L + 1 := by omega
            have r1 : decide (((L + 1 : Nat) : Int) ≤ (L : Int)) = false := decide_eq_false (by omega)
            go_wp2_with fail
            refine Hcnt.out.mono ?_
            rintro e w10 ⟨rfl, rfl⟩
            go_wp2_with fail
            go_ret
            exact ⟨rfl, Hd.out.bel⟩
      · have e1 := mayOf_err hE
        rw [e1]
        have q1 : ((mayOf (P, 1, 2) es cl part now).2 != 0) = true := by simpa using hE
        generalize (mayOf (P, 1, 2) es cl part now).2 = E at q1 ⊢
        clear hE e1
        go_wp2
        go_ret
        exact ⟨rfl, Hd6.out.bel⟩
end Go.Proofs.Ytdccocgdgcjfcaa
