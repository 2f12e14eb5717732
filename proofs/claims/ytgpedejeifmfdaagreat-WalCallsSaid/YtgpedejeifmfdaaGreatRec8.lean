/- rec.Decode. -/
import Derived.Test.YtgpedejeifmfdaaGreatRec7
namespace Go.Proofs.YtgpedejeifmfdaaGreat
open Go.RowKit

theorem results_row2 {P : Program} {fn : Func} {p u : Tmp} {ty : TypeId} (h : fn.results = #[.cell p ty, .tmp u]) (tmps : Array Value) (w : World) (g : Nat) (t : TypeId) (cs : Array Value) (fr : Nat × Nat) (d : TypeDesc)
    (hp : tmps.getD p undef = .pointer (some ⟨g, 0, none⟩)) (hg : w.heap[g]? = some (.cells cs t fr))
    (hu : P.underlying ty = some d) (hd : (match d with | .struct _ | .array _ _ => true | _ => false) = true) (hi : (P.info? ty).map (·.size) = some cs.size) :
    (results fn tmps).run P w = .ok (.tuple #[.agg cs, tmps.getD u undef]) w := by
  have hp' : tmps[p]?.getD undef = .pointer (some ⟨g, 0, none⟩) := by simpa using hp
  rw [results_cell_tmp h]
  simp [hp', asAddr, run_loadVar_row w g t ty cs fr d hg hu hd hi]
set_option maxHeartbeats 8000000 in
theorem Decode_calls {w : World} {a : Option Addr} {L c : Nat} {zs : List Int} (hx : Ints w .u8 a L c zs) : Calls Tryz.prog 55 #[.slice a L c] w fun e w' => e = .returned (.tuple #[.agg (dec zs).1.cells.toArray, .int .i64 ((dec zs).2 : Nat)]) ∧ Below w.heap.size w w' := by
  have hfit : ∀ z ∈ zs, 0 ≤ z ∧ z ≤ 255 := fun z hz => wf_u8 (hx.fit z hz)
  have hl := hx.len
  have hlo : ∀ g o, 0 < zs.length → a = some ⟨g, o, none⟩ → g < w.heap.size := fun g o hp e => by
    obtain ⟨b, o', e', hc⟩ := hx.cell (by omega)
    rw [e] at e'
    cases e'
    exact World.block_lt_of_cell? w _ (hc 0 (by omega))
  have hpa := rec_parse hfit
  have hrok := rec_ok (s := ⟨zs, false⟩) hfit
  have hdec : dec zs = match parse zs with | some (r, n) => if rightRc r = true ∧ enc r = zs.take n then (r, n) else (noRc, 0) | none => (noRc, 0) := rfl
  have b1 := (Below.refl w.heap.size w).alloc (Nat.le_refl _) (.cells #[.int .i64 0, .int .i64 0, .int .u16 0, .int .u8 0, .int .u8 0, .int .u8 0, .int .u8 0, .bool false, .int .i64 0, .bool false, .int .i64 0] 63)
  have z1 := heap_alloc_new w (.cells #[.int .i64 0, .int .i64 0, .int .u16 0, .int .u8 0, .int .u8 0, .int .u8 0, .int .u8 0, .bool false, .int .i64 0, .bool false, .int .i64 0] 63)
  obtain ⟨w1, hw1⟩ : ∃ w1, w1 = w.alloc (.cells #[.int .i64 0, .int .i64 0, .int .u16 0, .int .u8 0, .int .u8 0, .int .u8 0, .int .u8 0, .bool false, .int .i64 0, .bool false, .int .i64 0] 63) := ⟨_, rfl⟩
  have s1 : w1.heap.size = w.heap.size + 1 := by rw [hw1, World.size_alloc]
  rw [← hw1] at b1 z1
  have b2 := (Below.refl w1.heap.size w1).alloc (Nat.le_refl _) (.cells #[.slice a L c, .bool false] 115)
  have z2 := heap_alloc_new w1 (.cells #[.slice a L c, .bool false] 115)
  obtain ⟨w2, hw2⟩ : ∃ w2, w2 = w1.alloc (.cells #[.slice a L c, .bool false] 115) := ⟨_, rfl⟩
  rw [← hw2] at b2 z2
  rw [s1] at z2
  have b02 := b1.trans (b2.mono b1.size)
  have x2 := hx.keep b02
  have t2 : TkAt w2 w.heap.size (w.heap.size + 1) ⟨zs, false⟩ := ⟨⟨a, c, by rw [z2]; simp only [hl], by show Ints _ _ _ zs.length _ _; rw [hl]; exact x2, hlo⟩, by omega⟩
  have hre := trec_calls t2
  have z12 := (b2.block _ (Array.getElem?_eq_some_iff.1 z1).1).trans z1
  have m2 := Mod.of_below (F := fun k => w.heap.size ≤ k) b02
  obtain ⟨T, hT⟩ : ∃ T, T = recT ⟨zs, false⟩ := ⟨_, rfl⟩
  rw [← hT] at hre hpa hrok
  clear hT
  obtain ⟨⟨rest, lost⟩, ⟨k, t, m, k0, k1, k2, k3, ot, o, nt, n⟩⟩ := T
  simp only [Rc.cells] at hre
  simp only at hpa hrok
  have Hx := Lib.hid x2; clear x2 hx
  have Hre := Lib.hid hre; clear hre t2
  have M := Lib.hid m2; clear m2
  have Z := Lib.hid z12; clear z12 z1 z2
  have hmx := Hx.out.max
  have hle := Hx.out.le
  have Hb2 := Lib.hid b2; clear b2 b1 b02
  have Hlo := Lib.hid hlo; clear hlo
  have Hpa := Lib.hid hpa; clear hpa
  have Hrok := Lib.hid hrok; clear hrok
  have hs2 : w2.heap.size = w.heap.size + 2 := by rw [hw2, World.size_alloc, s1]
  have Hdec := Lib.hid hdec; clear hdec
  obtain ⟨D, hD⟩ : ∃ D, D = dec zs := ⟨_, rfl⟩
  rw [← hD]
  have HD := Lib.hid hD; clear hD
  go_enter Tryz.func55, Tryz.ntmps55
  go_wp2_with fail
  rw [← hw1, ← hw2]
  clear hw1 hw2
  refine Hre.out.mono ?_
  rintro e w3 ⟨rfl, t3, m3⟩
  have x3 := ints_keepPos Hx.out fun g o hp e hl3 => m3.block g hl3 (by have := Hlo.out g o (by omega) e; show ¬ g = w.heap.size + 1; omega)
  have z3 := (m3.block _ (Array.getElem?_eq_some_iff.1 Z.out).1 (by show ¬ w.heap.size = w.heap.size + 1; omega)).trans Z.out
  have m03 := M.out.trans m3 (H := fun k => w.heap.size ≤ k) (fun _ h => h) (fun k _ h => by have h' : k = w.heap.size + 1 := h; omega)
  have hg3 : w.heap.size + 2 ≤ w3.heap.size := by have := m3.size; omega
  have b4 := (Below.refl w3.heap.size w3).alloc (Nat.le_refl _) (.cells #[.int .i64 k, .int .i64 t, .int .u16 m, .int .u8 k0, .int .u8 k1, .int .u8 k2, .int .u8 k3, .bool ot, .int .i64 o, .bool nt, .int .i64 n] 63)
  have zr := heap_alloc_new w3 (.cells #[.int .i64 k, .int .i64 t, .int .u16 m, .int .u8 k0, .int .u8 k1, .int .u8 k2, .int .u8 k3, .bool ot, .int .i64 o, .bool nt, .int .i64 n] 63)
  obtain ⟨w4, hw4⟩ : ∃ w4, w4 = w3.alloc (.cells #[.int .i64 k, .int .i64 t, .int .u16 m, .int .u8 k0, .int .u8 k1, .int .u8 k2, .int .u8 k3, .bool ot, .int .i64 o, .bool nt, .int .i64 n] 63) := ⟨_, rfl⟩
  rw [← hw4] at b4 zr
  have x4 := x3.keep b4
  have t4 := t3.below b4
  have z4 := (b4.block _ (Array.getElem?_eq_some_iff.1 z3).1).trans z3
  have m04 := m03.trans (Mod.of_below (F := fun k => w.heap.size ≤ k) b4) (H := fun k => w.heap.size ≤ k) (fun _ h => h) (fun _ _ h => h)
  clear Hx Z M x3 z3 m03 b4 m3 t3 Hre Hb2 Hlo
  obtain ⟨ra, rc, rt, ri, -⟩ := t4.ex
  have rm := ri.max
  have rl := ri.le
  have q0 := cells_at rt 0
  have q1 := cells_at rt 1
  simp only at q0 q1 rm rl
  have X := Lib.hid x4; clear x4
  have Z := Lib.hid z4; clear z4
  have M := Lib.hid m04; clear m04
  have Zr := Lib.hid zr; clear zr t4 rt ri
  go_wp2_with (with_reducible refine stop_load 39 ?_)
  refine unpark ?_
  rw [← hw4]
  clear hw4
  generalize w3.heap.size = g at *
  have hD := HD.out
  rw [Hdec.out] at hD
  clear HD Hdec
  rcases Hpa.out with ⟨rfl, hp⟩ | ⟨rfl, hrl, hp⟩
  · rw [hp] at hD
    have HD := Lib.hid hD; clear hD hp Hpa Hrok
    have zf : (setAll w4 w.heap.size 0 [.int .i64 0, .int .i64 0, .int .u16 0, .int .u8 0, .int .u8 0, .int .u8 0, .int .u8 0, .bool false, .int .i64 0, .bool false, .int .i64 0]).heap[w.heap.size]? = some (.cells #[.int .i64 0, .int .i64 0, .int .u16 0, .int .u8 0, .int .u8 0, .int .u8 0, .int .u8 0, .bool false, .int .i64 0, .bool false, .int .i64 0] 63 (0, 0)) := setAll_full Z.out rfl
    have hm := (setAll_mod (Nat.le_refl _) [.int .i64 0, .int .i64 0, .int .u16 0, .int .u8 0, .int .u8 0, .int .u8 0, .int .u8 0, .bool false, .int .i64 0, .bool false, .int .i64 0] 0 w4 M.out).below (Below.refl _ _) (Nat.le_refl _) (fun _ h => h)
    simp only [setAll] at zf hm
    have ZF := Lib.hid zf; clear zf
    have HM := Lib.hid hm; clear hm
    have r0 := cells_at Zr.out 0
    have r1 := cells_at Zr.out 1
    have r2 := cells_at Zr.out 2
    have r3 := cells_at Zr.out 3
    have r4 := cells_at Zr.out 4
    have r5 := cells_at Zr.out 5
    have r6 := cells_at Zr.out 6
    have r7 := cells_at Zr.out 7
    have r8 := cells_at Zr.out 8
    have r9 := cells_at Zr.out 9
    have r10 := cells_at Zr.out 10
    have y0 := cells_at Z.out 0
    have y1 := cells_at Z.out 1
    have y2 := cells_at Z.out 2
    have y3 := cells_at Z.out 3
    have y4 := cells_at Z.out 4
    have y5 := cells_at Z.out 5
    have y6 := cells_at Z.out 6
    have y7 := cells_at Z.out 7
    have y8 := cells_at Z.out 8
    have y9 := cells_at Z.out 9
    have y10 := cells_at Z.out 10
    have f0 := frozen_of_row w4 w.heap.size 0 _ _ Z.out
    have f1 := frozen_of_row w4 w.heap.size 1 _ _ Z.out
    have f2 := frozen_of_row w4 w.heap.size 2 _ _ Z.out
    have f3 := frozen_of_row w4 w.heap.size 3 _ _ Z.out
    have f4 := frozen_of_row w4 w.heap.size 4 _ _ Z.out
    have f5 := frozen_of_row w4 w.heap.size 5 _ _ Z.out
    have f6 := frozen_of_row w4 w.heap.size 6 _ _ Z.out
    have f7 := frozen_of_row w4 w.heap.size 7 _ _ Z.out
    have f8 := frozen_of_row w4 w.heap.size 8 _ _ Z.out
    have f9 := frozen_of_row w4 w.heap.size 9 _ _ Z.out
    have f10 := frozen_of_row w4 w.heap.size 10 _ _ Z.out
    clear Z Zr M
    go_wp2
    clear r0 y0 f0 r1 y1 f1 r2 y2 f2 r3 y3 f3 r4 y4 f4 r5 y5 f5 r6 y6 f6 r7 y7 f7 r8 y8 f8 r9 y9 f9 r10 y10 f10
    refine bodyPost_ret (results_row2 Tryz.results55 _ _ w.heap.size 63 _ _ _ rfl ZF.out Tryz.underlying63 rfl (by kernel_rfl)) rfl ?_
    exact ⟨by rw [HD.out]; rfl, HM.out⟩
  · rw [hp] at hD
    simp only at hD
    obtain ⟨N, hN⟩ : ∃ N, N = zs.length - rest.length := ⟨_, rfl⟩
    rw [← hN] at hD
    have hen := fun w : World => Encode_calls (w := w) ⟨k, t, m, k0, k1, k2, k3, ot, o, nt, n⟩ Hrok.out
    simp only [Rc.cells] at hen
    have Hen := Lib.hid hen; clear hen
    have hsub : (L : Int) - (rest.length : Int) = (N : Int) := by omega
    have hnl : N ≤ L := by omega
    have hni : (N : Int) ≤ (L : Int) := by omega
    have hnc : (N : Int) ≤ (c : Int) := by omega
    have hn0 : (0 : Int) ≤ (N : Int) := by omega
    clear hN hp
    have Hpd := Lib.hid hD; clear hD Hpa Hrok
    have r0 := cells_at Zr.out 0
    have r1 := cells_at Zr.out 1
    have r2 := cells_at Zr.out 2
    have r3 := cells_at Zr.out 3
    have r4 := cells_at Zr.out 4
    have r5 := cells_at Zr.out 5
    have r6 := cells_at Zr.out 6
    have r7 := cells_at Zr.out 7
    have r8 := cells_at Zr.out 8
    have r9 := cells_at Zr.out 9
    have r10 := cells_at Zr.out 10
    go_wp2_with fail
    clear r0 r1 r2 r3 r4 r5 r6 r7 r8 r9 r10 q0 q1
    refine (Hen.out _).mono ?_
    rintro e w5 ⟨v, rfl, own, bk⟩
    have x5 := X.out.keep bk
    have z5 := (bk.block _ (Array.getElem?_eq_some_iff.1 Z.out).1).trans Z.out
    have zr5 := (bk.block _ (Array.getElem?_eq_some_iff.1 Zr.out).1).trans Zr.out
    have m5 := M.out.trans (Mod.of_below (F := fun k => w.heap.size ≤ k) bk) (H := fun k => w.heap.size ≤ k) (fun _ h => h) (fun _ _ h => h)
    clear X Z Zr M bk Hen
    have X := Lib.hid x5; clear x5
    have Z := Lib.hid z5; clear z5
    have Zr := Lib.hid zr5; clear zr5
    have M := Lib.hid m5; clear m5
    have hD := Hpd.out
    obtain ⟨va, vc, rfl, vi, -⟩ := own.ints
    clear own Hpd
    cases hr : rightRc ⟨k, t, m, k0, k1, k2, k3, ot, o, nt, n⟩ with
    | false =>
      rw [hr, if_neg (by rintro ⟨h, -⟩; cases h)] at hD
      have HD := Lib.hid hD; clear hD hr vi X
      have zf : (setAll w5 w.heap.size 0 [.int .i64 0, .int .i64 0, .int .u16 0, .int .u8 0, .int .u8 0, .int .u8 0, .int .u8 0, .bool false, .int .i64 0, .bool false, .int .i64 0]).heap[w.heap.size]? = some (.cells #[.int .i64 0, .int .i64 0, .int .u16 0, .int .u8 0, .int .u8 0, .int .u8 0, .int .u8 0, .bool false, .int .i64 0, .bool false, .int .i64 0] 63 (0, 0)) := setAll_full Z.out rfl
      have hm := (setAll_mod (Nat.le_refl _) [.int .i64 0, .int .i64 0, .int .u16 0, .int .u8 0, .int .u8 0, .int .u8 0, .int .u8 0, .bool false, .int .i64 0, .bool false, .int .i64 0] 0 w5 M.out).below (Below.refl _ _) (Nat.le_refl _) (fun _ h => h)
      simp only [setAll] at zf hm
      have ZF := Lib.hid zf; clear zf
      have HM := Lib.hid hm; clear hm
      have r0 := cells_at Zr.out 0
      have r1 := cells_at Zr.out 1
      have r2 := cells_at Zr.out 2
      have r3 := cells_at Zr.out 3
      have r4 := cells_at Zr.out 4
      have r5 := cells_at Zr.out 5
      have r6 := cells_at Zr.out 6
      have r7 := cells_at Zr.out 7
      have r8 := cells_at Zr.out 8
      have r9 := cells_at Zr.out 9
      have r10 := cells_at Zr.out 10
      have y0 := cells_at Z.out 0
      have y1 := cells_at Z.out 1
      have y2 := cells_at Z.out 2
      have y3 := cells_at Z.out 3
      have y4 := cells_at Z.out 4
      have y5 := cells_at Z.out 5
      have y6 := cells_at Z.out 6
      have y7 := cells_at Z.out 7
      have y8 := cells_at Z.out 8
      have y9 := cells_at Z.out 9
      have y10 := cells_at Z.out 10
      have f0 := frozen_of_row w5 w.heap.size 0 _ _ Z.out
      have f1 := frozen_of_row w5 w.heap.size 1 _ _ Z.out
      have f2 := frozen_of_row w5 w.heap.size 2 _ _ Z.out
      have f3 := frozen_of_row w5 w.heap.size 3 _ _ Z.out
      have f4 := frozen_of_row w5 w.heap.size 4 _ _ Z.out
      have f5 := frozen_of_row w5 w.heap.size 5 _ _ Z.out
      have f6 := frozen_of_row w5 w.heap.size 6 _ _ Z.out
      have f7 := frozen_of_row w5 w.heap.size 7 _ _ Z.out
      have f8 := frozen_of_row w5 w.heap.size 8 _ _ Z.out
      have f9 := frozen_of_row w5 w.heap.size 9 _ _ Z.out
      have f10 := frozen_of_row w5 w.heap.size 10 _ _ Z.out
      clear Z Zr M
      go_wp2
      clear r0 y0 f0 r1 y1 f1 r2 y2 f2 r3 y3 f3 r4 y4 f4 r5 y5 f5 r6 y6 f6 r7 y7 f7 r8 y8 f8 r9 y9 f9 r10 y10 f10
      refine bodyPost_ret (results_row2 Tryz.results55 _ _ w.heap.size 63 _ _ _ rfl ZF.out Tryz.underlying63 rfl (by kernel_rfl)) rfl ?_
      exact ⟨by rw [HD.out]; rfl, HM.out⟩
    | true =>
      rw [hr] at vi
      rw [if_pos rfl] at vi
      have heq := Equal_calls vi (X.out.take N hnl)
      rw [hr] at hD
      by_cases hq : enc ⟨k, t, m, k0, k1, k2, k3, ot, o, nt, n⟩ = zs.take N
      · rw [if_pos ⟨rfl, hq⟩] at hD
        rw [decide_eq_true hq] at heq
        have HD := Lib.hid hD; clear hD hr vi X hq
        have Heq := Lib.hid heq; clear heq
        go_wp2_with fail
        refine Heq.out.mono ?_
        rintro e w6 ⟨rfl, rfl⟩
        clear Heq
        have zf : (setAll w5 w.heap.size 0 [.int .i64 k, .int .i64 t, .int .u16 m, .int .u8 k0, .int .u8 k1, .int .u8 k2, .int .u8 k3, .bool ot, .int .i64 o, .bool nt, .int .i64 n]).heap[w.heap.size]? = some (.cells #[.int .i64 k, .int .i64 t, .int .u16 m, .int .u8 k0, .int .u8 k1, .int .u8 k2, .int .u8 k3, .bool ot, .int .i64 o, .bool nt, .int .i64 n] 63 (0, 0)) := setAll_full Z.out rfl
        have hm := (setAll_mod (Nat.le_refl _) [.int .i64 k, .int .i64 t, .int .u16 m, .int .u8 k0, .int .u8 k1, .int .u8 k2, .int .u8 k3, .bool ot, .int .i64 o, .bool nt, .int .i64 n] 0 w5 M.out).below (Below.refl _ _) (Nat.le_refl _) (fun _ h => h)
        simp only [setAll] at zf hm
        have ZF := Lib.hid zf; clear zf
        have HM := Lib.hid hm; clear hm
        have r0 := cells_at Zr.out 0
        have r1 := cells_at Zr.out 1
        have r2 := cells_at Zr.out 2
        have r3 := cells_at Zr.out 3
        have r4 := cells_at Zr.out 4
        have r5 := cells_at Zr.out 5
        have r6 := cells_at Zr.out 6
        have r7 := cells_at Zr.out 7
        have r8 := cells_at Zr.out 8
        have r9 := cells_at Zr.out 9
        have r10 := cells_at Zr.out 10
        have y0 := cells_at Z.out 0
        have y1 := cells_at Z.out 1
        have y2 := cells_at Z.out 2
        have y3 := cells_at Z.out 3
        have y4 := cells_at Z.out 4
        have y5 := cells_at Z.out 5
        have y6 := cells_at Z.out 6
        have y7 := cells_at Z.out 7
        have y8 := cells_at Z.out 8
        have y9 := cells_at Z.out 9
        have y10 := cells_at Z.out 10
        have f0 := frozen_of_row w5 w.heap.size 0 _ _ Z.out
        have f1 := frozen_of_row w5 w.heap.size 1 _ _ Z.out
        have f2 := frozen_of_row w5 w.heap.size 2 _ _ Z.out
        have f3 := frozen_of_row w5 w.heap.size 3 _ _ Z.out
        have f4 := frozen_of_row w5 w.heap.size 4 _ _ Z.out
        have f5 := frozen_of_row w5 w.heap.size 5 _ _ Z.out
        have f6 := frozen_of_row w5 w.heap.size 6 _ _ Z.out
        have f7 := frozen_of_row w5 w.heap.size 7 _ _ Z.out
        have f8 := frozen_of_row w5 w.heap.size 8 _ _ Z.out
        have f9 := frozen_of_row w5 w.heap.size 9 _ _ Z.out
        have f10 := frozen_of_row w5 w.heap.size 10 _ _ Z.out
        clear Z Zr M
        go_wp2
        clear r0 y0 f0 r1 y1 f1 r2 y2 f2 r3 y3 f3 r4 y4 f4 r5 y5 f5 r6 y6 f6 r7 y7 f7 r8 y8 f8 r9 y9 f9 r10 y10 f10
        refine bodyPost_ret (results_row2 Tryz.results55 _ _ w.heap.size 63 _ _ _ rfl ZF.out Tryz.underlying63 rfl (by kernel_rfl)) rfl ?_
        exact ⟨by rw [HD.out]; rfl, HM.out⟩
      · rw [if_neg (fun h => hq h.2)] at hD
        rw [decide_eq_false hq] at heq
        have HD := Lib.hid hD; clear hD hr vi X hq
        have Heq := Lib.hid heq; clear heq
        go_wp2_with fail
        refine Heq.out.mono ?_
        rintro e w6 ⟨rfl, rfl⟩
        clear Heq
        have zf : (setAll w5 w.heap.size 0 [.int .i64 0, .int .i64 0, .int .u16 0, .int .u8 0, .int .u8 0, .int .u8 0, .int .u8 0, .bool false, .int .i64 0, .bool false, .int .i64 0]).heap[w.heap.size]? = some (.cells #[.int .i64 0, .int .i64 0, .int .u16 0, .int .u8 0, .int .u8 0, .int .u8 0, .int .u8 0, .bool false, .int .i64 0, .bool false, .int .i64 0] 63 (0, 0)) := setAll_full Z.out rfl
        have hm := (setAll_mod (Nat.le_refl _) [.int .i64 0, .int .i64 0, .int .u16 0, .int .u8 0, .int .u8 0, .int .u8 0, .int .u8 0, .bool false, .int .i64 0, .bool false, .int .i64 0] 0 w5 M.out).below (Below.refl _ _) (Nat.le_refl _) (fun _ h => h)
        simp only [setAll] at zf hm
        have ZF := Lib.hid zf; clear zf
        have HM := Lib.hid hm; clear hm
        have r0 := cells_at Zr.out 0
        have r1 := cells_at Zr.out 1
        have r2 := cells_at Zr.out 2
        have r3 := cells_at Zr.out 3
        have r4 := cells_at Zr.out 4
        have r5 := cells_at Zr.out 5
        have r6 := cells_at Zr.out 6
        have r7 := cells_at Zr.out 7
        have r8 := cells_at Zr.out 8
        have r9 := cells_at Zr.out 9
        have r10 := cells_at Zr.out 10
        have y0 := cells_at Z.out 0
        have y1 := cells_at Z.out 1
        have y2 := cells_at Z.out 2
        have y3 := cells_at Z.out 3
        have y4 := cells_at Z.out 4
        have y5 := cells_at Z.out 5
        have y6 := cells_at Z.out 6
        have y7 := cells_at Z.out 7
        have y8 := cells_at Z.out 8
        have y9 := cells_at Z.out 9
        have y10 := cells_at Z.out 10
        have f0 := frozen_of_row w5 w.heap.size 0 _ _ Z.out
        have f1 := frozen_of_row w5 w.heap.size 1 _ _ Z.out
        have f2 := frozen_of_row w5 w.heap.size 2 _ _ Z.out
        have f3 := frozen_of_row w5 w.heap.size 3 _ _ Z.out
        have f4 := frozen_of_row w5 w.heap.size 4 _ _ Z.out
        have f5 := frozen_of_row w5 w.heap.size 5 _ _ Z.out
        have f6 := frozen_of_row w5 w.heap.size 6 _ _ Z.out
        have f7 := frozen_of_row w5 w.heap.size 7 _ _ Z.out
        have f8 := frozen_of_row w5 w.heap.size 8 _ _ Z.out
        have f9 := frozen_of_row w5 w.heap.size 9 _ _ Z.out
        have f10 := frozen_of_row w5 w.heap.size 10 _ _ Z.out
        clear Z Zr M
        go_wp2
        clear r0 y0 f0 r1 y1 f1 r2 y2 f2 r3 y3 f3 r4 y4 f4 r5 y5 f5 r6 y6 f6 r7 y7 f7 r8 y8 f8 r9 y9 f9 r10 y10 f10
        refine bodyPost_ret (results_row2 Tryz.results55 _ _ w.heap.size 63 _ _ _ rfl ZF.out Tryz.underlying63 rfl (by kernel_rfl)) rfl ?_
        exact ⟨by rw [HD.out]; rfl, HM.out⟩
end Go.Proofs.YtgpedejeifmfdaaGreat
