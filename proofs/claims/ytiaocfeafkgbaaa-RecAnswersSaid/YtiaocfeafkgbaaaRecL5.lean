/- The law RecAnswers. -/
import Derived.Test.YtiaocfeafkgbaaaRecO
import Derived.Test.YtiaocfeafkgbaaaRecD6
import Derived.Test.YtiaocfeafkgbaaaRecD7
namespace Go.Proofs.Ytiaocfeafkgbaaa
open Go.RowKit

/-- Bytes that came in; nil has no room. -/
structure BRow (w : World) (a : Option Addr) (n c : Nat) (zs : List Int) : Prop where
  ints : Ints w .u8 a n c zs
  nil : a = none → n = 0 ∧ c = 0
structure AnsSt (w W : World) (va : Option Addr) (vc : Nat) (zs : List Int) (g6 g8 : Nat) (D : Rc) (ax : Option Addr) (cx : Nat) (ay : Option Addr) (cy : Nat) (A : List Rc) (ap : Option Addr) (cp : Nat) (aq : Option Addr) (cq : Nat) (J : List Int) : Prop where
  bel : Below w.heap.size w W
  own : Ints W .u8 va zs.length vc zs
  r6 : W.heap[g6]? = some (.cells D.cells.toArray 34 (0, 0))
  r8 : W.heap[g8]? = some (.cells D.cells.toArray 34 (0, 0))
  xs : Recs rcF W ax A.length cx A
  ys : Recs rcF W ay A.length cy A
  p : Ints W .u8 ap J.length cp J
  q : Ints W .u8 aq J.length cq J
theorem AnsSt.step {w W W' : World} {va : Option Addr} {vc : Nat} {zs : List Int} {g6 g8 : Nat} {D : Rc} {ax : Option Addr} {cx : Nat} {ay : Option Addr} {cy : Nat} {A : List Rc} {ap : Option Addr} {cp : Nat} {aq : Option Addr} {cq : Nat} {J : List Int}
    (h : AnsSt w W va vc zs g6 g8 D ax cx ay cy A ap cp aq cq J) (b : Below W.heap.size W W') : AnsSt w W' va vc zs g6 g8 D ax cx ay cy A ap cp aq cq J :=
  ⟨h.bel.trans (b.mono h.bel.size), h.own.keep b, (b.block _ (Array.getElem?_eq_some_iff.1 h.r6).1).trans h.r6, (b.block _ (Array.getElem?_eq_some_iff.1 h.r8).1).trans h.r8, h.xs.keep b, h.ys.keep b, h.p.keep b, h.q.keep b⟩
theorem RAll_any {w : World} {a : Option Addr} {n c : Nat} {zs : List Int} (h : BRow w a n c zs) (hn : n ≤ 900000) {w' : World} (hb : Below w.heap.size w w') : Calls Try.prog 17 #[.slice a n c] w' fun e w'' =>
    ∃ v, e = .returned (.tuple #[v, .int .i64 ((allR zs).2 : Nat)]) ∧ RcOwn w'' w'.heap.size v (allR zs).1 ∧ Below w'.heap.size w' w'' := by
  have hi := h.ints.keep hb
  cases a with
  | none =>
    obtain ⟨rfl, rfl⟩ := h.nil rfl
    obtain rfl : zs = [] := List.eq_nil_of_length_eq_zero h.ints.len
    rw [all_empty]
    exact RAll_nil
  | some ad =>
    by_cases h0 : 0 < n
    · obtain ⟨b', o', e, -⟩ := hi.cell h0
      cases e
      exact RAll_calls hi hn
    · obtain rfl : n = 0 := by omega
      obtain rfl : zs = [] := List.eq_nil_of_length_eq_zero h.ints.len
      rw [all_empty]
      exact RAll_zero ad h.ints.max
theorem brow_nil (w : World) : BRow w none 0 0 [] := ⟨Ints.nil0 _ _, fun _ => ⟨rfl, rfl⟩⟩
set_option maxRecDepth 100000 in
set_option maxHeartbeats 8000000 in
theorem lawRecAnswers {w : World} {a : Option Addr} {L c : Nat} {l : List Rc} {ab : Option Addr} {Lb cb : Nat} {zs : List Int} (hx : RRow w a L c l) (hy : BRow w ab Lb cb zs) : Calls Try.prog 6 #[.slice a L c, .slice ab Lb cb] w fun e w' => e = .returned (.bool true) ∧ Below w.heap.size w w' := by
  have hl := hx.recs.len
  have hl0 := hx.recs.le
  have hl1 := hx.recs.max
  have hyl := hy.ints.len
  have hyc := hy.ints.le
  have hym := hy.ints.max
  have Hb := Lib.hid (Below.refl w.heap.size w)
  have Hx := Lib.hid hx; clear hx
  have Hy := Lib.hid hy; clear hy
  have Hl := Lib.hid hl; clear hl
  have Hyl := Lib.hid hyl; clear hyl
  by_cases h60 : 60 < L
  · have d0 : decide ((60 : Int) < (L : Int)) = true := decide_eq_true (by omega)
    go_enter Try.func6, Try.ntmps6
    go_wp2_with fail
    refine alive_calls.mono ?_
    rintro e w1 ⟨rfl, bk⟩
    have hb := Hb.out.trans (bk.mono Hb.out.size)
    clear bk Hb
    have Hb := Lib.hid hb; clear hb
    go_wp2
    go_ret
    exact ⟨rfl, Hb.out⟩
  have d0 : decide ((60 : Int) < (L : Int)) = false := decide_eq_false (by omega)
  by_cases h1000 : 1000 < Lb
  · have d1 : decide ((1000 : Int) < (Lb : Int)) = true := decide_eq_true (by omega)
    go_enter Try.func6, Try.ntmps6
    go_wp2_with fail
    refine alive_calls.mono ?_
    rintro e w1 ⟨rfl, bk⟩
    have hb := Hb.out.trans (bk.mono Hb.out.size)
    clear bk Hb
    have Hb := Lib.hid hb; clear hb
    go_wp2
    go_ret
    exact ⟨rfl, Hb.out⟩
  have d1 : decide ((1000 : Int) < (Lb : Int)) = false := decide_eq_false (by omega)
  obtain ⟨D, hD⟩ : ∃ D, D = dec zs := ⟨_, rfl⟩
  obtain ⟨A, hA⟩ : ∃ A, A = allR zs := ⟨_, rfl⟩
  obtain ⟨R, hR⟩ : ∃ R, R = rightAll l := ⟨_, rfl⟩
  obtain ⟨J, hJ⟩ : ∃ J, J = if rightAll l = true then encs l else [] := ⟨_, rfl⟩
  obtain ⟨⟨k, t, m, k0, k1, k2, k3, ot, o, nt, n⟩, N⟩ := D
  obtain ⟨A, K⟩ := A
  have HD := Lib.hid hD; clear hD
  have HA := Lib.hid hA; clear hA
  have HR := Lib.hid hR; clear hR
  have HJ := Lib.hid hJ; clear hJ
  go_enter Try.func6, Try.ntmps6
  go_wp2_with fail
  refine alive_calls.mono ?_
  rintro e w1 ⟨rfl, bk⟩
  have hb := Hb.out.trans (bk.mono Hb.out.size)
  clear bk Hb
  have Hb := Lib.hid hb; clear hb
  go_wp2_with fail
  refine (CopyBytes_calls (Hy.out.ints.keep Hb.out) (by omega)).mono ?_
  rintro e w2 ⟨v2, rfl, ov, -, bk⟩
  have hb := Hb.out.trans (bk.mono Hb.out.size)
  obtain ⟨va, vc, rfl, vi, -⟩ := ov.ints
  have hde := Decode_calls vi
  rw [← HD.out] at hde
  simp only [Rc.cells] at hde
  clear ov bk Hb
  have V := Lib.hid vi; clear vi
  have Hde := Lib.hid hde; clear hde
  have Hb := Lib.hid hb; clear hb
  go_wp2_with fail
  refine Hde.out.mono ?_
  rintro e w3 ⟨rfl, bk⟩
  obtain ⟨w4, hw4⟩ : ∃ w4, w4 = w3.alloc (.cells #[.int .i64 k, .int .i64 t, .int .u16 m, .int .u8 k0, .int .u8 k1, .int .u8 k2, .int .u8 k3, .bool ot, .int .i64 o, .bool nt, .int .i64 n] 34) := ⟨_, rfl⟩
  have b4 : Below w3.heap.size w3 w4 := by rw [hw4]; exact (Below.refl _ _).alloc (Nat.le_refl _) _
  have r6 : w4.heap[w3.heap.size]? = some (.cells #[.int .i64 k, .int .i64 t, .int .u16 m, .int .u8 k0, .int .u8 k1, .int .u8 k2, .int .u8 k3, .bool ot, .int .i64 o, .bool nt, .int .i64 n] 34 (0, 0)) := by rw [hw4]; exact heap_alloc_new w3 _
  have bk4 := bk.trans (b4.mono bk.size)
  have vi := V.out.keep bk4
  have hb := Hb.out.trans (bk4.mono Hb.out.size)
  have hdr := RDecode_calls (Hy.out.ints.keep hb)
  rw [← HD.out] at hdr
  simp only [Rc.cells] at hdr
  clear V Hb bk b4 bk4 Hde
  have V := Lib.hid vi; clear vi
  have Hb := Lib.hid hb; clear hb
  have R6 := Lib.hid r6; clear r6
  have Hdr := Lib.hid hdr; clear hdr
  go_wp2_with fail
  rw [← hw4]
  clear hw4
  refine Hdr.out.mono ?_
  rintro e w5 ⟨rfl, bk⟩
  obtain ⟨w6, hw6⟩ : ∃ w6, w6 = w5.alloc (.cells #[.int .i64 k, .int .i64 t, .int .u16 m, .int .u8 k0, .int .u8 k1, .int .u8 k2, .int .u8 k3, .bool ot, .int .i64 o, .bool nt, .int .i64 n] 34) := ⟨_, rfl⟩
  have b4 : Below w5.heap.size w5 w6 := by rw [hw6]; exact (Below.refl _ _).alloc (Nat.le_refl _) _
  have r8 : w6.heap[w5.heap.size]? = some (.cells #[.int .i64 k, .int .i64 t, .int .u16 m, .int .u8 k0, .int .u8 k1, .int .u8 k2, .int .u8 k3, .bool ot, .int .i64 o, .bool nt, .int .i64 n] 34 (0, 0)) := by rw [hw6]; exact heap_alloc_new w5 _
  have bk4 := bk.trans (b4.mono bk.size)
  have vi := V.out.keep bk4
  have r6 := (bk4.block _ (Array.getElem?_eq_some_iff.1 R6.out).1).trans R6.out
  have hb := Hb.out.trans (bk4.mono Hb.out.size)
  have hal := All_calls vi (by rw [Hyl.out]; omega)
  rw [← HA.out] at hal
  clear V Hb bk b4 bk4 Hdr R6
  generalize w3.heap.size = g6 at *
  have V := Lib.hid vi; clear vi
  have Hb := Lib.hid hb; clear hb
  have R6 := Lib.hid r6; clear r6
  have R8 := Lib.hid r8; clear r8
  have Hal := Lib.hid hal; clear hal
  go_wp2_with fail
  rw [← hw6]
  clear hw6
  generalize w5.heap.size = g8 at *
  refine Hal.out.mono ?_
  rintro e w7 ⟨vx, rfl, ox, bk⟩
  obtain ⟨ax, cx, rfl, xs, -⟩ := ox.recs
  have vi := V.out.keep bk
  have r6 := (bk.block _ (Array.getElem?_eq_some_iff.1 R6.out).1).trans R6.out
  have r8 := (bk.block _ (Array.getElem?_eq_some_iff.1 R8.out).1).trans R8.out
  have hb := Hb.out.trans (bk.mono Hb.out.size)
  have hal := RAll_any Hy.out (by omega) hb
  rw [← HA.out] at hal
  clear V Hb bk Hal R6 R8 ox
  have V := Lib.hid vi; clear vi
  have Hb := Lib.hid hb; clear hb
  have R6 := Lib.hid r6; clear r6
  have R8 := Lib.hid r8; clear r8
  have Xs := Lib.hid xs; clear xs
  have Hal := Lib.hid hal; clear hal
  go_wp2_with fail
  refine Hal.out.mono ?_
  rintro e w8 ⟨vy, rfl, oy, bk⟩
  obtain ⟨ay, cy, rfl, ys, -⟩ := oy.recs
  have vi := V.out.keep bk
  have xs := Xs.out.keep bk
  have r6 := (bk.block _ (Array.getElem?_eq_some_iff.1 R6.out).1).trans R6.out
  have r8 := (bk.block _ (Array.getElem?_eq_some_iff.1 R8.out).1).trans R8.out
  have hb := Hb.out.trans (bk.mono Hb.out.size)
  have hjo := Join_calls (Hx.out.recs.keep hb) Hx.out.ok (by omega)
  rw [← HJ.out, ← HR.out] at hjo
  clear V Hb bk Hal R6 R8 oy Xs
  have V := Lib.hid vi; clear vi
  have Hb := Lib.hid hb; clear hb
  have R6 := Lib.hid r6; clear r6
  have R8 := Lib.hid r8; clear r8
  have Xs := Lib.hid xs; clear xs
  have Ys := Lib.hid ys; clear ys
  have Hjo := Lib.hid hjo; clear hjo
  go_wp2_with fail
  refine Hjo.out.mono ?_
  rintro e w9 ⟨vp, rfl, op, bk⟩
  obtain ⟨ap, cp, rfl, ip, -⟩ := op.ints
  have vi := V.out.keep bk
  have xs := Xs.out.keep bk
  have ys := Ys.out.keep bk
  have r6 := (bk.block _ (Array.getElem?_eq_some_iff.1 R6.out).1).trans R6.out
  have r8 := (bk.block _ (Array.getElem?_eq_some_iff.1 R8.out).1).trans R8.out
  have hb := Hb.out.trans (bk.mono Hb.out.size)
  have hjo := RJoin_calls (Hx.out.recs.keep hb) Hx.out.ok (by omega)
  rw [← HJ.out, ← HR.out] at hjo
  clear V Hb bk Hjo R6 R8 op Xs Ys
  have V := Lib.hid vi; clear vi
  have Hb := Lib.hid hb; clear hb
  have R6 := Lib.hid r6; clear r6
  have R8 := Lib.hid r8; clear r8
  have Xs := Lib.hid xs; clear xs
  have Ys := Lib.hid ys; clear ys
  have Ip := Lib.hid ip; clear ip
  have Hjo := Lib.hid hjo; clear hjo
  go_wp2_with fail
  refine Hjo.out.mono ?_
  rintro e wA ⟨vq, rfl, oq, bk⟩
  obtain ⟨aq, cq, rfl, iq, -⟩ := oq.ints
  have hst : AnsSt w wA va vc zs g6 g8 ⟨k, t, m, k0, k1, k2, k3, ot, o, nt, n⟩ ax cx ay cy A ap cp aq cq J := ⟨Hb.out.trans (bk.mono Hb.out.size), V.out.keep bk, (bk.block _ (Array.getElem?_eq_some_iff.1 R6.out).1).trans R6.out, (bk.block _ (Array.getElem?_eq_some_iff.1 R8.out).1).trans R8.out, Xs.out.keep bk, Ys.out.keep bk, Ip.out.keep bk, iq⟩
  clear V Hb bk Hjo R6 R8 oq iq Xs Ys Ip HD HA HR HJ
  have Hst := Lib.hid hst; clear hst
  go_wp2_with fail
  go_loopw [18] (fun s wr => ∃ j : Nat, j ≤ L ∧ s = .int .i64 j ∧ AnsSt w wr va vc zs g6 g8 ⟨k, t, m, k0, k1, k2, k3, ot, o, nt, n⟩ ax cx ay cy A ap cp aq cq J) (fun s _ => L - (intOf s).toNat)
  case atStart => exact ⟨0, Nat.zero_le _, rfl, Hst.out⟩
  case round =>
    clear Hst
    obtain ⟨j, hj, rfl, hst⟩ := hrel
    obtain ⟨wo, rfl⟩ : ∃ wo, wo = wr := ⟨_, rfl⟩
    by_cases hlt : j < L
    · have hjl : j < l.length := by rw [Hl.out]; exact hlt
      obtain ⟨ga, oa, rfl⟩ := Hx.out.recs.addr (by omega)
      have hrok := Hx.out.ok _ (List.getElem_mem hjl)
      obtain ⟨r, hr⟩ : ∃ r, r = l[j] := ⟨_, rfl⟩
      rw [← hr] at hrok
      have hen := fun w : World => Encode_calls (w := w) r hrok
      have hre := fun w : World => REncode_calls (w := w) r hrok
      have hri := fun w : World => Right_calls (w := w) r
      have hrr := fun w : World => RRight_calls (w := w) r hrok.2.2.1.1
      obtain ⟨B, hB⟩ : ∃ B, B = rightRc r := ⟨_, rfl⟩
      obtain ⟨E, hE⟩ : ∃ E, E = if rightRc r = true then enc r else [] := ⟨_, rfl⟩
      rw [← hE, ← hB] at hen hre
      rw [← hB] at hri hrr
      clear hB hE hrok
      have HE := Lib.hid hr; clear hr
      obtain ⟨k', t', m', k0', k1', k2', k3', ot', o', nt', n'⟩ := r
      simp only [Rc.cells] at hen hre hri hrr
      have Hen := Lib.hid hen; clear hen
      have Hre := Lib.hid hre; clear hre
      have Hri := Lib.hid hri; clear hri
      have Hrr := Lib.hid hrr; clear hrr
      have i1 : (0 : Int) ≤ (j : Int) := by omega
      have i2 : (j : Int) < (L : Int) := by omega
      have hcx := (Hx.out.recs.keep hst.bel).at hjl
      rw [← HE.out] at hcx
      have x0 := hcx 0 _ rfl
      have x1 := hcx 1 _ rfl
      have x2 := hcx 2 _ rfl
      have x3 := hcx 3 _ rfl
      have x4 := hcx 4 _ rfl
      have x5 := hcx 5 _ rfl
      have x6 := hcx 6 _ rfl
      have x7 := hcx 7 _ rfl
      have x8 := hcx 8 _ rfl
      have x9 := hcx 9 _ rfl
      have x10 := hcx 10 _ rfl
      simp only [rcF, Nat.add_zero] at x0 x1 x2 x3 x4 x5 x6 x7 x8 x9 x10
      clear hcx
      have Hst := Lib.hid hst; clear hst
      go_wp2_with fail
      clear x0 x1 x2 x3 x4 x5 x6 x7 x8 x9 x10
      refine (Hen.out _).mono ?_
      rintro e w4 ⟨v4, rfl, o4, bk⟩
      obtain ⟨a4, c4, rfl, y4, -⟩ := o4.ints
      have hst := Hst.out.step bk
      clear o4 bk Hst Hen
      have I4 := Lib.hid y4; clear y4
      have hcx := (Hx.out.recs.keep hst.bel).at hjl
      rw [← HE.out] at hcx
      have x0 := hcx 0 _ rfl
      have x1 := hcx 1 _ rfl
      have x2 := hcx 2 _ rfl
      have x3 := hcx 3 _ rfl
      have x4 := hcx 4 _ rfl
      have x5 := hcx 5 _ rfl
      have x6 := hcx 6 _ rfl
      have x7 := hcx 7 _ rfl
      have x8 := hcx 8 _ rfl
      have x9 := hcx 9 _ rfl
      have x10 := hcx 10 _ rfl
      simp only [rcF, Nat.add_zero] at x0 x1 x2 x3 x4 x5 x6 x7 x8 x9 x10
      clear hcx
      have Hst := Lib.hid hst; clear hst
      go_wp2_with fail
      clear x0 x1 x2 x3 x4 x5 x6 x7 x8 x9 x10
      refine (Hre.out _).mono ?_
      rintro e w5 ⟨v5, rfl, o5, bk⟩
      obtain ⟨a5, c5, rfl, y5, -⟩ := o5.ints
      have hst := Hst.out.step bk
      have y4 := I4.out.keep bk
      have hsb : ∀ w', Below w5.heap.size w5 w' → Calls Try.prog 13 #[.slice a4 E.length c4, .slice a5 E.length c5] w' fun e w'' => e = .returned (.bool true) ∧ Below w'.heap.size w' w'' := fun w' hb => (SameBytes_yes (y4.keep hb) (y5.keep hb) rfl).mono fun _ w'' h => ⟨h.1, by obtain ⟨-, n, rfl⟩ := h; exact below_drawn w' n⟩
      clear o5 bk Hst Hre I4 y4 y5
      have Hsb := Lib.hid hsb; clear hsb
      have hcx := (Hx.out.recs.keep hst.bel).at hjl
      rw [← HE.out] at hcx
      have x0 := hcx 0 _ rfl
      have x1 := hcx 1 _ rfl
      have x2 := hcx 2 _ rfl
      have x3 := hcx 3 _ rfl
      have x4 := hcx 4 _ rfl
      have x5 := hcx 5 _ rfl
      have x6 := hcx 6 _ rfl
      have x7 := hcx 7 _ rfl
      have x8 := hcx 8 _ rfl
      have x9 := hcx 9 _ rfl
      have x10 := hcx 10 _ rfl
      simp only [rcF, Nat.add_zero] at x0 x1 x2 x3 x4 x5 x6 x7 x8 x9 x10
      clear hcx
      replace x0 := cell_regrown x0
      replace x1 := cell_regrown x1
      replace x2 := cell_regrown x2
      replace x3 := cell_regrown x3
      replace x4 := cell_regrown x4
      replace x5 := cell_regrown x5
      replace x6 := cell_regrown x6
      replace x7 := cell_regrown x7
      replace x8 := cell_regrown x8
      replace x9 := cell_regrown x9
      replace x10 := cell_regrown x10
      have Hst := Lib.hid hst; clear hst
      cases B with
      | false =>
        go_wp2_with fail
        refine wp_region_quiet_below (by kernel_rfl) (by kernel_rfl) ?_
        repeat (go_big_quiet_step ((first | (go_at_call 10; exact Calls.regrown_of (Hri.out _)) | (go_at_call 21; exact Calls.regrown_of (Hrr.out _)) | (go_at_call 13; exact Calls.regrown_of (Hsb.out _ (below_regrown _ _ _))))))
        refine wpQuiet_nil ?_
        intro wq hwq
        have bk : Below w5.heap.size w5 wq := by obtain ⟨q, rfl⟩ := hwq; exact below_regrown _ _ _
        have hst := Hst.out.step bk
        clear Hst bk hwq Hsb Hri Hrr x0 x1 x2 x3 x4 x5 x6 x7 x8 x9 x10
        have Hst := Lib.hid hst; clear hst
        go_wp2_with fail
        go_roundw
        case rel => exact ⟨j + 1, by omega, by go_num, Hst.out⟩
        case measure => simp [intOf]; omega
      | true =>
        go_wp2_with fail
        refine wp_region_quiet_below (by kernel_rfl) (by kernel_rfl) ?_
        repeat (go_big_quiet_step ((first | (go_at_call 10; exact Calls.regrown_of (Hri.out _)) | (go_at_call 21; exact Calls.regrown_of (Hrr.out _)) | (go_at_call 13; exact Calls.regrown_of (Hsb.out _ (below_regrown _ _ _))))))
        refine wpQuiet_nil ?_
        intro wq hwq
        have bk : Below w5.heap.size w5 wq := by obtain ⟨q, rfl⟩ := hwq; exact below_regrown _ _ _
        have hst := Hst.out.step bk
        clear Hst bk hwq Hsb Hri Hrr x0 x1 x2 x3 x4 x5 x6 x7 x8 x9 x10
        have Hst := Lib.hid hst; clear hst
        go_wp2_with fail
        go_roundw
        case rel => exact ⟨j + 1, by omega, by go_num, Hst.out⟩
        case measure => simp [intOf]; omega
    · obtain rfl : j = L := by omega
      have heq := fun w => rc_eql w ⟨k, t, m, k0, k1, k2, k3, ot, o, nt, n⟩ ⟨k, t, m, k0, k1, k2, k3, ot, o, nt, n⟩
      have hgd := fun x y w => rc_guard .eql x y ⟨k, t, m, k0, k1, k2, k3, ot, o, nt, n⟩ ⟨k, t, m, k0, k1, k2, k3, ot, o, nt, n⟩ w
      simp only [Rc.cells, decide_true] at heq hgd
      have q0 : wo.cell? ⟨g6, 0, none⟩ = some (.int .i64 k) := cells_at hst.r6 0
      have s0 : wo.cell? ⟨g8, 0, none⟩ = some (.int .i64 k) := cells_at hst.r8 0
      have q1 : wo.cell? ⟨g6, 1, none⟩ = some (.int .i64 t) := cells_at hst.r6 1
      have s1 : wo.cell? ⟨g8, 1, none⟩ = some (.int .i64 t) := cells_at hst.r8 1
      have q2 : wo.cell? ⟨g6, 2, none⟩ = some (.int .u16 m) := cells_at hst.r6 2
      have s2 : wo.cell? ⟨g8, 2, none⟩ = some (.int .u16 m) := cells_at hst.r8 2
      have q3 : wo.cell? ⟨g6, 3, none⟩ = some (.int .u8 k0) := cells_at hst.r6 3
      have s3 : wo.cell? ⟨g8, 3, none⟩ = some (.int .u8 k0) := cells_at hst.r8 3
      have q4 : wo.cell? ⟨g6, 4, none⟩ = some (.int .u8 k1) := cells_at hst.r6 4
      have s4 : wo.cell? ⟨g8, 4, none⟩ = some (.int .u8 k1) := cells_at hst.r8 4
      have q5 : wo.cell? ⟨g6, 5, none⟩ = some (.int .u8 k2) := cells_at hst.r6 5
      have s5 : wo.cell? ⟨g8, 5, none⟩ = some (.int .u8 k2) := cells_at hst.r8 5
      have q6 : wo.cell? ⟨g6, 6, none⟩ = some (.int .u8 k3) := cells_at hst.r6 6
      have s6 : wo.cell? ⟨g8, 6, none⟩ = some (.int .u8 k3) := cells_at hst.r8 6
      have q7 : wo.cell? ⟨g6, 7, none⟩ = some (.bool ot) := cells_at hst.r6 7
      have s7 : wo.cell? ⟨g8, 7, none⟩ = some (.bool ot) := cells_at hst.r8 7
      have q8 : wo.cell? ⟨g6, 8, none⟩ = some (.int .i64 o) := cells_at hst.r6 8
      have s8 : wo.cell? ⟨g8, 8, none⟩ = some (.int .i64 o) := cells_at hst.r8 8
      have q9 : wo.cell? ⟨g6, 9, none⟩ = some (.bool nt) := cells_at hst.r6 9
      have s9 : wo.cell? ⟨g8, 9, none⟩ = some (.bool nt) := cells_at hst.r8 9
      have q10 : wo.cell? ⟨g6, 10, none⟩ = some (.int .i64 n) := cells_at hst.r6 10
      have s10 : wo.cell? ⟨g8, 10, none⟩ = some (.int .i64 n) := cells_at hst.r8 10
      have hsr := SameRecs_calls hst.xs hst.ys rfl
      have hsp := fun w' (hb : Below wo.heap.size wo w') => SameBytes_yes (hst.p.keep hb) (hst.q.keep hb) rfl
      have hyo := fun w' (hb : Below wo.heap.size wo w') => SameBytes_yes (hst.own.keep hb) (Hy.out.ints.keep (hst.bel.trans (hb.mono hst.bel.size))) rfl
      have Hst := Lib.hid hst; clear hst
      have Hsr := Lib.hid hsr; clear hsr
      have Hsp := Lib.hid hsp; clear hsp
      have Hyo := Lib.hid hyo; clear hyo
      have z1 : ((N : Int) == (N : Int)) = true := by simp
      have z2 : ((K : Int) == (K : Int)) = true := by simp
      cases R with
      | false =>
        go_wp2_with fail
        clear q0 s0 q1 s1 q2 s2 q3 s3 q4 s4 q5 s5 q6 s6 q7 s7 q8 s8 q9 s9 q10 s10 heq hgd
        refine Hsr.out.mono ?_
        rintro e wB ⟨rfl, nB, hwB⟩
        have bB : Below wo.heap.size wo wB := by rw [hwB]; exact below_drawn wo nB
        clear hwB
        have BB := Lib.hid bB; clear bB
        go_wp2_with fail
        refine (Hsp.out _ BB.out).mono ?_
        rintro e wC ⟨rfl, nC, hwC⟩
        have bC := BB.out.trans ((show Below wB.heap.size wB wC by rw [hwC]; exact below_drawn wB nC).mono BB.out.size)
        clear hwC
        have BC := Lib.hid bC; clear bC
        go_wp2_with fail
        refine (Hyo.out _ BC.out).mono ?_
        rintro e wD ⟨rfl, nD, hwD⟩
        have bD := BC.out.trans ((show Below wC.heap.size wC wD by rw [hwD]; exact below_drawn wC nD).mono BC.out.size)
        clear hwD
        have hfin := Hst.out.bel.trans (bD.mono Hst.out.bel.size)
        have Hfin := Lib.hid hfin; clear hfin bD
        go_wp2_with fail
        go_ret
        exact ⟨rfl, Hfin.out⟩
      | true =>
        go_wp2_with fail
        clear q0 s0 q1 s1 q2 s2 q3 s3 q4 s4 q5 s5 q6 s6 q7 s7 q8 s8 q9 s9 q10 s10 heq hgd
        refine Hsr.out.mono ?_
        rintro e wB ⟨rfl, nB, hwB⟩
        have bB : Below wo.heap.size wo wB := by rw [hwB]; exact below_drawn wo nB
        clear hwB
        have BB := Lib.hid bB; clear bB
        go_wp2_with fail
        refine (Hsp.out _ BB.out).mono ?_
        rintro e wC ⟨rfl, nC, hwC⟩
        have bC := BB.out.trans ((show Below wB.heap.size wB wC by rw [hwC]; exact below_drawn wB nC).mono BB.out.size)
        clear hwC
        have BC := Lib.hid bC; clear bC
        go_wp2_with fail
        refine (Hyo.out _ BC.out).mono ?_
        rintro e wD ⟨rfl, nD, hwD⟩
        have bD := BC.out.trans ((show Below wC.heap.size wC wD by rw [hwD]; exact below_drawn wC nD).mono BC.out.size)
        clear hwD
        have hfin := Hst.out.bel.trans (bD.mono Hst.out.bel.size)
        have Hfin := Lib.hid hfin; clear hfin bD
        go_wp2_with fail
        go_ret
        exact ⟨rfl, Hfin.out⟩
end Go.Proofs.Ytiaocfeafkgbaaa
