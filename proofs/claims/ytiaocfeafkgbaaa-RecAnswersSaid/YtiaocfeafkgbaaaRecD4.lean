/- The document's Encode. -/
import Derived.Test.YtiaocfeafkgbaaaRecD2
import Derived.Test.YtiaocfeafkgbaaaPkF
namespace Go.Proofs.Ytiaocfeafkgbaaa
open Go.RowKit

theorem head3 {k t : Int} (hk : 1 ≤ k ∧ k ≤ 8) (ht : 0 ≤ t ∧ t ≤ 1048576) : bytesZ 3 (k - 1 + 8 * t).toNat = [(k - 1 + 8 * t) % 256, (k - 1 + 8 * t) / 256 % 256, (k - 1 + 8 * t) / 65536] := by
  show [(((k - 1 + 8 * t).toNat % 256 : Nat) : Int), (((k - 1 + 8 * t).toNat / 256 % 256 : Nat) : Int), (((k - 1 + 8 * t).toNat / 256 / 256 % 256 : Nat) : Int)] = _
  rw [List.cons.injEq, List.cons.injEq, List.cons.injEq]
  refine ⟨by omega, by omega, by omega, rfl⟩
theorem two16 {m : Int} (hm : 0 ≤ m ∧ m ≤ 65535) : bytesZ 2 m.toNat = [m % 256, m / 256] := by
  show [((m.toNat % 256 : Nat) : Int), ((m.toNat / 256 % 256 : Nat) : Int)] = _
  rw [List.cons.injEq, List.cons.injEq]
  refine ⟨by omega, by omega, rfl⟩
theorem own_alloc {w : World} {B : Nat} {E : TypeId} {C : Array Value} (zs : List Int) (hC : C = (zs.map (Value.int .u8)).toArray) {n : Nat} (hn : zs.length = n) (hm : n < 1000) (hB : B ≤ w.heap.size) (hf : ∀ z ∈ zs, 0 ≤ z ∧ z ≤ 255) :
    Own (w.alloc (.cells C E)) B E .u8 (.slice (some ⟨w.heap.size, 0, none⟩) n n) zs := by
  subst hC hn
  refine ⟨⟨by rw [List.length_map, Nat.mul_one], .inr ⟨w.heap.size, zs.length, (zs.map (Value.int .u8)).toArray, rfl, hB, heap_alloc_new w _, by simp, by unfold maxLen; omega, by simp, by rw [List.take_of_length_le (by simp)]⟩⟩, fun z hz => wf_u8' (hf z hz)⟩
set_option maxHeartbeats 8000000 in
theorem REncode_calls {w : World} (r : Rc) (hok : r.ok) : Calls Try.prog 20 #[.agg r.cells.toArray] w fun e w' => ∃ v, e = .returned (.tuple #[v, .bool (rightRc r)]) ∧ Own w' w.heap.size 5 .u8 v (if rightRc r = true then enc r else []) ∧ Below w.heap.size w w' := by
  have hri := fun w : World => RRight_calls (w := w) r hok.2.2.1.1
  have hb := (Below.refl w.heap.size w).alloc (Nat.le_refl _) (.cells r.cells.toArray 34)
  have z := heap_alloc_new w (.cells r.cells.toArray 34)
  obtain ⟨w1, hw1⟩ : ∃ w1, w1 = w.alloc (.cells r.cells.toArray 34) := ⟨_, rfl⟩
  rw [← hw1] at hb z
  have hb1 := Below.refl w1.heap.size w1
  have B1 := Lib.hid hb; clear hb
  have hb := hb1; clear hb1
  obtain ⟨E, hE⟩ : ∃ E, E = if rightRc r = true then enc r else [] := ⟨_, rfl⟩
  rw [← hE]
  have Hb := Lib.hid hb; clear hb
  have Z1 := Lib.hid z
  have Z := Lib.hid z; clear z
  cases hr : rightRc r with
  | false =>
    rw [hr] at hri hE
    rw [if_neg (by decide)] at hE
    subst hE
    obtain ⟨k, t, m, k0, k1, k2, k3, ot, o, nt, n⟩ := r
    simp only [Rc.cells] at hri Z Z1 hw1 ⊢
    have Hri := Lib.hid hri; clear hri hr hok
    have y0 := cells_at Z.out 0
    have y1 := cells_at Z.out 1
    have y2 := cells_at Z.out 2
    have y3 := cells_at Z.out 3
    have y4 := cells_at Z.out 4
    have y5 := cells_at Z.out 5
    have y6 := cells_at Z.out 6
    have y7 := cells_at Z.out 7
    have y8 := cells_at Z.out 8
    have y9 := cells_at Z.out 9
    have y10 := cells_at Z.out 10
    go_enter Try.func20, Try.ntmps20
    go_wp2_with fail
    rw [← hw1]
    refine (Hri.out w1).mono ?_
    rintro e w2 ⟨rfl, bk⟩
    have hb := Hb.out.trans (bk.mono Hb.out.size)
    clear Hb bk
    have Hb := Lib.hid hb; clear hb
    go_wp2
    go_ret2
    exact ⟨_, rfl, own_nil _ _ _ _, B1.out.trans (Hb.out.mono B1.out.size)⟩
  | true =>
    rw [hr] at hri hE
    rw [if_pos rfl] at hE
    have hR : RightRc r := of_decide_eq_true hr
    obtain ⟨-, ht0, ht1⟩ := head_lt hR
    have hk := hR.1
    have hfl := (flags_parts r).1
    have hfd : flagsS r = bitN r.ot + 2 * bitN r.nt + 4 * ((smallS r.ot r.o).length - 1) + 32 * ((smallS r.nt r.n).length - 1) := rfl
    have hh := head3 hk ⟨ht0, ht1⟩
    have hE2 : E = bytesZ 3 (r.kind - 1 + 8 * r.tx).toNat ++ bodyS r := hE
    rw [hh] at hE2
    have hbody : bodyS r = if maskedK r.kind then bytesZ 2 r.mask.toNat else if keyedK r.kind then [r.k0, r.k1, r.k2, r.k3, (flagsS r : Int)] ++ smallS r.ot r.o ++ smallS r.nt r.n else [] := rfl
    rw [hbody] at hE2
    clear hE hbody hh hR hr
    generalize flagsS r = FL at *
    obtain ⟨-, -, ok3, ok4, ok5, ok6, ok7, ok8, ok9⟩ := hok
    obtain ⟨k, t, m, k0, k1, k2, k3, ot, o, nt, n⟩ := r
    simp only at hE2 hfd ok3 ok4 ok5 ok6 ok7 ok8 ok9 hk ht0 ht1
    simp only [Rc.cells] at hri Z Z1 hw1 ⊢
    have hs1 := fun w : World => Rsmall_calls (w := w) ok8.1 ok8.2
    have hs2 := fun w : World => Rsmall_calls (w := w) ok9.1 ok9.2
    have hl1 := small_len ot o
    have hl2 := small_len nt n
    have hp1 := small_pos o
    have hp2 := small_pos n
    have hu3 : ∀ z ∈ [(k - 1 + 8 * t) % 256, (k - 1 + 8 * t) / 256 % 256, (k - 1 + 8 * t) / 65536], 0 ≤ z ∧ z ≤ 255 := fun z hz => by
      simp only [List.mem_cons, List.not_mem_nil, or_false] at hz
      rcases hz with rfl | rfl | rfl <;> omega
    have hum : ∀ z ∈ [m % 256, m / 256], 0 ≤ z ∧ z ≤ 255 := fun z hz => by
      simp only [List.mem_cons, List.not_mem_nil, or_false] at hz
      rcases hz with rfl | rfl <;> omega
    have huk : ∀ z ∈ [k0, k1, k2, k3], 0 ≤ z ∧ z ≤ 255 := fun z hz => by
      simp only [List.mem_cons, List.not_mem_nil, or_false] at hz
      rcases hz with rfl | rfl | rfl | rfl <;> assumption
    have ho3 := fun w' (h : w1.heap.size ≤ w'.heap.size) => own_alloc (w := w') (n := 3) (B := w1.heap.size) (E := 5) (C := #[.int .u8 ((k - 1 + 8 * t) % 256), .int .u8 ((k - 1 + 8 * t) / 256 % 256), .int .u8 ((k - 1 + 8 * t) / 65536)]) [(k - 1 + 8 * t) % 256, (k - 1 + 8 * t) / 256 % 256, (k - 1 + 8 * t) / 65536] rfl rfl (by show 3 < 1000; omega) h hu3
    have him := fun w' => ints_alloc (w := w') (n := 2) (k := .u8) (E := 5) (C := #[.int .u8 (m % 256), .int .u8 (m / 256)]) [m % 256, m / 256] rfl rfl (by show 2 ≤ 1000; omega) fun z hz => wf_u8' (hum z hz)
    have hik := fun w' => ints_alloc (w := w') (n := 4) (k := .u8) (E := 5) (C := #[.int .u8 k0, .int .u8 k1, .int .u8 k2, .int .u8 k3]) [k0, k1, k2, k3] rfl rfl (by show 4 ≤ 1000; omega) fun z hz => wf_u8' (huk z hz)
    have h2m := two16 ok3
    have HE := Lib.hid hE2; clear hE2
    have Hfd := Lib.hid hfd; clear hfd
    have Hs1 := Lib.hid hs1; clear hs1
    have Hs2 := Lib.hid hs2; clear hs2
    have Ho3 := Lib.hid ho3; clear ho3
    have Him := Lib.hid him; clear him
    have Hik := Lib.hid hik; clear hik
    have H2m := Lib.hid h2m; clear h2m
    have Hfl := Lib.hid hfl; clear hfl
    have Hl1 := Lib.hid hl1; clear hl1
    have Hl2 := Lib.hid hl2; clear hl2
    have Hp1 := Lib.hid hp1; clear hp1
    have Hp2 := Lib.hid hp2; clear hp2
    have Hri := Lib.hid hri; clear hri hu3 hum huk
    clear ok4 ok5 ok6 ok7 ok8 ok9
    have y0 := cells_at Z.out 0
    have y1 := cells_at Z.out 1
    have y2 := cells_at Z.out 2
    have y3 := cells_at Z.out 3
    have y4 := cells_at Z.out 4
    have y5 := cells_at Z.out 5
    have y6 := cells_at Z.out 6
    have y7 := cells_at Z.out 7
    have y8 := cells_at Z.out 8
    have y9 := cells_at Z.out 9
    have y10 := cells_at Z.out 10
    go_enter Try.func20, Try.ntmps20
    go_wp2_with fail
    rw [← hw1]
    refine (Hri.out w1).mono ?_
    rintro e w2 ⟨rfl, bk⟩
    clear hw1 y0 y1 y2 y3 y4 y5 y6 y7 y8 y9 y10
    have hb := Hb.out.trans (bk.mono Hb.out.size)
    have z := (bk.block _ (Array.getElem?_eq_some_iff.1 Z.out).1).trans Z.out
    clear Hb bk Z
    have Hb := Lib.hid hb; clear hb
    have Z := Lib.hid z; clear z
    have y0 := cells_at Z.out 0
    have y1 := cells_at Z.out 1
    have y2 := cells_at Z.out 2
    have o3 := Ho3.out w2 Hb.out.size
    have b3 := (Below.refl w2.heap.size w2).alloc (Nat.le_refl _) (.cells #[.int .u8 ((k - 1 + 8 * t) % 256), .int .u8 ((k - 1 + 8 * t) / 256 % 256), .int .u8 ((k - 1 + 8 * t) / 65536)] 5)
    obtain ⟨w3, hw3⟩ : ∃ w3, w3 = w2.alloc (.cells #[.int .u8 ((k - 1 + 8 * t) % 256), .int .u8 ((k - 1 + 8 * t) / 256 % 256), .int .u8 ((k - 1 + 8 * t) / 65536)] 5) := ⟨_, rfl⟩
    have hs3 : w3.heap.size = w2.heap.size + 1 := by rw [hw3, World.size_alloc]
    have S3 := Lib.hid hs3; clear hs3
    rw [← hw3] at o3 b3
    have hb := Hb.out.trans (b3.mono Hb.out.size)
    have z := (b3.block _ (Array.getElem?_eq_some_iff.1 Z.out).1).trans Z.out
    clear Hb Z b3
    have Hb := Lib.hid hb; clear hb
    have Z := Lib.hid z; clear z
    have O3 := Lib.hid o3; clear o3
    have x0 := cells_at Z.out 0
    have x2 := cells_at Z.out 2
    rw [hw3] at x0 x2
    rcases (by omega : (k = 2 ∨ k = 8) ∨ (k = 1 ∨ k = 7) ∨ (3 ≤ k ∧ k ≤ 6)) with hm | hy | hp
    · rcases hm with hm | hm
      · have e2 : (k == 2) = true := by simpa using hm
        have hq16 : IntKind.u16.wrap (m.tdiv 256) = m / 256 := by rw [Int.tdiv_eq_ediv_of_nonneg ok3.1, IntKind.wrap_u16]; omega
        have hE := HE.out
        rw [if_pos (by unfold maskedK; omega), H2m.out] at hE
        clear HE hm
        have HE := Lib.hid hE; clear hE
        go_wp2_with (with_reducible refine stop_builtin .append ?_)
        refine unpark ?_
        rw [← hw3]
        clear hw3 x0 x2 y0 y1 y2 hq16
        have i4 := Him.out w3
        rw [S3.out] at i4
        have b4 := (Below.refl w3.heap.size w3).alloc (Nat.le_refl _) (.cells #[.int .u8 (m % 256), .int .u8 (m / 256)] 5)
        generalize w3.alloc (.cells #[.int .u8 (m % 256), .int .u8 (m / 256)] 5) = w4 at *
        have o4 := O3.out.below b4
        have hb := Hb.out.trans (b4.mono Hb.out.size)
        clear Hb O3 b4
        have Hb := Lib.hid hb; clear hb
        refine wpList_append_ints _ rfl _ _ 25 rfl .u8 w1.heap.size 5 (.int .u8 0) 1 Try.underlying25 Try.infoU8 rfl _ _ rfl o4 _ 2 _ _ rfl i4 (by simp) (by decide) Hb.out.size ?_
        intro v5 w5 o5 g5 _
        have hb := Hb.out.grown g5 Hb.out.size (fun k hk => (o4.block k hk).1)
        rw [← HE.out] at o5
        clear Hb g5 i4 o4
        have Hb := Lib.hid hb; clear hb
        have O5 := Lib.hid o5; clear o5
        go_wp2_with fail
        go_ret2
        exact ⟨_, rfl, O5.out.mono B1.out.size, B1.out.trans (Hb.out.mono B1.out.size)⟩
      · have e2 : (k == 2) = false := by simp; omega
        have e8 : (k == 8) = true := by simpa using hm
        have hq16 : IntKind.u16.wrap (m.tdiv 256) = m / 256 := by rw [Int.tdiv_eq_ediv_of_nonneg ok3.1, IntKind.wrap_u16]; omega
        have hE := HE.out
        rw [if_pos (by unfold maskedK; omega), H2m.out] at hE
        clear HE hm
        have HE := Lib.hid hE; clear hE
        go_wp2_with (with_reducible refine stop_builtin .append ?_)
        refine unpark ?_
        rw [← hw3]
        clear hw3 x0 x2 y0 y1 y2 hq16
        have i4 := Him.out w3
        rw [S3.out] at i4
        have b4 := (Below.refl w3.heap.size w3).alloc (Nat.le_refl _) (.cells #[.int .u8 (m % 256), .int .u8 (m / 256)] 5)
        generalize w3.alloc (.cells #[.int .u8 (m % 256), .int .u8 (m / 256)] 5) = w4 at *
        have o4 := O3.out.below b4
        have hb := Hb.out.trans (b4.mono Hb.out.size)
        clear Hb O3 b4
        have Hb := Lib.hid hb; clear hb
        refine wpList_append_ints _ rfl _ _ 25 rfl .u8 w1.heap.size 5 (.int .u8 0) 1 Try.underlying25 Try.infoU8 rfl _ _ rfl o4 _ 2 _ _ rfl i4 (by simp) (by decide) Hb.out.size ?_
        intro v5 w5 o5 g5 _
        have hb := Hb.out.grown g5 Hb.out.size (fun k hk => (o4.block k hk).1)
        rw [← HE.out] at o5
        clear Hb g5 i4 o4
        have Hb := Lib.hid hb; clear hb
        have O5 := Lib.hid o5; clear o5
        go_wp2_with fail
        go_ret2
        exact ⟨_, rfl, O5.out.mono B1.out.size, B1.out.trans (Hb.out.mono B1.out.size)⟩
    · rcases hy with hm | hm
      · cases ot with
        | false =>
          cases nt with
          | false =>
            rw [show smallS false o = [] from rfl] at Hfd HE
            rw [show smallS false n = [] from rfl] at Hfd HE
            have e2 : (k == 2) = false := by simp; omega
            have e8 : (k == 8) = false := by simp; omega
            have e1 : (k != 1) = false := by simpa using hm
            have hE := HE.out
            rw [if_neg (by unfold maskedK; omega), if_pos (by unfold keyedK; omega)] at hE
            clear HE hm
            have HE := Lib.hid hE; clear hE
            have x3 := cells_at Z.out 3
            have x4 := cells_at Z.out 4
            have x5 := cells_at Z.out 5
            have x6 := cells_at Z.out 6
            rw [hw3] at x3 x4 x5 x6
            go_wp2_with (with_reducible refine stop_builtin .append ?_)
            refine unpark ?_
            rw [← hw3]
            clear hw3 x0 x2 y0 y1 y2 x3 x4 x5 x6
            have i4 := Hik.out w3
            rw [S3.out] at i4
            have b4 := (Below.refl w3.heap.size w3).alloc (Nat.le_refl _) (.cells #[.int .u8 k0, .int .u8 k1, .int .u8 k2, .int .u8 k3] 5)
            generalize w3.alloc (.cells #[.int .u8 k0, .int .u8 k1, .int .u8 k2, .int .u8 k3] 5) = w4 at *
            have o4 := O3.out.below b4
            have hb := Hb.out.trans (b4.mono Hb.out.size)
            clear Hb O3 b4
            have Hb := Lib.hid hb; clear hb
            refine wpList_append_ints _ rfl _ _ 25 rfl .u8 w1.heap.size 5 (.int .u8 0) 1 Try.underlying25 Try.infoU8 rfl _ _ rfl o4 _ 4 _ _ rfl i4 (by simp) (by decide) Hb.out.size ?_
            intro v5 w5 o5 g5 _
            have hb := Hb.out.grown g5 Hb.out.size (fun k hk => (o4.block k hk).1)
            clear Hb g5 i4 o4
            have z := (hb.block _ (Array.getElem?_eq_some_iff.1 Z1.out).1).trans Z1.out
            clear Z
            have Z := Lib.hid z; clear z
            have Hb := Lib.hid hb; clear hb
            have t6 := own_empty w5 w5.heap.size 5 .u8 (Nat.le_refl _)
            have c6 := (Below.refl w5.heap.size w5).alloc (Nat.le_refl _) (.cells #[] 5)
            obtain ⟨w6, hw6⟩ : ∃ w6, w6 = w5.alloc (.cells #[] 5) := ⟨_, rfl⟩
            rw [← hw6] at t6 c6
            have s6 : w6.heap.size = w5.heap.size + 1 := by rw [hw6, World.size_alloc]
            have lt5 : ∀ k, v5.ownBlock = some k → k < w5.heap.size := fun k hk => (o5.block k hk).2
            have S6 := Lib.hid s6; clear s6
            have Lt5 := Lib.hid lt5; clear lt5
            have O5 := Lib.hid o5; clear o5
            have T := Lib.hid t6; clear t6
            have hz := (c6.block _ (Array.getElem?_eq_some_iff.1 Z.out).1).trans Z.out
            have x7 := cells_at hz 7
            have x8 := cells_at hz 8
            have x9 := cells_at hz 9
            have x10 := cells_at hz 10
            rw [hw6] at x7 x8 x9 x10
            clear hz
            have Hc := Lib.hid c6; clear c6

            go_wp2_with (with_reducible refine stop_builtin .append ?_)
            refine unpark ?_
            rw [← hw6]
            clear hw6
            clear x7 x8 x9 x10
            have hF : ((FL : Nat) : Int) = 0 := by
              have h : FL = 0 + 2 * 0 + 4 * (0 - 1) + 32 * (0 - 1) := Hfd.out
              omega
            have iF := ints_alloc (w := w6) (n := 1) (k := .u8) (E := 5) (C := #[.int .u8 (0)]) [0] rfl rfl (by decide) fun z hz => wf_u8' (by rw [List.mem_singleton] at hz; subst hz; omega)
            rw [S6.out] at iF
            have bF := (Below.refl w6.heap.size w6).alloc (Nat.le_refl _) (.cells #[.int .u8 (0)] 5)
            generalize w6.alloc (.cells #[.int .u8 (0)] 5) = wF at *
            have tF := T.out.below bF
            have cF := Hc.out.trans (bF.mono Hc.out.size)
            have oF := O5.out.below cF
            have dF := Hb.out.trans (cF.mono Hb.out.size)
            clear T Hc O5 Hb bF cF
            refine wpList_append_ints _ rfl _ _ 25 rfl .u8 w1.heap.size 5 (.int .u8 0) 1 Try.underlying25 Try.infoU8 rfl _ _ rfl oF _ 1 _ _ rfl iF (by simp) (by decide) dF.size ?_
            intro vA wA oA gA _
            have dA := dF.grown gA dF.size (fun k hk => (oF.block k hk).1)
            have tA := tF.keep fun g hg hl => gA.block g hl fun e => by
              have h1 := Lt5.out g e.symm
              have h2 := (tF.block g hg).1
              omega
            clear gA tF oF dF iF
            have OA := Lib.hid oA; clear oA
            have TA := Lib.hid tA; clear tA
            have DA := Lib.hid dA; clear dA
            have HF := Lib.hid hF; clear hF
            go_wp2_with (with_reducible refine stop_builtin .append ?_)
            refine unpark ?_
            have iT : Ints wA .u8 (some ⟨w5.heap.size, 0, none⟩) 0 0 [] := Ints.empty _ _ _ _ (by decide)
            refine wpList_append_ints _ rfl _ _ 25 rfl .u8 w1.heap.size 5 (.int .u8 0) 1 Try.underlying25 Try.infoU8 rfl _ _ rfl OA.out _ 0 _ _ rfl iT (by simp) (by decide) DA.out.size ?_
            intro vB wB oB gB _
            have dB := DA.out.grown gB DA.out.size (fun k hk => (OA.out.block k hk).1)
            have hEE := HE.out
            rw [HF.out] at hEE
            have hEq : [(k - 1 + 8 * t) % 256, (k - 1 + 8 * t) / 256 % 256, (k - 1 + 8 * t) / 65536] ++ [k0, k1, k2, k3] ++ [0] ++ (([] : List Int)) = E := by rw [hEE]; simp
            rw [hEq] at oB
            clear OA TA DA iT gB hEE hEq
            have OB := Lib.hid oB; clear oB
            have DB := Lib.hid dB; clear dB
            go_wp2_with fail
            go_ret2
            exact ⟨_, rfl, OB.out.mono B1.out.size, B1.out.trans (DB.out.mono B1.out.size)⟩
          | true =>
            rw [show smallS false o = [] from rfl] at Hfd HE
            obtain ⟨S2, hS2⟩ : ∃ S, S = smallS true n := ⟨_, rfl⟩
            rw [← hS2] at Hs2 Hfd HE Hl2 Hp2
            have HS2 := Lib.hid hS2; clear hS2
            have e2 : (k == 2) = false := by simp; omega
            have e8 : (k == 8) = false := by simp; omega
            have e1 : (k != 1) = false := by simpa using hm
            have hE := HE.out
            rw [if_neg (by unfold maskedK; omega), if_pos (by unfold keyedK; omega)] at hE
            clear HE hm
            have HE := Lib.hid hE; clear hE
            have x3 := cells_at Z.out 3
            have x4 := cells_at Z.out 4
            have x5 := cells_at Z.out 5
            have x6 := cells_at Z.out 6
            rw [hw3] at x3 x4 x5 x6
            go_wp2_with (with_reducible refine stop_builtin .append ?_)
            refine unpark ?_
            rw [← hw3]
            clear hw3 x0 x2 y0 y1 y2 x3 x4 x5 x6
            have i4 := Hik.out w3
            rw [S3.out] at i4
            have b4 := (Below.refl w3.heap.size w3).alloc (Nat.le_refl _) (.cells #[.int .u8 k0, .int .u8 k1, .int .u8 k2, .int .u8 k3] 5)
            generalize w3.alloc (.cells #[.int .u8 k0, .int .u8 k1, .int .u8 k2, .int .u8 k3] 5) = w4 at *
            have o4 := O3.out.below b4
            have hb := Hb.out.trans (b4.mono Hb.out.size)
            clear Hb O3 b4
            have Hb := Lib.hid hb; clear hb
            refine wpList_append_ints _ rfl _ _ 25 rfl .u8 w1.heap.size 5 (.int .u8 0) 1 Try.underlying25 Try.infoU8 rfl _ _ rfl o4 _ 4 _ _ rfl i4 (by simp) (by decide) Hb.out.size ?_
            intro v5 w5 o5 g5 _
            have hb := Hb.out.grown g5 Hb.out.size (fun k hk => (o4.block k hk).1)
            clear Hb g5 i4 o4
            have z := (hb.block _ (Array.getElem?_eq_some_iff.1 Z1.out).1).trans Z1.out
            clear Z
            have Z := Lib.hid z; clear z
            have Hb := Lib.hid hb; clear hb
            have t6 := own_empty w5 w5.heap.size 5 .u8 (Nat.le_refl _)
            have c6 := (Below.refl w5.heap.size w5).alloc (Nat.le_refl _) (.cells #[] 5)
            obtain ⟨w6, hw6⟩ : ∃ w6, w6 = w5.alloc (.cells #[] 5) := ⟨_, rfl⟩
            rw [← hw6] at t6 c6
            have s6 : w6.heap.size = w5.heap.size + 1 := by rw [hw6, World.size_alloc]
            have lt5 : ∀ k, v5.ownBlock = some k → k < w5.heap.size := fun k hk => (o5.block k hk).2
            have S6 := Lib.hid s6; clear s6
            have Lt5 := Lib.hid lt5; clear lt5
            have O5 := Lib.hid o5; clear o5
            have T := Lib.hid t6; clear t6
            have hz := (c6.block _ (Array.getElem?_eq_some_iff.1 Z.out).1).trans Z.out
            have x7 := cells_at hz 7
            have x8 := cells_at hz 8
            have x9 := cells_at hz 9
            have x10 := cells_at hz 10
            rw [hw6] at x7 x8 x9 x10
            clear hz
            have Hc := Lib.hid c6; clear c6

            go_wp2_with fail
            rw [← hw6]
            clear hw6
            clear x7 x8 x9 x10
            refine (Hs2.out w6).mono ?_
            rintro e w7 ⟨v7, rfl, s7, b7⟩
            have t7 := T.out.below b7
            have c7 := Hc.out.trans (b7.mono Hc.out.size)
            clear T Hc b7
            obtain ⟨a7, q7, rfl, i7, -⟩ := s7.ints
            clear s7
            obtain ⟨LS2, hLS2⟩ : ∃ L, L = S2.length := ⟨_, rfl⟩
            rw [← hLS2] at Hl2 Hp2 Hfd i7 ⊢
            have hlS2 := Hl2.out
            have hpS2 := Hp2.out
            have HLS2 := Lib.hid hLS2; clear hLS2
            go_wp2_with (with_reducible refine stop_builtin .append ?_)
            refine unpark ?_
            refine wpList_append_ints _ rfl _ _ 25 rfl .u8 w5.heap.size 5 (.int .u8 0) 1 Try.underlying25 Try.infoU8 rfl _ _ rfl t7 _ LS2 _ _ rfl i7 (by rw [List.length_nil]; omega) (by decide) c7.size ?_
            intro v8 w8 t8 g8 _
            have c8 := c7.grown g8 c7.size (fun k hk => (t7.block k hk).1)
            clear t7 c7 i7 g8
            have hz := (c8.block _ (Array.getElem?_eq_some_iff.1 Z.out).1).trans Z.out
            have x9 := cells_at hz 9
            have x10 := cells_at hz 10
            clear hz
            have T := Lib.hid t8; clear t8
            have Hc := Lib.hid c8; clear c8

            go_wp2_with (with_reducible refine stop_builtin .append ?_)
            refine unpark ?_
            have hF : ((FL : Nat) : Int) = 2 + 32 * ((LS2 : Int) - 1) := by
              have h : FL = 0 + 2 * 1 + 4 * (0 - 1) + 32 * (LS2 - 1) := Hfd.out
              omega
            have iF := ints_alloc (w := w8) (n := 1) (k := .u8) (E := 5) (C := #[.int .u8 (2 + 32 * ((LS2 : Int) - 1))]) [2 + 32 * ((LS2 : Int) - 1)] rfl rfl (by decide) fun z hz => wf_u8' (by rw [List.mem_singleton] at hz; subst hz; omega)
            have bF := (Below.refl w8.heap.size w8).alloc (Nat.le_refl _) (.cells #[.int .u8 (2 + 32 * ((LS2 : Int) - 1))] 5)
            generalize w8.alloc (.cells #[.int .u8 (2 + 32 * ((LS2 : Int) - 1))] 5) = wF at *
            have tF := T.out.below bF
            have cF := Hc.out.trans (bF.mono Hc.out.size)
            have oF := O5.out.below cF
            have dF := Hb.out.trans (cF.mono Hb.out.size)
            clear T Hc O5 Hb bF cF
            refine wpList_append_ints _ rfl _ _ 25 rfl .u8 w1.heap.size 5 (.int .u8 0) 1 Try.underlying25 Try.infoU8 rfl _ _ rfl oF _ 1 _ _ rfl iF (by simp) (by decide) dF.size ?_
            intro vA wA oA gA _
            have dA := dF.grown gA dF.size (fun k hk => (oF.block k hk).1)
            have tA := tF.keep fun g hg hl => gA.block g hl fun e => by
              have h1 := Lt5.out g e.symm
              have h2 := (tF.block g hg).1
              omega
            clear gA tF oF dF iF
            have OA := Lib.hid oA; clear oA
            have TA := Lib.hid tA; clear tA
            have DA := Lib.hid dA; clear dA
            have HF := Lib.hid hF; clear hF
            go_wp2_with (with_reducible refine stop_builtin .append ?_)
            refine unpark ?_
            obtain ⟨aT, cT, rfl, iT, -⟩ := TA.out.ints
            refine wpList_append_ints _ rfl _ _ 25 rfl .u8 w1.heap.size 5 (.int .u8 0) 1 Try.underlying25 Try.infoU8 rfl _ _ rfl OA.out _ ([] ++ S2).length _ _ rfl iT (by simp only [List.length_append, List.length_cons, List.length_nil]; have : ([] ++ S2).length ≤ 100 := (by rw [List.nil_append, ← HLS2.out]; omega); simp only [List.length_append, List.length_nil] at this; omega) (by decide) DA.out.size ?_
            intro vB wB oB gB _
            have dB := DA.out.grown gB DA.out.size (fun k hk => (OA.out.block k hk).1)
            have hEE := HE.out
            rw [HF.out] at hEE
            have hEq : [(k - 1 + 8 * t) % 256, (k - 1 + 8 * t) / 256 % 256, (k - 1 + 8 * t) / 65536] ++ [k0, k1, k2, k3] ++ [2 + 32 * ((LS2 : Int) - 1)] ++ ([] ++ S2) = E := by rw [hEE]; simp
            rw [hEq] at oB
            clear OA TA DA iT gB hEE hEq
            have OB := Lib.hid oB; clear oB
            have DB := Lib.hid dB; clear dB
            go_wp2_with fail
            go_ret2
            exact ⟨_, rfl, OB.out.mono B1.out.size, B1.out.trans (DB.out.mono B1.out.size)⟩
        | true =>
          obtain ⟨S1, hS1⟩ : ∃ S, S = smallS true o := ⟨_, rfl⟩
          rw [← hS1] at Hs1 Hfd HE Hl1 Hp1
          have HS1 := Lib.hid hS1; clear hS1
          cases nt with
          | false =>
            rw [show smallS false n = [] from rfl] at Hfd HE
            have e2 : (k == 2) = false := by simp; omega
            have e8 : (k == 8) = false := by simp; omega
            have e1 : (k != 1) = false := by simpa using hm
            have hE := HE.out
            rw [if_neg (by unfold maskedK; omega), if_pos (by unfold keyedK; omega)] at hE
            clear HE hm
            have HE := Lib.hid hE; clear hE
            have x3 := cells_at Z.out 3
            have x4 := cells_at Z.out 4
            have x5 := cells_at Z.out 5
            have x6 := cells_at Z.out 6
            rw [hw3] at x3 x4 x5 x6
            go_wp2_with (with_reducible refine stop_builtin .append ?_)
            refine unpark ?_
            rw [← hw3]
            clear hw3 x0 x2 y0 y1 y2 x3 x4 x5 x6
            have i4 := Hik.out w3
            rw [S3.out] at i4
            have b4 := (Below.refl w3.heap.size w3).alloc (Nat.le_refl _) (.cells #[.int .u8 k0, .int .u8 k1, .int .u8 k2, .int .u8 k3] 5)
            generalize w3.alloc (.cells #[.int .u8 k0, .int .u8 k1, .int .u8 k2, .int .u8 k3] 5) = w4 at *
            have o4 := O3.out.below b4
            have hb := Hb.out.trans (b4.mono Hb.out.size)
            clear Hb O3 b4
            have Hb := Lib.hid hb; clear hb
            refine wpList_append_ints _ rfl _ _ 25 rfl .u8 w1.heap.size 5 (.int .u8 0) 1 Try.underlying25 Try.infoU8 rfl _ _ rfl o4 _ 4 _ _ rfl i4 (by simp) (by decide) Hb.out.size ?_
            intro v5 w5 o5 g5 _
            have hb := Hb.out.grown g5 Hb.out.size (fun k hk => (o4.block k hk).1)
            clear Hb g5 i4 o4
            have z := (hb.block _ (Array.getElem?_eq_some_iff.1 Z1.out).1).trans Z1.out
            clear Z
            have Z := Lib.hid z; clear z
            have Hb := Lib.hid hb; clear hb
            have t6 := own_empty w5 w5.heap.size 5 .u8 (Nat.le_refl _)
            have c6 := (Below.refl w5.heap.size w5).alloc (Nat.le_refl _) (.cells #[] 5)
            obtain ⟨w6, hw6⟩ : ∃ w6, w6 = w5.alloc (.cells #[] 5) := ⟨_, rfl⟩
            rw [← hw6] at t6 c6
            have s6 : w6.heap.size = w5.heap.size + 1 := by rw [hw6, World.size_alloc]
            have lt5 : ∀ k, v5.ownBlock = some k → k < w5.heap.size := fun k hk => (o5.block k hk).2
            have S6 := Lib.hid s6; clear s6
            have Lt5 := Lib.hid lt5; clear lt5
            have O5 := Lib.hid o5; clear o5
            have T := Lib.hid t6; clear t6
            have hz := (c6.block _ (Array.getElem?_eq_some_iff.1 Z.out).1).trans Z.out
            have x7 := cells_at hz 7
            have x8 := cells_at hz 8
            have x9 := cells_at hz 9
            have x10 := cells_at hz 10
            rw [hw6] at x7 x8 x9 x10
            clear hz
            have Hc := Lib.hid c6; clear c6

            go_wp2_with fail
            rw [← hw6]
            clear hw6
            clear x7 x8 x9 x10
            refine (Hs1.out w6).mono ?_
            rintro e w7 ⟨v7, rfl, s7, b7⟩
            have t7 := T.out.below b7
            have c7 := Hc.out.trans (b7.mono Hc.out.size)
            clear T Hc b7
            obtain ⟨a7, q7, rfl, i7, -⟩ := s7.ints
            clear s7
            obtain ⟨LS1, hLS1⟩ : ∃ L, L = S1.length := ⟨_, rfl⟩
            rw [← hLS1] at Hl1 Hp1 Hfd i7 ⊢
            have hlS1 := Hl1.out
            have hpS1 := Hp1.out
            have HLS1 := Lib.hid hLS1; clear hLS1
            go_wp2_with (with_reducible refine stop_builtin .append ?_)
            refine unpark ?_
            refine wpList_append_ints _ rfl _ _ 25 rfl .u8 w5.heap.size 5 (.int .u8 0) 1 Try.underlying25 Try.infoU8 rfl _ _ rfl t7 _ LS1 _ _ rfl i7 (by rw [List.length_nil]; omega) (by decide) c7.size ?_
            intro v8 w8 t8 g8 _
            have c8 := c7.grown g8 c7.size (fun k hk => (t7.block k hk).1)
            clear t7 c7 i7 g8
            have hz := (c8.block _ (Array.getElem?_eq_some_iff.1 Z.out).1).trans Z.out
            have x9 := cells_at hz 9
            have x10 := cells_at hz 10
            clear hz
            have T := Lib.hid t8; clear t8
            have Hc := Lib.hid c8; clear c8

            go_wp2_with (with_reducible refine stop_builtin .append ?_)
            refine unpark ?_
            clear x9 x10
            have hF : ((FL : Nat) : Int) = 1 + 4 * ((LS1 : Int) - 1) := by
              have h : FL = 1 + 2 * 0 + 4 * (LS1 - 1) + 32 * (0 - 1) := Hfd.out
              omega
            have iF := ints_alloc (w := w8) (n := 1) (k := .u8) (E := 5) (C := #[.int .u8 (1 + 4 * ((LS1 : Int) - 1))]) [1 + 4 * ((LS1 : Int) - 1)] rfl rfl (by decide) fun z hz => wf_u8' (by rw [List.mem_singleton] at hz; subst hz; omega)
            have bF := (Below.refl w8.heap.size w8).alloc (Nat.le_refl _) (.cells #[.int .u8 (1 + 4 * ((LS1 : Int) - 1))] 5)
            generalize w8.alloc (.cells #[.int .u8 (1 + 4 * ((LS1 : Int) - 1))] 5) = wF at *
            have tF := T.out.below bF
            have cF := Hc.out.trans (bF.mono Hc.out.size)
            have oF := O5.out.below cF
            have dF := Hb.out.trans (cF.mono Hb.out.size)
            clear T Hc O5 Hb bF cF
            refine wpList_append_ints _ rfl _ _ 25 rfl .u8 w1.heap.size 5 (.int .u8 0) 1 Try.underlying25 Try.infoU8 rfl _ _ rfl oF _ 1 _ _ rfl iF (by simp) (by decide) dF.size ?_
            intro vA wA oA gA _
            have dA := dF.grown gA dF.size (fun k hk => (oF.block k hk).1)
            have tA := tF.keep fun g hg hl => gA.block g hl fun e => by
              have h1 := Lt5.out g e.symm
              have h2 := (tF.block g hg).1
              omega
            clear gA tF oF dF iF
            have OA := Lib.hid oA; clear oA
            have TA := Lib.hid tA; clear tA
            have DA := Lib.hid dA; clear dA
            have HF := Lib.hid hF; clear hF
            go_wp2_with (with_reducible refine stop_builtin .append ?_)
            refine unpark ?_
            obtain ⟨aT, cT, rfl, iT, -⟩ := TA.out.ints
            refine wpList_append_ints _ rfl _ _ 25 rfl .u8 w1.heap.size 5 (.int .u8 0) 1 Try.underlying25 Try.infoU8 rfl _ _ rfl OA.out _ ([] ++ S1).length _ _ rfl iT (by simp only [List.length_append, List.length_cons, List.length_nil]; have : ([] ++ S1).length ≤ 100 := (by rw [List.nil_append, ← HLS1.out]; omega); simp only [List.length_append, List.length_nil] at this; omega) (by decide) DA.out.size ?_
            intro vB wB oB gB _
            have dB := DA.out.grown gB DA.out.size (fun k hk => (OA.out.block k hk).1)
            have hEE := HE.out
            rw [HF.out] at hEE
            have hEq : [(k - 1 + 8 * t) % 256, (k - 1 + 8 * t) / 256 % 256, (k - 1 + 8 * t) / 65536] ++ [k0, k1, k2, k3] ++ [1 + 4 * ((LS1 : Int) - 1)] ++ ([] ++ S1) = E := by rw [hEE]; simp
            rw [hEq] at oB
            clear OA TA DA iT gB hEE hEq
            have OB := Lib.hid oB; clear oB
            have DB := Lib.hid dB; clear dB
            go_wp2_with fail
            go_ret2
            exact ⟨_, rfl, OB.out.mono B1.out.size, B1.out.trans (DB.out.mono B1.out.size)⟩
          | true =>
            obtain ⟨S2, hS2⟩ : ∃ S, S = smallS true n := ⟨_, rfl⟩
            rw [← hS2] at Hs2 Hfd HE Hl2 Hp2
            have HS2 := Lib.hid hS2; clear hS2
            have e2 : (k == 2) = false := by simp; omega
            have e8 : (k == 8) = false := by simp; omega
            have e1 : (k != 1) = false := by simpa using hm
            have hE := HE.out
            rw [if_neg (by unfold maskedK; omega), if_pos (by unfold keyedK; omega)] at hE
            clear HE hm
            have HE := Lib.hid hE; clear hE
            have x3 := cells_at Z.out 3
            have x4 := cells_at Z.out 4
            have x5 := cells_at Z.out 5
            have x6 := cells_at Z.out 6
            rw [hw3] at x3 x4 x5 x6
            go_wp2_with (with_reducible refine stop_builtin .append ?_)
            refine unpark ?_
            rw [← hw3]
            clear hw3 x0 x2 y0 y1 y2 x3 x4 x5 x6
            have i4 := Hik.out w3
            rw [S3.out] at i4
            have b4 := (Below.refl w3.heap.size w3).alloc (Nat.le_refl _) (.cells #[.int .u8 k0, .int .u8 k1, .int .u8 k2, .int .u8 k3] 5)
            generalize w3.alloc (.cells #[.int .u8 k0, .int .u8 k1, .int .u8 k2, .int .u8 k3] 5) = w4 at *
            have o4 := O3.out.below b4
            have hb := Hb.out.trans (b4.mono Hb.out.size)
            clear Hb O3 b4
            have Hb := Lib.hid hb; clear hb
            refine wpList_append_ints _ rfl _ _ 25 rfl .u8 w1.heap.size 5 (.int .u8 0) 1 Try.underlying25 Try.infoU8 rfl _ _ rfl o4 _ 4 _ _ rfl i4 (by simp) (by decide) Hb.out.size ?_
            intro v5 w5 o5 g5 _
            have hb := Hb.out.grown g5 Hb.out.size (fun k hk => (o4.block k hk).1)
            clear Hb g5 i4 o4
            have z := (hb.block _ (Array.getElem?_eq_some_iff.1 Z1.out).1).trans Z1.out
            clear Z
            have Z := Lib.hid z; clear z
            have Hb := Lib.hid hb; clear hb
            have t6 := own_empty w5 w5.heap.size 5 .u8 (Nat.le_refl _)
            have c6 := (Below.refl w5.heap.size w5).alloc (Nat.le_refl _) (.cells #[] 5)
            obtain ⟨w6, hw6⟩ : ∃ w6, w6 = w5.alloc (.cells #[] 5) := ⟨_, rfl⟩
            rw [← hw6] at t6 c6
            have s6 : w6.heap.size = w5.heap.size + 1 := by rw [hw6, World.size_alloc]
            have lt5 : ∀ k, v5.ownBlock = some k → k < w5.heap.size := fun k hk => (o5.block k hk).2
            have S6 := Lib.hid s6; clear s6
            have Lt5 := Lib.hid lt5; clear lt5
            have O5 := Lib.hid o5; clear o5
            have T := Lib.hid t6; clear t6
            have hz := (c6.block _ (Array.getElem?_eq_some_iff.1 Z.out).1).trans Z.out
            have x7 := cells_at hz 7
            have x8 := cells_at hz 8
            have x9 := cells_at hz 9
            have x10 := cells_at hz 10
            rw [hw6] at x7 x8 x9 x10
            clear hz
            have Hc := Lib.hid c6; clear c6

            go_wp2_with fail
            rw [← hw6]
            clear hw6
            clear x7 x8 x9 x10
            refine (Hs1.out w6).mono ?_
            rintro e w7 ⟨v7, rfl, s7, b7⟩
            have t7 := T.out.below b7
            have c7 := Hc.out.trans (b7.mono Hc.out.size)
            clear T Hc b7
            obtain ⟨a7, q7, rfl, i7, -⟩ := s7.ints
            clear s7
            obtain ⟨LS1, hLS1⟩ : ∃ L, L = S1.length := ⟨_, rfl⟩
            rw [← hLS1] at Hl1 Hp1 Hfd i7 ⊢
            have hlS1 := Hl1.out
            have hpS1 := Hp1.out
            have HLS1 := Lib.hid hLS1; clear hLS1
            go_wp2_with (with_reducible refine stop_builtin .append ?_)
            refine unpark ?_
            refine wpList_append_ints _ rfl _ _ 25 rfl .u8 w5.heap.size 5 (.int .u8 0) 1 Try.underlying25 Try.infoU8 rfl _ _ rfl t7 _ LS1 _ _ rfl i7 (by rw [List.length_nil]; omega) (by decide) c7.size ?_
            intro v8 w8 t8 g8 _
            have c8 := c7.grown g8 c7.size (fun k hk => (t7.block k hk).1)
            clear t7 c7 i7 g8
            have hz := (c8.block _ (Array.getElem?_eq_some_iff.1 Z.out).1).trans Z.out
            have x9 := cells_at hz 9
            have x10 := cells_at hz 10
            clear hz
            have T := Lib.hid t8; clear t8
            have Hc := Lib.hid c8; clear c8

            go_wp2_with fail
            clear x9 x10
            refine (Hs2.out w8).mono ?_
            rintro e w9 ⟨v9, rfl, s9, b9⟩
            have t9 := T.out.below b9
            have c9 := Hc.out.trans (b9.mono Hc.out.size)
            clear T Hc b9
            obtain ⟨a9, q9, rfl, i9, -⟩ := s9.ints
            clear s9
            obtain ⟨LS2, hLS2⟩ : ∃ L, L = S2.length := ⟨_, rfl⟩
            rw [← hLS2] at Hl2 Hp2 Hfd i9 ⊢
            have hlS2 := Hl2.out
            have hpS2 := Hp2.out
            have HLS2 := Lib.hid hLS2; clear hLS2
            go_wp2_with (with_reducible refine stop_builtin .append ?_)
            refine unpark ?_
            refine wpList_append_ints _ rfl _ _ 25 rfl .u8 w5.heap.size 5 (.int .u8 0) 1 Try.underlying25 Try.infoU8 rfl _ _ rfl t9 _ LS2 _ _ rfl i9 (by rw [List.nil_append, ← HLS1.out]; omega) (by decide) c9.size ?_
            intro v10 w10 t10 g10 _
            have c10 := c9.grown g10 c9.size (fun k hk => (t9.block k hk).1)
            clear t9 c9 i9 g10
            have hz := (c10.block _ (Array.getElem?_eq_some_iff.1 Z.out).1).trans Z.out
            clear hz
            have T := Lib.hid t10; clear t10
            have Hc := Lib.hid c10; clear c10

            go_wp2_with (with_reducible refine stop_builtin .append ?_)
            refine unpark ?_
            have hF : ((FL : Nat) : Int) = 1 + 4 * ((LS1 : Int) - 1) + (2 + 32 * ((LS2 : Int) - 1)) := by
              have h : FL = 1 + 2 * 1 + 4 * (LS1 - 1) + 32 * (LS2 - 1) := Hfd.out
              omega
            have iF := ints_alloc (w := w10) (n := 1) (k := .u8) (E := 5) (C := #[.int .u8 (1 + 4 * ((LS1 : Int) - 1) + (2 + 32 * ((LS2 : Int) - 1)))]) [1 + 4 * ((LS1 : Int) - 1) + (2 + 32 * ((LS2 : Int) - 1))] rfl rfl (by decide) fun z hz => wf_u8' (by rw [List.mem_singleton] at hz; subst hz; omega)
            have bF := (Below.refl w10.heap.size w10).alloc (Nat.le_refl _) (.cells #[.int .u8 (1 + 4 * ((LS1 : Int) - 1) + (2 + 32 * ((LS2 : Int) - 1)))] 5)
            generalize w10.alloc (.cells #[.int .u8 (1 + 4 * ((LS1 : Int) - 1) + (2 + 32 * ((LS2 : Int) - 1)))] 5) = wF at *
            have tF := T.out.below bF
            have cF := Hc.out.trans (bF.mono Hc.out.size)
            have oF := O5.out.below cF
            have dF := Hb.out.trans (cF.mono Hb.out.size)
            clear T Hc O5 Hb bF cF
            refine wpList_append_ints _ rfl _ _ 25 rfl .u8 w1.heap.size 5 (.int .u8 0) 1 Try.underlying25 Try.infoU8 rfl _ _ rfl oF _ 1 _ _ rfl iF (by simp) (by decide) dF.size ?_
            intro vA wA oA gA _
            have dA := dF.grown gA dF.size (fun k hk => (oF.block k hk).1)
            have tA := tF.keep fun g hg hl => gA.block g hl fun e => by
              have h1 := Lt5.out g e.symm
              have h2 := (tF.block g hg).1
              omega
            clear gA tF oF dF iF
            have OA := Lib.hid oA; clear oA
            have TA := Lib.hid tA; clear tA
            have DA := Lib.hid dA; clear dA
            have HF := Lib.hid hF; clear hF
            go_wp2_with (with_reducible refine stop_builtin .append ?_)
            refine unpark ?_
            obtain ⟨aT, cT, rfl, iT, -⟩ := TA.out.ints
            refine wpList_append_ints _ rfl _ _ 25 rfl .u8 w1.heap.size 5 (.int .u8 0) 1 Try.underlying25 Try.infoU8 rfl _ _ rfl OA.out _ ([] ++ S1 ++ S2).length _ _ rfl iT (by simp only [List.length_append, List.length_cons, List.length_nil]; have : ([] ++ S1 ++ S2).length ≤ 100 := (by rw [List.nil_append, List.length_append, ← HLS1.out, ← HLS2.out]; omega); simp only [List.length_append, List.length_nil] at this; omega) (by decide) DA.out.size ?_
            intro vB wB oB gB _
            have dB := DA.out.grown gB DA.out.size (fun k hk => (OA.out.block k hk).1)
            have hEE := HE.out
            rw [HF.out] at hEE
            have hEq : [(k - 1 + 8 * t) % 256, (k - 1 + 8 * t) / 256 % 256, (k - 1 + 8 * t) / 65536] ++ [k0, k1, k2, k3] ++ [1 + 4 * ((LS1 : Int) - 1) + (2 + 32 * ((LS2 : Int) - 1))] ++ ([] ++ S1 ++ S2) = E := by rw [hEE]; simp
            rw [hEq] at oB
            clear OA TA DA iT gB hEE hEq
            have OB := Lib.hid oB; clear oB
            have DB := Lib.hid dB; clear dB
            go_wp2_with fail
            go_ret2
            exact ⟨_, rfl, OB.out.mono B1.out.size, B1.out.trans (DB.out.mono B1.out.size)⟩
      · cases ot with
        | false =>
          cases nt with
          | false =>
            rw [show smallS false o = [] from rfl] at Hfd HE
            rw [show smallS false n = [] from rfl] at Hfd HE
            have e2 : (k == 2) = false := by simp; omega
            have e8 : (k == 8) = false := by simp; omega
            have e1 : (k != 1) = true := by simp; omega
            have e7 : (k != 7) = false := by simpa using hm
            have hE := HE.out
            rw [if_neg (by unfold maskedK; omega), if_pos (by unfold keyedK; omega)] at hE
            clear HE hm
            have HE := Lib.hid hE; clear hE
            have x3 := cells_at Z.out 3
            have x4 := cells_at Z.out 4
            have x5 := cells_at Z.out 5
            have x6 := cells_at Z.out 6
            rw [hw3] at x3 x4 x5 x6
            go_wp2_with (with_reducible refine stop_builtin .append ?_)
            refine unpark ?_
            rw [← hw3]
            clear hw3 x0 x2 y0 y1 y2 x3 x4 x5 x6
            have i4 := Hik.out w3
            rw [S3.out] at i4
            have b4 := (Below.refl w3.heap.size w3).alloc (Nat.le_refl _) (.cells #[.int .u8 k0, .int .u8 k1, .int .u8 k2, .int .u8 k3] 5)
            generalize w3.alloc (.cells #[.int .u8 k0, .int .u8 k1, .int .u8 k2, .int .u8 k3] 5) = w4 at *
            have o4 := O3.out.below b4
            have hb := Hb.out.trans (b4.mono Hb.out.size)
            clear Hb O3 b4
            have Hb := Lib.hid hb; clear hb
            refine wpList_append_ints _ rfl _ _ 25 rfl .u8 w1.heap.size 5 (.int .u8 0) 1 Try.underlying25 Try.infoU8 rfl _ _ rfl o4 _ 4 _ _ rfl i4 (by simp) (by decide) Hb.out.size ?_
            intro v5 w5 o5 g5 _
            have hb := Hb.out.grown g5 Hb.out.size (fun k hk => (o4.block k hk).1)
            clear Hb g5 i4 o4
            have z := (hb.block _ (Array.getElem?_eq_some_iff.1 Z1.out).1).trans Z1.out
            clear Z
            have Z := Lib.hid z; clear z
            have Hb := Lib.hid hb; clear hb
            have t6 := own_empty w5 w5.heap.size 5 .u8 (Nat.le_refl _)
            have c6 := (Below.refl w5.heap.size w5).alloc (Nat.le_refl _) (.cells #[] 5)
            obtain ⟨w6, hw6⟩ : ∃ w6, w6 = w5.alloc (.cells #[] 5) := ⟨_, rfl⟩
            rw [← hw6] at t6 c6
            have s6 : w6.heap.size = w5.heap.size + 1 := by rw [hw6, World.size_alloc]
            have lt5 : ∀ k, v5.ownBlock = some k → k < w5.heap.size := fun k hk => (o5.block k hk).2
            have S6 := Lib.hid s6; clear s6
            have Lt5 := Lib.hid lt5; clear lt5
            have O5 := Lib.hid o5; clear o5
            have T := Lib.hid t6; clear t6
            have hz := (c6.block _ (Array.getElem?_eq_some_iff.1 Z.out).1).trans Z.out
            have x7 := cells_at hz 7
            have x8 := cells_at hz 8
            have x9 := cells_at hz 9
            have x10 := cells_at hz 10
            rw [hw6] at x7 x8 x9 x10
            clear hz
            have Hc := Lib.hid c6; clear c6

            go_wp2_with (with_reducible refine stop_builtin .append ?_)
            refine unpark ?_
            rw [← hw6]
            clear hw6
            clear x7 x8 x9 x10
            have hF : ((FL : Nat) : Int) = 0 := by
              have h : FL = 0 + 2 * 0 + 4 * (0 - 1) + 32 * (0 - 1) := Hfd.out
              omega
            have iF := ints_alloc (w := w6) (n := 1) (k := .u8) (E := 5) (C := #[.int .u8 (0)]) [0] rfl rfl (by decide) fun z hz => wf_u8' (by rw [List.mem_singleton] at hz; subst hz; omega)
            rw [S6.out] at iF
            have bF := (Below.refl w6.heap.size w6).alloc (Nat.le_refl _) (.cells #[.int .u8 (0)] 5)
            generalize w6.alloc (.cells #[.int .u8 (0)] 5) = wF at *
            have tF := T.out.below bF
            have cF := Hc.out.trans (bF.mono Hc.out.size)
            have oF := O5.out.below cF
            have dF := Hb.out.trans (cF.mono Hb.out.size)
            clear T Hc O5 Hb bF cF
            refine wpList_append_ints _ rfl _ _ 25 rfl .u8 w1.heap.size 5 (.int .u8 0) 1 Try.underlying25 Try.infoU8 rfl _ _ rfl oF _ 1 _ _ rfl iF (by simp) (by decide) dF.size ?_
            intro vA wA oA gA _
            have dA := dF.grown gA dF.size (fun k hk => (oF.block k hk).1)
            have tA := tF.keep fun g hg hl => gA.block g hl fun e => by
              have h1 := Lt5.out g e.symm
              have h2 := (tF.block g hg).1
              omega
            clear gA tF oF dF iF
            have OA := Lib.hid oA; clear oA
            have TA := Lib.hid tA; clear tA
            have DA := Lib.hid dA; clear dA
            have HF := Lib.hid hF; clear hF
            go_wp2_with (with_reducible refine stop_builtin .append ?_)
            refine unpark ?_
            have iT : Ints wA .u8 (some ⟨w5.heap.size, 0, none⟩) 0 0 [] := Ints.empty _ _ _ _ (by decide)
            refine wpList_append_ints _ rfl _ _ 25 rfl .u8 w1.heap.size 5 (.int .u8 0) 1 Try.underlying25 Try.infoU8 rfl _ _ rfl OA.out _ 0 _ _ rfl iT (by simp) (by decide) DA.out.size ?_
            intro vB wB oB gB _
            have dB := DA.out.grown gB DA.out.size (fun k hk => (OA.out.block k hk).1)
            have hEE := HE.out
            rw [HF.out] at hEE
            have hEq : [(k - 1 + 8 * t) % 256, (k - 1 + 8 * t) / 256 % 256, (k - 1 + 8 * t) / 65536] ++ [k0, k1, k2, k3] ++ [0] ++ (([] : List Int)) = E := by rw [hEE]; simp
            rw [hEq] at oB
            clear OA TA DA iT gB hEE hEq
            have OB := Lib.hid oB; clear oB
            have DB := Lib.hid dB; clear dB
            go_wp2_with fail
            go_ret2
            exact ⟨_, rfl, OB.out.mono B1.out.size, B1.out.trans (DB.out.mono B1.out.size)⟩
          | true =>
            rw [show smallS false o = [] from rfl] at Hfd HE
            obtain ⟨S2, hS2⟩ : ∃ S, S = smallS true n := ⟨_, rfl⟩
            rw [← hS2] at Hs2 Hfd HE Hl2 Hp2
            have HS2 := Lib.hid hS2; clear hS2
            have e2 : (k == 2) = false := by simp; omega
            have e8 : (k == 8) = false := by simp; omega
            have e1 : (k != 1) = true := by simp; omega
            have e7 : (k != 7) = false := by simpa using hm
            have hE := HE.out
            rw [if_neg (by unfold maskedK; omega), if_pos (by unfold keyedK; omega)] at hE
            clear HE hm
            have HE := Lib.hid hE; clear hE
            have x3 := cells_at Z.out 3
            have x4 := cells_at Z.out 4
            have x5 := cells_at Z.out 5
            have x6 := cells_at Z.out 6
            rw [hw3] at x3 x4 x5 x6
            go_wp2_with (with_reducible refine stop_builtin .append ?_)
            refine unpark ?_
            rw [← hw3]
            clear hw3 x0 x2 y0 y1 y2 x3 x4 x5 x6
            have i4 := Hik.out w3
            rw [S3.out] at i4
            have b4 := (Below.refl w3.heap.size w3).alloc (Nat.le_refl _) (.cells #[.int .u8 k0, .int .u8 k1, .int .u8 k2, .int .u8 k3] 5)
            generalize w3.alloc (.cells #[.int .u8 k0, .int .u8 k1, .int .u8 k2, .int .u8 k3] 5) = w4 at *
            have o4 := O3.out.below b4
            have hb := Hb.out.trans (b4.mono Hb.out.size)
            clear Hb O3 b4
            have Hb := Lib.hid hb; clear hb
            refine wpList_append_ints _ rfl _ _ 25 rfl .u8 w1.heap.size 5 (.int .u8 0) 1 Try.underlying25 Try.infoU8 rfl _ _ rfl o4 _ 4 _ _ rfl i4 (by simp) (by decide) Hb.out.size ?_
            intro v5 w5 o5 g5 _
            have hb := Hb.out.grown g5 Hb.out.size (fun k hk => (o4.block k hk).1)
            clear Hb g5 i4 o4
            have z := (hb.block _ (Array.getElem?_eq_some_iff.1 Z1.out).1).trans Z1.out
            clear Z
            have Z := Lib.hid z; clear z
            have Hb := Lib.hid hb; clear hb
            have t6 := own_empty w5 w5.heap.size 5 .u8 (Nat.le_refl _)
            have c6 := (Below.refl w5.heap.size w5).alloc (Nat.le_refl _) (.cells #[] 5)
            obtain ⟨w6, hw6⟩ : ∃ w6, w6 = w5.alloc (.cells #[] 5) := ⟨_, rfl⟩
            rw [← hw6] at t6 c6
            have s6 : w6.heap.size = w5.heap.size + 1 := by rw [hw6, World.size_alloc]
            have lt5 : ∀ k, v5.ownBlock = some k → k < w5.heap.size := fun k hk => (o5.block k hk).2
            have S6 := Lib.hid s6; clear s6
            have Lt5 := Lib.hid lt5; clear lt5
            have O5 := Lib.hid o5; clear o5
            have T := Lib.hid t6; clear t6
            have hz := (c6.block _ (Array.getElem?_eq_some_iff.1 Z.out).1).trans Z.out
            have x7 := cells_at hz 7
            have x8 := cells_at hz 8
            have x9 := cells_at hz 9
            have x10 := cells_at hz 10
            rw [hw6] at x7 x8 x9 x10
            clear hz
            have Hc := Lib.hid c6; clear c6

            go_wp2_with fail
            rw [← hw6]
            clear hw6
            clear x7 x8 x9 x10
            refine (Hs2.out w6).mono ?_
            rintro e w7 ⟨v7, rfl, s7, b7⟩
            have t7 := T.out.below b7
            have c7 := Hc.out.trans (b7.mono Hc.out.size)
            clear T Hc b7
            obtain ⟨a7, q7, rfl, i7, -⟩ := s7.ints
            clear s7
            obtain ⟨LS2, hLS2⟩ : ∃ L, L = S2.length := ⟨_, rfl⟩
            rw [← hLS2] at Hl2 Hp2 Hfd i7 ⊢
            have hlS2 := Hl2.out
            have hpS2 := Hp2.out
            have HLS2 := Lib.hid hLS2; clear hLS2
            go_wp2_with (with_reducible refine stop_builtin .append ?_)
            refine unpark ?_
            refine wpList_append_ints _ rfl _ _ 25 rfl .u8 w5.heap.size 5 (.int .u8 0) 1 Try.underlying25 Try.infoU8 rfl _ _ rfl t7 _ LS2 _ _ rfl i7 (by rw [List.length_nil]; omega) (by decide) c7.size ?_
            intro v8 w8 t8 g8 _
            have c8 := c7.grown g8 c7.size (fun k hk => (t7.block k hk).1)
            clear t7 c7 i7 g8
            have hz := (c8.block _ (Array.getElem?_eq_some_iff.1 Z.out).1).trans Z.out
            have x9 := cells_at hz 9
            have x10 := cells_at hz 10
            clear hz
            have T := Lib.hid t8; clear t8
            have Hc := Lib.hid c8; clear c8

            go_wp2_with (with_reducible refine stop_builtin .append ?_)
            refine unpark ?_
            have hF : ((FL : Nat) : Int) = 2 + 32 * ((LS2 : Int) - 1) := by
              have h : FL = 0 + 2 * 1 + 4 * (0 - 1) + 32 * (LS2 - 1) := Hfd.out
              omega
            have iF := ints_alloc (w := w8) (n := 1) (k := .u8) (E := 5) (C := #[.int .u8 (2 + 32 * ((LS2 : Int) - 1))]) [2 + 32 * ((LS2 : Int) - 1)] rfl rfl (by decide) fun z hz => wf_u8' (by rw [List.mem_singleton] at hz; subst hz; omega)
            have bF := (Below.refl w8.heap.size w8).alloc (Nat.le_refl _) (.cells #[.int .u8 (2 + 32 * ((LS2 : Int) - 1))] 5)
            generalize w8.alloc (.cells #[.int .u8 (2 + 32 * ((LS2 : Int) - 1))] 5) = wF at *
            have tF := T.out.below bF
            have cF := Hc.out.trans (bF.mono Hc.out.size)
            have oF := O5.out.below cF
            have dF := Hb.out.trans (cF.mono Hb.out.size)
            clear T Hc O5 Hb bF cF
            refine wpList_append_ints _ rfl _ _ 25 rfl .u8 w1.heap.size 5 (.int .u8 0) 1 Try.underlying25 Try.infoU8 rfl _ _ rfl oF _ 1 _ _ rfl iF (by simp) (by decide) dF.size ?_
            intro vA wA oA gA _
            have dA := dF.grown gA dF.size (fun k hk => (oF.block k hk).1)
            have tA := tF.keep fun g hg hl => gA.block g hl fun e => by
              have h1 := Lt5.out g e.symm
              have h2 := (tF.block g hg).1
              omega
            clear gA tF oF dF iF
            have OA := Lib.hid oA; clear oA
            have TA := Lib.hid tA; clear tA
            have DA := Lib.hid dA; clear dA
            have HF := Lib.hid hF; clear hF
            go_wp2_with (with_reducible refine stop_builtin .append ?_)
            refine unpark ?_
            obtain ⟨aT, cT, rfl, iT, -⟩ := TA.out.ints
            refine wpList_append_ints _ rfl _ _ 25 rfl .u8 w1.heap.size 5 (.int .u8 0) 1 Try.underlying25 Try.infoU8 rfl _ _ rfl OA.out _ ([] ++ S2).length _ _ rfl iT (by simp only [List.length_append, List.length_cons, List.length_nil]; have : ([] ++ S2).length ≤ 100 := (by rw [List.nil_append, ← HLS2.out]; omega); simp only [List.length_append, List.length_nil] at this; omega) (by decide) DA.out.size ?_
            intro vB wB oB gB _
            have dB := DA.out.grown gB DA.out.size (fun k hk => (OA.out.block k hk).1)
            have hEE := HE.out
            rw [HF.out] at hEE
            have hEq : [(k - 1 + 8 * t) % 256, (k - 1 + 8 * t) / 256 % 256, (k - 1 + 8 * t) / 65536] ++ [k0, k1, k2, k3] ++ [2 + 32 * ((LS2 : Int) - 1)] ++ ([] ++ S2) = E := by rw [hEE]; simp
            rw [hEq] at oB
            clear OA TA DA iT gB hEE hEq
            have OB := Lib.hid oB; clear oB
            have DB := Lib.hid dB; clear dB
            go_wp2_with fail
            go_ret2
            exact ⟨_, rfl, OB.out.mono B1.out.size, B1.out.trans (DB.out.mono B1.out.size)⟩
        | true =>
          obtain ⟨S1, hS1⟩ : ∃ S, S = smallS true o := ⟨_, rfl⟩
          rw [← hS1] at Hs1 Hfd HE Hl1 Hp1
          have HS1 := Lib.hid hS1; clear hS1
          cases nt with
          | false =>
            rw [show smallS false n = [] from rfl] at Hfd HE
            have e2 : (k == 2) = false := by simp; omega
            have e8 : (k == 8) = false := by simp; omega
            have e1 : (k != 1) = true := by simp; omega
            have e7 : (k != 7) = false := by simpa using hm
            have hE := HE.out
            rw [if_neg (by unfold maskedK; omega), if_pos (by unfold keyedK; omega)] at hE
            clear HE hm
            have HE := Lib.hid hE; clear hE
            have x3 := cells_at Z.out 3
            have x4 := cells_at Z.out 4
            have x5 := cells_at Z.out 5
            have x6 := cells_at Z.out 6
            rw [hw3] at x3 x4 x5 x6
            go_wp2_with (with_reducible refine stop_builtin .append ?_)
            refine unpark ?_
            rw [← hw3]
            clear hw3 x0 x2 y0 y1 y2 x3 x4 x5 x6
            have i4 := Hik.out w3
            rw [S3.out] at i4
            have b4 := (Below.refl w3.heap.size w3).alloc (Nat.le_refl _) (.cells #[.int .u8 k0, .int .u8 k1, .int .u8 k2, .int .u8 k3] 5)
            generalize w3.alloc (.cells #[.int .u8 k0, .int .u8 k1, .int .u8 k2, .int .u8 k3] 5) = w4 at *
            have o4 := O3.out.below b4
            have hb := Hb.out.trans (b4.mono Hb.out.size)
            clear Hb O3 b4
            have Hb := Lib.hid hb; clear hb
            refine wpList_append_ints _ rfl _ _ 25 rfl .u8 w1.heap.size 5 (.int .u8 0) 1 Try.underlying25 Try.infoU8 rfl _ _ rfl o4 _ 4 _ _ rfl i4 (by simp) (by decide) Hb.out.size ?_
            intro v5 w5 o5 g5 _
            have hb := Hb.out.grown g5 Hb.out.size (fun k hk => (o4.block k hk).1)
            clear Hb g5 i4 o4
            have z := (hb.block _ (Array.getElem?_eq_some_iff.1 Z1.out).1).trans Z1.out
            clear Z
            have Z := Lib.hid z; clear z
            have Hb := Lib.hid hb; clear hb
            have t6 := own_empty w5 w5.heap.size 5 .u8 (Nat.le_refl _)
            have c6 := (Below.refl w5.heap.size w5).alloc (Nat.le_refl _) (.cells #[] 5)
            obtain ⟨w6, hw6⟩ : ∃ w6, w6 = w5.alloc (.cells #[] 5) := ⟨_, rfl⟩
            rw [← hw6] at t6 c6
            have s6 : w6.heap.size = w5.heap.size + 1 := by rw [hw6, World.size_alloc]
            have lt5 : ∀ k, v5.ownBlock = some k → k < w5.heap.size := fun k hk => (o5.block k hk).2
            have S6 := Lib.hid s6; clear s6
            have Lt5 := Lib.hid lt5; clear lt5
            have O5 := Lib.hid o5; clear o5
            have T := Lib.hid t6; clear t6
            have hz := (c6.block _ (Array.getElem?_eq_some_iff.1 Z.out).1).trans Z.out
            have x7 := cells_at hz 7
            have x8 := cells_at hz 8
            have x9 := cells_at hz 9
            have x10 := cells_at hz 10
            rw [hw6] at x7 x8 x9 x10
            clear hz
            have Hc := Lib.hid c6; clear c6

            go_wp2_with fail
            rw [← hw6]
            clear hw6
            clear x7 x8 x9 x10
            refine (Hs1.out w6).mono ?_
            rintro e w7 ⟨v7, rfl, s7, b7⟩
            have t7 := T.out.below b7
            have c7 := Hc.out.trans (b7.mono Hc.out.size)
            clear T Hc b7
            obtain ⟨a7, q7, rfl, i7, -⟩ := s7.ints
            clear s7
            obtain ⟨LS1, hLS1⟩ : ∃ L, L = S1.length := ⟨_, rfl⟩
            rw [← hLS1] at Hl1 Hp1 Hfd i7 ⊢
            have hlS1 := Hl1.out
            have hpS1 := Hp1.out
            have HLS1 := Lib.hid hLS1; clear hLS1
            go_wp2_with (with_reducible refine stop_builtin .append ?_)
            refine unpark ?_
            refine wpList_append_ints _ rfl _ _ 25 rfl .u8 w5.heap.size 5 (.int .u8 0) 1 Try.underlying25 Try.infoU8 rfl _ _ rfl t7 _ LS1 _ _ rfl i7 (by rw [List.length_nil]; omega) (by decide) c7.size ?_
            intro v8 w8 t8 g8 _
            have c8 := c7.grown g8 c7.size (fun k hk => (t7.block k hk).1)
            clear t7 c7 i7 g8
            have hz := (c8.block _ (Array.getElem?_eq_some_iff.1 Z.out).1).trans Z.out
            have x9 := cells_at hz 9
            have x10 := cells_at hz 10
            clear hz
            have T := Lib.hid t8; clear t8
            have Hc := Lib.hid c8; clear c8

            go_wp2_with (with_reducible refine stop_builtin .append ?_)
            refine unpark ?_
            clear x9 x10
            have hF : ((FL : Nat) : Int) = 1 + 4 * ((LS1 : Int) - 1) := by
              have h : FL = 1 + 2 * 0 + 4 * (LS1 - 1) + 32 * (0 - 1) := Hfd.out
              omega
            have iF := ints_alloc (w := w8) (n := 1) (k := .u8) (E := 5) (C := #[.int .u8 (1 + 4 * ((LS1 : Int) - 1))]) [1 + 4 * ((LS1 : Int) - 1)] rfl rfl (by decide) fun z hz => wf_u8' (by rw [List.mem_singleton] at hz; subst hz; omega)
            have bF := (Below.refl w8.heap.size w8).alloc (Nat.le_refl _) (.cells #[.int .u8 (1 + 4 * ((LS1 : Int) - 1))] 5)
            generalize w8.alloc (.cells #[.int .u8 (1 + 4 * ((LS1 : Int) - 1))] 5) = wF at *
            have tF := T.out.below bF
            have cF := Hc.out.trans (bF.mono Hc.out.size)
            have oF := O5.out.below cF
            have dF := Hb.out.trans (cF.mono Hb.out.size)
            clear T Hc O5 Hb bF cF
            refine wpList_append_ints _ rfl _ _ 25 rfl .u8 w1.heap.size 5 (.int .u8 0) 1 Try.underlying25 Try.infoU8 rfl _ _ rfl oF _ 1 _ _ rfl iF (by simp) (by decide) dF.size ?_
            intro vA wA oA gA _
            have dA := dF.grown gA dF.size (fun k hk => (oF.block k hk).1)
            have tA := tF.keep fun g hg hl => gA.block g hl fun e => by
              have h1 := Lt5.out g e.symm
              have h2 := (tF.block g hg).1
              omega
            clear gA tF oF dF iF
            have OA := Lib.hid oA; clear oA
            have TA := Lib.hid tA; clear tA
            have DA := Lib.hid dA; clear dA
            have HF := Lib.hid hF; clear hF
            go_wp2_with (with_reducible refine stop_builtin .append ?_)
            refine unpark ?_
            obtain ⟨aT, cT, rfl, iT, -⟩ := TA.out.ints
            refine wpList_append_ints _ rfl _ _ 25 rfl .u8 w1.heap.size 5 (.int .u8 0) 1 Try.underlying25 Try.infoU8 rfl _ _ rfl OA.out _ ([] ++ S1).length _ _ rfl iT (by simp only [List.length_append, List.length_cons, List.length_nil]; have : ([] ++ S1).length ≤ 100 := (by rw [List.nil_append, ← HLS1.out]; omega); simp only [List.length_append, List.length_nil] at this; omega) (by decide) DA.out.size ?_
            intro vB wB oB gB _
            have dB := DA.out.grown gB DA.out.size (fun k hk => (OA.out.block k hk).1)
            have hEE := HE.out
            rw [HF.out] at hEE
            have hEq : [(k - 1 + 8 * t) % 256, (k - 1 + 8 * t) / 256 % 256, (k - 1 + 8 * t) / 65536] ++ [k0, k1, k2, k3] ++ [1 + 4 * ((LS1 : Int) - 1)] ++ ([] ++ S1) = E := by rw [hEE]; simp
            rw [hEq] at oB
            clear OA TA DA iT gB hEE hEq
            have OB := Lib.hid oB; clear oB
            have DB := Lib.hid dB; clear dB
            go_wp2_with fail
            go_ret2
            exact ⟨_, rfl, OB.out.mono B1.out.size, B1.out.trans (DB.out.mono B1.out.size)⟩
          | true =>
            obtain ⟨S2, hS2⟩ : ∃ S, S = smallS true n := ⟨_, rfl⟩
            rw [← hS2] at Hs2 Hfd HE Hl2 Hp2
            have HS2 := Lib.hid hS2; clear hS2
            have e2 : (k == 2) = false := by simp; omega
            have e8 : (k == 8) = false := by simp; omega
            have e1 : (k != 1) = true := by simp; omega
            have e7 : (k != 7) = false := by simpa using hm
            have hE := HE.out
            rw [if_neg (by unfold maskedK; omega), if_pos (by unfold keyedK; omega)] at hE
            clear HE hm
            have HE := Lib.hid hE; clear hE
            have x3 := cells_at Z.out 3
            have x4 := cells_at Z.out 4
            have x5 := cells_at Z.out 5
            have x6 := cells_at Z.out 6
            rw [hw3] at x3 x4 x5 x6
            go_wp2_with (with_reducible refine stop_builtin .append ?_)
            refine unpark ?_
            rw [← hw3]
            clear hw3 x0 x2 y0 y1 y2 x3 x4 x5 x6
            have i4 := Hik.out w3
            rw [S3.out] at i4
            have b4 := (Below.refl w3.heap.size w3).alloc (Nat.le_refl _) (.cells #[.int .u8 k0, .int .u8 k1, .int .u8 k2, .int .u8 k3] 5)
            generalize w3.alloc (.cells #[.int .u8 k0, .int .u8 k1, .int .u8 k2, .int .u8 k3] 5) = w4 at *
            have o4 := O3.out.below b4
            have hb := Hb.out.trans (b4.mono Hb.out.size)
            clear Hb O3 b4
            have Hb := Lib.hid hb; clear hb
            refine wpList_append_ints _ rfl _ _ 25 rfl .u8 w1.heap.size 5 (.int .u8 0) 1 Try.underlying25 Try.infoU8 rfl _ _ rfl o4 _ 4 _ _ rfl i4 (by simp) (by decide) Hb.out.size ?_
            intro v5 w5 o5 g5 _
            have hb := Hb.out.grown g5 Hb.out.size (fun k hk => (o4.block k hk).1)
            clear Hb g5 i4 o4
            have z := (hb.block _ (Array.getElem?_eq_some_iff.1 Z1.out).1).trans Z1.out
            clear Z
            have Z := Lib.hid z; clear z
            have Hb := Lib.hid hb; clear hb
            have t6 := own_empty w5 w5.heap.size 5 .u8 (Nat.le_refl _)
            have c6 := (Below.refl w5.heap.size w5).alloc (Nat.le_refl _) (.cells #[] 5)
            obtain ⟨w6, hw6⟩ : ∃ w6, w6 = w5.alloc (.cells #[] 5) := ⟨_, rfl⟩
            rw [← hw6] at t6 c6
            have s6 : w6.heap.size = w5.heap.size + 1 := by rw [hw6, World.size_alloc]
            have lt5 : ∀ k, v5.ownBlock = some k → k < w5.heap.size := fun k hk => (o5.block k hk).2
            have S6 := Lib.hid s6; clear s6
            have Lt5 := Lib.hid lt5; clear lt5
            have O5 := Lib.hid o5; clear o5
            have T := Lib.hid t6; clear t6
            have hz := (c6.block _ (Array.getElem?_eq_some_iff.1 Z.out).1).trans Z.out
            have x7 := cells_at hz 7
            have x8 := cells_at hz 8
            have x9 := cells_at hz 9
            have x10 := cells_at hz 10
            rw [hw6] at x7 x8 x9 x10
            clear hz
            have Hc := Lib.hid c6; clear c6

            go_wp2_with fail
            rw [← hw6]
            clear hw6
            clear x7 x8 x9 x10
            refine (Hs1.out w6).mono ?_
            rintro e w7 ⟨v7, rfl, s7, b7⟩
            have t7 := T.out.below b7
            have c7 := Hc.out.trans (b7.mono Hc.out.size)
            clear T Hc b7
            obtain ⟨a7, q7, rfl, i7, -⟩ := s7.ints
            clear s7
            obtain ⟨LS1, hLS1⟩ : ∃ L, L = S1.length := ⟨_, rfl⟩
            rw [← hLS1] at Hl1 Hp1 Hfd i7 ⊢
            have hlS1 := Hl1.out
            have hpS1 := Hp1.out
            have HLS1 := Lib.hid hLS1; clear hLS1
            go_wp2_with (with_reducible refine stop_builtin .append ?_)
            refine unpark ?_
            refine wpList_append_ints _ rfl _ _ 25 rfl .u8 w5.heap.size 5 (.int .u8 0) 1 Try.underlying25 Try.infoU8 rfl _ _ rfl t7 _ LS1 _ _ rfl i7 (by rw [List.length_nil]; omega) (by decide) c7.size ?_
            intro v8 w8 t8 g8 _
            have c8 := c7.grown g8 c7.size (fun k hk => (t7.block k hk).1)
            clear t7 c7 i7 g8
            have hz := (c8.block _ (Array.getElem?_eq_some_iff.1 Z.out).1).trans Z.out
            have x9 := cells_at hz 9
            have x10 := cells_at hz 10
            clear hz
            have T := Lib.hid t8; clear t8
            have Hc := Lib.hid c8; clear c8

            go_wp2_with fail
            clear x9 x10
            refine (Hs2.out w8).mono ?_
            rintro e w9 ⟨v9, rfl, s9, b9⟩
            have t9 := T.out.below b9
            have c9 := Hc.out.trans (b9.mono Hc.out.size)
            clear T Hc b9
            obtain ⟨a9, q9, rfl, i9, -⟩ := s9.ints
            clear s9
            obtain ⟨LS2, hLS2⟩ : ∃ L, L = S2.length := ⟨_, rfl⟩
            rw [← hLS2] at Hl2 Hp2 Hfd i9 ⊢
            have hlS2 := Hl2.out
            have hpS2 := Hp2.out
            have HLS2 := Lib.hid hLS2; clear hLS2
            go_wp2_with (with_reducible refine stop_builtin .append ?_)
            refine unpark ?_
            refine wpList_append_ints _ rfl _ _ 25 rfl .u8 w5.heap.size 5 (.int .u8 0) 1 Try.underlying25 Try.infoU8 rfl _ _ rfl t9 _ LS2 _ _ rfl i9 (by rw [List.nil_append, ← HLS1.out]; omega) (by decide) c9.size ?_
            intro v10 w10 t10 g10 _
            have c10 := c9.grown g10 c9.size (fun k hk => (t9.block k hk).1)
            clear t9 c9 i9 g10
            have hz := (c10.block _ (Array.getElem?_eq_some_iff.1 Z.out).1).trans Z.out
            clear hz
            have T := Lib.hid t10; clear t10
            have Hc := Lib.hid c10; clear c10

            go_wp2_with (with_reducible refine stop_builtin .append ?_)
            refine unpark ?_
            have hF : ((FL : Nat) : Int) = 1 + 4 * ((LS1 : Int) - 1) + (2 + 32 * ((LS2 : Int) - 1)) := by
              have h : FL = 1 + 2 * 1 + 4 * (LS1 - 1) + 32 * (LS2 - 1) := Hfd.out
              omega
            have iF := ints_alloc (w := w10) (n := 1) (k := .u8) (E := 5) (C := #[.int .u8 (1 + 4 * ((LS1 : Int) - 1) + (2 + 32 * ((LS2 : Int) - 1)))]) [1 + 4 * ((LS1 : Int) - 1) + (2 + 32 * ((LS2 : Int) - 1))] rfl rfl (by decide) fun z hz => wf_u8' (by rw [List.mem_singleton] at hz; subst hz; omega)
            have bF := (Below.refl w10.heap.size w10).alloc (Nat.le_refl _) (.cells #[.int .u8 (1 + 4 * ((LS1 : Int) - 1) + (2 + 32 * ((LS2 : Int) - 1)))] 5)
            generalize w10.alloc (.cells #[.int .u8 (1 + 4 * ((LS1 : Int) - 1) + (2 + 32 * ((LS2 : Int) - 1)))] 5) = wF at *
            have tF := T.out.below bF
            have cF := Hc.out.trans (bF.mono Hc.out.size)
            have oF := O5.out.below cF
            have dF := Hb.out.trans (cF.mono Hb.out.size)
            clear T Hc O5 Hb bF cF
            refine wpList_append_ints _ rfl _ _ 25 rfl .u8 w1.heap.size 5 (.int .u8 0) 1 Try.underlying25 Try.infoU8 rfl _ _ rfl oF _ 1 _ _ rfl iF (by simp) (by decide) dF.size ?_
            intro vA wA oA gA _
            have dA := dF.grown gA dF.size (fun k hk => (oF.block k hk).1)
            have tA := tF.keep fun g hg hl => gA.block g hl fun e => by
              have h1 := Lt5.out g e.symm
              have h2 := (tF.block g hg).1
              omega
            clear gA tF oF dF iF
            have OA := Lib.hid oA; clear oA
            have TA := Lib.hid tA; clear tA
            have DA := Lib.hid dA; clear dA
            have HF := Lib.hid hF; clear hF
            go_wp2_with (with_reducible refine stop_builtin .append ?_)
            refine unpark ?_
            obtain ⟨aT, cT, rfl, iT, -⟩ := TA.out.ints
            refine wpList_append_ints _ rfl _ _ 25 rfl .u8 w1.heap.size 5 (.int .u8 0) 1 Try.underlying25 Try.infoU8 rfl _ _ rfl OA.out _ ([] ++ S1 ++ S2).length _ _ rfl iT (by simp only [List.length_append, List.length_cons, List.length_nil]; have : ([] ++ S1 ++ S2).length ≤ 100 := (by rw [List.nil_append, List.length_append, ← HLS1.out, ← HLS2.out]; omega); simp only [List.length_append, List.length_nil] at this; omega) (by decide) DA.out.size ?_
            intro vB wB oB gB _
            have dB := DA.out.grown gB DA.out.size (fun k hk => (OA.out.block k hk).1)
            have hEE := HE.out
            rw [HF.out] at hEE
            have hEq : [(k - 1 + 8 * t) % 256, (k - 1 + 8 * t) / 256 % 256, (k - 1 + 8 * t) / 65536] ++ [k0, k1, k2, k3] ++ [1 + 4 * ((LS1 : Int) - 1) + (2 + 32 * ((LS2 : Int) - 1))] ++ ([] ++ S1 ++ S2) = E := by rw [hEE]; simp
            rw [hEq] at oB
            clear OA TA DA iT gB hEE hEq
            have OB := Lib.hid oB; clear oB
            have DB := Lib.hid dB; clear dB
            go_wp2_with fail
            go_ret2
            exact ⟨_, rfl, OB.out.mono B1.out.size, B1.out.trans (DB.out.mono B1.out.size)⟩
    · have e2 : (k == 2) = false := by simp; omega
      have e8 : (k == 8) = false := by simp; omega
      have e1 : (k != 1) = true := by simp; omega
      have e7 : (k != 7) = true := by simp; omega
      have hE := HE.out
      rw [if_neg (by unfold maskedK; omega), if_neg (by unfold keyedK; omega), List.append_nil] at hE
      clear HE hp
      have HE := Lib.hid hE; clear hE
      rw [← HE.out] at O3
      rw [hw3] at O3 Hb
      clear hw3 Z
      go_wp2_with fail
      go_ret2
      exact ⟨_, rfl, O3.out.mono B1.out.size, B1.out.trans (Hb.out.mono B1.out.size)⟩

end Go.Proofs.Ytiaocfeafkgbaaa
