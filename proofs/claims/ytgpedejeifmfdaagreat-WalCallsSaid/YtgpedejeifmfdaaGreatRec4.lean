/- rec.Encode. -/
import Derived.Test.YtgpedejeifmfdaaGreatRec2
import Derived.Test.YtgpedejeifmfdaaGreatRec3
import Derived.Test.YtgpedejeifmfdaaGreatMids
import Derived.Test.YtgpedejeifmfdaaGreatConcat
namespace Go.Proofs.YtgpedejeifmfdaaGreat
open Go.RowKit

theorem ints_alloc {w : World} {k : IntKind} {E : TypeId} {C : Array Value} (zs : List Int) (hC : C = (zs.map (Value.int k)).toArray) {n : Nat} (hn : zs.length = n) (hm : n ≤ 1000) (hf : ∀ z ∈ zs, (Lit.int k z).wf = true) :
    Ints (w.alloc (.cells C E)) k (some ⟨w.heap.size, 0, none⟩) n n zs := by
  subst hC hn
  have hc := heap_alloc_new w (.cells (zs.map (Value.int k)).toArray E)
  refine Ints.of rfl (Nat.le_refl _) (by omega) hf fun j hj => ?_
  rw [Nat.zero_add, cells_at hc j]
  simp only [List.getElem?_toArray, List.getElem?_map, List.getD_eq_getElem?_getD]
  rw [List.getElem?_eq_getElem hj]
  rfl
theorem wf_i64' {a : Int} (h : -9223372036854775808 ≤ a ∧ a ≤ 9223372036854775807) : (Lit.int .i64 a).wf = true := by simp [Lit.wf, IntKind.min, IntKind.max, IntKind.signed, IntKind.bits]; omega
theorem wf_u8' {a : Int} (h : 0 ≤ a ∧ a ≤ 255) : (Lit.int .u8 a).wf = true := by simp [Lit.wf, IntKind.min, IntKind.max, IntKind.signed, IntKind.bits]; omega
theorem pack_heads {k t : Int} (hk : 1 ≤ k ∧ k ≤ 8) (ht : 0 ≤ t ∧ t ≤ 1048576) : packS [3, 21] [k - 1, t] = ((k - 1 + 8 * t).toNat, true) := by
  have h2 : (2 : Int) ^ (21 : Int).toNat = 2097152 := by decide
  have h3 : (2 : Int) ^ (3 : Int).toNat = 8 := by decide
  have ho : okV [3, 21] [k - 1, t] := fun j hj => by
    match j, hj with
    | 0, _ => exact decide_eq_true (by show 0 ≤ k - 1 ∧ k - 1 < (2 : Int) ^ (3 : Int).toNat; rw [h3]; omega)
    | 1, _ => exact decide_eq_true (by show 0 ≤ t ∧ t < (2 : Int) ^ (21 : Int).toNat; rw [h2]; omega)
  unfold packS
  rw [if_pos ⟨by decide, rfl, ho⟩]
  congr 1
  show (k - 1).toNat + 2 ^ 3 * (t.toNat + 2 ^ 21 * 0) = _
  omega
theorem bit_le (b : Bool) : bitN b ≤ 1 := by unfold bitN; split <;> omega
theorem pack_flags {r : Rc} : packS [1, 1, 3, 3] [(bitN r.ot : Nat), (bitN r.nt : Nat), (((smallS r.ot r.o).length - 1 : Nat) : Int), (((smallS r.nt r.n).length - 1 : Nat) : Int)] = (flagsS r, true) := by
  have h1 := bit_le r.ot
  have h2 := bit_le r.nt
  have h3 := small_len r.ot r.o
  have h4 := small_len r.nt r.n
  have e1 : (2 : Int) ^ (1 : Int).toNat = 2 := by decide
  have e3 : (2 : Int) ^ (3 : Int).toNat = 8 := by decide
  unfold flagsS
  generalize bitN r.ot = a at *
  generalize bitN r.nt = b at *
  generalize (smallS r.ot r.o).length = c at *
  generalize (smallS r.nt r.n).length = d at *
  have ho : okV [1, 1, 3, 3] [(a : Int), (b : Int), ((c - 1 : Nat) : Int), ((d - 1 : Nat) : Int)] := fun j hj => by
    match j, hj with
    | 0, _ => exact decide_eq_true (by show 0 ≤ (a : Int) ∧ (a : Int) < (2 : Int) ^ (1 : Int).toNat; rw [e1]; omega)
    | 1, _ => exact decide_eq_true (by show 0 ≤ (b : Int) ∧ (b : Int) < (2 : Int) ^ (1 : Int).toNat; rw [e1]; omega)
    | 2, _ => exact decide_eq_true (by show 0 ≤ ((c - 1 : Nat) : Int) ∧ ((c - 1 : Nat) : Int) < (2 : Int) ^ (3 : Int).toNat; rw [e3]; omega)
    | 3, _ => exact decide_eq_true (by show 0 ≤ ((d - 1 : Nat) : Int) ∧ ((d - 1 : Nat) : Int) < (2 : Int) ^ (3 : Int).toNat; rw [e3]; omega)
  unfold packS
  rw [if_pos ⟨by decide, rfl, ho⟩]
  congr 1
  show (a : Int).toNat + 2 ^ 1 * ((b : Int).toNat + 2 ^ 1 * (((c - 1 : Nat) : Int).toNat + 2 ^ 3 * (((d - 1 : Nat) : Int).toNat + 2 ^ 3 * 0))) = _
  omega
theorem max0 (L : Nat) : (if (0 : Int) > (L : Int) - 1 then 0 else (L : Int) - 1) = ((L - 1 : Nat) : Int) := by split <;> omega
theorem key_ints {w : World} {b : Nat} {k t m k0 k1 k2 k3 o n : Int} {ot nt : Bool} (h : w.heap[b]? = some (.cells #[.int .i64 k, .int .i64 t, .int .u16 m, .int .u8 k0, .int .u8 k1, .int .u8 k2, .int .u8 k3, .bool ot, .int .i64 o, .bool nt, .int .i64 n] 63)) (h0 : 0 ≤ k0 ∧ k0 ≤ 255) (h1 : 0 ≤ k1 ∧ k1 ≤ 255) (h2 : 0 ≤ k2 ∧ k2 ≤ 255) (h3 : 0 ≤ k3 ∧ k3 ≤ 255) : Ints w .u8 (some ⟨b, 3, none⟩) 4 4 [k0, k1, k2, k3] := by
  refine Ints.of rfl (Nat.le_refl _) (by decide) (fun z hz => ?_) fun j hj => ?_
  · simp only [List.mem_cons, List.not_mem_nil, or_false] at hz
    rcases hz with rfl | rfl | rfl | rfl <;> exact wf_u8' (by omega)
  · match j, hj with
    | 0, _ => exact cells_at h 3
    | 1, _ => exact cells_at h 4
    | 2, _ => exact cells_at h 5
    | 3, _ => exact cells_at h 6
set_option maxHeartbeats 8000000 in
theorem Encode_calls {w : World} (r : Rc) (hok : r.ok) : Calls Tryz.prog 64 #[.agg r.cells.toArray] w fun e w' => ∃ v, e = .returned (.tuple #[v, .bool (rightRc r)]) ∧ Own w' w.heap.size 5 .u8 v (if rightRc r = true then enc r else []) ∧ Below w.heap.size w w' := by
  have hri := fun w : World => Right_calls (w := w) r
  have hb := (Below.refl w.heap.size w).alloc (Nat.le_refl _) (.cells r.cells.toArray 63)
  have z := heap_alloc_new w (.cells r.cells.toArray 63)
  obtain ⟨w1, hw1⟩ : ∃ w1, w1 = w.alloc (.cells r.cells.toArray 63) := ⟨_, rfl⟩
  rw [← hw1] at hb z
  obtain ⟨E, hE⟩ : ∃ E, E = if rightRc r = true then enc r else [] := ⟨_, rfl⟩
  rw [← hE]
  have ey : ∀ {z}, z = r.cells.toArray → True := fun _ => trivial
  clear ey
  cases hr : rightRc r with
  | false =>
    rw [hr] at hri hE
    rw [if_neg (by decide)] at hE
    subst hE
    obtain ⟨k, t, m, k0, k1, k2, k3, ot, o, nt, n⟩ := r
    simp only [Rc.cells] at hri z hw1 ⊢
    have Hri := Lib.hid hri; clear hri hr
    have Hb := Lib.hid hb; clear hb
    have Z := Lib.hid z; clear z
    have y0 := cells_at Z.out 0
    have y1 := cells_at Z.out 1
    have y2 := cells_at Z.out 2
    have y3 := cells_at Z.out 3
    have y4 := cells_at Z.out 4
    have y5 := cells_at Z.out 5
    have y6 := cells_at Z.out 6
    have y7 := cells_at Z.out 7
    have y8 := cells_at Z.out 8
    have y9 := cells_at Z.out 9
    have y10 := cells_at Z.out 10
    go_enter Tryz.func64, Tryz.ntmps64
    go_wp2_with fail
    rw [← hw1]
    refine (Hri.out w1).mono ?_
    rintro e w2 ⟨rfl, bk⟩
    have hb := Hb.out.trans (bk.mono Hb.out.size)
    clear Hb bk
    have Hb := Lib.hid hb; clear hb
    go_wp2
    go_ret2
    exact ⟨_, rfl, own_nil _ _ _ _, Hb.out⟩
  | true =>
    rw [hr] at hri hE
    rw [if_pos rfl] at hE
    have hR : RightRc r := of_decide_eq_true hr
    obtain ⟨hlt, ht0, ht1⟩ := head_lt hR
    have hk := hR.1
    have hpk := pack_heads hk ⟨ht0, ht1⟩
    have hpf := pack_flags (r := r)
    have hfl := (flags_parts r).1
    have hsl1 := small_len r.ot r.o
    have hsl2 := small_len r.nt r.n
    have hE2 : E = bytesZ 3 (r.kind - 1 + 8 * r.tx).toNat ++ bodyS r := hE
    have hbody : bodyS r = if maskedK r.kind then bytesZ 2 r.mask.toNat else if keyedK r.kind then [r.k0, r.k1, r.k2, r.k3, (flagsS r : Int)] ++ smallS r.ot r.o ++ smallS r.nt r.n else [] := rfl
    rw [hbody] at hE2
    clear hE hbody
    generalize flagsS r = FL at *
    obtain ⟨ok1, ok2, ok3, ok4, ok5, ok6, ok7, ok8, ok9⟩ := hok
    obtain ⟨k, t, m, k0, k1, k2, k3, ot, o, nt, n⟩ := r
    simp only at hE2 hpf hsl1 hsl2 ok1 ok2 ok3 ok4 ok5 ok6 ok7 ok8 ok9 hk hlt ht0 ht1 hpk
    simp only [Rc.cells] at hri z hw1 ⊢
    obtain ⟨N, hN⟩ : ∃ N, N = (k - 1 + 8 * t).toNat := ⟨_, rfl⟩
    rw [← hN] at hlt hpk hE2
    clear hN
    have hfit : ∀ z ∈ [k - 1, t], (Lit.int .i64 z).wf = true := fun z hz => by
      simp only [List.mem_cons, List.not_mem_nil, or_false] at hz
      rcases hz with rfl | rfl <;> exact wf_i64' (by omega)
    have hby := fun w : World => Bytes_calls (w := w) (u := N) (n := 3) (by omega) (by decide) (by rw [pow8]; exact Nat.div_eq_of_lt hlt)
    have hmk := fun w : World => masked_calls (w := w) k
    have hky := fun w : World => keyed_calls (w := w) k
    have hs1 := fun w : World => small_calls (w := w) ot o ok8.1 ok8.2
    have hs2 := fun w : World => small_calls (w := w) nt n ok9.1 ok9.2
    have hbm := fun w : World => Bytes_calls (w := w) (u := m.toNat) (n := 2) (by omega) (by decide) (by rw [pow8]; exact Nat.div_eq_of_lt (by omega))
    have hmm : ((m.toNat : Nat) : Int) = m := by omega
    rw [hmm] at hbm
    have hkey := fun w' h => key_ints (w := w') (b := w.heap.size) (k := k) (t := t) (m := m) (o := o) (n := n) (ot := ot) (nt := nt) h ok4 ok5 ok6 ok7
    have hsb := IntWalk.i64_in (k - 1) (by omega)
    have hlen3 : ∀ u, (bytesZ 3 u).length = 3 := fun u => bytes_len 3 u
    have Hri := Lib.hid hri; clear hri
    have Hpk := Lib.hid hpk; clear hpk
    have Hpf := Lib.hid hpf; clear hpf
    have Hsl1 := Lib.hid hsl1; clear hsl1
    have Hsl2 := Lib.hid hsl2; clear hsl2
    have HE2 := Lib.hid hE2; clear hE2
    have Hfit := Lib.hid hfit; clear hfit
    have Hby := Lib.hid hby; clear hby
    have Hmk := Lib.hid hmk; clear hmk
    have Hky := Lib.hid hky; clear hky
    have Hs1 := Lib.hid hs1; clear hs1
    have Hs2 := Lib.hid hs2; clear hs2
    have Hbm := Lib.hid hbm; clear hbm
    have Hkey := Lib.hid hkey; clear hkey
    have Hsb := Lib.hid hsb; clear hsb
    have Hb := Lib.hid hb; clear hb
    have Z := Lib.hid z; clear z
    have Hfl := Lib.hid hfl; clear hfl
    have Hlen3 := Lib.hid hlen3; clear hlen3
    clear ok1 ok2 ok4 ok5 ok6 ok7 ok8 ok9 hR hr hmm
    have y0 := cells_at Z.out 0
    have y1 := cells_at Z.out 1
    have y2 := cells_at Z.out 2
    have y3 := cells_at Z.out 3
    have y4 := cells_at Z.out 4
    have y5 := cells_at Z.out 5
    have y6 := cells_at Z.out 6
    have y7 := cells_at Z.out 7
    have y8 := cells_at Z.out 8
    have y9 := cells_at Z.out 9
    have y10 := cells_at Z.out 10
    go_enter Tryz.func64, Tryz.ntmps64
    go_wp2_with fail
    rw [← hw1]
    clear hw1 y0 y1 y2 y3 y4 y5 y6 y7 y8 y9 y10
    refine (Hri.out w1).mono ?_
    rintro e w2 ⟨rfl, bk⟩
    have hb := Hb.out.trans (bk.mono Hb.out.size)
    have z := (bk.block _ (Array.getElem?_eq_some_iff.1 Z.out).1).trans Z.out
    clear Z Hb bk
    have Hb := Lib.hid hb; clear hb
    have Z := Lib.hid z; clear z
    go_wp2_with fail
    have s0 := below_drew w2
    refine wp_region_mids (fun w' : World => Below w2.heap.size w2 w') [1, 2, 4, 5] [3] 7 [(0, [[6], [7], [8, 9, 10, 11, 12]]), (6, [[0], [7], [8, 9, 10, 11, 12]])] (by kernel_rfl) (by kernel_rfl) rfl (by kernel_rfl) (fun _ _ _ h => by obtain ⟨_, _, h, _⟩ := h; cases h) (fun _ _ h => by obtain ⟨_, h, _⟩ := h; cases h) s0 (by kernel_rfl) ?_
    generalize w2.drew = wd at s0 ⊢
    apply Exists.intro
    apply And.intro
    · intro w' s
      have xg := (s.block _ (Array.getElem?_eq_some_iff.1 Z.out).1).trans Z.out
      have y0 := cells_at xg 0
      have y1 := cells_at xg 1
      clear s xg
      simp only [List.map_cons, List.map_nil, List.getD_cons_zero, List.getD_cons_succ]
      go_wp2_with fail
      exact pre_end
    apply Exists.intro
    apply And.intro
    · refine mids_more (.int .i64 (k - 1)) rfl (fun w3 _ => (congrArg (fun z => Result.ok (Next.value (.int .i64 z)) w3) Hsb.out)) mids_end
    have Hs0 := Lib.hid s0; clear s0
    intro br hbr
    simp only [List.mem_cons, List.not_mem_nil, or_false] at hbr
    rcases hbr with rfl | rfl
    · simp only [List.map_cons, List.map_nil, List.getD_cons_zero, List.getD_cons_succ]
      go_wp2_with fail
      refine heads_calls.mono ?_
      rintro e w3 ⟨ah, rfl, i3, b3⟩
      have s3 := Hs0.out.trans (b3.mono Hs0.out.size)
      have b4 := (Below.refl w3.heap.size w3).alloc (Nat.le_refl _) (.cells #[.int .i64 (k - 1), .int .i64 t] 3)
      have i4 := i3.keep b4
      have j4 : Ints (w3.alloc (.cells #[.int .i64 (k - 1), .int .i64 t] 3)) .i64 (some ⟨w3.heap.size, 0, none⟩) 2 2 [k - 1, t] := ints_alloc [k - 1, t] rfl rfl (by decide) Hfit.out
      have hp := Pack_calls i4 j4 (by decide) (by decide)
      rw [Hpk.out] at hp
      have s4 := s3.trans (b4.mono s3.size)
      have Hp := Lib.hid hp; clear hp i4 j4 i3 b4 b3 Hs0
      have Hs4 := Lib.hid s4; clear s4
      go_wp2_with fail
      refine seg_end s3 (segs_more ?_)
      clear s3
      go_wp2_with fail
      refine seg_end Hs4.out (segs_more ?_)
      go_wp2_with fail
      refine Hp.out.mono ?_
      rintro e w5 ⟨rfl, b5⟩
      have s5 := Hs4.out.trans (b5.mono Hs4.out.size)
      clear Hs4 b5 Hp
      go_wp2_with fail
      refine seg_end s5 (segs_last ?_)
      have S5 := Lib.hid s5; clear s5
      go_wp2_with fail
      have bk := S5.out
      clear S5
      have hb := Hb.out.trans (bk.mono Hb.out.size)
      have z := (bk.block _ (Array.getElem?_eq_some_iff.1 Z.out).1).trans Z.out
      clear Z Hb bk
      have Hb := Lib.hid hb; clear hb
      have Z := Lib.hid z; clear z
      go_wp2_with fail
      refine (Hby.out _).mono ?_
      rintro e wA ⟨vA, rfl, oA, bk⟩
      have oA := oA.mono Hb.out.size
      have hb := Hb.out.trans (bk.mono Hb.out.size)
      have z := (bk.block _ (Array.getElem?_eq_some_iff.1 Z.out).1).trans Z.out
      clear Z Hb bk
      have Hb := Lib.hid hb; clear hb
      have Z := Lib.hid z; clear z
      have OA := Lib.hid oA; clear oA
      have y0 := cells_at Z.out 0
      go_wp2_with fail
      clear y0
      refine (Hmk.out _).mono ?_
      rintro e wB ⟨rfl, rfl⟩
      by_cases hm : maskedK k
      · have dm : decide (maskedK k) = true := decide_eq_true hm
        rw [dm]
        have hE3 := HE2.out
        rw [if_pos hm] at hE3
        have HE3 := Lib.hid hE3; clear hE3 dm hm
        have y2 := cells_at Z.out 2
        have m0 := ok3.1
        have m1 := ok3.2
        go_wp2_with fail
        clear y2
        refine (Hbm.out _).mono ?_
        rintro e wC ⟨vC, rfl, oC, bk⟩
        have oC := oC.mono Hb.out.size
        have hb := Hb.out.trans (bk.mono Hb.out.size)
        have z := (bk.block _ (Array.getElem?_eq_some_iff.1 Z.out).1).trans Z.out
        have oA := OA.out.below bk
        clear Z Hb bk
        have Hb := Lib.hid hb; clear hb
        have Z := Lib.hid z; clear z
        clear OA
        have OA := Lib.hid oA; clear oA
        have OC := Lib.hid oC; clear oC
        obtain ⟨aC, cC, rfl, iC, -⟩ := OC.out.ints
        rw [bytes_len] at iC ⊢
        go_wp2_with (with_reducible refine stop_builtin .append ?_)
        refine unpark ?_
        refine wpList_append_ints _ rfl _ _ 39 rfl .u8 w.heap.size 5 (.int .u8 0) 1 Tryz.underlying39 Tryz.infoU8 rfl _ _ rfl OA.out _ 2 cC _ rfl iC (by rw [Hlen3.out]; decide) (by decide) Hb.out.size ?_
        intro v' w4 own4 g4 _
        have hb := Hb.out.grown g4 Hb.out.size (fun k hk => (OA.out.block k hk).1)
        rw [← HE3.out] at own4
        clear Hb Z iC
        have Hb := Lib.hid hb; clear hb
        have Own4 := Lib.hid own4; clear own4
        go_wp2_with fail
        go_ret2
        exact ⟨_, rfl, Own4.out, Hb.out⟩
      · have dm : decide (maskedK k) = false := decide_eq_false hm
        rw [dm]
        have hE3 := HE2.out
        rw [if_neg hm] at hE3
        have y0 := cells_at Z.out 0
        go_wp2_with fail
        clear y0
        refine (Hky.out _).mono ?_
        rintro e wC ⟨rfl, rfl⟩
        by_cases hy : keyedK k
        · have dy : decide (keyedK k) = true := decide_eq_true hy
          rw [dy]
          rw [if_pos hy] at hE3
          have HE3 := Lib.hid hE3; clear hE3 dm hm dy hy
          go_wp2_with fail
          have s0 := below_drew wC
          refine wp_region_held (fun w' : World => Below wC.heap.size wC w') [0, 1, 3, 4] [[2], [5, 6, 7]] (by kernel_rfl) (by kernel_rfl) rfl (by kernel_rfl) (fun _ _ _ h => by obtain ⟨_, _, h, _⟩ := h; cases h) (fun _ _ h => by obtain ⟨_, h, _⟩ := h; cases h) s0 (by kernel_rfl) ?_
          generalize wC.drew = wd at s0 ⊢
          apply Exists.intro
          apply And.intro
          · intro w' s
            have xg := (s.block _ (Array.getElem?_eq_some_iff.1 Z.out).1).trans Z.out
            have y7 := cells_at xg 7
            have y8 := cells_at xg 8
            have y9 := cells_at xg 9
            have y10 := cells_at xg 10
            clear s xg
            simp only [List.map_cons, List.map_nil, List.getD_cons_zero, List.getD_cons_succ]
            go_wp2_with fail
            exact pre_end
          have Hs0 := Lib.hid s0; clear s0
          simp only [List.map_cons, List.map_nil, List.getD_cons_zero, List.getD_cons_succ]
          refine segs_more ?_
          go_wp2_with fail
          refine (Hs1.out _).mono ?_
          rintro e wE ⟨vE, rfl, oE, bE⟩
          have s1 := Hs0.out.trans (bE.mono Hs0.out.size)
          have oE := oE.mono (Nat.le_trans Hb.out.size Hs0.out.size)
          clear bE Hs0
          have OE := Lib.hid oE; clear oE
          go_wp2_with fail
          refine seg_end s1 (segs_last ?_)
          have Hs1b := Lib.hid s1; clear s1
          go_wp2_with fail
          refine (Hs2.out _).mono ?_
          rintro e wF ⟨vF, rfl, oF, bF⟩
          have bk := Hs1b.out.trans (bF.mono Hs1b.out.size)
          have oF := oF.mono (Nat.le_trans Hb.out.size Hs1b.out.size)
          have oE := OE.out.below bF
          clear bF Hs1b OE
          have hb := Hb.out.trans (bk.mono Hb.out.size)
          have z := (bk.block _ (Array.getElem?_eq_some_iff.1 Z.out).1).trans Z.out
          have oA := OA.out.below bk
          clear Z Hb bk
          have Hb := Lib.hid hb; clear hb
          have Z := Lib.hid z; clear z
          clear OA
          have OA := Lib.hid oA; clear oA
          have OE := Lib.hid oE; clear oE
          have OF := Lib.hid oF; clear oF
          obtain ⟨aE, cE, rfl, iE, -⟩ := OE.out.ints
          obtain ⟨aF, cF, rfl, iF, -⟩ := OF.out.ints
          clear iE iF
          go_wp2_with fail
          obtain ⟨L1, hL1⟩ : ∃ L, L = (smallS ot o).length := ⟨_, rfl⟩
          obtain ⟨L2, hL2⟩ : ∃ L, L = (smallS nt n).length := ⟨_, rfl⟩
          have l1 := Hsl1.out
          have l2 := Hsl2.out
          have hpf := Hpf.out
          rw [← hL1] at l1 hpf ⊢
          rw [← hL2] at l2 hpf ⊢
          have Hpf2 := Lib.hid hpf; clear hpf
          have HL1 := Lib.hid hL1; clear hL1
          have HL2 := Lib.hid hL2; clear hL2
          have s0 := below_drew wF
          refine wp_region_mids (fun w' : World => Below wF.heap.size wF w') [1, 2, 3, 5, 6, 7, 9, 10, 13, 14] [11, 12, 15, 16] 9 [(0, [[4], [8], [17], [18], [19, 20, 21, 22, 23]])] (by kernel_rfl) (by kernel_rfl) rfl (by kernel_rfl) (fun _ _ _ h => by obtain ⟨_, _, h, _⟩ := h; cases h) (fun _ _ h => by obtain ⟨_, h, _⟩ := h; cases h) s0 (by kernel_rfl) ?_
          generalize wF.drew = wd2 at s0 ⊢
          apply Exists.intro
          apply And.intro
          · intro w' s
            have xg := (s.block _ (Array.getElem?_eq_some_iff.1 Z.out).1).trans Z.out
            have y7 := cells_at xg 7
            have y9 := cells_at xg 9
            clear s xg
            simp only [List.map_cons, List.map_nil, List.getD_cons_zero, List.getD_cons_succ]
            go_wp2_with fail
            exact pre_end
          apply Exists.intro
          apply And.intro
          · exact mids_more (.int .i64 ((L1 : Int) - 1)) rfl (fun w3 _ => (congrArg (fun z => Result.ok (Next.value (.int .i64 z)) w3) (IntWalk.i64_in ((L1 : Int) - 1) (by omega)))) (mids_more (.int .i64 ((L1 - 1 : Nat) : Int)) rfl (fun w3 _ => (run_max2 rfl rfl w3).trans (congrArg (fun z => Result.ok (Next.value (.int .i64 z)) w3) (max0 L1))) (mids_more (.int .i64 ((L2 : Int) - 1)) rfl (fun w3 _ => (congrArg (fun z => Result.ok (Next.value (.int .i64 z)) w3) (IntWalk.i64_in ((L2 : Int) - 1) (by omega)))) (mids_more (.int .i64 ((L2 - 1 : Nat) : Int)) rfl (fun w3 _ => (run_max2 rfl rfl w3).trans (congrArg (fun z => Result.ok (Next.value (.int .i64 z)) w3) (max0 L2))) mids_end)))
          have Hs0 := Lib.hid s0; clear s0
          intro br hbr
          simp only [List.mem_cons, List.not_mem_nil, or_false] at hbr
          subst hbr
          simp only [List.map_cons, List.map_nil, List.getD_cons_zero, List.getD_cons_succ]
          generalize hu1 : L1 - 1 = u1 at Hpf2 ⊢
          generalize hu2 : L2 - 1 = u2 at Hpf2 ⊢
          have hq1 : u1 ≤ 8 := by omega
          have hq2 : u2 ≤ 8 := by omega
          clear hu1 hu2
          go_wp2_with fail
          refine flags_calls.mono ?_
          rintro e wG ⟨af, rfl, i3, b3⟩
          have s3 := Hs0.out.trans (b3.mono Hs0.out.size)
          clear b3 Hs0
          have I3 := Lib.hid i3; clear i3
          go_wp2_with fail
          refine seg_end s3 (segs_more ?_)
          go_wp2_with fail
          refine (bit_calls ot).mono ?_
          rintro e wH ⟨rfl, rfl⟩
          go_wp2_with fail
          refine seg_end s3 (segs_more ?_)
          go_wp2_with fail
          refine (bit_calls nt).mono ?_
          rintro e wI ⟨rfl, rfl⟩
          have bb1 := bit_le ot
          have bb2 := bit_le nt
          have b4 := (Below.refl wI.heap.size wI).alloc (Nat.le_refl _) (.cells #[.int .i64 (bitN ot : Nat), .int .i64 (bitN nt : Nat), .int .i64 (u1 : Nat), .int .i64 (u2 : Nat)] 3)
          have i4 := I3.out.keep b4
          have j4 : Ints (wI.alloc (.cells #[.int .i64 (bitN ot : Nat), .int .i64 (bitN nt : Nat), .int .i64 (u1 : Nat), .int .i64 (u2 : Nat)] 3)) .i64 (some ⟨wI.heap.size, 0, none⟩) 4 4 [(bitN ot : Nat), (bitN nt : Nat), (u1 : Nat), (u2 : Nat)] := ints_alloc [(bitN ot : Nat), (bitN nt : Nat), (u1 : Nat), (u2 : Nat)] rfl rfl (by decide) (fun z hz => by
            simp only [List.mem_cons, List.not_mem_nil, or_false] at hz
            rcases hz with rfl | rfl | rfl | rfl <;> exact wf_i64' (by omega))
          have hp := Pack_calls i4 j4 (by decide) (by decide)
          rw [Hpf2.out] at hp
          have s4 := s3.trans (b4.mono s3.size)
          have Hp := Lib.hid hp; clear hp i4 j4 b4 I3 bb1 bb2
          have Hs4 := Lib.hid s4; clear s4
          go_wp2_with fail
          refine seg_end s3 (segs_more ?_)
          clear s3
          go_wp2_with fail
          refine seg_end Hs4.out (segs_more ?_)
          go_wp2_with fail
          refine Hp.out.mono ?_
          rintro e wJ ⟨rfl, b5⟩
          have bk := Hs4.out.trans (b5.mono Hs4.out.size)
          clear Hs4 b5 Hp
          go_wp2_with fail
          refine seg_end bk (segs_last ?_)
          have hb := Hb.out.trans (bk.mono Hb.out.size)
          have z := (bk.block _ (Array.getElem?_eq_some_iff.1 Z.out).1).trans Z.out
          have oA := OA.out.below bk
          have oE := OE.out.below bk
          have oF := OF.out.below bk
          clear Z Hb bk
          have Hb := Lib.hid hb; clear hb
          have Z := Lib.hid z; clear z
          clear OA
          have OA := Lib.hid oA; clear oA
          clear OE
          have OE := Lib.hid oE; clear oE
          clear OF
          have OF := Lib.hid oF; clear oF
          obtain ⟨aA, cA, rfl, iA, -⟩ := OA.out.ints
          rw [Hlen3.out]
          rw [Hlen3.out] at iA
          obtain ⟨wK, hwK⟩ : ∃ wK, wK = wJ.alloc (.cells #[.int .u8 (FL : Nat)] 5) := ⟨_, rfl⟩
          have bK : Below wJ.heap.size wJ wK := by rw [hwK]; exact (Below.refl _ _).alloc (Nat.le_refl _) _
          have hfl := Hfl.out
          have iK : Ints wK .u8 (some ⟨wJ.heap.size, 0, none⟩) 1 1 [(FL : Nat)] := by
            rw [hwK]
            exact ints_alloc [(FL : Nat)] rfl rfl (by decide) (fun z hz => by rw [List.mem_singleton] at hz; subst hz; exact wf_u8' (by omega))
          obtain ⟨wL, hwL⟩ : ∃ wL, wL = wK.alloc (.cells #[.slice aA 3 cA, .slice (some ⟨w.heap.size, 3, none⟩) 4 4, .slice (some ⟨wJ.heap.size, 0, none⟩) 1 1, .slice aE L1 cE, .slice aF L2 cF] 39) := ⟨_, rfl⟩
          have bL : Below wK.heap.size wK wL := by rw [hwL]; exact (Below.refl _ _).alloc (Nat.le_refl _) _
          have zL : wL.heap[wK.heap.size]? = some (.cells #[.slice aA 3 cA, .slice (some ⟨w.heap.size, 3, none⟩) 4 4, .slice (some ⟨wJ.heap.size, 0, none⟩) 1 1, .slice aE L1 cE, .slice aF L2 cF] 39 (0, 0)) := by rw [hwL]; exact heap_alloc_new wK _
          have bJL := bK.trans (bL.mono bK.size)
          have iE := OE.out.ints
          have hbz := Hb.out.trans (bJL.mono Hb.out.size)
          have hLs : Lists wL .u8 wK.heap.size 5 [bytesZ 3 N, [k0, k1, k2, k3], [(FL : Int)], smallS ot o, smallS nt n] := ⟨rfl, fun j hj => by
            match j, hj with
            | 0, _ => exact ⟨aA, cA, by rw [cells_at zL 0]; show _ = some (Value.slice aA (bytesZ 3 N).length cA); rw [Hlen3.out]; rfl, by show Ints wL .u8 aA (bytesZ 3 N).length cA (bytesZ 3 N); rw [Hlen3.out]; exact iA.keep bJL⟩
            | 1, _ => exact ⟨_, 4, cells_at zL 1, (Hkey.out _ Z.out).keep bJL⟩
            | 2, _ => exact ⟨_, 1, cells_at zL 2, iK.keep bL⟩
            | 3, _ => exact ⟨aE, cE, by rw [cells_at zL 3]; show _ = some (Value.slice aE (smallS ot o).length cE); rw [← HL1.out]; rfl, by
                obtain ⟨a, c, e, i, -⟩ := OE.out.ints
                cases e
                exact i.keep bJL⟩
            | 4, _ => exact ⟨aF, cF, by rw [cells_at zL 4]; show _ = some (Value.slice aF (smallS nt n).length cF); rw [← HL2.out]; rfl, by
                obtain ⟨a, c, e, i, -⟩ := OF.out.ints
                cases e
                exact i.keep bJL⟩⟩
          have htot : total [bytesZ 3 N, [k0, k1, k2, k3], [(FL : Int)], smallS ot o, smallS nt n] ≤ 140737488355328 := by
            have e : total [bytesZ 3 N, [k0, k1, k2, k3], [(FL : Int)], smallS ot o, smallS nt n] = 3 + (4 + (1 + (L1 + (L2 + 0)))) := by
              show (bytesZ 3 N).length + (4 + (1 + ((smallS ot o).length + ((smallS nt n).length + 0)))) = _
              rw [Hlen3.out, HL1.out, HL2.out]
            rw [e]
            omega
          have hcc := Concat_calls hLs (by decide) htot
          have hfe : [bytesZ 3 N, [k0, k1, k2, k3], [(FL : Int)], smallS ot o, smallS nt n].flatten = E := by rw [HE3.out]; simp
          rw [hfe] at hcc
          have hsK : wK.heap.size = wJ.heap.size + 1 := by rw [hwK, World.size_alloc]
          rw [hsK] at hcc
          clear hsK
          have Hcc := Lib.hid hcc; clear hcc
          have Hbz := Lib.hid hbz; clear hbz
          clear hLs htot hfe bJL zL bL iK bK iA OA OE OF Hb Z iE
          go_wp2_with fail
          rw [← hwK, ← hwL]
          clear hwK hwL
          refine Hcc.out.mono ?_
          rintro e wM ⟨v, rfl, oM, bM⟩
          have hb := Hbz.out.trans (bM.mono Hbz.out.size)
          have oM := oM.mono Hbz.out.size
          clear bM Hbz
          have Hb := Lib.hid hb; clear hb
          have OM := Lib.hid oM; clear oM
          go_wp2_with fail
          go_ret2
          exact ⟨_, rfl, OM.out, Hb.out⟩
        · have dy : decide (keyedK k) = false := decide_eq_false hy
          rw [dy]
          rw [if_neg hy, List.append_nil] at hE3
          have oA := OA.out
          rw [← hE3] at oA
          clear OA dm hm dy hy
          have OA := Lib.hid oA; clear oA
          go_wp2_with fail
          go_ret2
          exact ⟨_, rfl, OA.out, Hb.out⟩
    · simp only [List.map_cons, List.map_nil, List.getD_cons_zero, List.getD_cons_succ]
      have b4 := (Below.refl wd.heap.size wd).alloc (Nat.le_refl _) (.cells #[.int .i64 (k - 1), .int .i64 t] 3)
      have j4 : Ints (wd.alloc (.cells #[.int .i64 (k - 1), .int .i64 t] 3)) .i64 (some ⟨wd.heap.size, 0, none⟩) 2 2 [k - 1, t] := ints_alloc [k - 1, t] rfl rfl (by decide) Hfit.out
      have s4 := Hs0.out.trans (b4.mono Hs0.out.size)
      obtain ⟨w3, hw3⟩ : ∃ w3, w3 = wd.alloc (.cells #[.int .i64 (k - 1), .int .i64 t] 3) := ⟨_, rfl⟩
      rw [← hw3] at j4 s4
      clear b4 Hs0
      have Hs4 := Lib.hid s4; clear s4
      have J4 := Lib.hid j4; clear j4
      go_wp2_with fail
      rw [← hw3]
      clear hw3
      refine seg_end Hs4.out (segs_more ?_)
      go_wp2_with fail
      refine heads_calls.mono ?_
      rintro e w4 ⟨ah, rfl, i4, b4⟩
      have hp := Pack_calls i4 (J4.out.keep b4) (by decide) (by decide)
      rw [Hpk.out] at hp
      have s5 := Hs4.out.trans (b4.mono Hs4.out.size)
      have Hp := Lib.hid hp; clear hp i4 b4 J4 Hs4
      have Hs5 := Lib.hid s5; clear s5
      go_wp2_with fail
      refine seg_end Hs5.out (segs_more ?_)
      go_wp2_with fail
      refine Hp.out.mono ?_
      rintro e w5 ⟨rfl, b5⟩
      have s5 := Hs5.out.trans (b5.mono Hs5.out.size)
      clear Hs5 b5 Hp
      go_wp2_with fail
      refine seg_end s5 (segs_last ?_)
      have S5 := Lib.hid s5; clear s5
      go_wp2_with fail
      have bk := S5.out
      clear S5
      have hb := Hb.out.trans (bk.mono Hb.out.size)
      have z := (bk.block _ (Array.getElem?_eq_some_iff.1 Z.out).1).trans Z.out
      clear Z Hb bk
      have Hb := Lib.hid hb; clear hb
      have Z := Lib.hid z; clear z
      go_wp2_with fail
      refine (Hby.out _).mono ?_
      rintro e wA ⟨vA, rfl, oA, bk⟩
      have oA := oA.mono Hb.out.size
      have hb := Hb.out.trans (bk.mono Hb.out.size)
      have z := (bk.block _ (Array.getElem?_eq_some_iff.1 Z.out).1).trans Z.out
      clear Z Hb bk
      have Hb := Lib.hid hb; clear hb
      have Z := Lib.hid z; clear z
      have OA := Lib.hid oA; clear oA
      have y0 := cells_at Z.out 0
      go_wp2_with fail
      clear y0
      refine (Hmk.out _).mono ?_
      rintro e wB ⟨rfl, rfl⟩
      by_cases hm : maskedK k
      · have dm : decide (maskedK k) = true := decide_eq_true hm
        rw [dm]
        have hE3 := HE2.out
        rw [if_pos hm] at hE3
        have HE3 := Lib.hid hE3; clear hE3 dm hm
        have y2 := cells_at Z.out 2
        have m0 := ok3.1
        have m1 := ok3.2
        go_wp2_with fail
        clear y2
        refine (Hbm.out _).mono ?_
        rintro e wC ⟨vC, rfl, oC, bk⟩
        have oC := oC.mono Hb.out.size
        have hb := Hb.out.trans (bk.mono Hb.out.size)
        have z := (bk.block _ (Array.getElem?_eq_some_iff.1 Z.out).1).trans Z.out
        have oA := OA.out.below bk
        clear Z Hb bk
        have Hb := Lib.hid hb; clear hb
        have Z := Lib.hid z; clear z
        clear OA
        have OA := Lib.hid oA; clear oA
        have OC := Lib.hid oC; clear oC
        obtain ⟨aC, cC, rfl, iC, -⟩ := OC.out.ints
        rw [bytes_len] at iC ⊢
        go_wp2_with (with_reducible refine stop_builtin .append ?_)
        refine unpark ?_
        refine wpList_append_ints _ rfl _ _ 39 rfl .u8 w.heap.size 5 (.int .u8 0) 1 Tryz.underlying39 Tryz.infoU8 rfl _ _ rfl OA.out _ 2 cC _ rfl iC (by rw [Hlen3.out]; decide) (by decide) Hb.out.size ?_
        intro v' w4 own4 g4 _
        have hb := Hb.out.grown g4 Hb.out.size (fun k hk => (OA.out.block k hk).1)
        rw [← HE3.out] at own4
        clear Hb Z iC
        have Hb := Lib.hid hb; clear hb
        have Own4 := Lib.hid own4; clear own4
        go_wp2_with fail
        go_ret2
        exact ⟨_, rfl, Own4.out, Hb.out⟩
      · have dm : decide (maskedK k) = false := decide_eq_false hm
        rw [dm]
        have hE3 := HE2.out
        rw [if_neg hm] at hE3
        have y0 := cells_at Z.out 0
        go_wp2_with fail
        clear y0
        refine (Hky.out _).mono ?_
        rintro e wC ⟨rfl, rfl⟩
        by_cases hy : keyedK k
        · have dy : decide (keyedK k) = true := decide_eq_true hy
          rw [dy]
          rw [if_pos hy] at hE3
          have HE3 := Lib.hid hE3; clear hE3 dm hm dy hy
          go_wp2_with fail
          have s0 := below_drew wC
          refine wp_region_held (fun w' : World => Below wC.heap.size wC w') [0, 1, 3, 4] [[2], [5, 6, 7]] (by kernel_rfl) (by kernel_rfl) rfl (by kernel_rfl) (fun _ _ _ h => by obtain ⟨_, _, h, _⟩ := h; cases h) (fun _ _ h => by obtain ⟨_, h, _⟩ := h; cases h) s0 (by kernel_rfl) ?_
          generalize wC.drew = wd at s0 ⊢
          apply Exists.intro
          apply And.intro
          · intro w' s
            have xg := (s.block _ (Array.getElem?_eq_some_iff.1 Z.out).1).trans Z.out
            have y7 := cells_at xg 7
            have y8 := cells_at xg 8
            have y9 := cells_at xg 9
            have y10 := cells_at xg 10
            clear s xg
            simp only [List.map_cons, List.map_nil, List.getD_cons_zero, List.getD_cons_succ]
            go_wp2_with fail
            exact pre_end
          have Hs0 := Lib.hid s0; clear s0
          simp only [List.map_cons, List.map_nil, List.getD_cons_zero, List.getD_cons_succ]
          refine segs_more ?_
          go_wp2_with fail
          refine (Hs1.out _).mono ?_
          rintro e wE ⟨vE, rfl, oE, bE⟩
          have s1 := Hs0.out.trans (bE.mono Hs0.out.size)
          have oE := oE.mono (Nat.le_trans Hb.out.size Hs0.out.size)
          clear bE Hs0
          have OE := Lib.hid oE; clear oE
          go_wp2_with fail
          refine seg_end s1 (segs_last ?_)
          have Hs1b := Lib.hid s1; clear s1
          go_wp2_with fail
          refine (Hs2.out _).mono ?_
          rintro e wF ⟨vF, rfl, oF, bF⟩
          have bk := Hs1b.out.trans (bF.mono Hs1b.out.size)
          have oF := oF.mono (Nat.le_trans Hb.out.size Hs1b.out.size)
          have oE := OE.out.below bF
          clear bF Hs1b OE
          have hb := Hb.out.trans (bk.mono Hb.out.size)
          have z := (bk.block _ (Array.getElem?_eq_some_iff.1 Z.out).1).trans Z.out
          have oA := OA.out.below bk
          clear Z Hb bk
          have Hb := Lib.hid hb; clear hb
          have Z := Lib.hid z; clear z
          clear OA
          have OA := Lib.hid oA; clear oA
          have OE := Lib.hid oE; clear oE
          have OF := Lib.hid oF; clear oF
          obtain ⟨aE, cE, rfl, iE, -⟩ := OE.out.ints
          obtain ⟨aF, cF, rfl, iF, -⟩ := OF.out.ints
          clear iE iF
          go_wp2_with fail
          obtain ⟨L1, hL1⟩ : ∃ L, L = (smallS ot o).length := ⟨_, rfl⟩
          obtain ⟨L2, hL2⟩ : ∃ L, L = (smallS nt n).length := ⟨_, rfl⟩
          have l1 := Hsl1.out
          have l2 := Hsl2.out
          have hpf := Hpf.out
          rw [← hL1] at l1 hpf ⊢
          rw [← hL2] at l2 hpf ⊢
          have Hpf2 := Lib.hid hpf; clear hpf
          have HL1 := Lib.hid hL1; clear hL1
          have HL2 := Lib.hid hL2; clear hL2
          have s0 := below_drew wF
          refine wp_region_mids (fun w' : World => Below wF.heap.size wF w') [1, 2, 3, 5, 6, 7, 9, 10, 13, 14] [11, 12, 15, 16] 9 [(0, [[4], [8], [17], [18], [19, 20, 21, 22, 23]])] (by kernel_rfl) (by kernel_rfl) rfl (by kernel_rfl) (fun _ _ _ h => by obtain ⟨_, _, h, _⟩ := h; cases h) (fun _ _ h => by obtain ⟨_, h, _⟩ := h; cases h) s0 (by kernel_rfl) ?_
          generalize wF.drew = wd2 at s0 ⊢
          apply Exists.intro
          apply And.intro
          · intro w' s
            have xg := (s.block _ (Array.getElem?_eq_some_iff.1 Z.out).1).trans Z.out
            have y7 := cells_at xg 7
            have y9 := cells_at xg 9
            clear s xg
            simp only [List.map_cons, List.map_nil, List.getD_cons_zero, List.getD_cons_succ]
            go_wp2_with fail
            exact pre_end
          apply Exists.intro
          apply And.intro
          · exact mids_more (.int .i64 ((L1 : Int) - 1)) rfl (fun w3 _ => (congrArg (fun z => Result.ok (Next.value (.int .i64 z)) w3) (IntWalk.i64_in ((L1 : Int) - 1) (by omega)))) (mids_more (.int .i64 ((L1 - 1 : Nat) : Int)) rfl (fun w3 _ => (run_max2 rfl rfl w3).trans (congrArg (fun z => Result.ok (Next.value (.int .i64 z)) w3) (max0 L1))) (mids_more (.int .i64 ((L2 : Int) - 1)) rfl (fun w3 _ => (congrArg (fun z => Result.ok (Next.value (.int .i64 z)) w3) (IntWalk.i64_in ((L2 : Int) - 1) (by omega)))) (mids_more (.int .i64 ((L2 - 1 : Nat) : Int)) rfl (fun w3 _ => (run_max2 rfl rfl w3).trans (congrArg (fun z => Result.ok (Next.value (.int .i64 z)) w3) (max0 L2))) mids_end)))
          have Hs0 := Lib.hid s0; clear s0
          intro br hbr
          simp only [List.mem_cons, List.not_mem_nil, or_false] at hbr
          subst hbr
          simp only [List.map_cons, List.map_nil, List.getD_cons_zero, List.getD_cons_succ]
          generalize hu1 : L1 - 1 = u1 at Hpf2 ⊢
          generalize hu2 : L2 - 1 = u2 at Hpf2 ⊢
          have hq1 : u1 ≤ 8 := by omega
          have hq2 : u2 ≤ 8 := by omega
          clear hu1 hu2
          go_wp2_with fail
          refine flags_calls.mono ?_
          rintro e wG ⟨af, rfl, i3, b3⟩
          have s3 := Hs0.out.trans (b3.mono Hs0.out.size)
          clear b3 Hs0
          have I3 := Lib.hid i3; clear i3
          go_wp2_with fail
          refine seg_end s3 (segs_more ?_)
          go_wp2_with fail
          refine (bit_calls ot).mono ?_
          rintro e wH ⟨rfl, rfl⟩
          go_wp2_with fail
          refine seg_end s3 (segs_more ?_)
          go_wp2_with fail
          refine (bit_calls nt).mono ?_
          rintro e wI ⟨rfl, rfl⟩
          have bb1 := bit_le ot
          have bb2 := bit_le nt
          have b4 := (Below.refl wI.heap.size wI).alloc (Nat.le_refl _) (.cells #[.int .i64 (bitN ot : Nat), .int .i64 (bitN nt : Nat), .int .i64 (u1 : Nat), .int .i64 (u2 : Nat)] 3)
          have i4 := I3.out.keep b4
          have j4 : Ints (wI.alloc (.cells #[.int .i64 (bitN ot : Nat), .int .i64 (bitN nt : Nat), .int .i64 (u1 : Nat), .int .i64 (u2 : Nat)] 3)) .i64 (some ⟨wI.heap.size, 0, none⟩) 4 4 [(bitN ot : Nat), (bitN nt : Nat), (u1 : Nat), (u2 : Nat)] := ints_alloc [(bitN ot : Nat), (bitN nt : Nat), (u1 : Nat), (u2 : Nat)] rfl rfl (by decide) (fun z hz => by
            simp only [List.mem_cons, List.not_mem_nil, or_false] at hz
            rcases hz with rfl | rfl | rfl | rfl <;> exact wf_i64' (by omega))
          have hp := Pack_calls i4 j4 (by decide) (by decide)
          rw [Hpf2.out] at hp
          have s4 := s3.trans (b4.mono s3.size)
          have Hp := Lib.hid hp; clear hp i4 j4 b4 I3 bb1 bb2
          have Hs4 := Lib.hid s4; clear s4
          go_wp2_with fail
          refine seg_end s3 (segs_more ?_)
          clear s3
          go_wp2_with fail
          refine seg_end Hs4.out (segs_more ?_)
          go_wp2_with fail
          refine Hp.out.mono ?_
          rintro e wJ ⟨rfl, b5⟩
          have bk := Hs4.out.trans (b5.mono Hs4.out.size)
          clear Hs4 b5 Hp
          go_wp2_with fail
          refine seg_end bk (segs_last ?_)
          have hb := Hb.out.trans (bk.mono Hb.out.size)
          have z := (bk.block _ (Array.getElem?_eq_some_iff.1 Z.out).1).trans Z.out
          have oA := OA.out.below bk
          have oE := OE.out.below bk
          have oF := OF.out.below bk
          clear Z Hb bk
          have Hb := Lib.hid hb; clear hb
          have Z := Lib.hid z; clear z
          clear OA
          have OA := Lib.hid oA; clear oA
          clear OE
          have OE := Lib.hid oE; clear oE
          clear OF
          have OF := Lib.hid oF; clear oF
          obtain ⟨aA, cA, rfl, iA, -⟩ := OA.out.ints
          rw [Hlen3.out]
          rw [Hlen3.out] at iA
          obtain ⟨wK, hwK⟩ : ∃ wK, wK = wJ.alloc (.cells #[.int .u8 (FL : Nat)] 5) := ⟨_, rfl⟩
          have bK : Below wJ.heap.size wJ wK := by rw [hwK]; exact (Below.refl _ _).alloc (Nat.le_refl _) _
          have hfl := Hfl.out
          have iK : Ints wK .u8 (some ⟨wJ.heap.size, 0, none⟩) 1 1 [(FL : Nat)] := by
            rw [hwK]
            exact ints_alloc [(FL : Nat)] rfl rfl (by decide) (fun z hz => by rw [List.mem_singleton] at hz; subst hz; exact wf_u8' (by omega))
          obtain ⟨wL, hwL⟩ : ∃ wL, wL = wK.alloc (.cells #[.slice aA 3 cA, .slice (some ⟨w.heap.size, 3, none⟩) 4 4, .slice (some ⟨wJ.heap.size, 0, none⟩) 1 1, .slice aE L1 cE, .slice aF L2 cF] 39) := ⟨_, rfl⟩
          have bL : Below wK.heap.size wK wL := by rw [hwL]; exact (Below.refl _ _).alloc (Nat.le_refl _) _
          have zL : wL.heap[wK.heap.size]? = some (.cells #[.slice aA 3 cA, .slice (some ⟨w.heap.size, 3, none⟩) 4 4, .slice (some ⟨wJ.heap.size, 0, none⟩) 1 1, .slice aE L1 cE, .slice aF L2 cF] 39 (0, 0)) := by rw [hwL]; exact heap_alloc_new wK _
          have bJL := bK.trans (bL.mono bK.size)
          have iE := OE.out.ints
          have hbz := Hb.out.trans (bJL.mono Hb.out.size)
          have hLs : Lists wL .u8 wK.heap.size 5 [bytesZ 3 N, [k0, k1, k2, k3], [(FL : Int)], smallS ot o, smallS nt n] := ⟨rfl, fun j hj => by
            match j, hj with
            | 0, _ => exact ⟨aA, cA, by rw [cells_at zL 0]; show _ = some (Value.slice aA (bytesZ 3 N).length cA); rw [Hlen3.out]; rfl, by show Ints wL .u8 aA (bytesZ 3 N).length cA (bytesZ 3 N); rw [Hlen3.out]; exact iA.keep bJL⟩
            | 1, _ => exact ⟨_, 4, cells_at zL 1, (Hkey.out _ Z.out).keep bJL⟩
            | 2, _ => exact ⟨_, 1, cells_at zL 2, iK.keep bL⟩
            | 3, _ => exact ⟨aE, cE, by rw [cells_at zL 3]; show _ = some (Value.slice aE (smallS ot o).length cE); rw [← HL1.out]; rfl, by
                obtain ⟨a, c, e, i, -⟩ := OE.out.ints
                cases e
                exact i.keep bJL⟩
            | 4, _ => exact ⟨aF, cF, by rw [cells_at zL 4]; show _ = some (Value.slice aF (smallS nt n).length cF); rw [← HL2.out]; rfl, by
                obtain ⟨a, c, e, i, -⟩ := OF.out.ints
                cases e
                exact i.keep bJL⟩⟩
          have htot : total [bytesZ 3 N, [k0, k1, k2, k3], [(FL : Int)], smallS ot o, smallS nt n] ≤ 140737488355328 := by
            have e : total [bytesZ 3 N, [k0, k1, k2, k3], [(FL : Int)], smallS ot o, smallS nt n] = 3 + (4 + (1 + (L1 + (L2 + 0)))) := by
              show (bytesZ 3 N).length + (4 + (1 + ((smallS ot o).length + ((smallS nt n).length + 0)))) = _
              rw [Hlen3.out, HL1.out, HL2.out]
            rw [e]
            omega
          have hcc := Concat_calls hLs (by decide) htot
          have hfe : [bytesZ 3 N, [k0, k1, k2, k3], [(FL : Int)], smallS ot o, smallS nt n].flatten = E := by rw [HE3.out]; simp
          rw [hfe] at hcc
          have hsK : wK.heap.size = wJ.heap.size + 1 := by rw [hwK, World.size_alloc]
          rw [hsK] at hcc
          clear hsK
          have Hcc := Lib.hid hcc; clear hcc
          have Hbz := Lib.hid hbz; clear hbz
          clear hLs htot hfe bJL zL bL iK bK iA OA OE OF Hb Z iE
          go_wp2_with fail
          rw [← hwK, ← hwL]
          clear hwK hwL
          refine Hcc.out.mono ?_
          rintro e wM ⟨v, rfl, oM, bM⟩
          have hb := Hbz.out.trans (bM.mono Hbz.out.size)
          have oM := oM.mono Hbz.out.size
          clear bM Hbz
          have Hb := Lib.hid hb; clear hb
          have OM := Lib.hid oM; clear oM
          go_wp2_with fail
          go_ret2
          exact ⟨_, rfl, OM.out, Hb.out⟩
        · have dy : decide (keyedK k) = false := decide_eq_false hy
          rw [dy]
          rw [if_neg hy, List.append_nil] at hE3
          have oA := OA.out
          rw [← hE3] at oA
          clear OA dm hm dy hy
          have OA := Lib.hid oA; clear oA
          go_wp2_with fail
          go_ret2
          exact ⟨_, rfl, OA.out, Hb.out⟩
end Go.Proofs.YtgpedejeifmfdaaGreat
