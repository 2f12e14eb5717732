/- The law NoteBits. -/
import Derived.Test.YtdaaphebfhlpmaaNoteA
namespace Go.Proofs.Ytdaaphebfhlpmaa
open Go.RowKit

theorem not_opened {xs L : List Int} (hx : ∀ z ∈ xs, (Lit.int .u8 z).wf = true) (hL : ∀ z ∈ L, (Lit.int .u8 z).wf = true) (hc : crc 11994318 L ≠ crc 11994318 (sealed xs)) : opened L = false := by
  cases ho : opened L with
  | false => rfl
  | true =>
    exfalso
    have h3 : 3 ≤ L.length := by unfold opened at ho; rw [Bool.and_eq_true, decide_eq_true_iff] at ho; exact ho.1
    have hs := of_decide_eq_true (opened_sealed rfl h3 ho)
    apply hc
    rw [sealed_zero xs hx, ← hs]
    exact sealed_zero _ fun z hz => hL z (List.mem_of_mem_take hz)
theorem mask_up (r : Nat) (h : r < 8) : 2 ^ r ≠ 0 ∧ 2 ^ r < 256 := by
  match r, h with
  | 0, _ | 1, _ | 2, _ | 3, _ | 4, _ | 5, _ | 6, _ | 7, _ => decide
theorem mask_int (r : Nat) (h : r < 8) : (2 : Int) ^ r % 256 = ((2 ^ r : Nat) : Int) := by
  match r, h with
  | 0, _ | 1, _ | 2, _ | 3, _ | 4, _ | 5, _ | 6, _ | 7, _ => decide
theorem xor_byte_lt {x m : Nat} (hx : x < 256) (hm : m < 256) : x ^^^ m < 256 := Nat.xor_lt_two_pow (n := 8) hx hm
theorem xor_ne {x m : Nat} (h : m ≠ 0) : x ^^^ m ≠ x := fun e => h (xor_can (a := x) (by rw [e, Nat.xor_zero]))
theorem getD_mem {zs : List Int} {i : Nat} (h : i < zs.length) : zs.getD i 0 ∈ zs := by
  rw [List.getD_eq_getElem?_getD, List.getElem?_eq_getElem h]; exact List.getElem_mem _
theorem getD_nat {zs : List Int} (hf : ∀ z ∈ zs, (Lit.int .u8 z).wf = true) {i : Nat} (h : i < zs.length) : ∃ x : Nat, x < 256 ∧ zs.getD i 0 = (x : Int) ∧ zs[i] = (x : Int) := by
  have hu := wf_u8 (hf _ (getD_mem h))
  have e : zs.getD i 0 = zs[i] := by rw [List.getD_eq_getElem?_getD, List.getElem?_eq_getElem h]; rfl
  exact ⟨(zs.getD i 0).toNat, by omega, by omega, by rw [← e]; omega⟩
theorem crc_turn1 {zs : List Int} {i : Nat} (h : i < zs.length) {x y : Nat} (hx : zs[i] = (x : Int)) (hne : y ≠ x) (s : Nat) : crc s (zs.set i (y : Int)) ≠ crc s zs :=
  crc_set h (by rw [hx]; omega) (by omega) (by rw [hx]; omega)
theorem noteD_len {xs : List Int} (h : xs.length ≠ 7) : noteD xs = (noMsg, false) := if_neg fun e => h e.2
theorem noteD_shut {xs : List Int} (h : opened xs = false) : noteD xs = (noMsg, false) := if_neg fun e => by rw [h] at e; exact absurd e.1 (by decide)
theorem Decode_no {w : World} {a : Option Addr} {n c : Nat} {xs : List Int} (hx : Ints w .u8 a n c xs) (hn : n ≤ 1000) (h : noteD xs = (noMsg, false)) : Calls Try.prog 16 #[.slice a n c] w fun e w' => e = .returned (.tuple #[.agg #[.int .i64 0, .int .i64 0, .int .i64 0, .int .i64 0], .bool false]) ∧ Below w.heap.size w w' := by
  have := Decode_calls hx hn
  rw [h] at this
  exact this
theorem bits_shut {m : Msg} {zs : List Int} (hr : rightOf m = true) (hz : ∀ z ∈ zs, (Lit.int .u8 z).wf = true) (hc : crc 11994318 zs ≠ crc 11994318 (noteE m)) : noteD zs = (noMsg, false) := by
  refine noteD_shut (not_opened (xs := bytesZ 4 (wordN m)) ?_ hz ?_)
  · intro z hz
    obtain ⟨b, hb, rfl⟩ := List.mem_map.1 hz
    exact WalkArith.wf_u8 (by have := dig_lt _ _ b hb; omega)
  · rw [← (noteE_yes hr).1]; exact hc
set_option maxHeartbeats 8000000 in
theorem lawNoteBits {w : World} {m : Msg} {bit cut : Int} {sa : Option Addr} {n sc : Nat} {xs : List Int} (_hm : m.ok) (_hbit : (Lit.int .i64 bit).wf = true) (_hcut : (Lit.int .i64 cut).wf = true) (hx : Ints w .u8 sa n sc xs) : Calls Try.prog 5 #[.agg m.cells.toArray, .int .i64 bit, .int .i64 cut, .slice sa n sc] w fun e w' => e = .returned (.bool true) ∧ Below w.heap.size w w' := by
  clear _hm _hbit _hcut
  have h1 := fun w : World => Encode_calls (w := w) m
  have ds : rightOf m = false ∨ (rightOf m = true ∧ (noteE m).length = 7 ∧ ∀ zs : List Int, (∀ z ∈ zs, (Lit.int .u8 z).wf = true) → crc 11994318 zs ≠ crc 11994318 (noteE m) → noteD zs = (noMsg, false)) := by
    cases h : rightOf m
    · exact .inl rfl
    · exact .inr ⟨rfl, (noteE_yes h).2, fun zs => bits_shut h⟩
  generalize rightOf m = R at *
  generalize noteE m = E at *
  obtain ⟨k, p, t, x⟩ := m
  simp only [Msg.cells, Msg.kind, Msg.part, Msg.tx, Msg.what] at h1 ⊢
  have H1 := Lib.hid h1; clear h1
  have IX := Lib.hid hx; clear hx
  have Hb := Lib.hid (Below.refl w.heap.size w)
  obtain ⟨o0, hb0⟩ : ∃ wz : World, wz = w.alloc (.cells #[.int .i64 k, .int .i64 p, .int .i64 t, .int .i64 x] 23) := ⟨_, rfl⟩
  have bk : Below w.heap.size w o0 := by rw [hb0]; exact (Below.refl _ _).alloc (Nat.le_refl _) _
  have s0 : o0.heap.size = w.heap.size + 1 := by rw [hb0, World.size_alloc]
  have zM : o0.heap[w.heap.size]? = some (.cells #[.int .i64 k, .int .i64 p, .int .i64 t, .int .i64 x] 23 (0, 0)) := by
    have := heap_alloc_new w (.cells #[.int .i64 k, .int .i64 p, .int .i64 t, .int .i64 x] 23)
    rw [← hb0] at this
    exact this
  have iX := IX.out.keep bk
  have hb := Hb.out.trans (bk.mono Hb.out.size)
  clear Hb bk
  clear IX
  have IX := Lib.hid iX; clear iX
  have Hb := Lib.hid hb; clear hb
  have XM := Lib.hid zM; clear zM
  clear s0
  go_enter Try.func5, Try.ntmps5
  go_wp2_with fail
  rw [← hb0]
  clear hb0
  refine (alive_calls).mono ?_
  rintro e w1 ⟨rfl, bk⟩
  have xM := keepAt XM.out bk
  have iX := IX.out.keep bk
  have hb := Hb.out.trans (bk.mono Hb.out.size)
  clear Hb bk
  clear XM
  have XM := Lib.hid xM; clear xM
  clear IX
  have IX := Lib.hid iX; clear iX
  have Hb := Lib.hid hb; clear hb
  have Hs1 := Lib.hid Hb.out.size
  have yM0 := cells_at XM.out 0
  have yM1 := cells_at XM.out 1
  have yM2 := cells_at XM.out 2
  have yM3 := cells_at XM.out 3
  go_wp2_with fail
  refine (H1.out _).mono ?_
  rintro e w2 ⟨v, rfl, ov, bk⟩
  clear yM0 yM1 yM2 yM3
  have xM := keepAt XM.out bk
  have iX := IX.out.keep bk
  have hb := Hb.out.trans (bk.mono Hb.out.size)
  clear Hb bk
  clear XM
  have XM := Lib.hid xM; clear xM
  clear IX
  have IX := Lib.hid iX; clear iX
  have Hb := Lib.hid hb; clear hb
  replace ov := ov.mono Hs1.out
  clear Hs1
  rcases ds with rfl | ⟨rfl, hl, hD⟩
  · clear ov
    go_wp2
    go_ret
    exact ⟨rfl, Hb.out⟩
  · obtain ⟨g, c, rfl, hnc, hcm, hg2, hg3, iP⟩ := ov.shape hl (by decide)
    have VP := Lib.hid ov; clear ov
    have IP := Lib.hid iP; clear iP hg3
    have Hl := Lib.hid hl; clear hl
    have HD := Lib.hid hD; clear hD
    have Hg2 := Lib.hid hg2; clear hg2
    by_cases hn : 200 < n
    · have kz : decide (200 < (n : Int)) = true := decide_eq_true (by omega)
      go_wp2
      go_ret
      exact ⟨rfl, Hb.out⟩
    · have kh : decide (200 < n) = false := decide_eq_false (by omega)
      have kz : decide (200 < (n : Int)) = false := decide_eq_false (by omega)
      rcases Nat.lt_or_ge 0 n with hn0 | hn0
      · have kn : decide (0 < n) = true := decide_eq_true hn0
        have ky : decide (0 < (n : Int)) = true := decide_eq_true (by omega)
        have Hn0 := Lib.hid hn0
        clear hn0
        have hcs : cut < 0 ∨ (0 ≤ cut ∧ 7 ≤ cut) ∨ (0 ≤ cut ∧ cut < 7) := by omega
        rcases hcs with hc1 | ⟨hc1, hc2⟩ | ⟨hc1, hc2⟩
        · have kb : decide (0 ≤ cut) = false := decide_eq_false (by omega)
          clear hc1
          have hbs : bit < 0 ∨ (0 ≤ bit ∧ 56 ≤ bit) ∨ (0 ≤ bit ∧ bit < 56) := by omega
          rcases hbs with hb1 | ⟨hb1, hb2⟩ | ⟨hb1, hb2⟩
          · have lb : decide (bit < 0) = true := decide_eq_true hb1
            clear hb1
            go_wp2_with fail
            refine (CopyBytes_calls IP.out (by decide)).mono ?_
            rintro e w3 ⟨v, rfl, hv, hne, bk⟩
            have hsz : w2.heap.size ≤ w3.heap.size := bk.size
            have hy := (IX.out.keep bk)
            have hl := Hl.out
            have hbnd : (E.length + n) * 1 ≤ 140737488355328 := by rw [hl]; omega
            clear hne hl
            go_wp2_with (at_builtin; refine wpList_append_ints _ rfl _ _ 25 rfl .u8 w2.heap.size 5 (.int .u8 0) 1 Try.underlying25 Try.infoU8 rfl v E rfl hv sa n sc xs rfl hy hbnd (by decide) hsz ?_; intro v' w4 hown' hg3 hne')
            replace bk := bk.grown hg3 hsz (fun k hk => (hv.block k hk).1)
            have hlen : (E ++ xs).length = 7 + n := by rw [List.length_append, Hl.out, IX.out.len]
            obtain ⟨a2, c2, rfl, hi, _⟩ := hown'.ints
            rw [hlen] at hi ⊢
            have hno : noteD (E ++ xs) = (noMsg, false) := noteD_len (by have := Hn0.out; omega)
            have I2 := Lib.hid hi
            have Hno := Lib.hid hno
            clear hown' hi hno hlen hne' hg3 hv hbnd hy hsz
            have xM := keepAt XM.out bk
            have iX := IX.out.keep bk
            have iP := IP.out.keep bk
            have vP := VP.out.below bk
            have hb := Hb.out.trans (bk.mono Hb.out.size)
            clear Hb bk
            clear XM
            have XM := Lib.hid xM; clear xM
            clear IX
            have IX := Lib.hid iX; clear iX
            clear IP
            have IP := Lib.hid iP; clear iP
            clear VP
            have VP := Lib.hid vP; clear vP
            have Hb := Lib.hid hb; clear hb
            go_wp2_with fail
            refine (Decode_no I2.out (by omega) Hno.out).mono ?_
            rintro e w5 ⟨rfl, bk⟩
            have xM := keepAt XM.out bk
            have iX := IX.out.keep bk
            have iP := IP.out.keep bk
            have vP := VP.out.below bk
            have hb := Hb.out.trans (bk.mono Hb.out.size)
            clear Hb bk
            clear XM
            have XM := Lib.hid xM; clear xM
            clear IX
            have IX := Lib.hid iX; clear iX
            clear IP
            have IP := Lib.hid iP; clear iP
            clear VP
            have VP := Lib.hid vP; clear vP
            have Hb := Lib.hid hb; clear hb
            have bk := (Below.refl w5.heap.size w5).alloc (Nat.le_refl _) (.cells #[.int .i64 0, .int .i64 0, .int .i64 0, .int .i64 0] 23)
            have xM := keepAt XM.out bk
            have iX := IX.out.keep bk
            have iP := IP.out.keep bk
            have vP := VP.out.below bk
            have hb := Hb.out.trans (bk.mono Hb.out.size)
            clear Hb bk
            clear XM
            have XM := Lib.hid xM; clear xM
            clear IX
            have IX := Lib.hid iX; clear iX
            clear IP
            have IP := Lib.hid iP; clear iP
            clear VP
            have VP := Lib.hid vP; clear vP
            have Hb := Lib.hid hb; clear hb
            obtain ⟨g5, hg5⟩ : ∃ x : Nat, x = w5.heap.size := ⟨_, rfl⟩
            clear I2 Hno
            go_wp2
            go_ret
            exact ⟨rfl, Hb.out⟩
          · have lb : decide (bit < 0) = false := decide_eq_false (by omega)
            have lc : decide (56 ≤ bit) = true := decide_eq_true (by omega)
            clear hb1 hb2
            go_wp2_with fail
            refine (CopyBytes_calls IP.out (by decide)).mono ?_
            rintro e w3 ⟨v, rfl, hv, hne, bk⟩
            have hsz : w2.heap.size ≤ w3.heap.size := bk.size
            have hy := (IX.out.keep bk)
            have hl := Hl.out
            have hbnd : (E.length + n) * 1 ≤ 140737488355328 := by rw [hl]; omega
            clear hne hl
            go_wp2_with (at_builtin; refine wpList_append_ints _ rfl _ _ 25 rfl .u8 w2.heap.size 5 (.int .u8 0) 1 Try.underlying25 Try.infoU8 rfl v E rfl hv sa n sc xs rfl hy hbnd (by decide) hsz ?_; intro v' w4 hown' hg3 hne')
            replace bk := bk.grown hg3 hsz (fun k hk => (hv.block k hk).1)
            have hlen : (E ++ xs).length = 7 + n := by rw [List.length_append, Hl.out, IX.out.len]
            obtain ⟨a2, c2, rfl, hi, _⟩ := hown'.ints
            rw [hlen] at hi ⊢
            have hno : noteD (E ++ xs) = (noMsg, false) := noteD_len (by have := Hn0.out; omega)
            have I2 := Lib.hid hi
            have Hno := Lib.hid hno
            clear hown' hi hno hlen hne' hg3 hv hbnd hy hsz
            have xM := keepAt XM.out bk
            have iX := IX.out.keep bk
            have iP := IP.out.keep bk
            have vP := VP.out.below bk
            have hb := Hb.out.trans (bk.mono Hb.out.size)
            clear Hb bk
            clear XM
            have XM := Lib.hid xM; clear xM
            clear IX
            have IX := Lib.hid iX; clear iX
            clear IP
            have IP := Lib.hid iP; clear iP
            clear VP
            have VP := Lib.hid vP; clear vP
            have Hb := Lib.hid hb; clear hb
            go_wp2_with fail
            refine (Decode_no I2.out (by omega) Hno.out).mono ?_
            rintro e w5 ⟨rfl, bk⟩
            have xM := keepAt XM.out bk
            have iX := IX.out.keep bk
            have iP := IP.out.keep bk
            have vP := VP.out.below bk
            have hb := Hb.out.trans (bk.mono Hb.out.size)
            clear Hb bk
            clear XM
            have XM := Lib.hid xM; clear xM
            clear IX
            have IX := Lib.hid iX; clear iX
            clear IP
            have IP := Lib.hid iP; clear iP
            clear VP
            have VP := Lib.hid vP; clear vP
            have Hb := Lib.hid hb; clear hb
            have bk := (Below.refl w5.heap.size w5).alloc (Nat.le_refl _) (.cells #[.int .i64 0, .int .i64 0, .int .i64 0, .int .i64 0] 23)
            have xM := keepAt XM.out bk
            have iX := IX.out.keep bk
            have iP := IP.out.keep bk
            have vP := VP.out.below bk
            have hb := Hb.out.trans (bk.mono Hb.out.size)
            clear Hb bk
            clear XM
            have XM := Lib.hid xM; clear xM
            clear IX
            have IX := Lib.hid iX; clear iX
            clear IP
            have IP := Lib.hid iP; clear iP
            clear VP
            have VP := Lib.hid vP; clear vP
            have Hb := Lib.hid hb; clear hb
            obtain ⟨g5, hg5⟩ : ∃ x : Nat, x = w5.heap.size := ⟨_, rfl⟩
            clear I2 Hno
            go_wp2
            go_ret
            exact ⟨rfl, Hb.out⟩
          · obtain ⟨K, rfl⟩ := Int.eq_ofNat_of_zero_le hb1
            have hk : K < 56 := by omega
            clear hb1 hb2
            have lb : decide ((K : Int) < 0) = false := decide_eq_false (by omega)
            have lc : decide (56 ≤ (K : Int)) = false := decide_eq_false (by omega)
            have hk8 : K / 8 < 7 := by omega
            go_wp2_with fail
            refine (CopyBytes_calls IP.out (by decide)).mono ?_
            rintro e w3 ⟨v, rfl, hv, hne, bk⟩
            have hsz : w2.heap.size ≤ w3.heap.size := bk.size
            have hy := (IX.out.keep bk)
            have hl := Hl.out
            have hbnd : (E.length + n) * 1 ≤ 140737488355328 := by rw [hl]; omega
            clear hne hl
            go_wp2_with (at_builtin; refine wpList_append_ints _ rfl _ _ 25 rfl .u8 w2.heap.size 5 (.int .u8 0) 1 Try.underlying25 Try.infoU8 rfl v E rfl hv sa n sc xs rfl hy hbnd (by decide) hsz ?_; intro v' w4 hown' hg3 hne')
            replace bk := bk.grown hg3 hsz (fun k hk => (hv.block k hk).1)
            have hlen : (E ++ xs).length = 7 + n := by rw [List.length_append, Hl.out, IX.out.len]
            obtain ⟨a2, c2, rfl, hi, _⟩ := hown'.ints
            rw [hlen] at hi ⊢
            have hno : noteD (E ++ xs) = (noMsg, false) := noteD_len (by have := Hn0.out; omega)
            have I2 := Lib.hid hi
            have Hno := Lib.hid hno
            clear hown' hi hno hlen hne' hg3 hv hbnd hy hsz
            have xM := keepAt XM.out bk
            have iX := IX.out.keep bk
            have iP := IP.out.keep bk
            have vP := VP.out.below bk
            have hb := Hb.out.trans (bk.mono Hb.out.size)
            clear Hb bk
            clear XM
            have XM := Lib.hid xM; clear xM
            clear IX
            have IX := Lib.hid iX; clear iX
            clear IP
            have IP := Lib.hid iP; clear iP
            clear VP
            have VP := Lib.hid vP; clear vP
            have Hb := Lib.hid hb; clear hb
            go_wp2_with fail
            refine (Decode_no I2.out (by omega) Hno.out).mono ?_
            rintro e w5 ⟨rfl, bk⟩
            have xM := keepAt XM.out bk
            have iX := IX.out.keep bk
            have iP := IP.out.keep bk
            have vP := VP.out.below bk
            have hb := Hb.out.trans (bk.mono Hb.out.size)
            clear Hb bk
            clear XM
            have XM := Lib.hid xM; clear xM
            clear IX
            have IX := Lib.hid iX; clear iX
            clear IP
            have IP := Lib.hid iP; clear iP
            clear VP
            have VP := Lib.hid vP; clear vP
            have Hb := Lib.hid hb; clear hb
            have bk := (Below.refl w5.heap.size w5).alloc (Nat.le_refl _) (.cells #[.int .i64 0, .int .i64 0, .int .i64 0, .int .i64 0] 23)
            have xM := keepAt XM.out bk
            have iX := IX.out.keep bk
            have iP := IP.out.keep bk
            have vP := VP.out.below bk
            have hb := Hb.out.trans (bk.mono Hb.out.size)
            clear Hb bk
            clear XM
            have XM := Lib.hid xM; clear xM
            clear IX
            have IX := Lib.hid iX; clear iX
            clear IP
            have IP := Lib.hid iP; clear iP
            clear VP
            have VP := Lib.hid vP; clear vP
            have Hb := Lib.hid hb; clear hb
            obtain ⟨g5, hg5⟩ : ∃ x : Nat, x = w5.heap.size := ⟨_, rfl⟩
            clear I2 Hno
            have hl := Hl.out
            obtain ⟨hcell, hfr⟩ := VP.out.at hl (K / 8) hk8
            have hfit := VP.out.2
            obtain ⟨x', hx256, hxD, hxE⟩ := getD_nat hfit (i := K / 8) (by rw [hl]; exact hk8)
            rw [hxD] at hcell
            obtain ⟨m1, hm1⟩ : ∃ m, m = 2 ^ (K % 8) := ⟨_, rfl⟩
            have hm1' := mask_up (K % 8) (by omega)
            rw [← hm1] at hm1'
            have hX1 := u8_xor_nat x' m1 hx256 hm1'.2
            rw [hm1, ← mask_int (K % 8) (by omega), ← hm1] at hX1
            have HX1 := Lib.hid hX1; clear hX1
            have hx1 := xor_byte_lt hx256 hm1'.2
            have hne1 : x' ^^^ m1 ≠ x' := xor_ne hm1'.1
            have hwf1 : (Lit.int .u8 ((x' ^^^ m1 : Nat) : Int)).wf = true := WalkArith.wf_u8 (by omega)
            have hp1 := Own.put VP.out hl (K / 8) hwf1
            have hL1 : (E.set (K / 8) ((x' ^^^ m1 : Nat) : Int)).length = 7 := by rw [List.length_set, hl]
            have hno := HD.out _ hp1.2 (crc_turn1 (by rw [hl]; exact hk8) hxE hne1 _)
            obtain ⟨g', c', hve, _, _, _, _, hi5⟩ := hp1.shape hL1 (by decide)
            simp only [Value.slice.injEq, Option.some.injEq, Addr.mk.injEq, and_true, true_and] at hve
            obtain ⟨rfl, rfl⟩ := hve
            have hb := Hb.out.setCell (p := ⟨g, K / 8, none⟩) Hg2.out (.int .u8 ((x' ^^^ m1 : Nat) : Int))
            have Hno := Lib.hid hno; clear hno
            have I5 := Lib.hid hi5; clear hi5
            have Hm1 := Lib.hid hm1
            clear hp1 hL1 hfit hxD hxE hm1' hne1 hwf1 VP hl Hb HD
            have Hb := Lib.hid hb; clear hb
            go_wp2_with fail
            generalize w5.heap.size = g5 at *
            generalize w5.alloc (.cells #[.int .i64 0, .int .i64 0, .int .i64 0, .int .i64 0] 23) = w6 at *
            rw [HX1.out]
            clear HX1
            refine (Decode_no I5.out (by decide) Hno.out).mono ?_
            rintro e we ⟨rfl, bk⟩
            have hb := Hb.out.trans (bk.mono Hb.out.size)
            clear Hb bk
            have Hb := Lib.hid hb; clear hb
            clear I5 Hno
            have bk := (Below.refl we.heap.size we).alloc (Nat.le_refl _) (.cells #[.int .i64 0, .int .i64 0, .int .i64 0, .int .i64 0] 23)
            have hb := Hb.out.trans (bk.mono Hb.out.size)
            clear Hb bk
            have Hb := Lib.hid hb; clear hb
            go_wp2
            go_ret
            exact ⟨rfl, Hb.out⟩
        · have kb : decide (0 ≤ cut) = true := decide_eq_true (by omega)
          have kc : decide (cut < 7) = false := decide_eq_false (by omega)
          clear hc1 hc2
          have hbs : bit < 0 ∨ (0 ≤ bit ∧ 56 ≤ bit) ∨ (0 ≤ bit ∧ bit < 56) := by omega
          rcases hbs with hb1 | ⟨hb1, hb2⟩ | ⟨hb1, hb2⟩
          · have lb : decide (bit < 0) = true := decide_eq_true hb1
            clear hb1
            go_wp2_with fail
            refine (CopyBytes_calls IP.out (by decide)).mono ?_
            rintro e w3 ⟨v, rfl, hv, hne, bk⟩
            have hsz : w2.heap.size ≤ w3.heap.size := bk.size
            have hy := (IX.out.keep bk)
            have hl := Hl.out
            have hbnd : (E.length + n) * 1 ≤ 140737488355328 := by rw [hl]; omega
            clear hne hl
            go_wp2_with (at_builtin; refine wpList_append_ints _ rfl _ _ 25 rfl .u8 w2.heap.size 5 (.int .u8 0) 1 Try.underlying25 Try.infoU8 rfl v E rfl hv sa n sc xs rfl hy hbnd (by decide) hsz ?_; intro v' w4 hown' hg3 hne')
            replace bk := bk.grown hg3 hsz (fun k hk => (hv.block k hk).1)
            have hlen : (E ++ xs).length = 7 + n := by rw [List.length_append, Hl.out, IX.out.len]
            obtain ⟨a2, c2, rfl, hi, _⟩ := hown'.ints
            rw [hlen] at hi ⊢
            have hno : noteD (E ++ xs) = (noMsg, false) := noteD_len (by have := Hn0.out; omega)
            have I2 := Lib.hid hi
            have Hno := Lib.hid hno
            clear hown' hi hno hlen hne' hg3 hv hbnd hy hsz
            have xM := keepAt XM.out bk
            have iX := IX.out.keep bk
            have iP := IP.out.keep bk
            have vP := VP.out.below bk
            have hb := Hb.out.trans (bk.mono Hb.out.size)
            clear Hb bk
            clear XM
            have XM := Lib.hid xM; clear xM
            clear IX
            have IX := Lib.hid iX; clear iX
            clear IP
            have IP := Lib.hid iP; clear iP
            clear VP
            have VP := Lib.hid vP; clear vP
            have Hb := Lib.hid hb; clear hb
            go_wp2_with fail
            refine (Decode_no I2.out (by omega) Hno.out).mono ?_
            rintro e w5 ⟨rfl, bk⟩
            have xM := keepAt XM.out bk
            have iX := IX.out.keep bk
            have iP := IP.out.keep bk
            have vP := VP.out.below bk
            have hb := Hb.out.trans (bk.mono Hb.out.size)
            clear Hb bk
            clear XM
            have XM := Lib.hid xM; clear xM
            clear IX
            have IX := Lib.hid iX; clear iX
            clear IP
            have IP := Lib.hid iP; clear iP
            clear VP
            have VP := Lib.hid vP; clear vP
            have Hb := Lib.hid hb; clear hb
            have bk := (Below.refl w5.heap.size w5).alloc (Nat.le_refl _) (.cells #[.int .i64 0, .int .i64 0, .int .i64 0, .int .i64 0] 23)
            have xM := keepAt XM.out bk
            have iX := IX.out.keep bk
            have iP := IP.out.keep bk
            have vP := VP.out.below bk
            have hb := Hb.out.trans (bk.mono Hb.out.size)
            clear Hb bk
            clear XM
            have XM := Lib.hid xM; clear xM
            clear IX
            have IX := Lib.hid iX; clear iX
            clear IP
            have IP := Lib.hid iP; clear iP
            clear VP
            have VP := Lib.hid vP; clear vP
            have Hb := Lib.hid hb; clear hb
            obtain ⟨g5, hg5⟩ : ∃ x : Nat, x = w5.heap.size := ⟨_, rfl⟩
            clear I2 Hno
            go_wp2
            go_ret
            exact ⟨rfl, Hb.out⟩
          · have lb : decide (bit < 0) = false := decide_eq_false (by omega)
            have lc : decide (56 ≤ bit) = true := decide_eq_true (by omega)
            clear hb1 hb2
            go_wp2_with fail
            refine (CopyBytes_calls IP.out (by decide)).mono ?_
            rintro e w3 ⟨v, rfl, hv, hne, bk⟩
            have hsz : w2.heap.size ≤ w3.heap.size := bk.size
            have hy := (IX.out.keep bk)
            have hl := Hl.out
            have hbnd : (E.length + n) * 1 ≤ 140737488355328 := by rw [hl]; omega
            clear hne hl
            go_wp2_with (at_builtin; refine wpList_append_ints _ rfl _ _ 25 rfl .u8 w2.heap.size 5 (.int .u8 0) 1 Try.underlying25 Try.infoU8 rfl v E rfl hv sa n sc xs rfl hy hbnd (by decide) hsz ?_; intro v' w4 hown' hg3 hne')
            replace bk := bk.grown hg3 hsz (fun k hk => (hv.block k hk).1)
            have hlen : (E ++ xs).length = 7 + n := by rw [List.length_append, Hl.out, IX.out.len]
            obtain ⟨a2, c2, rfl, hi, _⟩ := hown'.ints
            rw [hlen] at hi ⊢
            have hno : noteD (E ++ xs) = (noMsg, false) := noteD_len (by have := Hn0.out; omega)
            have I2 := Lib.hid hi
            have Hno := Lib.hid hno
            clear hown' hi hno hlen hne' hg3 hv hbnd hy hsz
            have xM := keepAt XM.out bk
            have iX := IX.out.keep bk
            have iP := IP.out.keep bk
            have vP := VP.out.below bk
            have hb := Hb.out.trans (bk.mono Hb.out.size)
            clear Hb bk
            clear XM
            have XM := Lib.hid xM; clear xM
            clear IX
            have IX := Lib.hid iX; clear iX
            clear IP
            have IP := Lib.hid iP; clear iP
            clear VP
            have VP := Lib.hid vP; clear vP
            have Hb := Lib.hid hb; clear hb
            go_wp2_with fail
            refine (Decode_no I2.out (by omega) Hno.out).mono ?_
            rintro e w5 ⟨rfl, bk⟩
            have xM := keepAt XM.out bk
            have iX := IX.out.keep bk
            have iP := IP.out.keep bk
            have vP := VP.out.below bk
            have hb := Hb.out.trans (bk.mono Hb.out.size)
            clear Hb bk
            clear XM
            have XM := Lib.hid xM; clear xM
            clear IX
            have IX := Lib.hid iX; clear iX
            clear IP
            have IP := Lib.hid iP; clear iP
            clear VP
            have VP := Lib.hid vP; clear vP
            have Hb := Lib.hid hb; clear hb
            have bk := (Below.refl w5.heap.size w5).alloc (Nat.le_refl _) (.cells #[.int .i64 0, .int .i64 0, .int .i64 0, .int .i64 0] 23)
            have xM := keepAt XM.out bk
            have iX := IX.out.keep bk
            have iP := IP.out.keep bk
            have vP := VP.out.below bk
            have hb := Hb.out.trans (bk.mono Hb.out.size)
            clear Hb bk
            clear XM
            have XM := Lib.hid xM; clear xM
            clear IX
            have IX := Lib.hid iX; clear iX
            clear IP
            have IP := Lib.hid iP; clear iP
            clear VP
            have VP := Lib.hid vP; clear vP
            have Hb := Lib.hid hb; clear hb
            obtain ⟨g5, hg5⟩ : ∃ x : Nat, x = w5.heap.size := ⟨_, rfl⟩
            clear I2 Hno
            go_wp2
            go_ret
            exact ⟨rfl, Hb.out⟩
          · obtain ⟨K, rfl⟩ := Int.eq_ofNat_of_zero_le hb1
            have hk : K < 56 := by omega
            clear hb1 hb2
            have lb : decide ((K : Int) < 0) = false := decide_eq_false (by omega)
            have lc : decide (56 ≤ (K : Int)) = false := decide_eq_false (by omega)
            have hk8 : K / 8 < 7 := by omega
            go_wp2_with fail
            refine (CopyBytes_calls IP.out (by decide)).mono ?_
            rintro e w3 ⟨v, rfl, hv, hne, bk⟩
            have hsz : w2.heap.size ≤ w3.heap.size := bk.size
            have hy := (IX.out.keep bk)
            have hl := Hl.out
            have hbnd : (E.length + n) * 1 ≤ 140737488355328 := by rw [hl]; omega
            clear hne hl
            go_wp2_with (at_builtin; refine wpList_append_ints _ rfl _ _ 25 rfl .u8 w2.heap.size 5 (.int .u8 0) 1 Try.underlying25 Try.infoU8 rfl v E rfl hv sa n sc xs rfl hy hbnd (by decide) hsz ?_; intro v' w4 hown' hg3 hne')
            replace bk := bk.grown hg3 hsz (fun k hk => (hv.block k hk).1)
            have hlen : (E ++ xs).length = 7 + n := by rw [List.length_append, Hl.out, IX.out.len]
            obtain ⟨a2, c2, rfl, hi, _⟩ := hown'.ints
            rw [hlen] at hi ⊢
            have hno : noteD (E ++ xs) = (noMsg, false) := noteD_len (by have := Hn0.out; omega)
            have I2 := Lib.hid hi
            have Hno := Lib.hid hno
            clear hown' hi hno hlen hne' hg3 hv hbnd hy hsz
            have xM := keepAt XM.out bk
            have iX := IX.out.keep bk
            have iP := IP.out.keep bk
            have vP := VP.out.below bk
            have hb := Hb.out.trans (bk.mono Hb.out.size)
            clear Hb bk
            clear XM
            have XM := Lib.hid xM; clear xM
            clear IX
            have IX := Lib.hid iX; clear iX
            clear IP
            have IP := Lib.hid iP; clear iP
            clear VP
            have VP := Lib.hid vP; clear vP
            have Hb := Lib.hid hb; clear hb
            go_wp2_with fail
            refine (Decode_no I2.out (by omega) Hno.out).mono ?_
            rintro e w5 ⟨rfl, bk⟩
            have xM := keepAt XM.out bk
            have iX := IX.out.keep bk
            have iP := IP.out.keep bk
            have vP := VP.out.below bk
            have hb := Hb.out.trans (bk.mono Hb.out.size)
            clear Hb bk
            clear XM
            have XM := Lib.hid xM; clear xM
            clear IX
            have IX := Lib.hid iX; clear iX
            clear IP
            have IP := Lib.hid iP; clear iP
            clear VP
            have VP := Lib.hid vP; clear vP
            have Hb := Lib.hid hb; clear hb
            have bk := (Below.refl w5.heap.size w5).alloc (Nat.le_refl _) (.cells #[.int .i64 0, .int .i64 0, .int .i64 0, .int .i64 0] 23)
            have xM := keepAt XM.out bk
            have iX := IX.out.keep bk
            have iP := IP.out.keep bk
            have vP := VP.out.below bk
            have hb := Hb.out.trans (bk.mono Hb.out.size)
            clear Hb bk
            clear XM
            have XM := Lib.hid xM; clear xM
            clear IX
            have IX := Lib.hid iX; clear iX
            clear IP
            have IP := Lib.hid iP; clear iP
            clear VP
            have VP := Lib.hid vP; clear vP
            have Hb := Lib.hid hb; clear hb
            obtain ⟨g5, hg5⟩ : ∃ x : Nat, x = w5.heap.size := ⟨_, rfl⟩
            clear I2 Hno
            have hl := Hl.out
            obtain ⟨hcell, hfr⟩ := VP.out.at hl (K / 8) hk8
            have hfit := VP.out.2
            obtain ⟨x', hx256, hxD, hxE⟩ := getD_nat hfit (i := K / 8) (by rw [hl]; exact hk8)
            rw [hxD] at hcell
            obtain ⟨m1, hm1⟩ : ∃ m, m = 2 ^ (K % 8) := ⟨_, rfl⟩
            have hm1' := mask_up (K % 8) (by omega)
            rw [← hm1] at hm1'
            have hX1 := u8_xor_nat x' m1 hx256 hm1'.2
            rw [hm1, ← mask_int (K % 8) (by omega), ← hm1] at hX1
            have HX1 := Lib.hid hX1; clear hX1
            have hx1 := xor_byte_lt hx256 hm1'.2
            have hne1 : x' ^^^ m1 ≠ x' := xor_ne hm1'.1
            have hwf1 : (Lit.int .u8 ((x' ^^^ m1 : Nat) : Int)).wf = true := WalkArith.wf_u8 (by omega)
            have hp1 := Own.put VP.out hl (K / 8) hwf1
            have hL1 : (E.set (K / 8) ((x' ^^^ m1 : Nat) : Int)).length = 7 := by rw [List.length_set, hl]
            have hno := HD.out _ hp1.2 (crc_turn1 (by rw [hl]; exact hk8) hxE hne1 _)
            obtain ⟨g', c', hve, _, _, _, _, hi5⟩ := hp1.shape hL1 (by decide)
            simp only [Value.slice.injEq, Option.some.injEq, Addr.mk.injEq, and_true, true_and] at hve
            obtain ⟨rfl, rfl⟩ := hve
            have hb := Hb.out.setCell (p := ⟨g, K / 8, none⟩) Hg2.out (.int .u8 ((x' ^^^ m1 : Nat) : Int))
            have Hno := Lib.hid hno; clear hno
            have I5 := Lib.hid hi5; clear hi5
            have Hm1 := Lib.hid hm1
            clear hp1 hL1 hfit hxD hxE hm1' hne1 hwf1 VP hl Hb HD
            have Hb := Lib.hid hb; clear hb
            go_wp2_with fail
            generalize w5.heap.size = g5 at *
            generalize w5.alloc (.cells #[.int .i64 0, .int .i64 0, .int .i64 0, .int .i64 0] 23) = w6 at *
            rw [HX1.out]
            clear HX1
            refine (Decode_no I5.out (by decide) Hno.out).mono ?_
            rintro e we ⟨rfl, bk⟩
            have hb := Hb.out.trans (bk.mono Hb.out.size)
            clear Hb bk
            have Hb := Lib.hid hb; clear hb
            clear I5 Hno
            have bk := (Below.refl we.heap.size we).alloc (Nat.le_refl _) (.cells #[.int .i64 0, .int .i64 0, .int .i64 0, .int .i64 0] 23)
            have hb := Hb.out.trans (bk.mono Hb.out.size)
            clear Hb bk
            have Hb := Lib.hid hb; clear hb
            go_wp2
            go_ret
            exact ⟨rfl, Hb.out⟩
        · obtain ⟨C, rfl⟩ := Int.eq_ofNat_of_zero_le hc1
          have hC : C < 7 := by omega
          clear hc1 hc2
          have kb : decide (0 ≤ (C : Int)) = true := decide_eq_true (by omega)
          have kc : decide ((C : Int) < 7) = true := decide_eq_true (by omega)
          have hbs : bit < 0 ∨ (0 ≤ bit ∧ 56 ≤ bit) ∨ (0 ≤ bit ∧ bit < 56) := by omega
          rcases hbs with hb1 | ⟨hb1, hb2⟩ | ⟨hb1, hb2⟩
          · have lb : decide (bit < 0) = true := decide_eq_true hb1
            clear hb1
            go_wp2_with fail
            have hi := IP.out.take C (by omega)
            have hno : noteD (E.take C) = (noMsg, false) := noteD_len (by rw [List.length_take, Hl.out]; omega)
            have I2 := Lib.hid hi
            have Hno := Lib.hid hno
            clear hi hno
            refine (Decode_no I2.out (by omega) Hno.out).mono ?_
            rintro e w3 ⟨rfl, bk⟩
            have xM := keepAt XM.out bk
            have iX := IX.out.keep bk
            have iP := IP.out.keep bk
            have vP := VP.out.below bk
            have hb := Hb.out.trans (bk.mono Hb.out.size)
            clear Hb bk
            clear XM
            have XM := Lib.hid xM; clear xM
            clear IX
            have IX := Lib.hid iX; clear iX
            clear IP
            have IP := Lib.hid iP; clear iP
            clear VP
            have VP := Lib.hid vP; clear vP
            have Hb := Lib.hid hb; clear hb
            have bk := (Below.refl w3.heap.size w3).alloc (Nat.le_refl _) (.cells #[.int .i64 0, .int .i64 0, .int .i64 0, .int .i64 0] 23)
            have xM := keepAt XM.out bk
            have iX := IX.out.keep bk
            have iP := IP.out.keep bk
            have vP := VP.out.below bk
            have hb := Hb.out.trans (bk.mono Hb.out.size)
            clear Hb bk
            clear XM
            have XM := Lib.hid xM; clear xM
            clear IX
            have IX := Lib.hid iX; clear iX
            clear IP
            have IP := Lib.hid iP; clear iP
            clear VP
            have VP := Lib.hid vP; clear vP
            have Hb := Lib.hid hb; clear hb
            obtain ⟨g3, hg3⟩ : ∃ x : Nat, x = w3.heap.size := ⟨_, rfl⟩
            clear I2 Hno
            go_wp2_with fail
            generalize w3.heap.size = g3 at *
            generalize w3.alloc (.cells #[.int .i64 0, .int .i64 0, .int .i64 0, .int .i64 0] 23) = w4 at *
            refine (CopyBytes_calls IP.out (by decide)).mono ?_
            rintro e w5 ⟨v, rfl, hv, hne, bk⟩
            have hsz : w4.heap.size ≤ w5.heap.size := bk.size
            have hy := (IX.out.keep bk)
            have hl := Hl.out
            have hbnd : (E.length + n) * 1 ≤ 140737488355328 := by rw [hl]; omega
            clear hne hl
            go_wp2_with (at_builtin; refine wpList_append_ints _ rfl _ _ 25 rfl .u8 w4.heap.size 5 (.int .u8 0) 1 Try.underlying25 Try.infoU8 rfl v E rfl hv sa n sc xs rfl hy hbnd (by decide) hsz ?_; intro v' w6 hown' hg3 hne')
            replace bk := bk.grown hg3 hsz (fun k hk => (hv.block k hk).1)
            have hlen : (E ++ xs).length = 7 + n := by rw [List.length_append, Hl.out, IX.out.len]
            obtain ⟨a2, c2, rfl, hi, _⟩ := hown'.ints
            rw [hlen] at hi ⊢
            have hno : noteD (E ++ xs) = (noMsg, false) := noteD_len (by have := Hn0.out; omega)
            have I2 := Lib.hid hi
            have Hno := Lib.hid hno
            clear hown' hi hno hlen hne' hg3 hv hbnd hy hsz
            have xM := keepAt XM.out bk
            have iX := IX.out.keep bk
            have iP := IP.out.keep bk
            have vP := VP.out.below bk
            have hb := Hb.out.trans (bk.mono Hb.out.size)
            clear Hb bk
            clear XM
            have XM := Lib.hid xM; clear xM
            clear IX
            have IX := Lib.hid iX; clear iX
            clear IP
            have IP := Lib.hid iP; clear iP
            clear VP
            have VP := Lib.hid vP; clear vP
            have Hb := Lib.hid hb; clear hb
            go_wp2_with fail
            refine (Decode_no I2.out (by omega) Hno.out).mono ?_
            rintro e w7 ⟨rfl, bk⟩
            have xM := keepAt XM.out bk
            have iX := IX.out.keep bk
            have iP := IP.out.keep bk
            have vP := VP.out.below bk
            have hb := Hb.out.trans (bk.mono Hb.out.size)
            clear Hb bk
            clear XM
            have XM := Lib.hid xM; clear xM
            clear IX
            have IX := Lib.hid iX; clear iX
            clear IP
            have IP := Lib.hid iP; clear iP
            clear VP
            have VP := Lib.hid vP; clear vP
            have Hb := Lib.hid hb; clear hb
            have bk := (Below.refl w7.heap.size w7).alloc (Nat.le_refl _) (.cells #[.int .i64 0, .int .i64 0, .int .i64 0, .int .i64 0] 23)
            have xM := keepAt XM.out bk
            have iX := IX.out.keep bk
            have iP := IP.out.keep bk
            have vP := VP.out.below bk
            have hb := Hb.out.trans (bk.mono Hb.out.size)
            clear Hb bk
            clear XM
            have XM := Lib.hid xM; clear xM
            clear IX
            have IX := Lib.hid iX; clear iX
            clear IP
            have IP := Lib.hid iP; clear iP
            clear VP
            have VP := Lib.hid vP; clear vP
            have Hb := Lib.hid hb; clear hb
            obtain ⟨g7, hg7⟩ : ∃ x : Nat, x = w7.heap.size := ⟨_, rfl⟩
            clear I2 Hno
            go_wp2
            go_ret
            exact ⟨rfl, Hb.out⟩
          · have lb : decide (bit < 0) = false := decide_eq_false (by omega)
            have lc : decide (56 ≤ bit) = true := decide_eq_true (by omega)
            clear hb1 hb2
            go_wp2_with fail
            have hi := IP.out.take C (by omega)
            have hno : noteD (E.take C) = (noMsg, false) := noteD_len (by rw [List.length_take, Hl.out]; omega)
            have I2 := Lib.hid hi
            have Hno := Lib.hid hno
            clear hi hno
            refine (Decode_no I2.out (by omega) Hno.out).mono ?_
            rintro e w3 ⟨rfl, bk⟩
            have xM := keepAt XM.out bk
            have iX := IX.out.keep bk
            have iP := IP.out.keep bk
            have vP := VP.out.below bk
            have hb := Hb.out.trans (bk.mono Hb.out.size)
            clear Hb bk
            clear XM
            have XM := Lib.hid xM; clear xM
            clear IX
            have IX := Lib.hid iX; clear iX
            clear IP
            have IP := Lib.hid iP; clear iP
            clear VP
            have VP := Lib.hid vP; clear vP
            have Hb := Lib.hid hb; clear hb
            have bk := (Below.refl w3.heap.size w3).alloc (Nat.le_refl _) (.cells #[.int .i64 0, .int .i64 0, .int .i64 0, .int .i64 0] 23)
            have xM := keepAt XM.out bk
            have iX := IX.out.keep bk
            have iP := IP.out.keep bk
            have vP := VP.out.below bk
            have hb := Hb.out.trans (bk.mono Hb.out.size)
            clear Hb bk
            clear XM
            have XM := Lib.hid xM; clear xM
            clear IX
            have IX := Lib.hid iX; clear iX
            clear IP
            have IP := Lib.hid iP; clear iP
            clear VP
            have VP := Lib.hid vP; clear vP
            have Hb := Lib.hid hb; clear hb
            obtain ⟨g3, hg3⟩ : ∃ x : Nat, x = w3.heap.size := ⟨_, rfl⟩
            clear I2 Hno
            go_wp2_with fail
            generalize w3.heap.size = g3 at *
            generalize w3.alloc (.cells #[.int .i64 0, .int .i64 0, .int .i64 0, .int .i64 0] 23) = w4 at *
            refine (CopyBytes_calls IP.out (by decide)).mono ?_
            rintro e w5 ⟨v, rfl, hv, hne, bk⟩
            have hsz : w4.heap.size ≤ w5.heap.size := bk.size
            have hy := (IX.out.keep bk)
            have hl := Hl.out
            have hbnd : (E.length + n) * 1 ≤ 140737488355328 := by rw [hl]; omega
            clear hne hl
            go_wp2_with (at_builtin; refine wpList_append_ints _ rfl _ _ 25 rfl .u8 w4.heap.size 5 (.int .u8 0) 1 Try.underlying25 Try.infoU8 rfl v E rfl hv sa n sc xs rfl hy hbnd (by decide) hsz ?_; intro v' w6 hown' hg3 hne')
            replace bk := bk.grown hg3 hsz (fun k hk => (hv.block k hk).1)
            have hlen : (E ++ xs).length = 7 + n := by rw [List.length_append, Hl.out, IX.out.len]
            obtain ⟨a2, c2, rfl, hi, _⟩ := hown'.ints
            rw [hlen] at hi ⊢
            have hno : noteD (E ++ xs) = (noMsg, false) := noteD_len (by have := Hn0.out; omega)
            have I2 := Lib.hid hi
            have Hno := Lib.hid hno
            clear hown' hi hno hlen hne' hg3 hv hbnd hy hsz
            have xM := keepAt XM.out bk
            have iX := IX.out.keep bk
            have iP := IP.out.keep bk
            have vP := VP.out.below bk
            have hb := Hb.out.trans (bk.mono Hb.out.size)
            clear Hb bk
            clear XM
            have XM := Lib.hid xM; clear xM
            clear IX
            have IX := Lib.hid iX; clear iX
            clear IP
            have IP := Lib.hid iP; clear iP
            clear VP
            have VP := Lib.hid vP; clear vP
            have Hb := Lib.hid hb; clear hb
            go_wp2_with fail
            refine (Decode_no I2.out (by omega) Hno.out).mono ?_
            rintro e w7 ⟨rfl, bk⟩
            have xM := keepAt XM.out bk
            have iX := IX.out.keep bk
            have iP := IP.out.keep bk
            have vP := VP.out.below bk
            have hb := Hb.out.trans (bk.mono Hb.out.size)
            clear Hb bk
            clear XM
            have XM := Lib.hid xM; clear xM
            clear IX
            have IX := Lib.hid iX; clear iX
            clear IP
            have IP := Lib.hid iP; clear iP
            clear VP
            have VP := Lib.hid vP; clear vP
            have Hb := Lib.hid hb; clear hb
            have bk := (Below.refl w7.heap.size w7).alloc (Nat.le_refl _) (.cells #[.int .i64 0, .int .i64 0, .int .i64 0, .int .i64 0] 23)
            have xM := keepAt XM.out bk
            have iX := IX.out.keep bk
            have iP := IP.out.keep bk
            have vP := VP.out.below bk
            have hb := Hb.out.trans (bk.mono Hb.out.size)
            clear Hb bk
            clear XM
            have XM := Lib.hid xM; clear xM
            clear IX
            have IX := Lib.hid iX; clear iX
            clear IP
            have IP := Lib.hid iP; clear iP
            clear VP
            have VP := Lib.hid vP; clear vP
            have Hb := Lib.hid hb; clear hb
            obtain ⟨g7, hg7⟩ : ∃ x : Nat, x = w7.heap.size := ⟨_, rfl⟩
            clear I2 Hno
            go_wp2
            go_ret
            exact ⟨rfl, Hb.out⟩
          · obtain ⟨K, rfl⟩ := Int.eq_ofNat_of_zero_le hb1
            have hk : K < 56 := by omega
            clear hb1 hb2
            have lb : decide ((K : Int) < 0) = false := decide_eq_false (by omega)
            have lc : decide (56 ≤ (K : Int)) = false := decide_eq_false (by omega)
            have hk8 : K / 8 < 7 := by omega
            go_wp2_with fail
            have hi := IP.out.take C (by omega)
            have hno : noteD (E.take C) = (noMsg, false) := noteD_len (by rw [List.length_take, Hl.out]; omega)
            have I2 := Lib.hid hi
            have Hno := Lib.hid hno
            clear hi hno
            refine (Decode_no I2.out (by omega) Hno.out).mono ?_
            rintro e w3 ⟨rfl, bk⟩
            have xM := keepAt XM.out bk
            have iX := IX.out.keep bk
            have iP := IP.out.keep bk
            have vP := VP.out.below bk
            have hb := Hb.out.trans (bk.mono Hb.out.size)
            clear Hb bk
            clear XM
            have XM := Lib.hid xM; clear xM
            clear IX
            have IX := Lib.hid iX; clear iX
            clear IP
            have IP := Lib.hid iP; clear iP
            clear VP
            have VP := Lib.hid vP; clear vP
            have Hb := Lib.hid hb; clear hb
            have bk := (Below.refl w3.heap.size w3).alloc (Nat.le_refl _) (.cells #[.int .i64 0, .int .i64 0, .int .i64 0, .int .i64 0] 23)
            have xM := keepAt XM.out bk
            have iX := IX.out.keep bk
            have iP := IP.out.keep bk
            have vP := VP.out.below bk
            have hb := Hb.out.trans (bk.mono Hb.out.size)
            clear Hb bk
            clear XM
            have XM := Lib.hid xM; clear xM
            clear IX
            have IX := Lib.hid iX; clear iX
            clear IP
            have IP := Lib.hid iP; clear iP
            clear VP
            have VP := Lib.hid vP; clear vP
            have Hb := Lib.hid hb; clear hb
            obtain ⟨g3, hg3⟩ : ∃ x : Nat, x = w3.heap.size := ⟨_, rfl⟩
            clear I2 Hno
            go_wp2_with fail
            generalize w3.heap.size = g3 at *
            generalize w3.alloc (.cells #[.int .i64 0, .int .i64 0, .int .i64 0, .int .i64 0] 23) = w4 at *
            refine (CopyBytes_calls IP.out (by decide)).mono ?_
            rintro e w5 ⟨v, rfl, hv, hne, bk⟩
            have hsz : w4.heap.size ≤ w5.heap.size := bk.size
            have hy := (IX.out.keep bk)
            have hl := Hl.out
            have hbnd : (E.length + n) * 1 ≤ 140737488355328 := by rw [hl]; omega
            clear hne hl
            go_wp2_with (at_builtin; refine wpList_append_ints _ rfl _ _ 25 rfl .u8 w4.heap.size 5 (.int .u8 0) 1 Try.underlying25 Try.infoU8 rfl v E rfl hv sa n sc xs rfl hy hbnd (by decide) hsz ?_; intro v' w6 hown' hg3 hne')
            replace bk := bk.grown hg3 hsz (fun k hk => (hv.block k hk).1)
            have hlen : (E ++ xs).length = 7 + n := by rw [List.length_append, Hl.out, IX.out.len]
            obtain ⟨a2, c2, rfl, hi, _⟩ := hown'.ints
            rw [hlen] at hi ⊢
            have hno : noteD (E ++ xs) = (noMsg, false) := noteD_len (by have := Hn0.out; omega)
            have I2 := Lib.hid hi
            have Hno := Lib.hid hno
            clear hown' hi hno hlen hne' hg3 hv hbnd hy hsz
            have xM := keepAt XM.out bk
            have iX := IX.out.keep bk
            have iP := IP.out.keep bk
            have vP := VP.out.below bk
            have hb := Hb.out.trans (bk.mono Hb.out.size)
            clear Hb bk
            clear XM
            have XM := Lib.hid xM; clear xM
            clear IX
            have IX := Lib.hid iX; clear iX
            clear IP
            have IP := Lib.hid iP; clear iP
            clear VP
            have VP := Lib.hid vP; clear vP
            have Hb := Lib.hid hb; clear hb
            go_wp2_with fail
            refine (Decode_no I2.out (by omega) Hno.out).mono ?_
            rintro e w7 ⟨rfl, bk⟩
            have xM := keepAt XM.out bk
            have iX := IX.out.keep bk
            have iP := IP.out.keep bk
            have vP := VP.out.below bk
            have hb := Hb.out.trans (bk.mono Hb.out.size)
            clear Hb bk
            clear XM
            have XM := Lib.hid xM; clear xM
            clear IX
            have IX := Lib.hid iX; clear iX
            clear IP
            have IP := Lib.hid iP; clear iP
            clear VP
            have VP := Lib.hid vP; clear vP
            have Hb := Lib.hid hb; clear hb
            have bk := (Below.refl w7.heap.size w7).alloc (Nat.le_refl _) (.cells #[.int .i64 0, .int .i64 0, .int .i64 0, .int .i64 0] 23)
            have xM := keepAt XM.out bk
            have iX := IX.out.keep bk
            have iP := IP.out.keep bk
            have vP := VP.out.below bk
            have hb := Hb.out.trans (bk.mono Hb.out.size)
            clear Hb bk
            clear XM
            have XM := Lib.hid xM; clear xM
            clear IX
            have IX := Lib.hid iX; clear iX
            clear IP
            have IP := Lib.hid iP; clear iP
            clear VP
            have VP := Lib.hid vP; clear vP
            have Hb := Lib.hid hb; clear hb
            obtain ⟨g7, hg7⟩ : ∃ x : Nat, x = w7.heap.size := ⟨_, rfl⟩
            clear I2 Hno
            have hl := Hl.out
            obtain ⟨hcell, hfr⟩ := VP.out.at hl (K / 8) hk8
            have hfit := VP.out.2
            obtain ⟨x', hx256, hxD, hxE⟩ := getD_nat hfit (i := K / 8) (by rw [hl]; exact hk8)
            rw [hxD] at hcell
            obtain ⟨m1, hm1⟩ : ∃ m, m = 2 ^ (K % 8) := ⟨_, rfl⟩
            have hm1' := mask_up (K % 8) (by omega)
            rw [← hm1] at hm1'
            have hX1 := u8_xor_nat x' m1 hx256 hm1'.2
            rw [hm1, ← mask_int (K % 8) (by omega), ← hm1] at hX1
            have HX1 := Lib.hid hX1; clear hX1
            have hx1 := xor_byte_lt hx256 hm1'.2
            have hne1 : x' ^^^ m1 ≠ x' := xor_ne hm1'.1
            have hwf1 : (Lit.int .u8 ((x' ^^^ m1 : Nat) : Int)).wf = true := WalkArith.wf_u8 (by omega)
            have hp1 := Own.put VP.out hl (K / 8) hwf1
            have hL1 : (E.set (K / 8) ((x' ^^^ m1 : Nat) : Int)).length = 7 := by rw [List.length_set, hl]
            have hno := HD.out _ hp1.2 (crc_turn1 (by rw [hl]; exact hk8) hxE hne1 _)
            obtain ⟨g', c', hve, _, _, _, _, hi5⟩ := hp1.shape hL1 (by decide)
            simp only [Value.slice.injEq, Option.some.injEq, Addr.mk.injEq, and_true, true_and] at hve
            obtain ⟨rfl, rfl⟩ := hve
            have hb := Hb.out.setCell (p := ⟨g, K / 8, none⟩) Hg2.out (.int .u8 ((x' ^^^ m1 : Nat) : Int))
            have Hno := Lib.hid hno; clear hno
            have I5 := Lib.hid hi5; clear hi5
            have Hm1 := Lib.hid hm1
            clear hp1 hL1 hfit hxD hxE hm1' hne1 hwf1 VP hl Hb HD
            have Hb := Lib.hid hb; clear hb
            go_wp2_with fail
            generalize w7.heap.size = g7 at *
            generalize w7.alloc (.cells #[.int .i64 0, .int .i64 0, .int .i64 0, .int .i64 0] 23) = w8 at *
            rw [HX1.out]
            clear HX1
            refine (Decode_no I5.out (by decide) Hno.out).mono ?_
            rintro e we ⟨rfl, bk⟩
            have hb := Hb.out.trans (bk.mono Hb.out.size)
            clear Hb bk
            have Hb := Lib.hid hb; clear hb
            clear I5 Hno
            have bk := (Below.refl we.heap.size we).alloc (Nat.le_refl _) (.cells #[.int .i64 0, .int .i64 0, .int .i64 0, .int .i64 0] 23)
            have hb := Hb.out.trans (bk.mono Hb.out.size)
            clear Hb bk
            have Hb := Lib.hid hb; clear hb
            go_wp2
            go_ret
            exact ⟨rfl, Hb.out⟩
      · have kn : n = 0 := by omega
        subst kn
        clear hn0
        have hcs : cut < 0 ∨ (0 ≤ cut ∧ 7 ≤ cut) ∨ (0 ≤ cut ∧ cut < 7) := by omega
        rcases hcs with hc1 | ⟨hc1, hc2⟩ | ⟨hc1, hc2⟩
        · have kb : decide (0 ≤ cut) = false := decide_eq_false (by omega)
          clear hc1
          have hbs : bit < 0 ∨ (0 ≤ bit ∧ 56 ≤ bit) ∨ (0 ≤ bit ∧ bit < 56) := by omega
          rcases hbs with hb1 | ⟨hb1, hb2⟩ | ⟨hb1, hb2⟩
          · have lb : decide (bit < 0) = true := decide_eq_true hb1
            clear hb1
            go_wp2
            go_ret
            exact ⟨rfl, Hb.out⟩
          · have lb : decide (bit < 0) = false := decide_eq_false (by omega)
            have lc : decide (56 ≤ bit) = true := decide_eq_true (by omega)
            clear hb1 hb2
            go_wp2
            go_ret
            exact ⟨rfl, Hb.out⟩
          · obtain ⟨K, rfl⟩ := Int.eq_ofNat_of_zero_le hb1
            have hk : K < 56 := by omega
            clear hb1 hb2
            have lb : decide ((K : Int) < 0) = false := decide_eq_false (by omega)
            have lc : decide (56 ≤ (K : Int)) = false := decide_eq_false (by omega)
            have hk8 : K / 8 < 7 := by omega
            have hl := Hl.out
            obtain ⟨hcell, hfr⟩ := VP.out.at hl (K / 8) hk8
            have hfit := VP.out.2
            obtain ⟨x', hx256, hxD, hxE⟩ := getD_nat hfit (i := K / 8) (by rw [hl]; exact hk8)
            rw [hxD] at hcell
            obtain ⟨m1, hm1⟩ : ∃ m, m = 2 ^ (K % 8) := ⟨_, rfl⟩
            have hm1' := mask_up (K % 8) (by omega)
            rw [← hm1] at hm1'
            have hX1 := u8_xor_nat x' m1 hx256 hm1'.2
            rw [hm1, ← mask_int (K % 8) (by omega), ← hm1] at hX1
            have HX1 := Lib.hid hX1; clear hX1
            have hx1 := xor_byte_lt hx256 hm1'.2
            have hne1 : x' ^^^ m1 ≠ x' := xor_ne hm1'.1
            have hwf1 : (Lit.int .u8 ((x' ^^^ m1 : Nat) : Int)).wf = true := WalkArith.wf_u8 (by omega)
            have hp1 := Own.put VP.out hl (K / 8) hwf1
            have hL1 : (E.set (K / 8) ((x' ^^^ m1 : Nat) : Int)).length = 7 := by rw [List.length_set, hl]
            have hno := HD.out _ hp1.2 (crc_turn1 (by rw [hl]; exact hk8) hxE hne1 _)
            obtain ⟨g', c', hve, _, _, _, _, hi5⟩ := hp1.shape hL1 (by decide)
            simp only [Value.slice.injEq, Option.some.injEq, Addr.mk.injEq, and_true, true_and] at hve
            obtain ⟨rfl, rfl⟩ := hve
            have hb := Hb.out.setCell (p := ⟨g, K / 8, none⟩) Hg2.out (.int .u8 ((x' ^^^ m1 : Nat) : Int))
            have Hno := Lib.hid hno; clear hno
            have I5 := Lib.hid hi5; clear hi5
            have Hm1 := Lib.hid hm1
            clear hp1 hL1 hfit hxD hxE hm1' hne1 hwf1 VP hl Hb HD
            have Hb := Lib.hid hb; clear hb
            go_wp2_with fail
            rw [HX1.out]
            clear HX1
            refine (Decode_no I5.out (by decide) Hno.out).mono ?_
            rintro e we ⟨rfl, bk⟩
            have hb := Hb.out.trans (bk.mono Hb.out.size)
            clear Hb bk
            have Hb := Lib.hid hb; clear hb
            clear I5 Hno
            have bk := (Below.refl we.heap.size we).alloc (Nat.le_refl _) (.cells #[.int .i64 0, .int .i64 0, .int .i64 0, .int .i64 0] 23)
            have hb := Hb.out.trans (bk.mono Hb.out.size)
            clear Hb bk
            have Hb := Lib.hid hb; clear hb
            go_wp2
            go_ret
            exact ⟨rfl, Hb.out⟩
        · have kb : decide (0 ≤ cut) = true := decide_eq_true (by omega)
          have kc : decide (cut < 7) = false := decide_eq_false (by omega)
          clear hc1 hc2
          have hbs : bit < 0 ∨ (0 ≤ bit ∧ 56 ≤ bit) ∨ (0 ≤ bit ∧ bit < 56) := by omega
          rcases hbs with hb1 | ⟨hb1, hb2⟩ | ⟨hb1, hb2⟩
          · have lb : decide (bit < 0) = true := decide_eq_true hb1
            clear hb1
            go_wp2
            go_ret
            exact ⟨rfl, Hb.out⟩
          · have lb : decide (bit < 0) = false := decide_eq_false (by omega)
            have lc : decide (56 ≤ bit) = true := decide_eq_true (by omega)
            clear hb1 hb2
            go_wp2
            go_ret
            exact ⟨rfl, Hb.out⟩
          · obtain ⟨K, rfl⟩ := Int.eq_ofNat_of_zero_le hb1
            have hk : K < 56 := by omega
            clear hb1 hb2
            have lb : decide ((K : Int) < 0) = false := decide_eq_false (by omega)
            have lc : decide (56 ≤ (K : Int)) = false := decide_eq_false (by omega)
            have hk8 : K / 8 < 7 := by omega
            have hl := Hl.out
            obtain ⟨hcell, hfr⟩ := VP.out.at hl (K / 8) hk8
            have hfit := VP.out.2
            obtain ⟨x', hx256, hxD, hxE⟩ := getD_nat hfit (i := K / 8) (by rw [hl]; exact hk8)
            rw [hxD] at hcell
            obtain ⟨m1, hm1⟩ : ∃ m, m = 2 ^ (K % 8) := ⟨_, rfl⟩
            have hm1' := mask_up (K % 8) (by omega)
            rw [← hm1] at hm1'
            have hX1 := u8_xor_nat x' m1 hx256 hm1'.2
            rw [hm1, ← mask_int (K % 8) (by omega), ← hm1] at hX1
            have HX1 := Lib.hid hX1; clear hX1
            have hx1 := xor_byte_lt hx256 hm1'.2
            have hne1 : x' ^^^ m1 ≠ x' := xor_ne hm1'.1
            have hwf1 : (Lit.int .u8 ((x' ^^^ m1 : Nat) : Int)).wf = true := WalkArith.wf_u8 (by omega)
            have hp1 := Own.put VP.out hl (K / 8) hwf1
            have hL1 : (E.set (K / 8) ((x' ^^^ m1 : Nat) : Int)).length = 7 := by rw [List.length_set, hl]
            have hno := HD.out _ hp1.2 (crc_turn1 (by rw [hl]; exact hk8) hxE hne1 _)
            obtain ⟨g', c', hve, _, _, _, _, hi5⟩ := hp1.shape hL1 (by decide)
            simp only [Value.slice.injEq, Option.some.injEq, Addr.mk.injEq, and_true, true_and] at hve
            obtain ⟨rfl, rfl⟩ := hve
            have hb := Hb.out.setCell (p := ⟨g, K / 8, none⟩) Hg2.out (.int .u8 ((x' ^^^ m1 : Nat) : Int))
            have Hno := Lib.hid hno; clear hno
            have I5 := Lib.hid hi5; clear hi5
            have Hm1 := Lib.hid hm1
            clear hp1 hL1 hfit hxD hxE hm1' hne1 hwf1 VP hl Hb HD
            have Hb := Lib.hid hb; clear hb
            go_wp2_with fail
            rw [HX1.out]
            clear HX1
            refine (Decode_no I5.out (by decide) Hno.out).mono ?_
            rintro e we ⟨rfl, bk⟩
            have hb := Hb.out.trans (bk.mono Hb.out.size)
            clear Hb bk
            have Hb := Lib.hid hb; clear hb
            clear I5 Hno
            have bk := (Below.refl we.heap.size we).alloc (Nat.le_refl _) (.cells #[.int .i64 0, .int .i64 0, .int .i64 0, .int .i64 0] 23)
            have hb := Hb.out.trans (bk.mono Hb.out.size)
            clear Hb bk
            have Hb := Lib.hid hb; clear hb
            go_wp2
            go_ret
            exact ⟨rfl, Hb.out⟩
        · obtain ⟨C, rfl⟩ := Int.eq_ofNat_of_zero_le hc1
          have hC : C < 7 := by omega
          clear hc1 hc2
          have kb : decide (0 ≤ (C : Int)) = true := decide_eq_true (by omega)
          have kc : decide ((C : Int) < 7) = true := decide_eq_true (by omega)
          have hbs : bit < 0 ∨ (0 ≤ bit ∧ 56 ≤ bit) ∨ (0 ≤ bit ∧ bit < 56) := by omega
          rcases hbs with hb1 | ⟨hb1, hb2⟩ | ⟨hb1, hb2⟩
          · have lb : decide (bit < 0) = true := decide_eq_true hb1
            clear hb1
            go_wp2_with fail
            have hi := IP.out.take C (by omega)
            have hno : noteD (E.take C) = (noMsg, false) := noteD_len (by rw [List.length_take, Hl.out]; omega)
            have I2 := Lib.hid hi
            have Hno := Lib.hid hno
            clear hi hno
            refine (Decode_no I2.out (by omega) Hno.out).mono ?_
            rintro e w3 ⟨rfl, bk⟩
            have xM := keepAt XM.out bk
            have iX := IX.out.keep bk
            have iP := IP.out.keep bk
            have vP := VP.out.below bk
            have hb := Hb.out.trans (bk.mono Hb.out.size)
            clear Hb bk
            clear XM
            have XM := Lib.hid xM; clear xM
            clear IX
            have IX := Lib.hid iX; clear iX
            clear IP
            have IP := Lib.hid iP; clear iP
            clear VP
            have VP := Lib.hid vP; clear vP
            have Hb := Lib.hid hb; clear hb
            have bk := (Below.refl w3.heap.size w3).alloc (Nat.le_refl _) (.cells #[.int .i64 0, .int .i64 0, .int .i64 0, .int .i64 0] 23)
            have xM := keepAt XM.out bk
            have iX := IX.out.keep bk
            have iP := IP.out.keep bk
            have vP := VP.out.below bk
            have hb := Hb.out.trans (bk.mono Hb.out.size)
            clear Hb bk
            clear XM
            have XM := Lib.hid xM; clear xM
            clear IX
            have IX := Lib.hid iX; clear iX
            clear IP
            have IP := Lib.hid iP; clear iP
            clear VP
            have VP := Lib.hid vP; clear vP
            have Hb := Lib.hid hb; clear hb
            obtain ⟨g3, hg3⟩ : ∃ x : Nat, x = w3.heap.size := ⟨_, rfl⟩
            clear I2 Hno
            go_wp2
            go_ret
            exact ⟨rfl, Hb.out⟩
          · have lb : decide (bit < 0) = false := decide_eq_false (by omega)
            have lc : decide (56 ≤ bit) = true := decide_eq_true (by omega)
            clear hb1 hb2
            go_wp2_with fail
            have hi := IP.out.take C (by omega)
            have hno : noteD (E.take C) = (noMsg, false) := noteD_len (by rw [List.length_take, Hl.out]; omega)
            have I2 := Lib.hid hi
            have Hno := Lib.hid hno
            clear hi hno
            refine (Decode_no I2.out (by omega) Hno.out).mono ?_
            rintro e w3 ⟨rfl, bk⟩
            have xM := keepAt XM.out bk
            have iX := IX.out.keep bk
            have iP := IP.out.keep bk
            have vP := VP.out.below bk
            have hb := Hb.out.trans (bk.mono Hb.out.size)
            clear Hb bk
            clear XM
            have XM := Lib.hid xM; clear xM
            clear IX
            have IX := Lib.hid iX; clear iX
            clear IP
            have IP := Lib.hid iP; clear iP
            clear VP
            have VP := Lib.hid vP; clear vP
            have Hb := Lib.hid hb; clear hb
            have bk := (Below.refl w3.heap.size w3).alloc (Nat.le_refl _) (.cells #[.int .i64 0, .int .i64 0, .int .i64 0, .int .i64 0] 23)
            have xM := keepAt XM.out bk
            have iX := IX.out.keep bk
            have iP := IP.out.keep bk
            have vP := VP.out.below bk
            have hb := Hb.out.trans (bk.mono Hb.out.size)
            clear Hb bk
            clear XM
            have XM := Lib.hid xM; clear xM
            clear IX
            have IX := Lib.hid iX; clear iX
            clear IP
            have IP := Lib.hid iP; clear iP
            clear VP
            have VP := Lib.hid vP; clear vP
            have Hb := Lib.hid hb; clear hb
            obtain ⟨g3, hg3⟩ : ∃ x : Nat, x = w3.heap.size := ⟨_, rfl⟩
            clear I2 Hno
            go_wp2
            go_ret
            exact ⟨rfl, Hb.out⟩
          · obtain ⟨K, rfl⟩ := Int.eq_ofNat_of_zero_le hb1
            have hk : K < 56 := by omega
            clear hb1 hb2
            have lb : decide ((K : Int) < 0) = false := decide_eq_false (by omega)
            have lc : decide (56 ≤ (K : Int)) = false := decide_eq_false (by omega)
            have hk8 : K / 8 < 7 := by omega
            go_wp2_with fail
            have hi := IP.out.take C (by omega)
            have hno : noteD (E.take C) = (noMsg, false) := noteD_len (by rw [List.length_take, Hl.out]; omega)
            have I2 := Lib.hid hi
            have Hno := Lib.hid hno
            clear hi hno
            refine (Decode_no I2.out (by omega) Hno.out).mono ?_
            rintro e w3 ⟨rfl, bk⟩
            have xM := keepAt XM.out bk
            have iX := IX.out.keep bk
            have iP := IP.out.keep bk
            have vP := VP.out.below bk
            have hb := Hb.out.trans (bk.mono Hb.out.size)
            clear Hb bk
            clear XM
            have XM := Lib.hid xM; clear xM
            clear IX
            have IX := Lib.hid iX; clear iX
            clear IP
            have IP := Lib.hid iP; clear iP
            clear VP
            have VP := Lib.hid vP; clear vP
            have Hb := Lib.hid hb; clear hb
            have bk := (Below.refl w3.heap.size w3).alloc (Nat.le_refl _) (.cells #[.int .i64 0, .int .i64 0, .int .i64 0, .int .i64 0] 23)
            have xM := keepAt XM.out bk
            have iX := IX.out.keep bk
            have iP := IP.out.keep bk
            have vP := VP.out.below bk
            have hb := Hb.out.trans (bk.mono Hb.out.size)
            clear Hb bk
            clear XM
            have XM := Lib.hid xM; clear xM
            clear IX
            have IX := Lib.hid iX; clear iX
            clear IP
            have IP := Lib.hid iP; clear iP
            clear VP
            have VP := Lib.hid vP; clear vP
            have Hb := Lib.hid hb; clear hb
            obtain ⟨g3, hg3⟩ : ∃ x : Nat, x = w3.heap.size := ⟨_, rfl⟩
            clear I2 Hno
            have hl := Hl.out
            obtain ⟨hcell, hfr⟩ := VP.out.at hl (K / 8) hk8
            have hfit := VP.out.2
            obtain ⟨x', hx256, hxD, hxE⟩ := getD_nat hfit (i := K / 8) (by rw [hl]; exact hk8)
            rw [hxD] at hcell
            obtain ⟨m1, hm1⟩ : ∃ m, m = 2 ^ (K % 8) := ⟨_, rfl⟩
            have hm1' := mask_up (K % 8) (by omega)
            rw [← hm1] at hm1'
            have hX1 := u8_xor_nat x' m1 hx256 hm1'.2
            rw [hm1, ← mask_int (K % 8) (by omega), ← hm1] at hX1
            have HX1 := Lib.hid hX1; clear hX1
            have hx1 := xor_byte_lt hx256 hm1'.2
            have hne1 : x' ^^^ m1 ≠ x' := xor_ne hm1'.1
            have hwf1 : (Lit.int .u8 ((x' ^^^ m1 : Nat) : Int)).wf = true := WalkArith.wf_u8 (by omega)
            have hp1 := Own.put VP.out hl (K / 8) hwf1
            have hL1 : (E.set (K / 8) ((x' ^^^ m1 : Nat) : Int)).length = 7 := by rw [List.length_set, hl]
            have hno := HD.out _ hp1.2 (crc_turn1 (by rw [hl]; exact hk8) hxE hne1 _)
            obtain ⟨g', c', hve, _, _, _, _, hi5⟩ := hp1.shape hL1 (by decide)
            simp only [Value.slice.injEq, Option.some.injEq, Addr.mk.injEq, and_true, true_and] at hve
            obtain ⟨rfl, rfl⟩ := hve
            have hb := Hb.out.setCell (p := ⟨g, K / 8, none⟩) Hg2.out (.int .u8 ((x' ^^^ m1 : Nat) : Int))
            have Hno := Lib.hid hno; clear hno
            have I5 := Lib.hid hi5; clear hi5
            have Hm1 := Lib.hid hm1
            clear hp1 hL1 hfit hxD hxE hm1' hne1 hwf1 VP hl Hb HD
            have Hb := Lib.hid hb; clear hb
            go_wp2_with fail
            generalize w3.heap.size = g3 at *
            generalize w3.alloc (.cells #[.int .i64 0, .int .i64 0, .int .i64 0, .int .i64 0] 23) = w4 at *
            rw [HX1.out]
            clear HX1
            refine (Decode_no I5.out (by decide) Hno.out).mono ?_
            rintro e we ⟨rfl, bk⟩
            have hb := Hb.out.trans (bk.mono Hb.out.size)
            clear Hb bk
            have Hb := Lib.hid hb; clear hb
            clear I5 Hno
            have bk := (Below.refl we.heap.size we).alloc (Nat.le_refl _) (.cells #[.int .i64 0, .int .i64 0, .int .i64 0, .int .i64 0] 23)
            have hb := Hb.out.trans (bk.mono Hb.out.size)
            clear Hb bk
            have Hb := Lib.hid hb; clear hb
            go_wp2
            go_ret
            exact ⟨rfl, Hb.out⟩
end Go.Proofs.Ytdaaphebfhlpmaa
