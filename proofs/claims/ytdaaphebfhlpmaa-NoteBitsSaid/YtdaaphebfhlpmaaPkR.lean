/- The document's From and Bytes. -/
import Derived.Test.YtdaaphebfhlpmaaPk5
namespace Go.Proofs.Ytdaaphebfhlpmaa
open Go.RowKit

theorem from_step {U : Nat} {b : Int} (hU : U < 72057594037927936) (h0 : 0 ≤ b) (h1 : b ≤ 255) : IntKind.u64.wrap (IntKind.u64.wrap ((U : Int) * 256) + b) = ((b.toNat + 256 * U : Nat) : Int) := by
  simp only [IntKind.wrap_u64]
  omega
set_option maxHeartbeats 1000000 in
theorem RFrom_calls {w : World} {a : Option Addr} {len cap : Nat} {zs : List Int} (hx : Ints w .u8 a len cap zs) (h8 : len ≤ 8) :
    Calls Try.prog 35 #[.slice a len cap] w fun e W' => e = .returned (.tuple #[.int .u64 (fromZ zs : Nat), .bool true]) ∧ W' = w := by
  have hl := hx.len
  have hle := hx.le
  have d1 : decide (8 < (len : Int)) = false := decide_eq_false (by omega)
  have hu8 := hx.u8
  obtain ⟨R, hR⟩ : ∃ R, R = fromZ zs := ⟨_, rfl⟩
  rw [← hR]
  have HR := Lib.hid hR; clear hR
  have Hx := Lib.hid hx; clear hx
  have Hl := Lib.hid hl; clear hl
  have Hu8 := Lib.hid hu8; clear hu8
  go_enter Try.func35, Try.ntmps35
  go_wp2_with fail
  go_loopw [4, 5] (fun u i wr => ∃ j : Nat, j ≤ len ∧ i = .int .i64 ((j : Int) - 1) ∧ u = .int .u64 (fromZ (zs.drop j) : Nat) ∧ wr = w) (fun _ i _ => (intOf i + 1).toNat)
  case atStart => exact ⟨len, by omega, rfl, by rw [List.drop_of_length_le (by rw [Hl.out]; exact Nat.le_refl _)]; rfl, rfl⟩
  case round =>
    obtain ⟨j, hj, rfl, rfl, rfl⟩ := hrel
    by_cases hlt : 0 < j
    · obtain ⟨J, rfl⟩ : ∃ J, j = J + 1 := ⟨j - 1, by omega⟩
      obtain ⟨b1, o1, rfl, cx⟩ := Hx.out.cell (by omega)
      have cx' := cx J (by omega)
      have hjl : J < zs.length := by rw [Hl.out]; omega
      rw [List.getD_eq_getElem?_getD, List.getElem?_eq_getElem hjl, Option.getD_some] at cx'
      have hz : ∀ b ∈ zs, 0 ≤ b ∧ b ≤ 255 := fun b hb => by
        obtain ⟨t, ht, rfl⟩ := List.mem_iff_getElem.1 hb
        have := Hu8.out t
        rw [List.getD_eq_getElem?_getD, List.getElem?_eq_getElem ht, Option.getD_some] at this
        exact this
      have hU := fromZ_lt (zs.drop (J + 1)) fun b hb => hz b (List.mem_of_mem_drop hb)
      rw [List.length_drop, Hl.out] at hU
      have hU : fromZ (zs.drop (J + 1)) < 256 ^ 7 := Nat.lt_of_lt_of_le hU (Nat.pow_le_pow_right (by decide) (by omega))
      have hs : fromZ (zs.drop J) = (zs[J]).toNat + 256 * fromZ (zs.drop (J + 1)) := by rw [List.drop_eq_getElem_cons hjl]; rfl
      have hb := hz _ (List.getElem_mem hjl)
      have hst := from_step (U := fromZ (zs.drop (J + 1))) (b := zs[J]) hU hb.1 hb.2
      rw [← hs] at hst
      generalize fromZ (zs.drop (J + 1)) = U at *
      have Hst := Lib.hid hst; clear hst hs
      have hj1 : (((J + 1 : Nat) : Int) - 1) = (J : Int) := by omega
      rw [hj1]
      have i1 : (0 : Int) ≤ (J : Int) := by omega
      have i2 : (J : Int) < (len : Int) := by omega
      clear cx hz hU hj1
      go_wp2_with fail
      go_roundw
      case rel => exact ⟨J, by omega, by go_num, by rw [Hst.out], trivial⟩
      case measure => simp [intOf]
    · obtain rfl : j = 0 := by omega
      rw [List.drop_zero, ← HR.out]
      go_wp2
      go_ret2
      exact ⟨rfl, rfl⟩
theorem RFrom_bad {w : World} {a : Option Addr} {len cap : Nat} (h8 : 8 < len) (hm : len ≤ 9223372036854775807) :
    Calls Try.prog 35 #[.slice a len cap] w fun e W' => e = .returned (.tuple #[.int .u64 0, .bool false]) ∧ W' = w := by
  have d1 : decide (8 < (len : Int)) = true := decide_eq_true (by omega)
  go_enter Try.func35, Try.ntmps35
  go_wp2
  go_ret2
  exact ⟨rfl, rfl⟩
theorem own_empty (w : World) (B : Nat) (E : TypeId) (k : IntKind) (hB : B ≤ w.heap.size) : Own (w.alloc (.cells #[] E)) B E k (.slice (some ⟨w.heap.size, 0, none⟩) 0 0) [] :=
  ⟨⟨rfl, .inr ⟨w.heap.size, 0, #[], rfl, hB, heap_alloc_new w _, Nat.le_refl _, by decide, rfl, rfl⟩⟩, fun z hz => by cases hz⟩
set_option maxHeartbeats 1000000 in
theorem RBytes_calls {w : World} {u n : Nat} (hu : u < 2 ^ 64) (h8 : n ≤ 8) : Calls Try.prog 31 #[.int .u64 u, .int .i64 (n : Int)] w fun e w' => ∃ v, e = .returned v ∧ Own w' w.heap.size 5 .u8 v (if u / 256 ^ n = 0 then bytesZ n u else []) ∧ Below w.heap.size w w' := by
  obtain ⟨L, hL⟩ : ∃ L, L = if u / 256 ^ n = 0 then bytesZ n u else [] := ⟨_, rfl⟩
  rw [← hL]
  have HL := Lib.hid hL; clear hL
  have d1 : decide ((n : Int) < 0) = false := decide_eq_false (by omega)
  have d2 : decide (8 < (n : Int)) = false := decide_eq_false (by omega)
  have Hu := Lib.hid hu; clear hu
  go_enter Try.func31, Try.ntmps31
  go_wp2_with fail
  go_loopw [0, 5, 6] (fun uv v i wr => ∃ j : Nat, j ≤ n ∧ i = .int .i64 (j : Int) ∧ uv = .int .u64 ((u / 256 ^ j : Nat) : Int) ∧ Own wr w.heap.size 5 .u8 v (bytesZ j u) ∧ Below w.heap.size w wr) (fun _ _ i _ => n - (intOf i).toNat)
  case atStart => exact ⟨0, by omega, rfl, by rw [Nat.pow_zero, Nat.div_one], own_empty _ _ _ _ (Nat.le_refl _), (Below.refl _ _).alloc (Nat.le_refl _) _⟩
  case round =>
    obtain ⟨j, hj, rfl, rfl, hown, hb⟩ := hrel
    by_cases hlt : j < n
    · have hsn := bytes_snoc j u
      have hdiv : u / 256 ^ (j + 1) = u / 256 ^ j / 256 := by rw [Nat.pow_succ, Nat.div_div_eq_div_mul]
      have hU : u / 256 ^ j < 18446744073709551616 := Nat.lt_of_le_of_lt (Nat.div_le_self _ _) Hu.out
      have hbl := bytes_len j u
      obtain ⟨va, vc, rfl, -, -⟩ := hown.ints
      rw [hbl] at hown ⊢
      obtain ⟨U, hUU⟩ : ∃ U, U = u / 256 ^ j := ⟨_, rfl⟩
      rw [← hUU] at hsn hdiv hU ⊢
      have hw8 : (U : Int) % 256 = ((U % 256 : Nat) : Int) := rfl
      have hd2 : (U : Int) / 256 = ((U / 256 : Nat) : Int) := rfl
      have ht8 : (U : Int).tmod 256 = ((U % 256 : Nat) : Int) := Int.tmod_eq_emod_of_nonneg (by omega)
      have htd : (U : Int).tdiv 256 = ((U / 256 : Nat) : Int) := Int.tdiv_eq_ediv_of_nonneg (by omega)
      clear hUU
      have Hsn := Lib.hid hsn; clear hsn
      have Hdiv := Lib.hid hdiv; clear hdiv
      have Hbl := Lib.hid hbl; clear hbl
      have Hown := Lib.hid hown; clear hown
      have Hb := Lib.hid hb; clear hb
      have Hd2 := Lib.hid hd2; clear hd2
      have Hw8 := Lib.hid hw8; clear hw8
      obtain ⟨M, hM⟩ : ∃ M, M = U % 256 := ⟨_, rfl⟩
      obtain ⟨D, hD⟩ : ∃ D, D = U / 256 := ⟨_, rfl⟩
      have hMl : M < 256 := by omega
      rw [← hM] at ht8
      rw [← hD] at htd
      have hwM : IntKind.u8.wrap (M : Int) = (M : Int) := by rw [IntKind.wrap_u8]; omega
      have hDl : D < 18446744073709551616 := by omega
      have HM := Lib.hid hM; clear hM
      have HD := Lib.hid hD; clear hD
      have i1 : (j : Int) < (n : Int) := by omega
      go_wp2_with (with_reducible refine stop_builtin .append ?_)
      refine unpark ?_
      try rw [hwM]
      have b8 := u8_wf M hMl
      have hx3 := heap_alloc_new wr (.cells #[.int .u8 (M : Int)] 5)
      have b3 : Below wr.heap.size wr (wr.alloc (.cells #[.int .u8 (M : Int)] 5)) := (Below.refl _ _).alloc (Nat.le_refl _) _
      generalize wr.alloc (.cells #[.int .u8 (M : Int)] 5) = w3 at hx3 b3 ⊢
      have hi3 : Ints w3 .u8 (some ⟨wr.heap.size, 0, none⟩) 1 1 [(M : Int)] := Ints.of rfl (Nat.le_refl _) (by decide) (fun z hz => by rw [List.mem_singleton] at hz; rw [hz]; exact b8) (fun k hk => by
        obtain rfl : k = 0 := by omega
        exact cells_at hx3 0)
      have b03 := Hb.out.trans (b3.mono Hb.out.size)
      refine wpList_append_ints _ rfl _ _ 25 rfl .u8 w.heap.size 5 (.int .u8 0) 1 Try.underlying25 Try.infoU8 rfl _ _ rfl (Hown.out.below b3) _ 1 1 _ rfl hi3 (by rw [Hbl.out]; omega) (by decide) b03.size ?_
      intro v' w4 own4 g4 _
      rw [HM.out, ← Hsn.out] at own4
      have b04 := b03.grown g4 b03.size (fun k hk => (Hown.out.block k hk).1)
      obtain ⟨v4, c4, rfl, -, -⟩ := own4.ints
      rw [bytes_len] at own4 ⊢
      clear hi3 hx3 b3 Hown Hb b03 g4 b8
      have Hb4 := Lib.hid b04; clear b04
      have Own4 := Lib.hid own4; clear own4
      go_wp2_with fail
      go_roundw
      case rel => exact ⟨j + 1, by omega, by go_num, by rw [Hdiv.out, ← HD.out], Own4.out, Hb4.out⟩
      case measure => simp [intOf]; omega
    · obtain rfl : j = n := by omega
      have hL := HL.out
      clear HL
      generalize u / 256 ^ j = U at *
      have hbl := bytes_len j u
      obtain ⟨va, vc, rfl, -, -⟩ := hown.ints
      rw [hbl] at hown ⊢
      by_cases h0 : U = 0
      · subst h0
        rw [if_pos rfl] at hL
        have HL := Lib.hid hL; clear hL
        go_wp2
        go_ret
        exact ⟨_, rfl, by rw [HL.out]; exact hown, hb⟩
      · have hz : (((U : Nat) : Int) != 0) = true := by simp; omega
        rw [if_neg h0] at hL
        have HL := Lib.hid hL; clear hL h0
        go_wp2
        go_ret
        exact ⟨_, rfl, by rw [HL.out]; exact own_nil _ _ _ _, hb⟩
theorem RBytes_bad {w : World} {u : Nat} {n : Int} (h : ¬ (0 ≤ n ∧ n ≤ 8)) : Calls Try.prog 31 #[.int .u64 u, .int .i64 n] w fun e w' => e = .returned (.slice none 0 0) ∧ w' = w := by
  have hd : n < 0 ∨ (¬ n < 0 ∧ 8 < n) := by omega
  clear h
  rcases hd with h1 | ⟨h1, h2⟩
  · have d1 : decide (n < 0) = true := decide_eq_true h1
    clear h1
    go_enter Try.func31, Try.ntmps31
    go_wp2
    go_ret
    exact ⟨rfl, rfl⟩
  · have d1 : decide (n < 0) = false := decide_eq_false h1
    have d2 : decide (8 < n) = true := decide_eq_true h2
    clear h1 h2
    go_enter Try.func31, Try.ntmps31
    go_wp2
    go_ret
    exact ⟨rfl, rfl⟩
end Go.Proofs.Ytdaaphebfhlpmaa
