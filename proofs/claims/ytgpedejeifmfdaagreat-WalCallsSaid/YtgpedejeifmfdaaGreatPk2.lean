/- word.right, Bytes, Unpack. -/
import Derived.Test.YtgpedejeifmfdaaGreatList
import Derived.Test.YtgpedejeifmfdaaGreatPark
import Derived.Test.YtgpedejeifmfdaaGreatPkA
namespace Go.Proofs.YtgpedejeifmfdaaGreat
open Go.RowKit

def okW (ws : List Int) : Prop := ∀ x ∈ ws, 1 ≤ x ∧ x ≤ 63
def sumW (ws : List Int) : Int := ws.foldr (· + ·) 0
theorem sumW_append (a b : List Int) : sumW (a ++ b) = sumW a + sumW b := by
  induction a with
  | nil => simp [sumW]
  | cons x a ih => show x + sumW (a ++ b) = x + sumW a + sumW b; rw [ih]; omega
theorem sumW_bound {ws : List Int} (h : okW ws) : 0 ≤ sumW ws ∧ sumW ws ≤ 63 * ws.length := by
  induction ws with
  | nil => simp [sumW]
  | cons x a ih =>
    have h1 := h x (.head _)
    have h2 := ih fun y hy => h y (.tail _ hy)
    show 0 ≤ x + sumW a ∧ x + sumW a ≤ 63 * ((a.length + 1 : Nat) : Int)
    omega
instance (ws : List Int) : Decidable (okW ws) := by unfold okW; infer_instance
def rightS (ws : List Int) : Bool := decide (okW ws ∧ sumW ws ≤ 64)
theorem okW_take_succ {ws : List Int} {j : Nat} (hj : j < ws.length) (h : okW (ws.take j)) (hx : 1 ≤ ws[j] ∧ ws[j] ≤ 63) : okW (ws.take (j + 1)) := fun x hxm => by
  rw [List.take_add_one, List.getElem?_eq_getElem hj] at hxm
  rcases List.mem_append.1 hxm with hxm | hxm
  · exact h x hxm
  · simp at hxm; rw [hxm]; exact hx
theorem sumW_take_succ {ws : List Int} {j : Nat} (hj : j < ws.length) : sumW (ws.take (j + 1)) = sumW (ws.take j) + ws[j] := by
  rw [List.take_add_one, List.getElem?_eq_getElem hj, sumW_append]
  simp [sumW]
set_option maxHeartbeats 1000000 in
theorem right_calls {w : World} {a : Option Addr} {n c : Nat} {ws : List Int} (hx : Ints w .i64 a n c ws) (hn : n ≤ 1000) : Calls Tryz.prog 104 #[.slice a n c] w fun e w' => e = .returned (.bool (rightS ws)) ∧ w' = w := by
  have hl := hx.len
  have hle := hx.le
  obtain ⟨B, hB⟩ : ∃ B, B = rightS ws := ⟨_, rfl⟩
  rw [← hB]
  have HB := Lib.hid hB; clear hB
  have Hx := Lib.hid hx; clear hx
  have Hl := Lib.hid hl; clear hl
  go_enter Tryz.func104, Tryz.ntmps104
  go_wp2_with fail
  go_loopw [3, 8] (fun s i wr => ∃ j : Nat, j ≤ n ∧ i = .int .i64 (j : Int) ∧ s = .int .i64 (sumW (ws.take j)) ∧ okW (ws.take j) ∧ wr = w) (fun _ i _ => n - (intOf i).toNat)
  case atStart => exact ⟨0, by omega, rfl, rfl, fun x hx => by simp at hx, rfl⟩
  case round =>
    obtain ⟨j, hj, rfl, rfl, hok, rfl⟩ := hrel
    have hb := sumW_bound hok
    rw [List.length_take] at hb
    have hb1 := hb.1
    have hb2 : sumW (ws.take j) ≤ 63000 := by omega
    clear hb
    by_cases hlt : j < n
    · obtain ⟨b1, o1, rfl, cx⟩ := Hx.out.cell (by omega)
      have cx' := cx j hlt
      have hjl : j < ws.length := by rw [Hl.out]; exact hlt
      rw [List.getD_eq_getElem?_getD, List.getElem?_eq_getElem hjl, Option.getD_some] at cx'
      have hs := sumW_take_succ hjl
      have ho := okW_take_succ hjl hok
      have hmem : ws[j] ∈ ws := List.getElem_mem hjl
      obtain ⟨x, hxx⟩ : ∃ x, x = ws[j] := ⟨_, rfl⟩
      rw [← hxx] at cx' hs ho hmem
      clear hxx cx
      have hwi := fun w : World => within_calls (w := w) x 1 63
      have i1 : (0 : Int) ≤ (j : Int) := by omega
      have i2 : (j : Int) < (n : Int) := by omega
      generalize sumW (ws.take j) = S at *
      have Hs := Lib.hid hs; clear hs
      have Ho := Lib.hid ho; clear ho
      have Hmem := Lib.hid hmem; clear hmem hok
      by_cases hok1 : 1 ≤ x ∧ x ≤ 63
      · rw [decide_eq_true hok1] at hwi
        have Hwi := Lib.hid hwi; clear hwi
        obtain ⟨q1, q2⟩ := hok1
        go_wp2_with fail
        refine (Hwi.out _).mono ?_
        rintro e w1 ⟨rfl, rfl⟩
        go_wp2_with fail
        go_roundw
        case rel => exact ⟨j + 1, by omega, by go_num, by rw [Hs.out], Ho.out ⟨q1, q2⟩, trivial⟩
        case measure => simp [intOf]; omega
      · rw [decide_eq_false hok1] at hwi
        have hBf : B = false := by rw [HB.out]; exact decide_eq_false fun h => hok1 (h.1 x Hmem.out)
        have Hwi := Lib.hid hwi; clear hwi hok1
        go_wp2_with fail
        refine (Hwi.out _).mono ?_
        rintro e w1 ⟨rfl, rfl⟩
        go_wp2
        go_ret
        exact ⟨by rw [hBf]; rfl, rfl⟩
    · obtain rfl : j = n := by omega
      have ht : ws.take j = ws := List.take_of_length_le (by rw [Hl.out]; exact Nat.le_refl _)
      rw [ht] at hok hb1 hb2 ⊢
      have hBf : B = decide (sumW ws ≤ 64) := by
        rw [HB.out]
        unfold rightS
        congr 1
        exact propext ⟨fun h => h.2, fun h => ⟨hok, h⟩⟩
      clear ht hok
      generalize sumW ws = S at *
      go_wp2
      go_ret
      exact ⟨by rw [hBf]; rfl, rfl⟩
theorem Tryz.infoInt : (Tryz.prog.info? 3).map (fun i => (i.zero, i.size, i.bytes)) = some (some (.int .i64 0), 1, 8) := by kernel_rfl
def bytesZ (n u : Nat) : List Int := (dig8 n u).map fun (b : Nat) => (b : Int)
theorem dig_snoc : ∀ (n u : Nat), dig8 (n + 1) u = dig8 n u ++ [u / 256 ^ n % 256]
  | 0, u => by simp [dig8]
  | n + 1, u => by
    show u % 256 :: dig8 (n + 1) (u / 256) = u % 256 :: dig8 n (u / 256) ++ [u / 256 ^ (n + 1) % 256]
    rw [dig_snoc n (u / 256), Nat.div_div_eq_div_mul, Nat.pow_succ, Nat.mul_comm 256, List.cons_append]
theorem dig_len : ∀ (n u : Nat), (dig8 n u).length = n
  | 0, _ => rfl
  | n + 1, u => by show (dig8 n (u / 256)).length + 1 = n + 1; rw [dig_len n]
theorem bytes_snoc (n u : Nat) : bytesZ (n + 1) u = bytesZ n u ++ [((u / 256 ^ n % 256 : Nat) : Int)] := by unfold bytesZ; rw [dig_snoc, List.map_append]; rfl
theorem bytes_len (n u : Nat) : (bytesZ n u).length = n := by unfold bytesZ; rw [List.length_map, dig_len]
theorem u8_wf (b : Nat) (h : b < 256) : (Lit.int .u8 (b : Int)).wf = true := by simp [Lit.wf, IntKind.min, IntKind.max, IntKind.signed, IntKind.bits]; omega
theorem i64_wf {R : Nat} (h : R < 9223372036854775808) : (Lit.int .i64 (R : Int)).wf = true := by simp [Lit.wf, IntKind.min, IntKind.max, IntKind.signed, IntKind.bits]; omega
theorem own_nil (w : World) (B : Nat) (E : TypeId) (k : IntKind) : Own w B E k (.slice none 0 0) [] := ⟨⟨rfl, .inl ⟨rfl, rfl⟩⟩, fun z hz => by cases hz⟩
set_option maxHeartbeats 1000000 in
theorem Bytes_calls {w : World} {u n : Nat} (hu : u < 2 ^ 64) (h8 : n ≤ 8) (h0 : u / 2 ^ (8 * n) = 0) : Calls Tryz.prog 74 #[.int .u64 u, .int .i64 (n : Int)] w fun e w' => ∃ v, e = .returned v ∧ Own w' w.heap.size 5 .u8 v (bytesZ n u) ∧ Below w.heap.size w w' := by
  have hwi := fun w : World => within_calls (w := w) (n : Int) 0 8
  rw [decide_eq_true (by omega)] at hwi
  have hsh : ((u : Int) / 2 ^ (8 * n)) = 0 := by
    have : (u : Int) / 2 ^ (8 * n) = ((u / 2 ^ (8 * n) : Nat) : Int) := by push_cast; rfl
    rw [this, h0]; rfl
  have hmin : min (8 * n) 64 = 8 * n := by omega
  have Hwi := Lib.hid hwi; clear hwi h0
  have Hu := Lib.hid hu; clear hu
  go_enter Tryz.func74, Tryz.ntmps74
  go_wp2_with fail
  refine (Hwi.out _).mono ?_
  rintro e w1 ⟨rfl, hw1⟩
  obtain rfl := hw1.symm
  go_wp2_with fail
  go_loopw [0, 5, 17] (fun uv v i wr => ∃ j : Nat, j ≤ n ∧ i = .int .i64 (j : Int) ∧ uv = .int .u64 ((u / 256 ^ j : Nat) : Int) ∧ Own wr w.heap.size 5 .u8 v (bytesZ j u) ∧ Below w.heap.size w wr) (fun _ _ i _ => n - (intOf i).toNat)
  case atStart => exact ⟨0, by omega, rfl, by rw [Nat.pow_zero, Nat.div_one], own_nil _ _ _ _, Below.refl _ _⟩
  case round =>
    obtain ⟨j, hj, rfl, rfl, hown, hb⟩ := hrel
    clear hsh hmin
    by_cases hlt : j < n
    · have hsn := bytes_snoc j u
      have hdiv : u / 256 ^ (j + 1) = u / 256 ^ j / 256 := by rw [Nat.pow_succ, Nat.div_div_eq_div_mul]
      have hU : u / 256 ^ j < 18446744073709551616 := Nat.lt_of_le_of_lt (Nat.div_le_self _ _) Hu.out
      have hbl := bytes_len j u
      obtain ⟨va, vc, rfl, -, -⟩ := hown.ints
      rw [hbl] at hown ⊢
      obtain ⟨U, hUU⟩ : ∃ U, U = u / 256 ^ j := ⟨_, rfl⟩
      rw [← hUU] at hsn hdiv hU ⊢
      have hw8 : (U : Int) % 256 = ((U % 256 : Nat) : Int) := rfl
      have hd2 : (U : Int) / 256 = ((U / 256 : Nat) : Int) := rfl
      have Hw8 := Lib.hid hw8; clear hw8
      clear hUU
      have Hsn := Lib.hid hsn; clear hsn
      have Hdiv := Lib.hid hdiv; clear hdiv
      have Hbl := Lib.hid hbl; clear hbl
      have Hown := Lib.hid hown; clear hown
      have Hb := Lib.hid hb; clear hb
      have Hd2 := Lib.hid hd2; clear hd2
      have i1 : (j : Int) < (n : Int) := by omega
      go_wp2_with (with_reducible refine stop_builtin .append ?_)
      refine unpark ?_
      rw [Hw8.out]
      have b8 := u8_wf (U % 256) (by omega)
      have hx3 := heap_alloc_new wr (.cells #[.int .u8 ((U % 256 : Nat) : Int)] 5)
      have b3 : Below wr.heap.size wr (wr.alloc (.cells #[.int .u8 ((U % 256 : Nat) : Int)] 5)) := (Below.refl _ _).alloc (Nat.le_refl _) _
      generalize wr.alloc (.cells #[.int .u8 ((U % 256 : Nat) : Int)] 5) = w3 at hx3 b3 ⊢
      have hi3 : Ints w3 .u8 (some ⟨wr.heap.size, 0, none⟩) 1 1 [((U % 256 : Nat) : Int)] := Ints.of rfl (Nat.le_refl _) (by decide) (fun z hz => by rw [List.mem_singleton] at hz; rw [hz]; exact b8) (fun k hk => by
        obtain rfl : k = 0 := by omega
        exact cells_at hx3 0)
      have b03 := Hb.out.trans (b3.mono Hb.out.size)
      refine wpList_append_ints _ rfl _ _ 39 rfl .u8 w.heap.size 5 (.int .u8 0) 1 Tryz.underlying39 Tryz.infoU8 rfl _ _ rfl (Hown.out.below b3) _ 1 1 _ rfl hi3 (by rw [Hbl.out]; omega) (by decide) b03.size ?_
      intro v' w4 own4 g4 _
      rw [← Hsn.out] at own4
      have b04 := b03.grown g4 b03.size (fun k hk => (Hown.out.block k hk).1)
      obtain ⟨v4, c4, rfl, -, -⟩ := own4.ints
      rw [bytes_len] at own4 ⊢
      clear hi3 hx3 b3 Hown Hb b03 g4 b8
      have Hb4 := Lib.hid b04; clear b04
      have Own4 := Lib.hid own4; clear own4
      go_wp2_with fail
      go_roundw
      case rel => exact ⟨j + 1, by omega, by go_num, by rw [Hdiv.out, ← Hd2.out], Own4.out, Hb4.out⟩
      case measure => simp [intOf]; omega
    · obtain rfl : j = n := by omega
      go_wp2
      go_ret
      exact ⟨_, rfl, hown, hb⟩
def outZ : List Int → Nat → List Int
  | [], _ => []
  | k :: ws, u => ((u % 2 ^ k.toNat : Nat) : Int) :: outZ ws (u / 2 ^ k.toNat)
def restU : List Int → Nat → Nat
  | [], u => u
  | k :: ws, u => restU ws (u / 2 ^ k.toNat)
theorem out_append : ∀ (a b : List Int) (u : Nat), outZ (a ++ b) u = outZ a u ++ outZ b (restU a u)
  | [], _, _ => rfl
  | _ :: a, b, _ => by show _ :: outZ (a ++ b) _ = _ :: (outZ a _ ++ _); rw [out_append a b]; rfl
theorem rest_append : ∀ (a b : List Int) (u : Nat), restU (a ++ b) u = restU b (restU a u)
  | [], _, _ => rfl
  | _ :: a, b, _ => rest_append a b _
theorem out_len : ∀ (a : List Int) (u : Nat), (outZ a u).length = a.length
  | [], _ => rfl
  | _ :: a, _ => by show (outZ a _).length + 1 = a.length + 1; rw [out_len a]
theorem rest_le : ∀ (a : List Int) (u : Nat), restU a u ≤ u
  | [], _ => Nat.le_refl _
  | _ :: a, _ => Nat.le_trans (rest_le a _) (Nat.div_le_self _ _)
theorem unpack_mask {U W : Nat} (hU : U < 18446744073709551616) (h63 : W ≤ 63) : bits .and .u64 (U : Int) (IntKind.u64.wrap (IntKind.u64.wrap (2 ^ W) - 1)) = ((U % 2 ^ W : Nat) : Int) ∧ U % 2 ^ W < 9223372036854775808 := by
  have hW : (2 : Nat) ^ W ≤ 2 ^ 63 := Nat.pow_le_pow_right (by decide) h63
  have hp := Nat.two_pow_pos W
  have e0 : (2 : Int) ^ W = ((2 ^ W : Nat) : Int) := by push_cast; rfl
  have e1 : IntKind.u64.wrap (IntKind.u64.wrap (2 ^ W) - 1) = ((2 ^ W - 1 : Nat) : Int) := by
    rw [e0, IntKind.wrap_u64, IntKind.wrap_u64]
    generalize (2 : Nat) ^ W = X at *
    omega
  have hm : U % 2 ^ W < 2 ^ W := Nat.mod_lt _ hp
  refine ⟨?_, by omega⟩
  rw [e1, bits_and_u64_nat U (2 ^ W - 1) hU (by omega), Nat.and_two_pow_sub_one_eq_mod]
set_option maxHeartbeats 2000000 in
theorem Unpack_calls {w : World} {a : Option Addr} {n c : Nat} {ws : List Int} (hx : Ints w .i64 a n c ws) (hn : n ≤ 1000) {u : Nat} (hu : u < 18446744073709551616) (hr : rightS ws = true) : Calls Tryz.prog 90 #[.slice a n c, .int .u64 u] w fun e w' =>
    ∃ v, e = .returned (.tuple #[v, .bool (decide (restU ws u = 0))]) ∧ Own w' w.heap.size 3 .i64 v (if restU ws u = 0 then outZ ws u else []) ∧ Below w.heap.size w w' := by
  obtain ⟨Z, hZ⟩ : ∃ Z : Bool, Z = decide (restU ws u = 0) := ⟨_, rfl⟩
  obtain ⟨L, hL⟩ : ∃ L, L = if restU ws u = 0 then outZ ws u else [] := ⟨_, rfl⟩
  rw [← hZ, ← hL]
  have HZ := Lib.hid hZ; clear hZ
  have HL := Lib.hid hL; clear hL
  have hri := right_calls hx hn
  rw [hr] at hri
  have hok : okW ws := (of_decide_eq_true hr).1
  have hl := hx.len
  have Hri := Lib.hid hri; clear hri hr
  have Hx := Lib.hid hx; clear hx
  have Hok := Lib.hid hok; clear hok
  have Hl := Lib.hid hl; clear hl
  have Hu := Lib.hid hu; clear hu
  go_enter Tryz.func90, Tryz.ntmps90
  go_wp2_with fail
  refine Hri.out.mono ?_
  rintro e w1 ⟨rfl, hw1⟩
  obtain rfl := hw1.symm
  go_wp2_with fail
  go_loopw [1, 6, 14] (fun uv v i wr => ∃ j : Nat, j ≤ n ∧ i = .int .i64 (j : Int) ∧ uv = .int .u64 ((restU (ws.take j) u : Nat) : Int) ∧ Own wr w.heap.size 3 .i64 v (outZ (ws.take j) u) ∧ Below w.heap.size w wr) (fun _ _ i _ => n - (intOf i).toNat)
  case atStart => exact ⟨0, by omega, rfl, rfl, own_nil _ _ _ _, Below.refl _ _⟩
  case round =>
    obtain ⟨j, hj, rfl, rfl, hown, hb⟩ := hrel
    have hrl := rest_le (ws.take j) u
    by_cases hlt : j < n
    · obtain ⟨b1, o1, rfl, cx⟩ := (Hx.out.keep hb).cell (by omega)
      have cx' := cx j hlt
      have hjl : j < ws.length := by rw [Hl.out]; exact hlt
      rw [List.getD_eq_getElem?_getD, List.getElem?_eq_getElem hjl, Option.getD_some] at cx'
      have hk := Hok.out _ (List.getElem_mem hjl)
      have hout := out_append (ws.take j) [ws[j]] u
      have hrest := rest_append (ws.take j) [ws[j]] u
      have htk : ws.take (j + 1) = ws.take j ++ [ws[j]] := List.take_succ_eq_append_getElem hjl
      rw [← htk] at hout hrest
      have hlen := out_len (ws.take j) u
      rw [List.length_take, Hl.out, Nat.min_eq_left (by omega)] at hlen
      obtain ⟨W, hW⟩ : ∃ W : Nat, ws[j] = (W : Int) := ⟨ws[j].toNat, by omega⟩
      rw [hW] at cx' hk hout hrest
      have hU : restU (ws.take j) u < 18446744073709551616 := Nat.lt_of_le_of_lt hrl Hu.out
      generalize restU (ws.take j) u = U at *
      have hout : outZ (ws.take (j + 1)) u = outZ (ws.take j) u ++ [((U % 2 ^ W : Nat) : Int)] := hout
      have hrest : restU (ws.take (j + 1)) u = U / 2 ^ W := hrest
      obtain ⟨hm1, hm2⟩ := unpack_mask (W := W) hU (by omega)
      have hmin : min W 64 = W := by omega
      have hdv : (U : Int) / 2 ^ W = ((U / 2 ^ W : Nat) : Int) := by push_cast; rfl
      obtain ⟨va, vc, rfl, -, -⟩ := hown.ints
      rw [hlen] at hown ⊢
      generalize U % 2 ^ W = R at *
      have k1 : 1 ≤ W := by omega
      have k2 : W ≤ 63 := by omega
      have hws : wrap64 (R : Int) = (R : Int) := wrap_small hm2
      clear cx hW hk htk hrl
      have Hout := Lib.hid hout; clear hout
      have Hrest := Lib.hid hrest; clear hrest
      have Hlen := Lib.hid hlen; clear hlen
      have Hown := Lib.hid hown; clear hown
      have Hb := Lib.hid hb; clear hb
      have Hdv := Lib.hid hdv; clear hdv
      have i1 : (0 : Int) ≤ (j : Int) := by omega
      have i2 : (j : Int) < (n : Int) := by omega
      go_wp2_with (with_reducible refine stop_builtin .append ?_)
      refine unpark ?_
      rw [hws]
      have b8 := i64_wf hm2
      have hx3 := heap_alloc_new wr (.cells #[.int .i64 (R : Int)] 3)
      have b3 : Below wr.heap.size wr (wr.alloc (.cells #[.int .i64 (R : Int)] 3)) := (Below.refl _ _).alloc (Nat.le_refl _) _
      generalize wr.alloc (.cells #[.int .i64 (R : Int)] 3) = w3 at hx3 b3 ⊢
      have hi3 : Ints w3 .i64 (some ⟨wr.heap.size, 0, none⟩) 1 1 [(R : Int)] := Ints.of rfl (Nat.le_refl _) (by decide) (fun z hz => by rw [List.mem_singleton] at hz; rw [hz]; exact b8) (fun k hk => by
        obtain rfl : k = 0 := by omega
        exact cells_at hx3 0)
      have b03 := Hb.out.trans (b3.mono Hb.out.size)
      refine wpList_append_ints _ rfl _ _ 125 rfl .i64 w.heap.size 3 (.int .i64 0) 8 Tryz.underlying125 Tryz.infoInt rfl _ _ rfl (Hown.out.below b3) _ 1 1 _ rfl hi3 (by rw [Hlen.out]; omega) (by decide) b03.size ?_
      intro v' w4 own4 g4 _
      rw [← Hout.out] at own4
      have b04 := b03.grown g4 b03.size (fun k hk => (Hown.out.block k hk).1)
      obtain ⟨v4, c4, rfl, -, -⟩ := own4.ints
      have hl4 := out_len (ws.take (j + 1)) u
      rw [List.length_take, Hl.out, Nat.min_eq_left (by omega)] at hl4
      rw [hl4] at own4 ⊢
      clear hi3 hx3 b3 Hown Hb b03 g4 hws b8 hm1 hm2 cx'
      have Hb4 := Lib.hid b04; clear b04
      have Own4 := Lib.hid own4; clear own4
      go_wp2_with fail
      go_roundw
      case rel => exact ⟨j + 1, by omega, by go_num, by rw [Hrest.out, ← Hdv.out], Own4.out, Hb4.out⟩
      case measure => simp [intOf]; omega
    · obtain rfl : j = n := by omega
      have ht : ws.take j = ws := List.take_of_length_le (by rw [Hl.out]; exact Nat.le_refl _)
      rw [ht] at hown hrl ⊢
      obtain ⟨va, vc, rfl, -, -⟩ := hown.ints
      have hlen := out_len ws u
      rw [Hl.out] at hlen
      rw [hlen] at hown ⊢
      have Hown := Lib.hid hown; clear hown
      have Hb := Lib.hid hb; clear hb
      clear ht hrl hlen
      have hZ := HZ.out
      have hL := HL.out
      clear HZ HL
      generalize restU ws u = U at *
      by_cases h0 : U = 0
      · subst h0
        rw [if_pos rfl] at hL
        rw [decide_eq_true rfl] at hZ
        subst hZ
        have HL := Lib.hid hL; clear hL
        go_wp2
        go_ret2
        exact ⟨_, rfl, by rw [HL.out]; exact Hown.out, Hb.out⟩
      · have hz : (((U : Nat) : Int) != 0) = true := by simp; omega
        rw [if_neg h0] at hL
        rw [decide_eq_false h0] at hZ
        subst hZ
        have HL := Lib.hid hL; clear hL h0
        go_wp2
        go_ret2
        exact ⟨_, rfl, by rw [HL.out]; exact own_nil _ _ _ _, Hb.out⟩
end Go.Proofs.YtgpedejeifmfdaaGreat
