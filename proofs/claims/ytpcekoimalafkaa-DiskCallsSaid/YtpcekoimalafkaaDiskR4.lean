/- The document's device: Read, Image. -/
import Derived.Test.YtpcekoimalafkaaDiskR3
namespace Go.Proofs.Ytpcekoimalafkaa
open Go.RowKit

theorem RefAt.sec_at {w : World} {B b : Nat} {sv cv : Value} {S : List (List Int)} {C : List (Int × List Int)} {R : Nat → Prop} (h : RefAt w B b sv cv S C R) {i : Nat} (hi : i < S.length) :
    ∃ g cap q c, sv = .slice (some ⟨g, 0, none⟩) S.length cap ∧ S.length ≤ cap ∧ cap ≤ 9223372036854775807 ∧ w.cell? ⟨g, i, none⟩ = some (.slice (some ⟨q, 0, none⟩) 32 c) ∧ w.frozen? ⟨g, i, none⟩ = false ∧ Ints w .u8 (some ⟨q, 0, none⟩) 32 c (S.getD i []) ∧ R q := by
  obtain ⟨ps, h0, h1, h2⟩ := h.safe
  obtain ⟨g, c, rfl, hc1, hc2, hcell, hfr⟩ := ownsRow_at h1 (by omega)
  refine ⟨g, c, (ps.getD i (0, 0)).1, (ps.getD i (0, 0)).2, rfl, hc1, hc2, ?_, hfr i, (h2 i hi).1, (h2 i hi).2⟩
  rw [hcell i (by omega), List.getElem?_map, List.getElem?_eq_getElem (show i < ps.length by omega), List.getD_eq_getElem?_getD, List.getElem?_eq_getElem (show i < ps.length by omega)]
  rfl
theorem RefAt.wr_at {w : World} {B b : Nat} {sv cv : Value} {S : List (List Int)} {C : List (Int × List Int)} {R : Nat → Prop} (h : RefAt w B b sv cv S C R) {i : Nat} (hi : i < C.length) :
    ∃ g cap q c, cv = .slice (some ⟨g, 0, none⟩) C.length cap ∧ C.length ≤ cap ∧ cap ≤ 9223372036854775807 ∧ w.cell? ⟨g, i * 2, none⟩ = some (.int .i64 C[i].1) ∧ w.cell? ⟨g, i * 2 + 1, none⟩ = some (.slice (some ⟨q, 0, none⟩) 32 c) ∧ Ints w .u8 (some ⟨q, 0, none⟩) 32 c C[i].2 ∧ R q := by
  obtain ⟨ds, h0, h1, h2⟩ := h.cache
  obtain ⟨g, c, rfl, hc1, hc2, hcell, hfr⟩ := ownsRow_at h1 (by omega)
  have hw := wrv_at ds i (by omega)
  refine ⟨g, c, (ds.getD i (0, 0, 0)).2.1, (ds.getD i (0, 0, 0)).2.2, rfl, hc1, hc2, ?_, ?_, (h2 i hi).2.1, (h2 i hi).2.2⟩
  · rw [hcell (i * 2) (by omega), Nat.mul_comm, hw.1, (h2 i hi).1]
  · rw [hcell (i * 2 + 1) (by omega), Nat.mul_comm, hw.2]; rfl

theorem lastOf_take_succ {C : List (Int × List Int)} {j : Nat} (hj : j < C.length) (k : Int) : lastOf (C.take (j + 1)) k = if k = C[j].1 then some C[j].2 else lastOf (C.take j) k := by
  rw [List.take_succ_eq_append_getElem hj]
  exact lastOf_snoc _ C[j].1 C[j].2 k

set_option maxHeartbeats 2000000 in
theorem RRead_calls {w : World} {B b : Nat} {sv cv : Value} {S : List (List Int)} {C : List (Int × List Int)} {R : Nat → Prop} (h : RefAt w B b sv cv S C R) (hC : C.length ≤ 1000000) (k : Int) :
    Calls Try.prog 22 #[.pointer (some ⟨b, 0, none⟩), .int .i64 k] w fun e w' =>
      ∃ v, e = .returned (.tuple #[v, .int .i64 (if 0 ≤ k ∧ k < (S.length : Int) then 0 else 11)]) ∧ Own w' w.heap.size 5 .u8 v (readOf S C k) ∧ Below w.heap.size w w' := by
  by_cases hin : ¬ (0 ≤ k ∧ k < (S.length : Int))
  · obtain ⟨sa, cs, rfl⟩ := h.shape_s
    have c0 := cells_at h.root 0
    have hSl := h.len
    have hro : readOf S C k = [] := by unfold readOf; rw [if_neg hin]
    rw [hro, if_neg hin]
    clear hro
    have Hh := Lib.hid h; clear h
    by_cases h1 : k < 0
    · have e1 : decide (k < 0) = true := decide_eq_true h1
      clear hin
      go_enter Try.func22, Try.ntmps22
      go_wp2
      go_ret2
      exact ⟨_, rfl, ⟨⟨rfl, .inl ⟨rfl, rfl⟩⟩, fun _ h => by cases h⟩, Below.refl _ _⟩
    · have e1 : decide (k < 0) = false := decide_eq_false h1
      have h2 : (S.length : Int) ≤ k := by omega
      have e2 : decide ((S.length : Int) ≤ k) = true := decide_eq_true h2
      clear hin
      go_enter Try.func22, Try.ntmps22
      go_wp2
      go_ret2
      exact ⟨_, rfl, ⟨⟨rfl, .inl ⟨rfl, rfl⟩⟩, fun _ h => by cases h⟩, Below.refl _ _⟩
  have hin := Decidable.not_not.1 hin
  rw [if_pos hin]
  obtain ⟨K, rfl⟩ : ∃ K : Nat, k = K := ⟨k.toNat, by omega⟩
  have hK : K < S.length := by omega
  have hro : readOf S C (K : Int) = (lastOf C (K : Int)).getD (S.getD K []) := readOf_in hK
  rw [hro]
  obtain ⟨g, cap, q, cq, rfl, hc1, hc2, hcell, _, hxs, hR⟩ := h.sec_at hK
  obtain ⟨ca, cc, hcv⟩ := h.shape_c
  obtain ⟨L, hL⟩ : ∃ L, L = C.length := ⟨_, rfl⟩
  rw [← hL] at hcv hC
  subst hcv
  have c0 := cells_at h.root 0
  have c1 := cells_at h.root 1
  have hSl := h.len
  have HL := Lib.hid hL; clear hL
  have e1 : decide ((K : Int) < 0) = false := decide_eq_false (by omega)
  have e2 : decide ((S.length : Int) ≤ (K : Int)) = false := decide_eq_false (by omega)
  have e2n : decide (S.length ≤ K) = false := decide_eq_false (by omega)
  have i1 : (0 : Int) ≤ (K : Int) := by omega
  have i2 := hin.2
  have Hh := Lib.hid h; clear h
  have Hxs := Lib.hid hxs; clear hxs
  clear hro hin
  go_enter Try.func22, Try.ntmps22
  go_wp2_with fail
  go_loopw [6, 7] (fun v i wr => ∃ (j p c : Nat), j ≤ L ∧ i = .int .i64 j ∧ wr = w ∧ v = .slice (some ⟨p, 0, none⟩) 32 c ∧ Ints w .u8 (some ⟨p, 0, none⟩) 32 c ((lastOf (C.take j) (K : Int)).getD (S.getD K []))) (fun _ i _ => L - (intOf i).toNat)
  case atStart => exact ⟨0, q, cq, by omega, rfl, rfl, rfl, by simpa [lastOf] using Hxs.out⟩
  case round =>
    obtain ⟨j, p, c, hj, rfl, rfl, rfl, hx⟩ := hrel
    have Hx := Lib.hid hx; clear hx
    by_cases hlt : j < L
    · have hjC : j < C.length := by rw [← HL.out]; exact hlt
      obtain ⟨gc, capc, q', c', e', hcc1, hcc2, hcat, hcda, hxj, _⟩ := Hh.out.wr_at hjC
      rw [← HL.out] at e'
      simp only [Value.slice.injEq, true_and] at e'
      obtain ⟨rfl, rfl⟩ := e'
      have hsucc := lastOf_take_succ hjC (K : Int)
      obtain ⟨Z, hZ⟩ : ∃ Z, Z = C[j] := ⟨_, rfl⟩
      rw [← hZ] at hcat hxj hsucc
      obtain ⟨Z1, Z2⟩ := Z
      simp only at hcat hxj hsucc
      clear hZ
      have Hs := Lib.hid hsucc; clear hsucc
      have Hxj := Lib.hid hxj; clear hxj
      have i3 : (j : Int) < (L : Int) := by omega
      have i4 : (0 : Int) ≤ (j : Int) := by omega
      rw [← HL.out] at hcc1
      by_cases hz : Z1 = (K : Int)
      · subst hz
        go_wp2_with fail
        go_roundw
        case rel => exact ⟨j + 1, q', c', by omega, by go_num, by first | trivial | rfl, rfl, by rw [Hs.out, if_pos rfl]; exact Hxj.out⟩
        case measure => simp [intOf]; omega
      · have hzb : ((Z1 : Int) == (K : Int)) = false := by simpa using hz
        have Hz := Lib.hid hz; clear hz
        go_wp2_with fail
        go_roundw
        case rel => exact ⟨j + 1, p, c, by omega, by go_num, by first | trivial | rfl, rfl, by rw [Hs.out, if_neg (fun e => Hz.out e.symm)]; exact Hx.out⟩
        case measure => simp [intOf]; omega
    · obtain rfl : j = L := by omega
      have hx := Hx.out
      rw [List.take_of_length_le (by rw [HL.out]; exact Nat.le_refl _)] at hx
      clear Hx
      have Hx := Lib.hid hx
      go_wp2_with fail
      refine (CopyBytes_calls Hx.out (by omega)).mono ?_
      rintro e w1 ⟨v, rfl, own1, _, b1⟩
      have Ho := Lib.hid own1; clear own1
      have Hb := Lib.hid b1; clear b1 hx
      go_wp2
      go_ret2
      exact ⟨v, rfl, Ho.out, Hb.out⟩

set_option maxHeartbeats 2000000 in
theorem RImage_calls {w : World} {B b : Nat} {sv cv : Value} {S : List (List Int)} {C : List (Int × List Int)} {R : Nat → Prop} (h : RefAt w B b sv cv S C R) :
    Calls Try.prog 26 #[.pointer (some ⟨b, 0, none⟩)] w fun e w' => ∃ v, e = .returned v ∧ Own w' w.heap.size 5 .u8 v S.flatten ∧ Below w.heap.size w w' := by
  obtain ⟨sa, cs, hsv⟩ := h.shape_s
  obtain ⟨L, hL⟩ : ∃ L, L = S.length := ⟨_, rfl⟩
  have hSl := h.len
  rw [← hL] at hsv hSl
  subst hsv
  have HL := Lib.hid hL; clear hL
  have hlen : ∀ j, j ≤ L → (S.take j).flatten.length = j * 32 := by
    intro j hj
    induction j with
    | zero => simp
    | succ j ih =>
      rw [List.take_succ_eq_append_getElem (show j < S.length by rw [← HL.out]; omega), List.flatten_append, List.length_append, ih (by omega)]
      obtain ⟨_, _, q, c, _, _, _, _, _, hx, _⟩ := h.sec_at (i := j) (by rw [← HL.out]; omega)
      have := hx.len
      rw [List.getD_eq_getElem?_getD, List.getElem?_eq_getElem (show j < S.length by rw [← HL.out]; omega)] at this
      simp at this
      simp [this]
      omega
  have Hlen := Lib.hid hlen; clear hlen
  have Hh := Lib.hid h; clear h
  have own0 : Own (w.alloc (.cells #[] 5)) w.heap.size 5 .u8 (.slice (some ⟨w.heap.size, 0, none⟩) 0 0) [] :=
    ⟨World.ownsRow_made w #[] 0 (Nat.le_refl _) (by unfold maxLen; omega) rfl, fun _ h => by cases h⟩
  have hb0 : Below w.heap.size w (w.alloc (.cells #[] 5)) := (Below.refl _ _).alloc (Nat.le_refl _) _
  have Ho0 := Lib.hid own0; clear own0
  have Hb0 := Lib.hid hb0; clear hb0
  go_enter Try.func26, Try.ntmps26
  go_wp2_with fail
  go_loopw [3, 4] (fun v i wr => ∃ j : Nat, j ≤ L ∧ i = .int .i64 j ∧ Own wr w.heap.size 5 .u8 v (S.take j).flatten ∧ Below w.heap.size w wr) (fun _ i _ => L - (intOf i).toNat)
  case atStart => exact ⟨0, by omega, rfl, by simpa using Ho0.out, Hb0.out⟩
  case round =>
    obtain ⟨j, hj, rfl, own, bel⟩ := hrel
    have hr := Hh.out.below bel
    have c0 := cells_at hr.root 0
    have Hbel := Lib.hid bel; clear bel
    by_cases hlt : j < L
    · have hjS : j < S.length := by rw [← HL.out]; exact hlt
      obtain ⟨gs, caps, q, c, e', hc1, hc2, hcell, _, hx, _⟩ := hr.sec_at hjS
      rw [← HL.out] at e' hc1
      simp only [Value.slice.injEq, true_and] at e'
      obtain ⟨rfl, rfl⟩ := e'
      have htk : (S.take (j + 1)).flatten = (S.take j).flatten ++ S.getD j [] := by
        rw [List.take_succ_eq_append_getElem hjS, List.flatten_append, List.getD_eq_getElem?_getD, List.getElem?_eq_getElem hjS]
        simp
      have Htk := Lib.hid htk; clear htk
      have hl := Hlen.out j hj
      have Hl := Lib.hid hl; clear hl
      have i3 : (j : Int) < (L : Int) := by omega
      have i4 : (0 : Int) ≤ (j : Int) := by omega
      have hle := Hbel.out.size
      clear hr
      go_wp2_with (with_reducible refine stop_builtin .append ?_)
      refine unpark ?_
      refine wpList_append_ints _ rfl _ _ 32 rfl .u8 w.heap.size 5 (.int .u8 0) 1 Try.underlying32 Try.infoU8 rfl _ _ rfl own _ 32 c _ rfl hx (by rw [Hl.out]; omega) (by decide) hle ?_
      intro v' w' own' gr' _
      have bel' := Hbel.out.grown gr' hle (fun k hk => (own.block k hk).1)
      rw [← Htk.out] at own'
      have Ho' := Lib.hid own'; clear own'
      have Hb' := Lib.hid bel'; clear bel' gr' own hx
      go_wp2_with fail
      go_roundw
      case rel => exact ⟨j + 1, by omega, by go_num, Ho'.out, Hb'.out⟩
      case measure => simp [intOf]; omega
    · obtain rfl : j = L := by omega
      rw [List.take_of_length_le (by rw [HL.out]; exact Nat.le_refl _)] at own
      have Ho := Lib.hid own; clear own hr
      go_wp2
      go_ret
      exact ⟨_, rfl, Ho.out, Hbel.out⟩
end Go.Proofs.Ytpcekoimalafkaa
