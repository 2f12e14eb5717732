/- The document's desk: Begin. -/
import Derived.Test.YtdccocgdgcjfcaaDeskC
namespace Go.Proofs.Ytdccocgdgcjfcaa
open Go.RowKit

/-- a mask's bits from the parts' number on to a place -/
def badTo (m : Int) (P q : Nat) : Bool := (m == 0) || (List.range' P (q - P)).any (fun i => has m i)
theorem badTo_first (m : Int) (P : Nat) : badTo m P P = (m == 0) := by unfold badTo; simp
theorem badTo_next (m : Int) (P q : Nat) (h : P ≤ q) : badTo m P (q + 1) = (badTo m P q || has m q) := by
  unfold badTo
  rw [show q + 1 - P = (q - P) + 1 by omega, List.range'_1_concat, List.any_append, Bool.or_assoc]
  simp only [List.any_cons, List.any_nil, Bool.or_false]
  rw [show P + (q - P) = q by omega]
theorem badTo_last {m : Int} (hm : 0 ≤ m ∧ m ≤ 65535) {P : Nat} (hP : P ≤ 16) : badTo m P 16 = decide (m = 0 ∨ m / 2 ^ P ≠ 0) := by
  obtain ⟨M, rfl⟩ : ∃ M : Nat, m = M := ⟨m.toNat, by omega⟩
  have e : ((2 : Int) ^ P) = ((2 ^ P : Nat) : Int) := by simp
  rw [Bool.eq_iff_iff, decide_eq_true_iff, e, ← Int.natCast_ediv]
  unfold badTo
  rw [Bool.or_eq_true, List.any_eq_true]
  refine or_congr (by simp) ⟨?_, ?_⟩
  · rintro ⟨i, hi, hh⟩ h0
    rw [List.mem_range'_1] at hi
    have h1 : M / 2 ^ P = 0 := Int.ofNat.inj h0
    have h2 : M < 2 ^ P := by
      rcases Nat.lt_or_ge M (2 ^ P) with h | h
      · exact h
      · have := Nat.div_pos h (Nat.two_pow_pos P); omega
    have h3 : M < 2 ^ i := Nat.lt_of_lt_of_le h2 (Nat.pow_le_pow_right (by decide) hi.1)
    unfold has at hh
    rw [Int.toNat_natCast, Nat.testBit_lt_two_pow h3] at hh
    cases hh
  · intro h
    have h1 : M / 2 ^ P ≠ 0 := fun e => h (by rw [e]; rfl)
    obtain ⟨i, hi⟩ := Nat.exists_testBit_of_ne_zero h1
    rw [Nat.testBit_div_two_pow] at hi
    refine ⟨P + i, ?_, ?_⟩
    · rw [List.mem_range'_1]
      refine ⟨by omega, ?_⟩
      rcases Nat.lt_or_ge (P + i) 16 with h2 | h2
      · omega
      · have h3 : M < 2 ^ (P + i) := Nat.lt_of_lt_of_le (show M < 2 ^ 16 by omega) (Nat.pow_le_pow_right (by decide) h2)
        rw [Nat.add_comm, Nat.testBit_lt_two_pow h3] at hi
        cases hi
    · unfold has
      rw [Int.toNat_natCast, Nat.add_comm]; exact hi
theorem relem : Elem Try.prog entF 34 53 := ⟨Try.underlying34, by
  have h : (Try.prog.info? 53).map (fun i => (i.zero, i.size, decide (i.bytes ≤ 1000))) = some (some (.agg #[.int .i64 0, .int .i64 0, .int .u16 0]), 3, true) := by kernel_rfl
  cases hi : Try.prog.info? 53 with
  | none => rw [hi] at h; cases h
  | some i =>
    rw [hi] at h
    simp only [Option.map_some, Option.some.injEq, Prod.mk.injEq, decide_eq_true_iff] at h
    exact ⟨i, _, rfl, h.1, h.2.1, rfl, h.2.2⟩⟩
section
variable {w w' : World} {B b : Nat} {mv : Value} {p : Pl} {es : List Ent}
set_option maxHeartbeats 4000000 in
set_option maxRecDepth 100000 in
theorem RBegin_calls (h : RDeskAt w B b mv p es) (c mask now : Int) (hmask : (Lit.int .u16 mask).wf = true) :
    Calls Try.prog 11 #[.pointer (some ⟨b, 0, none⟩), .int .i64 c, .int .u16 mask, .int .i64 now] w fun e w' =>
      e = .returned (.tuple #[.int .i64 ((beginOf p es c mask now).1 : Nat), .int .i64 (beginOf p es c mask now).2.1]) ∧ ∃ mv', RDeskAt w' B b mv' p (beginOf p es c mask now).2.2 ∧ (∀ g, mv'.ownBlock = some g → mv.ownBlock = some g ∨ w.heap.size ≤ g) ∧ Mod (foot b mv) w w' := by
  have hm : 0 ≤ mask ∧ mask ≤ 65535 := by simpa [Lit.wf, IntKind.min, IntKind.max, IntKind.signed, IntKind.bits] using hmask
  obtain ⟨R, hR⟩ : ∃ R, R = beginOf p es c mask now := ⟨_, rfl⟩
  rw [← hR]
  unfold beginOf at hR
  have Hh := Lib.hid h; clear h
  have HR := Lib.hid hR; clear hR
  clear hmask
  by_cases h1 : c < 0
  · have d1 : decide (c < 0) = true := decide_eq_true h1
    have e0 : R = (0, 11, es) := by rw [HR.out, if_pos (by omega)]
    subst e0
    clear HR h1
    go_enter Try.func11, Try.ntmps11
    go_wp2
    go_ret2
    exact ⟨rfl, mv, Hh.out, fun g hg => .inl hg, Mod.refl _ _⟩
  have d1 : decide (c < 0) = false := decide_eq_false h1
  by_cases h2 : 7 < c
  · have d2 : decide (7 < c) = true := decide_eq_true h2
    have e0 : R = (0, 11, es) := by rw [HR.out, if_pos (by omega)]
    subst e0
    clear HR h1 h2
    go_enter Try.func11, Try.ntmps11
    go_wp2
    go_ret2
    exact ⟨rfl, mv, Hh.out, fun g hg => .inl hg, Mod.refl _ _⟩
  have d2 : decide (7 < c) = false := decide_eq_false h2
  by_cases h3 : now < 0
  · have d3 : decide (now < 0) = true := decide_eq_true h3
    have e0 : R = (0, 11, es) := by rw [HR.out, if_pos (by omega)]
    subst e0
    clear HR h1 h2 h3
    go_enter Try.func11, Try.ntmps11
    go_wp2
    go_ret2
    exact ⟨rfl, mv, Hh.out, fun g hg => .inl hg, Mod.refl _ _⟩
  have d3 : decide (now < 0) = false := decide_eq_false h3
  by_cases h4 : 1099511627776 < now
  · have d4 : decide (1099511627776 < now) = true := decide_eq_true h4
    have e0 : R = (0, 11, es) := by rw [HR.out, if_pos (by omega)]
    subst e0
    clear HR h1 h2 h3 h4
    go_enter Try.func11, Try.ntmps11
    go_wp2
    go_ret2
    exact ⟨rfl, mv, Hh.out, fun g hg => .inl hg, Mod.refl _ _⟩
  have d4 : decide (1099511627776 < now) = false := decide_eq_false h4
  have hR := HR.out
  rw [if_neg (by omega)] at hR
  clear HR
  obtain ⟨C, rfl⟩ : ∃ C : Nat, c = C := ⟨c.toNat, by omega⟩
  have hok := fun hm' : 0 ≤ mask ∧ mask ≤ 65535 => (⟨⟨by show 0 ≤ (C : Int); omega, by show (C : Int) < 8; omega⟩, ⟨by show 0 ≤ now; omega, by show now ≤ _; omega⟩, hm'⟩ : Ent.ok ((C : Int), now, mask))
  have hok := hok hm
  have Hok := Lib.hid hok; clear hok
  obtain ⟨P, hP⟩ : ∃ P : Nat, (P : Int) = p.parts := ⟨p.parts.toNat, by have := Hh.out.good.1; omega⟩
  have hP6 : P ≤ 6 := by have := Hh.out.good.2.1; omega
  rw [← hP, Int.toNat_natCast] at hR
  have p0 : w.cell? ⟨b, 0, none⟩ = some (.int .i64 (P : Int)) := by rw [hP]; exact cells_at Hh.out.root 0
  have hlast := badTo_last hm (P := P) (by omega)
  have HR := Lib.hid hR; clear hR
  have Hlast := Lib.hid hlast; clear hlast
  have hfirst := badTo_first mask P
  clear h1 h2 h3 h4 hP
  obtain ⟨B0, hB0⟩ : ∃ B0, B0 = (mask == 0) := ⟨_, rfl⟩
  rw [← hB0] at hfirst
  have HB0 := Lib.hid hfirst; clear hfirst
  go_enter Try.func11, Try.ntmps11
  go_wp2_with fail
  go_loopw [10, 11] (fun bad t wr => ∃ q : Nat, P ≤ q ∧ q ≤ 16 ∧ bad = .bool (badTo mask P q) ∧ t = .int .i64 q ∧ wr = w) (fun _ t _ => 16 - (intOf t).toNat)
  case atStart => exact ⟨P, Nat.le_refl _, by omega, by rw [HB0.out, hB0], rfl, rfl⟩
  case round =>
    obtain ⟨q, hq1, hq2, rfl, rfl, rfl⟩ := hrel
    by_cases hlt : q < 16
    · have hnx := badTo_next mask P q hq1
      have hhas := R14Has_calls (w := wr) hm (q : Int)
      have him : inMask mask (q : Int) = has mask q := by unfold inMask; rw [decide_eq_true (by omega), Bool.true_and, Int.toNat_natCast]
      rw [him] at hhas
      clear him
      have Hhas := Lib.hid hhas; clear hhas
      have Hnx := Lib.hid hnx; clear hnx
      have i1 : (q : Int) < 16 := by omega
      obtain ⟨BB, hBB⟩ : ∃ BB, BB = badTo mask P q := ⟨_, rfl⟩
      rw [← hBB] at Hnx ⊢
      clear hBB
      cases BB with
      | true =>
        go_wp2_with fail
        go_roundw
        case rel => exact ⟨q + 1, by omega, by omega, by rw [Hnx.out]; rfl, by go_num, trivial⟩
        case measure => simp [intOf]; omega
      | false =>
        go_wp2_with fail
        refine Hhas.out.mono ?_
        rintro e w1 ⟨rfl, rfl⟩
        go_wp2_with fail
        go_roundw
        case rel => exact ⟨q + 1, by omega, by omega, by rw [Hnx.out]; simp, by go_num, trivial⟩
        case measure => simp [intOf]; omega
    · obtain rfl : q = 16 := by omega
      rw [Hlast.out]
      clear Hlast HB0
      by_cases h5 : mask = 0 ∨ mask / 2 ^ P ≠ 0
      · rw [decide_eq_true h5]
        have e0 : R = (0, 10, es) := by rw [HR.out, if_pos h5]
        subst e0
        clear HR h5 hlt hq1 hq2
        go_wp2_with fail
        go_ret2
        exact ⟨rfl, mv, Hh.out, fun g hg => .inl hg, Mod.refl _ _⟩
      · rw [decide_eq_false h5]
        have hR := HR.out
        rw [if_neg h5] at hR
        have ho := ROf_calls Hh.out (C : Int) now
        generalize ofOf p es (C : Int) now = K at ho hR
        clear HR h5 hlt hq1 hq2
        have HR := Lib.hid hR; clear hR
        have Ho := Lib.hid ho; clear ho
        go_wp2_with fail
        refine Ho.out.mono ?_
        rintro e w1 ⟨rfl, b1⟩
        have hh1 := Hh.out.below b1
        have Hb1 := Lib.hid b1; clear b1
        clear Ho p0
        by_cases hK : K = 0
        · have hR := HR.out
          rw [if_neg (by omega)] at hR
          clear HR
          have ek : decide (K ≠ 0) = false := decide_eq_false (by omega)
          obtain ⟨va, vc, hmv⟩ := hh1.row.shape
          subst hmv
          obtain ⟨L, hL⟩ : ∃ L, L = es.length := ⟨_, rfl⟩
          have h64 := hh1.len
          rw [← hL] at hR h64
          have c3 : w1.cell? ⟨b, 3, none⟩ = some (.slice va L vc) := by rw [hL]; exact cells_at hh1.root 3
          rw [ek]
          clear ek hK
          by_cases h6 : 64 ≤ L
          · have d6 : decide ((64 : Int) ≤ (L : Int)) = true := decide_eq_true (by omega)
            rw [if_pos h6] at hR
            subst hR
            have Hh1 := Lib.hid hh1; clear hh1 hL h6
            go_wp2_with fail
            go_ret2
            exact ⟨rfl, _, Hh1.out, fun g hg => .inl hg, Mod.of_below Hb1.out⟩
          · have d6 : decide ((64 : Int) ≤ (L : Int)) = false := decide_eq_false (by omega)
            rw [if_neg h6] at hR
            subst hR
            have hL64 : L < 64 := by omega
            have HL := Lib.hid hL; clear hL h6
            have hrow := hh1.row
            have hltw := hh1.lt
            have Hh1 := Lib.hid hh1; clear hh1
            have Hrow := Lib.hid hrow; clear hrow
            go_wp2_with (with_reducible refine stop_builtin .append ?_)
            refine unpark ?_
            have hx3 := heap_alloc_new w1 (.cells #[.int .i64 (C : Int), .int .i64 now, .int .u16 mask] 53)
            have b3 : Below w1.heap.size w1 (w1.alloc (.cells #[.int .i64 (C : Int), .int .i64 now, .int .u16 mask] 53)) := (Below.refl _ _).alloc (Nat.le_refl _) _
            have hz3 : (w1.alloc (.cells #[.int .i64 (C : Int), .int .i64 now, .int .u16 mask] 53)).heap.size = w1.heap.size + 1 := by simp
            generalize w1.alloc (.cells #[.int .i64 (C : Int), .int .i64 now, .int .u16 mask] 53) = w3 at hx3 b3 hz3 ⊢
            have hsh : Value.slice va es.length vc = Value.slice va L vc := by rw [HL.out]
            rw [hsh] at Hrow Hh1 hltw
            refine wpList_append_rec1 relem _ rfl _ _ rfl B (.slice va L vc) es rfl (Hrow.out.below b3) w1.heap.size 1 (by decide) (by decide) ((C : Int), now, mask) rfl hx3 (fun j u hu => by simpa [entF, Ent.cells] using hu) (by have := HL.out; omega) (by have := (hltw b (.inl rfl)).2; have := Hh1.out.bb; omega) ?_
            intro v' w4 own4 g4 hv4
            have same4 : ∀ x, x < w1.heap.size → (Value.slice va L vc).ownBlock ≠ some x → w4.heap[x]? = w1.heap[x]? := fun x hx hn => (g4.block x (by omega) fun e => hn e.symm).trans (b3.block x hx)
            have hbl := (hltw b (.inl rfl)).2
            have r4 : w4.heap[b]? = some (.cells #[.int .i64 p.parts, .int .i64 p.window, .int .i64 p.delay, .slice va L vc] 36 (0, 0)) := (same4 b hbl fun e => Hh1.out.apart b e rfl).trans Hh1.out.root
            have vb : ∀ g, v'.ownBlock = some g → g ≠ b ∧ ((Value.slice va L vc).ownBlock = some g ∨ w1.heap.size ≤ g) := fun g hg => by
              rcases hv4 with e | e
              · rw [e] at hg
                exact ⟨Hh1.out.apart g hg, .inl hg⟩
              · rw [e] at hg
                cases hg
                exact ⟨by omega, .inr (by omega)⟩
            have r5 : (w4.setCell ⟨b, 3, none⟩ v').heap[b]? = some (.cells #[.int .i64 p.parts, .int .i64 p.window, .int .i64 p.delay, v'] 36 (0, 0)) := heap_setCell_same w4 b 3 _ _ _ r4
            have own5 : REOwn (w4.setCell ⟨b, 3, none⟩ v') B v' (es ++ [((C : Int), now, mask)]) := own4.keep fun g hg _ => heap_setCell_other w4 _ g _ (vb g hg).1
            have m5 : Mod (foot b (.slice va L vc)) wr (w4.setCell ⟨b, 3, none⟩ v') := by
              have m1 : Mod (foot b (.slice va L vc)) w1 w4 := ⟨g4.os.trans b3.os, g4.tape.trans b3.tape, g4.output.trans b3.output, Nat.le_trans b3.size g4.size, fun x hx hn => same4 x hx fun e => hn (.inr e)⟩
              have m2 : Mod (foot b (.slice va L vc)) w4 (w4.setCell ⟨b, 3, none⟩ v') := ⟨rfl, rfl, rfl, by simp, fun x _ hn => heap_setCell_other w4 _ x _ fun e => hn (.inl e)⟩
              exact ((Mod.of_below Hb1.out : Mod (foot b (.slice va L vc)) wr w1).trans m1 (fun _ h => h) (fun _ _ h => h)).trans m2 (fun _ h => h) (fun _ _ h => h)
            have hf : ∀ g, v'.ownBlock = some g → (Value.slice va L vc).ownBlock = some g ∨ wr.heap.size ≤ g := fun g hg => (vb g hg).2.imp id fun h => Nat.le_trans Hb1.out.size h
            have f3 := frozen_of_row w4 b 3 _ _ r4
            have cc3 : w4.cell? ⟨b, 3, none⟩ = some (.slice va L vc) := cells_at r4 3
            have hn : RDeskAt (w4.setCell ⟨b, 3, none⟩ v') B b v' p (es ++ [((C : Int), now, mask)]) := ⟨r5, own5, fun g hg => (vb g hg).1, Hh1.out.bb, Hh1.out.good, by rw [List.length_append, List.length_singleton, ← HL.out]; omega, fun e he => by
              rcases List.mem_append.1 he with he | he
              · exact Hh1.out.ok e he
              · rw [List.mem_singleton] at he; rw [he]; exact Hok.out⟩
            obtain ⟨na, nc, hve⟩ := own5.shape
            rw [List.length_append, List.length_singleton, ← HL.out] at hve
            subst hve
            have c53 : (w4.setCell ⟨b, 3, none⟩ (.slice na (L + 1) nc)).cell? ⟨b, 3, none⟩ = some (.slice na (L + 1) nc) := cells_at r5 3
            clear own4 g4 hv4 same4 r4 vb hx3 b3 hz3 Hrow hltw c3 Hok Hb1 r5 own5 Hh Hh1
            have Hn := Lib.hid hn; clear hn
            have M5 := Lib.hid m5; clear m5
            have Hf := Lib.hid hf; clear hf
            rw [← hsh] at Hf M5
            go_wp2_with fail
            go_ret2
            exact ⟨rfl, _, Hn.out, Hf.out, M5.out⟩
        · have ek : decide (K ≠ 0) = true := decide_eq_true hK
          rw [ek]
          have e0 : R = (0, 13, es) := by rw [HR.out, if_pos hK]
          subst e0
          have Hh1 := Lib.hid hh1; clear hh1 HR hK ek
          go_wp2_with fail
          go_ret2
          exact ⟨rfl, mv, Hh1.out, fun g hg => .inl hg, Mod.of_below Hb1.out⟩
end
end Go.Proofs.Ytdccocgdgcjfcaa
