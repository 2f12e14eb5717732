/- The desk: Begin. -/
import Derived.Test.YtdccocgdgcjfcaaDesk3
namespace Go.Proofs.Ytdccocgdgcjfcaa
open Go.RowKit

/-- what it answers, and what the desk has behind it -/
def beginOf (p : Pl) (es : List Ent) (c mask now : Int) : Nat × Int × List Ent :=
  if ¬ (0 ≤ c ∧ c < 8 ∧ 0 ≤ now ∧ now ≤ 1099511627776) then (0, 11, es) else
  if mask = 0 ∨ mask / 2 ^ p.parts.toNat ≠ 0 then (0, 10, es) else
  if ofOf p es c now ≠ 0 then (0, 13, es) else
  if 64 ≤ es.length then (0, 16, es) else (es.length + 1, 0, es ++ [(c, now, mask)])

theorem entElem : Elem Try.prog entF 55 50 := ⟨Try.underlying55, by
  have h : (Try.prog.info? 50).map (fun i => (i.zero, i.size, decide (i.bytes ≤ 1000))) = some (some (.agg #[.int .i64 0, .int .i64 0, .int .u16 0]), 3, true) := by kernel_rfl
  cases hi : Try.prog.info? 50 with
  | none => rw [hi] at h; cases h
  | some i =>
    rw [hi] at h
    simp only [Option.map_some, Option.some.injEq, Prod.mk.injEq, decide_eq_true_iff] at h
    exact ⟨i, _, rfl, h.1, h.2.1, rfl, h.2.2⟩⟩

section
variable {w w' : World} {B b : Nat} {mv : Value} {p : Pl} {es : List Ent}
set_option maxHeartbeats 4000000 in
set_option maxRecDepth 100000 in
theorem Begin_calls (h : DeskAt w B b mv p es) (c mask now : Int) (hc : (Lit.int .i64 c).wf = true) (hmask : (Lit.int .u16 mask).wf = true) :
    Calls Try.prog 10 #[.pointer (some ⟨b, 0, none⟩), .int .i64 c, .int .u16 mask, .int .i64 now] w fun e w' =>
      e = .returned (.tuple #[.int .i64 ((beginOf p es c mask now).1 : Nat), .int .i64 (beginOf p es c mask now).2.1]) ∧ ∃ mv', DeskAt w' B b mv' p (beginOf p es c mask now).2.2 ∧ (∀ g, mv'.ownBlock = some g → mv.ownBlock = some g ∨ w.heap.size ≤ g) ∧ Mod (foot b mv) w w' := by
  have hm : 0 ≤ mask ∧ mask ≤ 65535 := by simpa [Lit.wf, IntKind.min, IntKind.max, IntKind.signed, IntKind.bits] using hmask
  have ho := Of_calls h c now hc
  have hkn := fun w : World => known_calls (w := w) c
  obtain ⟨R, hR⟩ : ∃ R, R = beginOf p es c mask now := ⟨_, rfl⟩
  rw [← hR]
  unfold beginOf at hR
  generalize ofOf p es c now = K at ho hR
  have hbl := (h.lt b (.inl rfl)).2
  have Ho := Lib.hid ho; clear ho
  have Hh := Lib.hid h; clear h
  have HR := Lib.hid hR; clear hR
  clear hmask
  by_cases h1 : 0 ≤ c ∧ c < 8
  case neg =>
    simp only [decide_eq_false h1] at hkn
    have e0 : R = (0, 11, es) := by rw [HR.out, if_pos (fun h => h1 ⟨h.1, h.2.1⟩)]
    subst e0
    have Hkn := Lib.hid hkn; clear hkn h1 HR
    go_enter Try.func10, Try.ntmps10
    go_wp2_with fail
    refine Ho.out.mono ?_
    rintro e w1 ⟨rfl, b1⟩
    have Hb1 := Lib.hid b1; clear b1
    go_wp2_with fail
    refine (Hkn.out _).mono ?_
    rintro e w2 ⟨rfl, rfl⟩
    go_wp2
    go_ret2
    exact ⟨rfl, mv, Hh.out.below Hb1.out, fun g hg => .inl hg, Mod.of_below Hb1.out⟩
  simp only [decide_eq_true h1] at hkn
  have Hkn := Lib.hid hkn; clear hkn
  by_cases h2 : now < 0
  · have d2 : decide (now < 0) = true := decide_eq_true h2
    have e0 : R = (0, 11, es) := by rw [HR.out, if_pos (by omega)]
    subst e0
    clear h1 h2 HR
    go_enter Try.func10, Try.ntmps10
    go_wp2_with fail
    refine Ho.out.mono ?_
    rintro e w1 ⟨rfl, b1⟩
    have Hb1 := Lib.hid b1; clear b1
    go_wp2_with fail
    refine (Hkn.out _).mono ?_
    rintro e w2 ⟨rfl, rfl⟩
    go_wp2
    go_ret2
    exact ⟨rfl, mv, Hh.out.below Hb1.out, fun g hg => .inl hg, Mod.of_below Hb1.out⟩
  have d2 : decide (now < 0) = false := decide_eq_false h2
  by_cases h3 : 1099511627776 < now
  · have d3 : decide (1099511627776 < now) = true := decide_eq_true h3
    have e0 : R = (0, 11, es) := by rw [HR.out, if_pos (by omega)]
    subst e0
    clear h1 h2 h3 HR
    go_enter Try.func10, Try.ntmps10
    go_wp2_with fail
    refine Ho.out.mono ?_
    rintro e w1 ⟨rfl, b1⟩
    have Hb1 := Lib.hid b1; clear b1
    go_wp2_with fail
    refine (Hkn.out _).mono ?_
    rintro e w2 ⟨rfl, rfl⟩
    go_wp2
    go_ret2
    exact ⟨rfl, mv, Hh.out.below Hb1.out, fun g hg => .inl hg, Mod.of_below Hb1.out⟩
  have d3 : decide (1099511627776 < now) = false := decide_eq_false h3
  have hR := HR.out
  rw [if_neg (by omega)] at hR
  clear HR
  have HR := Lib.hid hR; clear hR
  have hg := Hh.out.good
  obtain ⟨P, hP⟩ : ∃ P : Nat, p.parts = P := ⟨p.parts.toNat, by have := hg.1; omega⟩
  have hP1 : 1 ≤ P ∧ P ≤ 6 := by have h1 := hg.1; have h2 := hg.2.1; omega
  have p0 : w.cell? ⟨b, 0, none⟩ = some (.int .i64 P) := by rw [← hP]; exact cells_at Hh.out.root 0
  rw [hP, Int.toNat_natCast] at HR
  have i0 : (0 : Int) ≤ (P : Int) := by omega
  have q1 : 0 ≤ mask / 2 ^ P := Int.ediv_nonneg hm.1 (Int.le_of_lt (Int.pow_pos (by decide)))
  have hp1 : (1 : Int) ≤ 2 ^ P := by have : 0 < (2 : Int) ^ P := Int.pow_pos (by decide); omega
  have q2 : mask / 2 ^ P ≤ 65535 := Int.le_trans (Int.ediv_le_self _ hm.1) hm.2
  obtain ⟨C, rfl⟩ : ∃ C : Nat, c = C := ⟨c.toNat, by omega⟩
  by_cases h4 : mask = 0
  · subst h4
    have e0 : R = (0, 10, es) := by rw [HR.out, if_pos (.inl rfl)]
    subst e0
    clear h1 h2 h3 HR
    go_enter Try.func10, Try.ntmps10
    go_wp2_with fail
    refine Ho.out.mono ?_
    rintro e w1 ⟨rfl, b1⟩
    have Hb1 := Lib.hid b1; clear b1
    go_wp2_with fail
    refine (Hkn.out _).mono ?_
    rintro e w2 ⟨rfl, rfl⟩
    go_wp2
    go_ret2
    exact ⟨rfl, mv, Hh.out.below Hb1.out, fun g hg => .inl hg, Mod.of_below Hb1.out⟩
  have d4 : (mask == 0) = false := by simpa using h4
  by_cases h5 : mask / 2 ^ P = 0
  case neg =>
    have e0 : R = (0, 10, es) := by rw [HR.out, if_pos (.inr h5)]
    subst e0
    have d5 : (mask / 2 ^ P == 0) = false := by simpa using h5
    have d5' : (mask / 2 ^ P != 0) = true := by simpa using h5
    clear h1 h2 h3 h4 h5 HR
    go_enter Try.func10, Try.ntmps10
    go_wp2_with fail
    refine Ho.out.mono ?_
    rintro e w1 ⟨rfl, b1⟩
    have Hb1 := Lib.hid b1; clear b1
    go_wp2_with fail
    refine (Hkn.out _).mono ?_
    rintro e w2 ⟨rfl, rfl⟩
    have p01 := (Hb1.out.cell hbl).trans p0
    go_wp2
    go_ret2
    exact ⟨rfl, mv, Hh.out.below Hb1.out, fun g hg => .inl hg, Mod.of_below Hb1.out⟩
  have hR := HR.out
  rw [if_neg (by rintro (h | h); exact h4 h; exact h h5)] at hR
  clear HR
  have HR := Lib.hid hR; clear hR
  have d5 : (mask / 2 ^ P == 0) = true := by rw [h5]; rfl
  have d5' : (mask / 2 ^ P != 0) = false := by rw [h5]; rfl
  by_cases h6 : K = 0
  case neg =>
    have e0 : R = (0, 13, es) := by rw [HR.out, if_pos h6]
    subst e0
    rw [decide_eq_true h6] at Ho
    clear h1 h2 h3 h4 h5 h6 HR
    go_enter Try.func10, Try.ntmps10
    go_wp2_with fail
    refine Ho.out.mono ?_
    rintro e w1 ⟨rfl, b1⟩
    have Hb1 := Lib.hid b1; clear b1
    go_wp2_with fail
    refine (Hkn.out _).mono ?_
    rintro e w2 ⟨rfl, rfl⟩
    have p01 := (Hb1.out.cell hbl).trans p0
    go_wp2
    go_ret2
    exact ⟨rfl, mv, Hh.out.below Hb1.out, fun g hg => .inl hg, Mod.of_below Hb1.out⟩
  subst h6
  have hR := HR.out
  rw [if_neg (by omega)] at hR
  clear HR
  have HR := Lib.hid hR; clear hR
  have eb : decide ((0 : Nat) ≠ 0) = false := rfl
  rw [eb] at Ho
  obtain ⟨L, hL⟩ : ∃ L, L = es.length := ⟨_, rfl⟩
  by_cases h7 : 64 ≤ L
  · have e0 : R = (0, 16, es) := by rw [HR.out, if_pos (by omega)]
    subst e0
    obtain ⟨va, vc, hmv⟩ := Hh.out.row.shape
    rw [← hL] at hmv
    have c3 : w.cell? ⟨b, 3, none⟩ = some (.slice va L vc) := by rw [← hmv]; exact cells_at Hh.out.root 3
    have d7 : decide ((64 : Int) ≤ (L : Int)) = true := decide_eq_true (by omega)
    clear h1 h2 h3 h4 h5 h7 HR hmv hL
    go_enter Try.func10, Try.ntmps10
    go_wp2_with fail
    refine Ho.out.mono ?_
    rintro e w1 ⟨rfl, b1⟩
    have Hb1 := Lib.hid b1; clear b1
    go_wp2_with fail
    refine (Hkn.out _).mono ?_
    rintro e w2 ⟨rfl, rfl⟩
    have p01 := (Hb1.out.cell hbl).trans p0
    have c31 := (Hb1.out.cell hbl).trans c3
    go_wp2
    go_ret2
    exact ⟨rfl, mv, Hh.out.below Hb1.out, fun g hg => .inl hg, Mod.of_below Hb1.out⟩
  have e0 : R = (L + 1, 0, es ++ [((C : Int), now, mask)]) := by rw [HR.out, if_neg (by omega), hL]
  have d7 : decide ((64 : Int) ≤ (L : Int)) = false := decide_eq_false (by omega)
  have hL64 : L < 64 := by omega
  have hC : C < 8 := by omega
  have i1 : (0 : Int) ≤ (C : Int) := by omega
  have i2 : (C : Int) < 8 := by omega
  have hok : Ent.ok ((C : Int), now, mask) := ⟨h1, ⟨by show 0 ≤ now; omega, by show now ≤ _; omega⟩, hm⟩
  subst e0
  clear h1 h2 h3 h4 h5 h7 HR hg p0
  have Hok := Lib.hid hok; clear hok
  go_enter Try.func10, Try.ntmps10
  go_wp2_with fail
  refine Ho.out.mono ?_
  rintro e w1 ⟨rfl, b1⟩
  have hh1 := Hh.out.below b1
  have Hb1 := Lib.hid b1; clear b1
  clear Hh hbl Ho
  go_wp2_with fail
  refine (Hkn.out _).mono ?_
  rintro e w2 ⟨rfl, rfl⟩
  clear Hkn
  have p01 : w2.cell? ⟨b, 0, none⟩ = some (.int .i64 P) := by rw [← hP]; exact cells_at hh1.root 0
  obtain ⟨va, vc, hmv⟩ := hh1.row.shape
  rw [← hL] at hmv
  subst hmv
  have c3 : w2.cell? ⟨b, 3, none⟩ = some (.slice va L vc) := cells_at hh1.root 3
  have hrow := hh1.row
  have hltw := hh1.lt
  have HL := Lib.hid hL; clear hL
  have Hh1 := Lib.hid hh1; clear hh1
  have Hrow := Lib.hid hrow; clear hrow
  go_wp2_with (with_reducible refine stop_builtin .append ?_)
  refine unpark ?_
  have hx3 := heap_alloc_new w2 (.cells #[.int .i64 (C : Int), .int .i64 now, .int .u16 mask] 50)
  have b3 : Below w2.heap.size w2 (w2.alloc (.cells #[.int .i64 (C : Int), .int .i64 now, .int .u16 mask] 50)) := (Below.refl _ _).alloc (Nat.le_refl _) _
  have hz3 : (w2.alloc (.cells #[.int .i64 (C : Int), .int .i64 now, .int .u16 mask] 50)).heap.size = w2.heap.size + 1 := by simp
  generalize w2.alloc (.cells #[.int .i64 (C : Int), .int .i64 now, .int .u16 mask] 50) = w3 at hx3 b3 hz3 ⊢
  refine wpList_append_rec1 entElem _ rfl _ _ rfl B _ es rfl (Hrow.out.below b3) w2.heap.size 1 (by decide) (by decide) ((C : Int), now, mask) rfl hx3 (fun j u hu => by simpa [entF, Ent.cells] using hu) (by have := HL.out; omega) (by have := (hltw b (.inl rfl)).2; have := Hh1.out.bb; omega) ?_
  intro v' w4 own4 g4 hv4
  have same4 : ∀ x, x < w2.heap.size → (Value.slice va L vc).ownBlock ≠ some x → w4.heap[x]? = w2.heap[x]? := fun x hx hn => (g4.block x (by omega) fun e => hn e.symm).trans (b3.block x hx)
  have hbl := (hltw b (.inl rfl)).2
  have r4 : w4.heap[b]? = some (.cells (dcells p (.slice va L vc) es) 65 (0, 0)) := (same4 b hbl fun e => Hh1.out.apart b e rfl).trans Hh1.out.root
  have vb : ∀ g, v'.ownBlock = some g → g ≠ b ∧ ((Value.slice va L vc).ownBlock = some g ∨ w2.heap.size ≤ g) := fun g hg => by
    rcases hv4 with e | e
    · rw [e] at hg
      exact ⟨Hh1.out.apart g hg, .inl hg⟩
    · rw [e] at hg
      cases hg
      exact ⟨by omega, .inr (by omega)⟩
  have r5 : (w4.setCell ⟨b, 3, none⟩ v').heap[b]? = some (.cells (dcells p v' es) 65 (0, 0)) := heap_setCell_same w4 b 3 _ _ _ r4
  have own5 : EOwn (w4.setCell ⟨b, 3, none⟩ v') B v' (es ++ [((C : Int), now, mask)]) := own4.keep fun g hg _ => heap_setCell_other w4 _ g _ (vb g hg).1
  have m5 : Mod (foot b (.slice va L vc)) w (w4.setCell ⟨b, 3, none⟩ v') := by
    have m1 : Mod (foot b (.slice va L vc)) w2 w4 := ⟨g4.os.trans b3.os, g4.tape.trans b3.tape, g4.output.trans b3.output, Nat.le_trans b3.size g4.size, fun x hx hn => same4 x hx fun e => hn (.inr e)⟩
    have m2 : Mod (foot b (.slice va L vc)) w4 (w4.setCell ⟨b, 3, none⟩ v') := ⟨rfl, rfl, rfl, by simp, fun x _ hn => heap_setCell_other w4 _ x _ fun e => hn (.inl e)⟩
    exact ((Mod.of_below Hb1.out : Mod (foot b (.slice va L vc)) w w2).trans m1 (fun _ h => h) (fun _ _ h => h)).trans m2 (fun _ h => h) (fun _ _ h => h)
  have hf : ∀ g, v'.ownBlock = some g → (Value.slice va L vc).ownBlock = some g ∨ w.heap.size ≤ g := fun g hg => (vb g hg).2.imp id fun h => Nat.le_trans Hb1.out.size h
  have f3 := frozen_of_row w4 b 3 _ _ r4
  have cc3 : w4.cell? ⟨b, 3, none⟩ = some (.slice va L vc) := cells_at r4 3
  obtain ⟨na, nc, hve⟩ := own4.shape
  rw [List.length_append, List.length_singleton, ← HL.out] at hve
  subst hve
  have hgood := Hh1.out.good
  have hBb := Hh1.out.bb
  have hokk : ∀ e ∈ es ++ [((C : Int), now, mask)], e.ok := fun e he => by
    rcases List.mem_append.1 he with he | he
    · exact Hh1.out.ok e he
    · rw [List.mem_singleton] at he; rw [he]; exact Hok.out
  have vb' : ∀ g, (Value.slice na (L + 1) nc).ownBlock = some g → g ≠ b := fun g hg => (vb g hg).1
  clear own4 g4 hv4 same4 r4 vb hx3 b3 hz3 Hrow hltw c3 p01 Hh1 Hok Hb1
  have R5 := Lib.hid r5; clear r5
  have Own5 := Lib.hid own5; clear own5
  have M5 := Lib.hid m5; clear m5
  have Hf := Lib.hid hf; clear hf
  have Hokk := Lib.hid hokk; clear hokk
  have Vb := Lib.hid vb'; clear vb'
  go_wp2_with fail
  refine wp_region_free [0, 1, 2, 3, 4, 5, 6, 7, 8, 9, 10] (by kernel_rfl) (by kernel_rfl) rfl (by kernel_rfl) (fun _ _ _ h => by obtain ⟨_, h, _⟩ := h; cases h) (fun _ _ h => by obtain ⟨h, _⟩ := h; cases h) ?_
  simp only [List.map_cons, List.map_nil, List.getD_cons_zero, List.getD_cons_succ]
  generalize w4.setCell ⟨b, 3, none⟩ (.slice na (L + 1) nc) = w5 at *
  have r6 : w5.drew.heap[b]? = some (.cells (dcells p (.slice na (L + 1) nc) es) 65 (0, 0)) := R5.out
  have own6 : EOwn w5.drew B (.slice na (L + 1) nc) (es ++ [((C : Int), now, mask)]) := Own5.out.keep fun g _ _ => rfl
  have m6 : Mod (foot b (.slice va L vc)) w w5.drew := M5.out.trans (Mod.of_below (below_drew w5) : Mod (foot b (.slice va L vc)) w5 w5.drew) (fun _ h => h) (fun _ _ h => h)
  clear R5 Own5 M5 f3 cc3
  generalize w5.drew = w6 at *
  have c63 : w6.cell? ⟨b, 3, none⟩ = some (.slice na (L + 1) nc) := cells_at r6 3
  have f6 := frozen_of_row w6 b (4 + C) _ _ r6
  have c6 : w6.cell? ⟨b, 4 + C, none⟩ = some (.int .i64 (lastOf es (C : Int) : Nat)) := (cells_at r6 (4 + C)).trans (dcells_at _ _ _ C hC)
  have r7 : (w6.setCell ⟨b, 4 + C, none⟩ (.int .i64 ((L : Int) + 1))).heap[b]? = some (.cells (dcells p (.slice na (L + 1) nc) (es ++ [((C : Int), now, mask)])) 65 (0, 0)) := by
    refine (heap_setCell_same w6 b (4 + C) _ _ _ r6).trans ?_
    have e := dcells_put p (.slice na (L + 1) nc) es ((C : Int), now, mask) C hC rfl
    rw [← HL.out] at e
    rw [← e]
    first | rfl | simp
  have hn : DeskAt (w6.setCell ⟨b, 4 + C, none⟩ (.int .i64 ((L : Int) + 1))) B b (.slice na (L + 1) nc) p (es ++ [((C : Int), now, mask)]) := ⟨r7, own6.keep fun g hg _ => heap_setCell_other w6 _ g _ (Vb.out g hg), Vb.out, hBb, hgood, by rw [List.length_append, List.length_singleton, ← HL.out]; omega, Hokk.out⟩
  have m7 : Mod (foot b (.slice va L vc)) w (w6.setCell ⟨b, 4 + C, none⟩ (.int .i64 ((L : Int) + 1))) := m6.trans ⟨rfl, rfl, rfl, by simp, fun x _ hn => heap_setCell_other w6 _ x _ fun e => hn (.inl e)⟩ (fun _ h => h) (fun _ _ h => h)
  have c73 : (w6.setCell ⟨b, 4 + C, none⟩ (.int .i64 ((L : Int) + 1))).cell? ⟨b, 3, none⟩ = some (.slice na (L + 1) nc) := cells_at r7 3
  clear r6 own6 m6 r7 hgood Hokk Vb
  have Hn := Lib.hid hn; clear hn
  have M7 := Lib.hid m7; clear m7
  go_wp2
  go_ret2
  exact ⟨rfl, _, Hn.out, Hf.out, M7.out⟩
end
end Go.Proofs.Ytdccocgdgcjfcaa
