/- The law KernFlows. -/
import Derived.Test.YtclgakdfeeefiaaDoorKernD
namespace Go.Proofs.YtclgakdfeeefiaaDoor
open Go.RowKit

theorem flows1 : ∀ n, n < 7 → ∀ a, a < 7 → 1 ≤ n → a ≤ n → bits .andNot .u64 (labOf n (a : Nat)).1 (allOf n : Nat) = 0 := by decide +kernel
theorem flows2 : ∀ n, n < 7 → ∀ a, a < 7 → 1 ≤ n → a ≤ n → withOf (((allOf n : Nat) : Int), 0) (labOf n (a : Nat)) (allOf n : Nat) = true := by decide +kernel
theorem flows3' : ∀ n, n < 7 → ∀ a, a < 7 → ∀ b, b < 7 → (decide (a ≤ n) && decide (b ≤ n) && !decide (a = b) && decide (1 < n) && decide (labOf n (a : Nat) = labOf n (b : Nat))) = false := by decide +kernel
theorem flows4' : ∀ n, n < 7 → ∀ a, a < 7 → ∀ b, b < 7 → (decide (a ≤ n) && decide (b ≤ n) && !decide (a = b) && !decide (a = n) && !decide (b = n) && !decide (bits .and .u64 (labOf n (a : Nat)).1 (labOf n (b : Nat)).1 = 0)) = false := by decide +kernel
theorem flows3 (n : Nat) (hn : n < 7) (a : Nat) (ha : a < 7) (b : Nat) (hb : b < 7) (h : a ≤ n ∧ b ≤ n ∧ ¬ a = b ∧ 1 < n) : ¬ labOf n (a : Nat) = labOf n (b : Nat) := by
  have := flows3' n hn a ha b hb
  simpa [h.1, h.2.1, h.2.2.1, h.2.2.2] using this
theorem flows4 (n : Nat) (hn : n < 7) (a : Nat) (ha : a < 7) (b : Nat) (hb : b < 7) (h : a ≤ n ∧ b ≤ n ∧ ¬ a = b ∧ ¬ a = n ∧ ¬ b = n) : bits .and .u64 (labOf n (a : Nat)).1 (labOf n (b : Nat)).1 = 0 := by
  have := flows4' n hn a ha b hb
  simpa [h.1, h.2.1, h.2.2.1, h.2.2.2.1, h.2.2.2.2] using this
theorem lab_there {n : Nat} {a : Int} (h : 0 ≤ a ∧ a ≤ n) : labelOf n a = labOf n a := if_pos (decide_eq_true h)
set_option maxHeartbeats 16000000 in
set_option maxRecDepth 100000 in
theorem lawKernFlows {w : World} {p a b : Int} (hT : TabOk w) (_h1 : (Lit.int .i64 p).wf = true) (_h2 : (Lit.int .i64 a).wf = true) (_h3 : (Lit.int .i64 b).wf = true) :
    Calls Tryd.prog 3 #[.int .i64 p, .int .i64 a, .int .i64 b] w fun e w' => e = .returned (.bool true) ∧ Below w.heap.size w w' := by
  clear _h1 _h2 _h3
  have ha := alive_calls hT
  have h0 : 0 < w.heap.size := World.block_lt_of_cell? _ _ (hT 0 (by decide))
  have HA := Lib.hid ha; clear ha
  have HT := Lib.hid hT; clear hT
  have H0 := Lib.hid h0; clear h0
  by_cases hp : 1 ≤ p ∧ p ≤ 6
  case neg =>
    by_cases h1 : p < 1
    · have d1 : decide (p < 1) = true := decide_eq_true h1
      clear HT H0 hp h1
      go_enter Tryd.func3, Tryd.ntmps3
      go_wp2_with fail
      refine HA.out.mono ?_
      rintro e w1 ⟨rfl, b1⟩
      have B1 := Lib.hid b1; clear b1
      go_wp2
      go_ret
      exact ⟨rfl, B1.out⟩
    · have d1 : decide (p < 1) = false := decide_eq_false h1
      have d2 : decide (6 < p) = true := decide_eq_true (by omega)
      clear HT H0 hp h1
      go_enter Tryd.func3, Tryd.ntmps3
      go_wp2_with fail
      refine HA.out.mono ?_
      rintro e w1 ⟨rfl, b1⟩
      have B1 := Lib.hid b1; clear b1
      go_wp2
      go_ret
      exact ⟨rfl, B1.out⟩
  case pos =>
    obtain ⟨n, rfl⟩ : ∃ n : Nat, p = n := ⟨p.toNat, by omega⟩
    have d1 : decide ((n : Int) < 1) = false := decide_eq_false (by omega)
    have d2 : decide (6 < (n : Int)) = false := decide_eq_false (by omega)
    have d2' : decide (6 < n) = false := decide_eq_false (by omega)
    have hg : Pl.good ((n : Int), 1, 2) := ⟨hp.1, hp.2, (by decide : (1 : Int) ≤ 1 ∧ (1 : Int) ≤ 100 ∧ (1 : Int) < 2 ∧ (2 : Int) ≤ 200)⟩
    have HG := Lib.hid hg; clear hg
    have hn1 : 1 ≤ n := by omega
    have hn6 : n ≤ 6 := by omega
    clear hp
    go_enter Tryd.func3, Tryd.ntmps3
    go_wp2_with fail
    refine HA.out.mono ?_
    rintro e w1 ⟨rfl, b1⟩
    have hn := New_kl (w0 := w) b1 (HT.out.below b1) (Nat.lt_of_lt_of_le H0.out b1.size) ((n : Int), 1, 2) HG.out (n := n) rfl (L := []) (fun x hx => by cases hx)
    simp only [Pl.cells, Pl.parts, Pl.window, Pl.delay] at hn
    have Hn := Lib.hid hn; clear hn b1 HA HT H0
    go_wp2_with fail
    refine Hn.out.mono ?_
    rintro e w2 ⟨kb, rfl, hk, -⟩
    have HK := Lib.hid hk; clear hk Hn d1 d2 d2'
    by_cases h0 : a < 0
    · have h := h0
      have hth : (thereB n a && thereB n b && decide (a = b ∨ b = (n : Int) ∨ a = (n : Int))) = false := by rw [show thereB n a = false from decide_eq_false (by omega)]; rfl
      have e1 : decide (a < 0) = true := decide_eq_true h
      have hfl := Flow_kl HK.out a b
      rw [flow_law hn6, hth] at hfl
      have hbel := HK.out.bel
      have Hfl := Lib.hid hfl; clear hfl hth HK
      have Hbel := Lib.hid hbel; clear hbel
      go_wp2_with fail
      refine Hfl.out.mono ?_
      rintro e w3 ⟨rfl, b3⟩
      have hbel := Hbel.out.trans (b3.mono Hbel.out.size)
      clear b3 Hbel
      have Hbel := Lib.hid hbel; clear hbel
      go_wp2
      go_ret
      exact ⟨rfl, Hbel.out⟩
    by_cases h1 : (n : Int) < a
    · have h := h1
      have hth : (thereB n a && thereB n b && decide (a = b ∨ b = (n : Int) ∨ a = (n : Int))) = false := by rw [show thereB n a = false from decide_eq_false (by omega)]; rfl
      have e1 : decide (a < 0) = false := decide_eq_false (by omega)
      have e2 : decide ((n : Int) < a) = true := decide_eq_true h
      have hfl := Flow_kl HK.out a b
      rw [flow_law hn6, hth] at hfl
      have hbel := HK.out.bel
      have Hfl := Lib.hid hfl; clear hfl hth HK
      have Hbel := Lib.hid hbel; clear hbel
      go_wp2_with fail
      refine Hfl.out.mono ?_
      rintro e w3 ⟨rfl, b3⟩
      have hbel := Hbel.out.trans (b3.mono Hbel.out.size)
      clear b3 Hbel
      have Hbel := Lib.hid hbel; clear hbel
      go_wp2
      go_ret
      exact ⟨rfl, Hbel.out⟩
    by_cases h2 : b < 0
    · have h := h2
      have hth : (thereB n a && thereB n b && decide (a = b ∨ b = (n : Int) ∨ a = (n : Int))) = false := by rw [show thereB n b = false from decide_eq_false (by omega), Bool.and_false]; rfl
      have e1 : decide (a < 0) = false := decide_eq_false (by omega)
      have e2 : decide ((n : Int) < a) = false := decide_eq_false (by omega)
      have e3 : decide (b < 0) = true := decide_eq_true h
      have hfl := Flow_kl HK.out a b
      rw [flow_law hn6, hth] at hfl
      have hbel := HK.out.bel
      have Hfl := Lib.hid hfl; clear hfl hth HK
      have Hbel := Lib.hid hbel; clear hbel
      go_wp2_with fail
      refine Hfl.out.mono ?_
      rintro e w3 ⟨rfl, b3⟩
      have hbel := Hbel.out.trans (b3.mono Hbel.out.size)
      clear b3 Hbel
      have Hbel := Lib.hid hbel; clear hbel
      go_wp2
      go_ret
      exact ⟨rfl, Hbel.out⟩
    by_cases h3 : (n : Int) < b
    · have h := h3
      have hth : (thereB n a && thereB n b && decide (a = b ∨ b = (n : Int) ∨ a = (n : Int))) = false := by rw [show thereB n b = false from decide_eq_false (by omega), Bool.and_false]; rfl
      have e1 : decide (a < 0) = false := decide_eq_false (by omega)
      have e2 : decide ((n : Int) < a) = false := decide_eq_false (by omega)
      have e3 : decide (b < 0) = false := decide_eq_false (by omega)
      have e4 : decide ((n : Int) < b) = true := decide_eq_true h
      have hfl := Flow_kl HK.out a b
      rw [flow_law hn6, hth] at hfl
      have hbel := HK.out.bel
      have Hfl := Lib.hid hfl; clear hfl hth HK
      have Hbel := Lib.hid hbel; clear hbel
      go_wp2_with fail
      refine Hfl.out.mono ?_
      rintro e w3 ⟨rfl, b3⟩
      have hbel := Hbel.out.trans (b3.mono Hbel.out.size)
      clear b3 Hbel
      have Hbel := Lib.hid hbel; clear hbel
      go_wp2
      go_ret
      exact ⟨rfl, Hbel.out⟩
    obtain ⟨A, rfl⟩ : ∃ A : Nat, a = A := ⟨a.toNat, by omega⟩
    obtain ⟨B, rfl⟩ : ∃ B : Nat, b = B := ⟨b.toNat, by omega⟩
    have hA : A ≤ n := by omega
    have hB : B ≤ n := by omega
    clear h0 h1 h2 h3
    have e1 : decide ((A : Int) < 0) = false := decide_eq_false (by omega)
    have e2 : decide ((n : Int) < (A : Int)) = false := decide_eq_false (by omega)
    have e3 : decide ((B : Int) < 0) = false := decide_eq_false (by omega)
    have e4 : decide ((n : Int) < (B : Int)) = false := decide_eq_false (by omega)
    have e2' : decide (n < A) = false := decide_eq_false (by omega)
    have e4' : decide (n < B) = false := decide_eq_false (by omega)
    have f1 := flows1 n (by omega) A (by omega) hn1 hA
    have f2 := flows2 n (by omega) A (by omega) hn1 hA
    have f3 := fun h1 h2 => flows3 n (by omega) A (by omega) B (by omega) ⟨hA, hB, h1, h2⟩
    have f4 := fun h1 h2 h3 => flows4 n (by omega) A (by omega) B (by omega) ⟨hA, hB, h1, h2, h3⟩
    have hla := lab_there (n := n) (a := (A : Int)) (by omega)
    have hlb := lab_there (n := n) (a := (B : Int)) (by omega)
    have hln := lab_there (n := n) (a := (n : Int)) (by omega)
    have hlA := fun (w3 : World) (hb : Below w2.heap.size w2 w3) => Label_kl (HK.out.step hb) (A : Int)
    have hlB := fun (w3 : World) (hb : Below w2.heap.size w2 w3) => Label_kl (HK.out.step hb) (B : Int)
    have hlN := fun (w3 : World) (hb : Below w2.heap.size w2 w3) => Label_kl (HK.out.step hb) (n : Int)
    have hfl := fun (w3 : World) (hb : Below w2.heap.size w2 w3) => Flow_kl (HK.out.step hb) (A : Int) (B : Int)
    have hnn : labOf n (n : Int) = (((allOf n : Nat) : Int), 0) := if_pos rfl
    rw [hnn] at hln
    obtain ⟨gb, hgate⟩ : ∃ gb, ∀ w3, Below w2.heap.size w2 w3 → Calls Tryd.prog 13 #[.pointer (some ⟨kb, 0, none⟩)] w3 (fun e w'' => e = .returned (.pointer (some ⟨gb, 0, none⟩)) ∧ Below w3.heap.size w3 w'') ∧ GateAt w3 gb (allOf n : Nat) := by
      obtain ⟨F, hkf, -⟩ := HK.out
      obtain ⟨gb, tb, tc, mb, ws, FW, hka, -⟩ := hkf.is
      exact ⟨gb, fun w3 hb => ⟨(Gate_calls (hka.step hb)).mono fun _ _ h => ⟨h.1, by rw [← h.2]; exact Below.refl _ _⟩, (hka.step hb).gate⟩⟩
    have hps := fun (w3 : World) (hb : Below w2.heap.size w2 w3) => Pass_calls (hgate w3 hb).2 (((allOf n : Nat) : Int), 0) (labOf n (A : Int))
    rw [f2] at hps
    rw [hla] at hlA
    rw [hlb] at hlB
    rw [hln] at hlN
    have hth : thereB n (A : Int) = true ∧ thereB n (B : Int) = true := ⟨decide_eq_true (by omega), decide_eq_true (by omega)⟩
    rw [flow_law hn6, hth.1, hth.2, Bool.true_and, Bool.true_and] at hfl
    have hbel := HK.out.bel
    clear hla hlb hln hnn f2 HK hth hA hB hn6
    generalize labOf n (A : Int) = la at *
    generalize labOf n (B : Int) = lb at *
    generalize allOf n = AN at *
    obtain ⟨la1, la2⟩ := la
    obtain ⟨lb1, lb2⟩ := lb
    have lq := fun w => label_eql w (la1, la2) (lb1, lb2)
    have lg := fun x y w => label_guard .eql x y (la1, la2) (lb1, lb2) w
    simp only [Label.cells] at lq lg
    replace hlA : ∀ w3, Below w2.heap.size w2 w3 → Calls Tryd.prog 12 #[.pointer (some ⟨kb, 0, none⟩), .int .i64 (A : Int)] w3 fun e w' => e = .returned (.agg #[.int .u64 la1, .int .u64 la2]) ∧ Below w3.heap.size w3 w' := hlA
    replace hlB : ∀ w3, Below w2.heap.size w2 w3 → Calls Tryd.prog 12 #[.pointer (some ⟨kb, 0, none⟩), .int .i64 (B : Int)] w3 fun e w' => e = .returned (.agg #[.int .u64 lb1, .int .u64 lb2]) ∧ Below w3.heap.size w3 w' := hlB
    replace hlN : ∀ w3, Below w2.heap.size w2 w3 → Calls Tryd.prog 12 #[.pointer (some ⟨kb, 0, none⟩), .int .i64 (n : Int)] w3 fun e w' => e = .returned (.agg #[.int .u64 (AN : Int), .int .u64 0]) ∧ Below w3.heap.size w3 w' := hlN
    replace hps : ∀ w3, Below w2.heap.size w2 w3 → Calls Tryd.prog 14 #[.pointer (some ⟨gb, 0, none⟩), .agg #[.int .u64 (AN : Int), .int .u64 0], .agg #[.int .u64 la1, .int .u64 la2]] w3 fun e w' => e = .returned (.bool true) ∧ Below w3.heap.size w3 w' := hps
    have hfd : ∀ w : World, (Instr.field 32 (.agg #[.int .u64 (AN : Int), .int .u64 0]) 0).run Tryd.prog w = .ok (.int .u64 (AN : Int)) w := fun w => by kernel_rfl
    have Hgt := Lib.hid (fun w3 hb => (hgate w3 hb).1); clear hgate
    have Hps := Lib.hid hps; clear hps
    have HlA := Lib.hid hlA; clear hlA
    have HlB := Lib.hid hlB; clear hlB
    have HlN := Lib.hid hlN; clear hlN
    have Hbel := Lib.hid hbel; clear hbel
    have F1 := Lib.hid f1; clear f1
    by_cases hab : A = B
    · have r1 : decide ((A : Int) = (B : Int) ∨ (B : Int) = (n : Int) ∨ (A : Int) = (n : Int)) = true := decide_eq_true (by omega)
      rw [r1] at hfl
      clear r1
      subst hab
      clear f3 f4
      have Hfl := Lib.hid hfl; clear hfl
      have Lq := Lib.hid lq; clear lq
      have Lg := Lib.hid lg; clear lg
      go_wp2_with fail
      refine (HlA.out _ (Below.refl _ _)).mono ?_
      rintro e w3 ⟨rfl, b3⟩
      have Z3 := Lib.hid (heap_alloc_new w3 (.cells #[.int .u64 la1, .int .u64 la2] 32))
      have b4 : Below w3.heap.size w3 (w3.alloc (.cells #[.int .u64 la1, .int .u64 la2] 32)) := (Below.refl _ _).alloc (Nat.le_refl _) _
      obtain ⟨w4, hw4⟩ : ∃ w4, w4 = w3.alloc (.cells #[.int .u64 la1, .int .u64 la2] 32) := ⟨_, rfl⟩
      rw [← hw4] at b4 Z3
      have B4 := Lib.hid (b3.trans (b4.mono b3.size)); clear b3 b4
      go_wp2_with fail
      rw [← hw4]
      clear hw4
      generalize w3.heap.size = ga at *
      refine (HlB.out _ B4.out).mono ?_
      rintro e w5 ⟨rfl, b5⟩
      have z5 := heap_alloc_new w5 (.cells #[.int .u64 lb1, .int .u64 lb2] 32)
      have b6 : Below w5.heap.size w5 (w5.alloc (.cells #[.int .u64 lb1, .int .u64 lb2] 32)) := (Below.refl _ _).alloc (Nat.le_refl _) _
      obtain ⟨w6, hw6⟩ : ∃ w6, w6 = w5.alloc (.cells #[.int .u64 lb1, .int .u64 lb2] 32) := ⟨_, rfl⟩
      rw [← hw6] at b6 z5
      have b46 := b5.trans (b6.mono b5.size)
      have z3 := (b46.block _ (Array.getElem?_eq_some_iff.1 Z3.out).1).trans Z3.out
      have B6 := Lib.hid (B4.out.trans (b46.mono B4.out.size)); clear b5 b6 b46 Z3
      have Z3 := Lib.hid z3; clear z3
      have Z5 := Lib.hid z5; clear z5
      go_wp2_with fail
      rw [← hw6]
      clear hw6
      generalize w5.heap.size = gb' at *
      have ya0 := cell_regrown (cells_at Z3.out 0)
      have ya1 := cell_regrown (cells_at Z3.out 1)
      have yb0 := cell_regrown (cells_at Z5.out 0)
      have yb1 := cell_regrown (cells_at Z5.out 1)
      have f1 := F1.out
      have lq := Lq.out
      have lg := Lg.out
      refine wp_region_quiet_below (by kernel_rfl) (by kernel_rfl) ?_
      repeat (go_big_quiet_step ((first | (go_at_call 11; exact Calls.regrown_of (Hfl.out _ (B6.out.trans ((below_regrown _ _ _).mono B6.out.size)))) | (go_at_call 12; exact Calls.regrown_of (HlN.out _ (B6.out.trans ((below_regrown _ _ _).mono B6.out.size)))) | (go_at_call 13; exact Calls.regrown_of (Hgt.out _ (B6.out.trans ((below_regrown _ _ _).mono B6.out.size)))) | (go_at_call 14; exact Calls.regrown_of (Hps.out _ (B6.out.trans ((below_regrown _ _ _).mono B6.out.size)))))))
      refine wpQuiet_nil ?_
      intro wq hwq
      have bk : Below w6.heap.size w6 wq := by obtain ⟨q, rfl⟩ := hwq; exact below_regrown _ _ _
      have z3 := (bk.block _ (Array.getElem?_eq_some_iff.1 Z3.out).1).trans Z3.out
      have z5 := (bk.block _ (Array.getElem?_eq_some_iff.1 Z5.out).1).trans Z5.out
      have u3 := cells_at z3 0
      have u5 := cells_at z5 0
      have hb := Hbel.out.trans ((B6.out.trans (bk.mono B6.out.size)).mono Hbel.out.size)
      clear hwq ya0 ya1 yb0 yb1 f1 lq lg z3 z5 bk
      have HB := Lib.hid hb; clear hb
      go_wp2
      go_ret
      exact ⟨rfl, HB.out⟩
    have x1 : ((A : Int) == (B : Int)) = false := by simp; omega
    have x2 : ((A : Int) != (B : Int)) = true := by simp; omega
    by_cases hb2 : B = n
    · have r1 : decide ((A : Int) = (B : Int) ∨ (B : Int) = (n : Int) ∨ (A : Int) = (n : Int)) = true := decide_eq_true (by omega)
      rw [r1] at hfl
      have x3 : ((B : Int) == (n : Int)) = true := by simp; omega
      have x4 : ((A : Int) == (n : Int)) = false := by simp; omega
      clear r1 hb2
      by_cases hl : la1 = lb1 ∧ la2 = lb2
      · have hne : ¬ 1 < n := fun h => f3 hab h (by rw [hl.1, hl.2])
        have g1 : decide (1 < (n : Int)) = false := decide_eq_false (by omega)
        have g1' : decide (1 < n) = false := decide_eq_false (by omega)
        have gl : decide (((la1, la2) : Label) = (lb1, lb2)) = true := decide_eq_true (by rw [hl.1, hl.2])
        rw [gl] at lq
        clear gl hne hl f3 f4 hab
        have Hfl := Lib.hid hfl; clear hfl
        have Lq := Lib.hid lq; clear lq
        have Lg := Lib.hid lg; clear lg
        go_wp2_with fail
        refine (HlA.out _ (Below.refl _ _)).mono ?_
        rintro e w3 ⟨rfl, b3⟩
        have Z3 := Lib.hid (heap_alloc_new w3 (.cells #[.int .u64 la1, .int .u64 la2] 32))
        have b4 : Below w3.heap.size w3 (w3.alloc (.cells #[.int .u64 la1, .int .u64 la2] 32)) := (Below.refl _ _).alloc (Nat.le_refl _) _
        obtain ⟨w4, hw4⟩ : ∃ w4, w4 = w3.alloc (.cells #[.int .u64 la1, .int .u64 la2] 32) := ⟨_, rfl⟩
        rw [← hw4] at b4 Z3
        have B4 := Lib.hid (b3.trans (b4.mono b3.size)); clear b3 b4
        go_wp2_with fail
        rw [← hw4]
        clear hw4
        generalize w3.heap.size = ga at *
        refine (HlB.out _ B4.out).mono ?_
        rintro e w5 ⟨rfl, b5⟩
        have z5 := heap_alloc_new w5 (.cells #[.int .u64 lb1, .int .u64 lb2] 32)
        have b6 : Below w5.heap.size w5 (w5.alloc (.cells #[.int .u64 lb1, .int .u64 lb2] 32)) := (Below.refl _ _).alloc (Nat.le_refl _) _
        obtain ⟨w6, hw6⟩ : ∃ w6, w6 = w5.alloc (.cells #[.int .u64 lb1, .int .u64 lb2] 32) := ⟨_, rfl⟩
        rw [← hw6] at b6 z5
        have b46 := b5.trans (b6.mono b5.size)
        have z3 := (b46.block _ (Array.getElem?_eq_some_iff.1 Z3.out).1).trans Z3.out
        have B6 := Lib.hid (B4.out.trans (b46.mono B4.out.size)); clear b5 b6 b46 Z3
        have Z3 := Lib.hid z3; clear z3
        have Z5 := Lib.hid z5; clear z5
        go_wp2_with fail
        rw [← hw6]
        clear hw6
        generalize w5.heap.size = gb' at *
        have ya0 := cell_regrown (cells_at Z3.out 0)
        have ya1 := cell_regrown (cells_at Z3.out 1)
        have yb0 := cell_regrown (cells_at Z5.out 0)
        have yb1 := cell_regrown (cells_at Z5.out 1)
        have f1 := F1.out
        have lq := Lq.out
        have lg := Lg.out
        refine wp_region_quiet_below (by kernel_rfl) (by kernel_rfl) ?_
        repeat (go_big_quiet_step ((first | (go_at_call 11; exact Calls.regrown_of (Hfl.out _ (B6.out.trans ((below_regrown _ _ _).mono B6.out.size)))) | (go_at_call 12; exact Calls.regrown_of (HlN.out _ (B6.out.trans ((below_regrown _ _ _).mono B6.out.size)))) | (go_at_call 13; exact Calls.regrown_of (Hgt.out _ (B6.out.trans ((below_regrown _ _ _).mono B6.out.size)))) | (go_at_call 14; exact Calls.regrown_of (Hps.out _ (B6.out.trans ((below_regrown _ _ _).mono B6.out.size)))))))
        refine wpQuiet_nil ?_
        intro wq hwq
        have bk : Below w6.heap.size w6 wq := by obtain ⟨q, rfl⟩ := hwq; exact below_regrown _ _ _
        have z3 := (bk.block _ (Array.getElem?_eq_some_iff.1 Z3.out).1).trans Z3.out
        have z5 := (bk.block _ (Array.getElem?_eq_some_iff.1 Z5.out).1).trans Z5.out
        have u3 := cells_at z3 0
        have u5 := cells_at z5 0
        have hb := Hbel.out.trans ((B6.out.trans (bk.mono B6.out.size)).mono Hbel.out.size)
        clear hwq ya0 ya1 yb0 yb1 f1 lq lg z3 z5 bk
        have HB := Lib.hid hb; clear hb
        go_wp2
        go_ret
        exact ⟨rfl, HB.out⟩
      · have gl : decide (((la1, la2) : Label) = (lb1, lb2)) = false := decide_eq_false (fun h => hl (by simpa using h))
        rw [gl] at lq
        clear gl hl f3 f4 hab
        have Hfl := Lib.hid hfl; clear hfl
        have Lq := Lib.hid lq; clear lq
        have Lg := Lib.hid lg; clear lg
        go_wp2_with fail
        refine (HlA.out _ (Below.refl _ _)).mono ?_
        rintro e w3 ⟨rfl, b3⟩
        have Z3 := Lib.hid (heap_alloc_new w3 (.cells #[.int .u64 la1, .int .u64 la2] 32))
        have b4 : Below w3.heap.size w3 (w3.alloc (.cells #[.int .u64 la1, .int .u64 la2] 32)) := (Below.refl _ _).alloc (Nat.le_refl _) _
        obtain ⟨w4, hw4⟩ : ∃ w4, w4 = w3.alloc (.cells #[.int .u64 la1, .int .u64 la2] 32) := ⟨_, rfl⟩
        rw [← hw4] at b4 Z3
        have B4 := Lib.hid (b3.trans (b4.mono b3.size)); clear b3 b4
        go_wp2_with fail
        rw [← hw4]
        clear hw4
        generalize w3.heap.size = ga at *
        refine (HlB.out _ B4.out).mono ?_
        rintro e w5 ⟨rfl, b5⟩
        have z5 := heap_alloc_new w5 (.cells #[.int .u64 lb1, .int .u64 lb2] 32)
        have b6 : Below w5.heap.size w5 (w5.alloc (.cells #[.int .u64 lb1, .int .u64 lb2] 32)) := (Below.refl _ _).alloc (Nat.le_refl _) _
        obtain ⟨w6, hw6⟩ : ∃ w6, w6 = w5.alloc (.cells #[.int .u64 lb1, .int .u64 lb2] 32) := ⟨_, rfl⟩
        rw [← hw6] at b6 z5
        have b46 := b5.trans (b6.mono b5.size)
        have z3 := (b46.block _ (Array.getElem?_eq_some_iff.1 Z3.out).1).trans Z3.out
        have B6 := Lib.hid (B4.out.trans (b46.mono B4.out.size)); clear b5 b6 b46 Z3
        have Z3 := Lib.hid z3; clear z3
        have Z5 := Lib.hid z5; clear z5
        go_wp2_with fail
        rw [← hw6]
        clear hw6
        generalize w5.heap.size = gb' at *
        have ya0 := cell_regrown (cells_at Z3.out 0)
        have ya1 := cell_regrown (cells_at Z3.out 1)
        have yb0 := cell_regrown (cells_at Z5.out 0)
        have yb1 := cell_regrown (cells_at Z5.out 1)
        have f1 := F1.out
        have lq := Lq.out
        have lg := Lg.out
        refine wp_region_quiet_below (by kernel_rfl) (by kernel_rfl) ?_
        repeat (go_big_quiet_step ((first | (go_at_call 11; exact Calls.regrown_of (Hfl.out _ (B6.out.trans ((below_regrown _ _ _).mono B6.out.size)))) | (go_at_call 12; exact Calls.regrown_of (HlN.out _ (B6.out.trans ((below_regrown _ _ _).mono B6.out.size)))) | (go_at_call 13; exact Calls.regrown_of (Hgt.out _ (B6.out.trans ((below_regrown _ _ _).mono B6.out.size)))) | (go_at_call 14; exact Calls.regrown_of (Hps.out _ (B6.out.trans ((below_regrown _ _ _).mono B6.out.size)))))))
        refine wpQuiet_nil ?_
        intro wq hwq
        have bk : Below w6.heap.size w6 wq := by obtain ⟨q, rfl⟩ := hwq; exact below_regrown _ _ _
        have z3 := (bk.block _ (Array.getElem?_eq_some_iff.1 Z3.out).1).trans Z3.out
        have z5 := (bk.block _ (Array.getElem?_eq_some_iff.1 Z5.out).1).trans Z5.out
        have u3 := cells_at z3 0
        have u5 := cells_at z5 0
        have hb := Hbel.out.trans ((B6.out.trans (bk.mono B6.out.size)).mono Hbel.out.size)
        clear hwq ya0 ya1 yb0 yb1 f1 lq lg z3 z5 bk
        have HB := Lib.hid hb; clear hb
        go_wp2
        go_ret
        exact ⟨rfl, HB.out⟩
    have x3 : ((B : Int) == (n : Int)) = false := by simp; omega
    by_cases ha2 : A = n
    · have r1 : decide ((A : Int) = (B : Int) ∨ (B : Int) = (n : Int) ∨ (A : Int) = (n : Int)) = true := decide_eq_true (by omega)
      rw [r1] at hfl
      have x4 : ((A : Int) == (n : Int)) = true := by simp; omega
      clear r1 ha2 hb2
      by_cases hl : la1 = lb1 ∧ la2 = lb2
      · have hne : ¬ 1 < n := fun h => f3 hab h (by rw [hl.1, hl.2])
        have g1 : decide (1 < (n : Int)) = false := decide_eq_false (by omega)
        have g1' : decide (1 < n) = false := decide_eq_false (by omega)
        have gl : decide (((la1, la2) : Label) = (lb1, lb2)) = true := decide_eq_true (by rw [hl.1, hl.2])
        rw [gl] at lq
        clear gl hne hl f3 f4 hab
        have Hfl := Lib.hid hfl; clear hfl
        have Lq := Lib.hid lq; clear lq
        have Lg := Lib.hid lg; clear lg
        go_wp2_with fail
        refine (HlA.out _ (Below.refl _ _)).mono ?_
        rintro e w3 ⟨rfl, b3⟩
        have Z3 := Lib.hid (heap_alloc_new w3 (.cells #[.int .u64 la1, .int .u64 la2] 32))
        have b4 : Below w3.heap.size w3 (w3.alloc (.cells #[.int .u64 la1, .int .u64 la2] 32)) := (Below.refl _ _).alloc (Nat.le_refl _) _
        obtain ⟨w4, hw4⟩ : ∃ w4, w4 = w3.alloc (.cells #[.int .u64 la1, .int .u64 la2] 32) := ⟨_, rfl⟩
        rw [← hw4] at b4 Z3
        have B4 := Lib.hid (b3.trans (b4.mono b3.size)); clear b3 b4
        go_wp2_with fail
        rw [← hw4]
        clear hw4
        generalize w3.heap.size = ga at *
        refine (HlB.out _ B4.out).mono ?_
        rintro e w5 ⟨rfl, b5⟩
        have z5 := heap_alloc_new w5 (.cells #[.int .u64 lb1, .int .u64 lb2] 32)
        have b6 : Below w5.heap.size w5 (w5.alloc (.cells #[.int .u64 lb1, .int .u64 lb2] 32)) := (Below.refl _ _).alloc (Nat.le_refl _) _
        obtain ⟨w6, hw6⟩ : ∃ w6, w6 = w5.alloc (.cells #[.int .u64 lb1, .int .u64 lb2] 32) := ⟨_, rfl⟩
        rw [← hw6] at b6 z5
        have b46 := b5.trans (b6.mono b5.size)
        have z3 := (b46.block _ (Array.getElem?_eq_some_iff.1 Z3.out).1).trans Z3.out
        have B6 := Lib.hid (B4.out.trans (b46.mono B4.out.size)); clear b5 b6 b46 Z3
        have Z3 := Lib.hid z3; clear z3
        have Z5 := Lib.hid z5; clear z5
        go_wp2_with fail
        rw [← hw6]
        clear hw6
        generalize w5.heap.size = gb' at *
        have ya0 := cell_regrown (cells_at Z3.out 0)
        have ya1 := cell_regrown (cells_at Z3.out 1)
        have yb0 := cell_regrown (cells_at Z5.out 0)
        have yb1 := cell_regrown (cells_at Z5.out 1)
        have f1 := F1.out
        have lq := Lq.out
        have lg := Lg.out
        refine wp_region_quiet_below (by kernel_rfl) (by kernel_rfl) ?_
        repeat (go_big_quiet_step ((first | (go_at_call 11; exact Calls.regrown_of (Hfl.out _ (B6.out.trans ((below_regrown _ _ _).mono B6.out.size)))) | (go_at_call 12; exact Calls.regrown_of (HlN.out _ (B6.out.trans ((below_regrown _ _ _).mono B6.out.size)))) | (go_at_call 13; exact Calls.regrown_of (Hgt.out _ (B6.out.trans ((below_regrown _ _ _).mono B6.out.size)))) | (go_at_call 14; exact Calls.regrown_of (Hps.out _ (B6.out.trans ((below_regrown _ _ _).mono B6.out.size)))))))
        refine wpQuiet_nil ?_
        intro wq hwq
        have bk : Below w6.heap.size w6 wq := by obtain ⟨q, rfl⟩ := hwq; exact below_regrown _ _ _
        have z3 := (bk.block _ (Array.getElem?_eq_some_iff.1 Z3.out).1).trans Z3.out
        have z5 := (bk.block _ (Array.getElem?_eq_some_iff.1 Z5.out).1).trans Z5.out
        have u3 := cells_at z3 0
        have u5 := cells_at z5 0
        have hb := Hbel.out.trans ((B6.out.trans (bk.mono B6.out.size)).mono Hbel.out.size)
        clear hwq ya0 ya1 yb0 yb1 f1 lq lg z3 z5 bk
        have HB := Lib.hid hb; clear hb
        go_wp2
        go_ret
        exact ⟨rfl, HB.out⟩
      · have gl : decide (((la1, la2) : Label) = (lb1, lb2)) = false := decide_eq_false (fun h => hl (by simpa using h))
        rw [gl] at lq
        clear gl hl f3 f4 hab
        have Hfl := Lib.hid hfl; clear hfl
        have Lq := Lib.hid lq; clear lq
        have Lg := Lib.hid lg; clear lg
        go_wp2_with fail
        refine (HlA.out _ (Below.refl _ _)).mono ?_
        rintro e w3 ⟨rfl, b3⟩
        have Z3 := Lib.hid (heap_alloc_new w3 (.cells #[.int .u64 la1, .int .u64 la2] 32))
        have b4 : Below w3.heap.size w3 (w3.alloc (.cells #[.int .u64 la1, .int .u64 la2] 32)) := (Below.refl _ _).alloc (Nat.le_refl _) _
        obtain ⟨w4, hw4⟩ : ∃ w4, w4 = w3.alloc (.cells #[.int .u64 la1, .int .u64 la2] 32) := ⟨_, rfl⟩
        rw [← hw4] at b4 Z3
        have B4 := Lib.hid (b3.trans (b4.mono b3.size)); clear b3 b4
        go_wp2_with fail
        rw [← hw4]
        clear hw4
        generalize w3.heap.size = ga at *
        refine (HlB.out _ B4.out).mono ?_
        rintro e w5 ⟨rfl, b5⟩
        have z5 := heap_alloc_new w5 (.cells #[.int .u64 lb1, .int .u64 lb2] 32)
        have b6 : Below w5.heap.size w5 (w5.alloc (.cells #[.int .u64 lb1, .int .u64 lb2] 32)) := (Below.refl _ _).alloc (Nat.le_refl _) _
        obtain ⟨w6, hw6⟩ : ∃ w6, w6 = w5.alloc (.cells #[.int .u64 lb1, .int .u64 lb2] 32) := ⟨_, rfl⟩
        rw [← hw6] at b6 z5
        have b46 := b5.trans (b6.mono b5.size)
        have z3 := (b46.block _ (Array.getElem?_eq_some_iff.1 Z3.out).1).trans Z3.out
        have B6 := Lib.hid (B4.out.trans (b46.mono B4.out.size)); clear b5 b6 b46 Z3
        have Z3 := Lib.hid z3; clear z3
        have Z5 := Lib.hid z5; clear z5
        go_wp2_with fail
        rw [← hw6]
        clear hw6
        generalize w5.heap.size = gb' at *
        have ya0 := cell_regrown (cells_at Z3.out 0)
        have ya1 := cell_regrown (cells_at Z3.out 1)
        have yb0 := cell_regrown (cells_at Z5.out 0)
        have yb1 := cell_regrown (cells_at Z5.out 1)
        have f1 := F1.out
        have lq := Lq.out
        have lg := Lg.out
        refine wp_region_quiet_below (by kernel_rfl) (by kernel_rfl) ?_
        repeat (go_big_quiet_step ((first | (go_at_call 11; exact Calls.regrown_of (Hfl.out _ (B6.out.trans ((below_regrown _ _ _).mono B6.out.size)))) | (go_at_call 12; exact Calls.regrown_of (HlN.out _ (B6.out.trans ((below_regrown _ _ _).mono B6.out.size)))) | (go_at_call 13; exact Calls.regrown_of (Hgt.out _ (B6.out.trans ((below_regrown _ _ _).mono B6.out.size)))) | (go_at_call 14; exact Calls.regrown_of (Hps.out _ (B6.out.trans ((below_regrown _ _ _).mono B6.out.size)))))))
        refine wpQuiet_nil ?_
        intro wq hwq
        have bk : Below w6.heap.size w6 wq := by obtain ⟨q, rfl⟩ := hwq; exact below_regrown _ _ _
        have z3 := (bk.block _ (Array.getElem?_eq_some_iff.1 Z3.out).1).trans Z3.out
        have z5 := (bk.block _ (Array.getElem?_eq_some_iff.1 Z5.out).1).trans Z5.out
        have u3 := cells_at z3 0
        have u5 := cells_at z5 0
        have hb := Hbel.out.trans ((B6.out.trans (bk.mono B6.out.size)).mono Hbel.out.size)
        clear hwq ya0 ya1 yb0 yb1 f1 lq lg z3 z5 bk
        have HB := Lib.hid hb; clear hb
        go_wp2
        go_ret
        exact ⟨rfl, HB.out⟩
    have x4 : ((A : Int) == (n : Int)) = false := by simp; omega
    have r1 : decide ((A : Int) = (B : Int) ∨ (B : Int) = (n : Int) ∨ (A : Int) = (n : Int)) = false := decide_eq_false (by omega)
    rw [r1] at hfl
    clear r1
    by_cases hl : la1 = lb1 ∧ la2 = lb2
    · have hne : ¬ 1 < n := fun h => f3 hab h (by rw [hl.1, hl.2])
      have g1 : decide (1 < (n : Int)) = false := decide_eq_false (by omega)
      have g1' : decide (1 < n) = false := decide_eq_false (by omega)
      have gl : decide (((la1, la2) : Label) = (lb1, lb2)) = true := decide_eq_true (by rw [hl.1, hl.2])
      rw [gl] at lq
      have g4 := f4 hab ha2 hb2
      clear gl hne hl f3 f4 hab
      have Hfl := Lib.hid hfl; clear hfl
      have Lq := Lib.hid lq; clear lq
      have Lg := Lib.hid lg; clear lg
      go_wp2_with fail
      refine (HlA.out _ (Below.refl _ _)).mono ?_
      rintro e w3 ⟨rfl, b3⟩
      have Z3 := Lib.hid (heap_alloc_new w3 (.cells #[.int .u64 la1, .int .u64 la2] 32))
      have b4 : Below w3.heap.size w3 (w3.alloc (.cells #[.int .u64 la1, .int .u64 la2] 32)) := (Below.refl _ _).alloc (Nat.le_refl _) _
      obtain ⟨w4, hw4⟩ : ∃ w4, w4 = w3.alloc (.cells #[.int .u64 la1, .int .u64 la2] 32) := ⟨_, rfl⟩
      rw [← hw4] at b4 Z3
      have B4 := Lib.hid (b3.trans (b4.mono b3.size)); clear b3 b4
      go_wp2_with fail
      rw [← hw4]
      clear hw4
      generalize w3.heap.size = ga at *
      refine (HlB.out _ B4.out).mono ?_
      rintro e w5 ⟨rfl, b5⟩
      have z5 := heap_alloc_new w5 (.cells #[.int .u64 lb1, .int .u64 lb2] 32)
      have b6 : Below w5.heap.size w5 (w5.alloc (.cells #[.int .u64 lb1, .int .u64 lb2] 32)) := (Below.refl _ _).alloc (Nat.le_refl _) _
      obtain ⟨w6, hw6⟩ : ∃ w6, w6 = w5.alloc (.cells #[.int .u64 lb1, .int .u64 lb2] 32) := ⟨_, rfl⟩
      rw [← hw6] at b6 z5
      have b46 := b5.trans (b6.mono b5.size)
      have z3 := (b46.block _ (Array.getElem?_eq_some_iff.1 Z3.out).1).trans Z3.out
      have B6 := Lib.hid (B4.out.trans (b46.mono B4.out.size)); clear b5 b6 b46 Z3
      have Z3 := Lib.hid z3; clear z3
      have Z5 := Lib.hid z5; clear z5
      go_wp2_with fail
      rw [← hw6]
      clear hw6
      generalize w5.heap.size = gb' at *
      have ya0 := cell_regrown (cells_at Z3.out 0)
      have ya1 := cell_regrown (cells_at Z3.out 1)
      have yb0 := cell_regrown (cells_at Z5.out 0)
      have yb1 := cell_regrown (cells_at Z5.out 1)
      have f1 := F1.out
      have lq := Lq.out
      have lg := Lg.out
      refine wp_region_quiet_below (by kernel_rfl) (by kernel_rfl) ?_
      repeat (go_big_quiet_step ((first | (go_at_call 11; exact Calls.regrown_of (Hfl.out _ (B6.out.trans ((below_regrown _ _ _).mono B6.out.size)))) | (go_at_call 12; exact Calls.regrown_of (HlN.out _ (B6.out.trans ((below_regrown _ _ _).mono B6.out.size)))) | (go_at_call 13; exact Calls.regrown_of (Hgt.out _ (B6.out.trans ((below_regrown _ _ _).mono B6.out.size)))) | (go_at_call 14; exact Calls.regrown_of (Hps.out _ (B6.out.trans ((below_regrown _ _ _).mono B6.out.size)))))))
      refine wpQuiet_nil ?_
      intro wq hwq
      have bk : Below w6.heap.size w6 wq := by obtain ⟨q, rfl⟩ := hwq; exact below_regrown _ _ _
      have z3 := (bk.block _ (Array.getElem?_eq_some_iff.1 Z3.out).1).trans Z3.out
      have z5 := (bk.block _ (Array.getElem?_eq_some_iff.1 Z5.out).1).trans Z5.out
      have u3 := cells_at z3 0
      have u5 := cells_at z5 0
      have hb := Hbel.out.trans ((B6.out.trans (bk.mono B6.out.size)).mono Hbel.out.size)
      clear hwq ya0 ya1 yb0 yb1 f1 lq lg z3 z5 bk
      have HB := Lib.hid hb; clear hb
      go_wp2
      go_ret
      exact ⟨rfl, HB.out⟩
    · have gl : decide (((la1, la2) : Label) = (lb1, lb2)) = false := decide_eq_false (fun h => hl (by simpa using h))
      rw [gl] at lq
      have g4 := f4 hab ha2 hb2
      clear gl hl f3 f4 hab
      have Hfl := Lib.hid hfl; clear hfl
      have Lq := Lib.hid lq; clear lq
      have Lg := Lib.hid lg; clear lg
      go_wp2_with fail
      refine (HlA.out _ (Below.refl _ _)).mono ?_
      rintro e w3 ⟨rfl, b3⟩
      have Z3 := Lib.hid (heap_alloc_new w3 (.cells #[.int .u64 la1, .int .u64 la2] 32))
      have b4 : Below w3.heap.size w3 (w3.alloc (.cells #[.int .u64 la1, .int .u64 la2] 32)) := (Below.refl _ _).alloc (Nat.le_refl _) _
      obtain ⟨w4, hw4⟩ : ∃ w4, w4 = w3.alloc (.cells #[.int .u64 la1, .int .u64 la2] 32) := ⟨_, rfl⟩
      rw [← hw4] at b4 Z3
      have B4 := Lib.hid (b3.trans (b4.mono b3.size)); clear b3 b4
      go_wp2_with fail
      rw [← hw4]
      clear hw4
      generalize w3.heap.size = ga at *
      refine (HlB.out _ B4.out).mono ?_
      rintro e w5 ⟨rfl, b5⟩
      have z5 := heap_alloc_new w5 (.cells #[.int .u64 lb1, .int .u64 lb2] 32)
      have b6 : Below w5.heap.size w5 (w5.alloc (.cells #[.int .u64 lb1, .int .u64 lb2] 32)) := (Below.refl _ _).alloc (Nat.le_refl _) _
      obtain ⟨w6, hw6⟩ : ∃ w6, w6 = w5.alloc (.cells #[.int .u64 lb1, .int .u64 lb2] 32) := ⟨_, rfl⟩
      rw [← hw6] at b6 z5
      have b46 := b5.trans (b6.mono b5.size)
      have z3 := (b46.block _ (Array.getElem?_eq_some_iff.1 Z3.out).1).trans Z3.out
      have B6 := Lib.hid (B4.out.trans (b46.mono B4.out.size)); clear b5 b6 b46 Z3
      have Z3 := Lib.hid z3; clear z3
      have Z5 := Lib.hid z5; clear z5
      go_wp2_with fail
      rw [← hw6]
      clear hw6
      generalize w5.heap.size = gb' at *
      have ya0 := cell_regrown (cells_at Z3.out 0)
      have ya1 := cell_regrown (cells_at Z3.out 1)
      have yb0 := cell_regrown (cells_at Z5.out 0)
      have yb1 := cell_regrown (cells_at Z5.out 1)
      have f1 := F1.out
      have lq := Lq.out
      have lg := Lg.out
      refine wp_region_quiet_below (by kernel_rfl) (by kernel_rfl) ?_
      repeat (go_big_quiet_step ((first | (go_at_call 11; exact Calls.regrown_of (Hfl.out _ (B6.out.trans ((below_regrown _ _ _).mono B6.out.size)))) | (go_at_call 12; exact Calls.regrown_of (HlN.out _ (B6.out.trans ((below_regrown _ _ _).mono B6.out.size)))) | (go_at_call 13; exact Calls.regrown_of (Hgt.out _ (B6.out.trans ((below_regrown _ _ _).mono B6.out.size)))) | (go_at_call 14; exact Calls.regrown_of (Hps.out _ (B6.out.trans ((below_regrown _ _ _).mono B6.out.size)))))))
      refine wpQuiet_nil ?_
      intro wq hwq
      have bk : Below w6.heap.size w6 wq := by obtain ⟨q, rfl⟩ := hwq; exact below_regrown _ _ _
      have z3 := (bk.block _ (Array.getElem?_eq_some_iff.1 Z3.out).1).trans Z3.out
      have z5 := (bk.block _ (Array.getElem?_eq_some_iff.1 Z5.out).1).trans Z5.out
      have u3 := cells_at z3 0
      have u5 := cells_at z5 0
      have hb := Hbel.out.trans ((B6.out.trans (bk.mono B6.out.size)).mono Hbel.out.size)
      clear hwq ya0 ya1 yb0 yb1 f1 lq lg z3 z5 bk
      have HB := Lib.hid hb; clear hb
      go_wp2
      go_ret
      exact ⟨rfl, HB.out⟩
end Go.Proofs.YtclgakdfeeefiaaDoor
