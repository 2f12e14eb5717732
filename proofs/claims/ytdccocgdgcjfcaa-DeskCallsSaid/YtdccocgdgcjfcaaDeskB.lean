/- The document's desk: what it is in memory; Has, Of. -/
import Derived.Test.YtdccocgdgcjfcaaDeskA
namespace Go.Proofs.Ytdccocgdgcjfcaa
open Go.RowKit

theorem R14Has_calls {w : World} {m : Int} (hm : 0 ≤ m ∧ m ≤ 65535) (k : Int) : Calls Try.prog 27 #[.int .u16 m, .int .i64 k] w fun e w' => e = .returned (.bool (inMask m k)) ∧ w' = w := by
  have hmw : (Lit.int .u64 m).wf = true := by simp [Lit.wf, IntKind.min, IntKind.max, IntKind.signed, IntKind.bits]; omega
  by_cases h : 0 ≤ k ∧ k < 16
  · obtain ⟨K, rfl⟩ : ∃ K : Nat, k = K := ⟨k.toNat, by omega⟩
    have hc := Has_calls (w := w) hmw (k := K) (by omega)
    have e1 : decide ((0 : Int) ≤ (K : Int)) = true := decide_eq_true h.1
    have e2 : decide ((K : Int) < 16) = true := decide_eq_true h.2
    have hi : inMask m (K : Int) = has m K := by unfold inMask; rw [decide_eq_true h, Bool.true_and, Int.toNat_natCast]
    rw [hi]
    have Hc := Lib.hid hc; clear hc h hi
    go_enter Try.func27, Try.ntmps27
    go_wp2_with fail
    refine Hc.out.mono ?_
    rintro e w1 ⟨rfl, rfl⟩
    go_wp2_with fail
    go_ret
    exact ⟨rfl, rfl⟩
  · have hi : inMask m k = false := by unfold inMask; rw [decide_eq_false h]; rfl
    rw [hi]
    clear hi
    by_cases h0 : 0 ≤ k
    · have e1 : decide ((0 : Int) ≤ k) = true := decide_eq_true h0
      have e2 : decide (k < 16) = false := decide_eq_false (by omega)
      clear h h0
      go_enter Try.func27, Try.ntmps27
      go_wp2
      go_ret
      exact ⟨rfl, rfl⟩
    · have e1 : decide ((0 : Int) ≤ k) = false := decide_eq_false h0
      clear h h0
      go_enter Try.func27, Try.ntmps27
      go_wp2
      go_ret
      exact ⟨rfl, rfl⟩

abbrev REOwn := ROwn entF 53
structure RDeskAt (w : World) (B b : Nat) (mv : Value) (p : Pl) (es : List Ent) : Prop where
  root : w.heap[b]? = some (.cells #[.int .i64 p.parts, .int .i64 p.window, .int .i64 p.delay, mv] 36 (0, 0))
  row : REOwn w B mv es
  apart : ∀ g, mv.ownBlock = some g → g ≠ b
  bb : B ≤ b
  good : p.good
  len : es.length ≤ 64
  ok : ∀ e ∈ es, e.ok
section
variable {w w' : World} {B b : Nat} {mv : Value} {p : Pl} {es : List Ent}
theorem RDeskAt.lt (h : RDeskAt w B b mv p es) : ∀ k, foot b mv k → B ≤ k ∧ k < w.heap.size := by
  rintro k (rfl | hk)
  · exact ⟨h.bb, (Array.getElem?_eq_some_iff.1 h.root).1⟩
  · exact h.row.lt k hk
theorem RDeskAt.keep (h : RDeskAt w B b mv p es) (hk : ∀ k, foot b mv k → w'.heap[k]? = w.heap[k]?) : RDeskAt w' B b mv p es where
  root := (hk b (.inl rfl)).trans h.root
  row := h.row.keep fun g e _ => hk g (.inr e)
  apart := h.apart
  bb := h.bb
  good := h.good
  len := h.len
  ok := h.ok
theorem RDeskAt.below (h : RDeskAt w B b mv p es) (hb : Below w.heap.size w w') : RDeskAt w' B b mv p es := h.keep fun k hk => hb.block k (h.lt k hk).2

set_option maxHeartbeats 2000000 in
theorem ROf_calls (h : RDeskAt w B b mv p es) (c now : Int) : Calls Try.prog 15 #[.pointer (some ⟨b, 0, none⟩), .int .i64 c, .int .i64 now] w fun e w' =>
    e = .returned (.tuple #[.int .i64 (ofOf p es c now : Nat), .bool (decide (ofOf p es c now ≠ 0))]) ∧ Below w.heap.size w w' := by
  obtain ⟨la, lc, rfl, hrec, -⟩ := h.row.recs
  have h64 := h.len
  have hgood := h.good
  have p0 := cells_at h.root 0
  have p1 := cells_at h.root 1
  have p2 := cells_at h.root 2
  have p3 := cells_at h.root 3
  obtain ⟨P, W, D⟩ := p
  simp only [Pl.parts, Pl.window, Pl.delay] at p0 p1 p2 p3
  obtain ⟨L, hL⟩ : ∃ L, L = es.length := ⟨_, rfl⟩
  rw [← hL] at h64 hrec p0 p1 p2 p3
  obtain ⟨r0, hr0⟩ : ∃ r0, r0 = ofOf (P, W, D) es c now := ⟨_, rfl⟩
  rw [← hr0]
  have HR0 := Lib.hid hr0; clear hr0
  have HL := Lib.hid hL; clear hL
  have Hgood := Lib.hid hgood; clear hgood
  have Hrec := Lib.hid hrec; clear hrec h
  go_enter Try.func15, Try.ntmps15
  go_wp2_with fail
  go_loopw [8] (fun t wr => ∃ k : Nat, k ≤ L ∧ t = .int .i64 ((k : Int) - 1) ∧ wr = w ∧ ∀ j (h : j < es.length), k ≤ j → es[j].client ≠ c) (fun t _ => (intOf t + 1).toNat)
  case atStart => exact ⟨L, Nat.le_refl _, by go_num, rfl, fun j hj hk => absurd hj (by have := HL.out; omega)⟩
  case round =>
    obtain ⟨k, hk, rfl, rfl, hno⟩ := hrel
    have Hno := Lib.hid hno; clear hno
    rcases Nat.eq_zero_or_pos k with h0 | h0
    · subst h0
      have e0 : r0 = 0 := by
        rw [HR0.out]
        unfold ofOf
        rw [if_pos (lastOf_zero es c fun j hj => Hno.out j hj (Nat.zero_le _))]
      clear HR0
      subst e0
      go_wp2_with fail
      go_ret2
      exact ⟨rfl, Below.refl _ _⟩
    · obtain ⟨m, rfl⟩ : ∃ m, k = m + 1 := ⟨k - 1, by omega⟩
      rw [show (((m + 1 : Nat) : Int) - 1) = (m : Int) by omega]
      clear h0
      obtain ⟨lb, lo, rfl⟩ := Hrec.out.addr (by omega)
      have hte : m < es.length := by rw [← HL.out]; omega
      have hcl := Hrec.out.at hte
      obtain ⟨en, hene⟩ : ∃ en, en = es[m] := ⟨_, rfl⟩
      rw [← hene] at hcl
      have Hene := Lib.hid hene; clear hene
      have hrl := fun w : World => RRelease_calls (w := w) (P, W, D) Hgood.out en.begin
      have hR : ∀ R, R = releaseOf (P, W, D) en.begin → en.client = c → ofOf (P, W, D) es c now = if R ≤ now then 0 else m + 1 := fun R hR hc => by
        have hl : lastOf es c = m + 1 := lastOf_iff es c m hte (by rw [← Hene.out]; exact hc) fun j hj hmj => Hno.out j hj hmj
        unfold ofOf
        rw [hl, if_neg (by omega), Nat.add_sub_cancel, List.getD_eq_getElem?_getD, List.getElem?_eq_getElem hte, Option.getD_some, ← Hene.out, ← hR]
      obtain ⟨R, hRR⟩ : ∃ R, R = releaseOf (P, W, D) en.begin := ⟨_, rfl⟩
      have hR := hR R hRR
      rw [← hRR] at hrl
      clear hRR
      have q0 : wr.cell? ⟨lb, lo + m * 3, none⟩ = some (.int .i64 en.client) := hcl 0 _ rfl
      have q1 : wr.cell? ⟨lb, lo + m * 3 + 1, none⟩ = some (.int .i64 en.begin) := hcl 1 _ rfl
      clear hcl
      have Hrl := Lib.hid hrl; clear hrl
      have HR := Lib.hid hR; clear hR
      have i1 : (0 : Int) ≤ (m : Int) := by omega
      have i2 : (m : Int) < (L : Int) := by omega
      have i3 : decide ((0 : Int) ≤ (m : Int)) = true := decide_eq_true i1
      by_cases hcc : en.client = c
      · have hR := HR.out hcc
        clear HR
        have e1 : (en.client == c) = true := by simpa using hcc
        rw [← HR0.out] at hR
        clear HR0 hcc
        have hd : (decide (now < R) = false ∧ r0 = 0) ∨ (decide (now < R) = true ∧ r0 = m + 1) := by
          by_cases hn : R ≤ now
          · exact .inl ⟨decide_eq_false (by omega), by rw [hR, if_pos hn]⟩
          · exact .inr ⟨decide_eq_true (by omega), by rw [hR, if_neg hn]⟩
        clear hR
        have z0 := cell_regrown p0
        have z1 := cell_regrown p1
        have z2 := cell_regrown p2
        have z3 := cell_regrown p3
        have z4 := cell_regrown q1
        go_wp2_with fail
        rcases hd with ⟨d1, rfl⟩ | ⟨d1, rfl⟩
        all_goals
          refine wp_region_quiet_below (by kernel_rfl) (by kernel_rfl) ?_
          repeat (any_goals (first | go_big_quiet_step ((go_at_call 30; exact Calls.regrown_of (Hrl.out _))) | quiet_step ((go_at_call 30; exact Calls.regrown_of (Hrl.out _)))))
          refine wpQuiet_nil ?_
          intro w3 hw3
          have bf : Below wr.heap.size wr w3 := by obtain ⟨q, rfl⟩ := hw3; exact below_regrown _ _ _
          clear hw3 z0 z1 z2 z3 z4 p0 p1 p2 p3 q0 q1
          have Hbf := Lib.hid bf; clear bf
          go_wp2
          go_ret2
          exact ⟨by simp, Hbf.out⟩
      · have e1 : (en.client == c) = false := by simpa using hcc
        clear HR Hrl
        go_wp2_with fail
        go_roundw
        case rel => exact ⟨m, by omega, by first | trivial | rfl, by first | trivial | rfl, fun j hj hmj => by
          rcases Nat.lt_or_ge m j with h | h
          · exact Hno.out j hj h
          · obtain rfl : m = j := by omega
            rw [← Hene.out]; exact hcc⟩
        case measure => first | omega | (simp [intOf]; done) | (simp [intOf]; omega)
end
end Go.Proofs.Ytdccocgdgcjfcaa
