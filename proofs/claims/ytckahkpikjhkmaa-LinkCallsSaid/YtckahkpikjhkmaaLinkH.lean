/- The document's link: Put. -/
import Derived.Test.YtckahkpikjhkmaaLinkG
namespace Go.Proofs.Ytckahkpikjhkmaa
open Go.RowKit

structure PutSt (l0 R bl : List Msg) (nn : Nat) (ee : Int) : Prop where
  bag : bl = l0 ++ R.take (16 - l0.length)
  num : nn = min R.length (16 - l0.length)
  err : ee = if min R.length (16 - l0.length) < R.length then 15 else 0
section
variable {l0 R bl : List Msg} {nn : Nat} {ee : Int}
theorem PutSt.start (l0 : List Msg) : PutSt l0 [] l0 0 0 := ⟨by simp, by simp, by simp⟩
theorem PutSt.few (h : PutSt l0 R bl nn ee) (h0 : l0.length ≤ 16) : nn ≤ 16 ∧ bl.length ≤ 16 := by
  refine ⟨by have := h.num; omega, ?_⟩
  rw [h.bag, List.length_append, List.length_take]
  omega
theorem PutSt.len (h : PutSt l0 R bl nn ee) : bl.length = l0.length + min (16 - l0.length) R.length := by rw [h.bag, List.length_append, List.length_take]
theorem PutSt.full (h : PutSt l0 R bl nn ee) (h0 : l0.length ≤ 16) (hf : 16 ≤ bl.length) (x : Msg) : PutSt l0 (R ++ [x]) bl nn 15 := by
  have hl := h.len
  have hR : 16 - l0.length ≤ R.length := by omega
  refine ⟨?_, ?_, ?_⟩
  · rw [List.take_append_of_le_length hR]; exact h.bag
  · rw [List.length_append, h.num]; simp; omega
  · rw [List.length_append, if_pos (by simp; omega)]
theorem PutSt.push (h : PutSt l0 R bl nn ee) (h0 : l0.length ≤ 16) (hf : bl.length < 16) (x : Msg) : PutSt l0 (R ++ [x]) (bl ++ [x]) (nn + 1) ee := by
  have hl := h.len
  have hR : R.length + 1 ≤ 16 - l0.length := by omega
  have he := h.err
  rw [if_neg (by omega)] at he
  refine ⟨?_, ?_, ?_⟩
  · rw [List.take_of_length_le (by simp; omega), h.bag, List.take_of_length_le (by omega), List.append_assoc]
  · rw [h.num, List.length_append]; simp; omega
  · rw [he, if_neg (by simp; omega)]
end
theorem filter_next {xs : List Msg} {j : Nat} (hj : j < xs.length) : (xs.take (j + 1)).filter rightOf = (xs.take j).filter rightOf ++ if rightOf xs[j] then [xs[j]] else [] := by
  rw [List.take_add_one, List.getElem?_eq_getElem hj, Option.toList_some, List.filter_append]
  congr 1
  by_cases h : rightOf xs[j] = true <;> simp [h]

section
variable {w w1 w' : World} {C B b g1 g2 n : Nat} {mv : Pla → Value} {ls ls' : Pla → List Msg}
set_option maxHeartbeats 4000000 in
theorem RPut_calls (h : RAt w B b g1 g2 n mv ls) (k : Pla) {a : Option Addr} {N c : Nat} {xs : List Msg} (hx : Recs msgF w a N c xs) (hN : N ≤ 1000) :
    Calls Try.prog 13 #[ptrTo b, .int .i64 k.1, .bool k.2, .slice a N c] w fun e w' =>
      e = .returned (.tuple #[.int .i64 ((putN n ls k xs).1 : Nat), .int .i64 (putN n ls k xs).2.1]) ∧ RLeft w w' w.heap.size B b g1 g2 n mv (putN n ls k xs).2.2 := by
  unfold putN
  have h6 := h.few
  have r0 := cells_at h.root 0
  rcases places (n := n) k with ⟨p, hp, hk, hm⟩ | ⟨h0, hm⟩ | ⟨h0, hn0, hm⟩
  · simp only [if_pos hm]
    have h16 := h.small _ hm
    have hxl := hx.len
    have b1 : Below w.heap.size w (w.alloc (.cells #[] 38)) := (Below.refl _ _).alloc (Nat.le_refl _) _
    have h1 := h.below b1
    have hbag := RBag_calls h1 k
    rw [if_pos hm] at hbag
    have own1 := ROwn.made (F := msgF) (E := 38) w
    have rec1 := (h1.bag _ hm).recs
    obtain ⟨a1, c1, hmv, rec1, -⟩ := rec1
    rw [hmv] at hbag
    have hfin : ∀ bl nn ee, PutSt (ls k) (xs.filter rightOf) bl nn ee → bl = ls k ++ (xs.filter rightOf).take (16 - (ls k).length) ∧ nn = min (xs.filter rightOf).length (16 - (ls k).length) ∧ ee = if min (xs.filter rightOf).length (16 - (ls k).length) < (xs.filter rightOf).length then 15 else 0 := fun _ _ _ h => ⟨h.bag, h.num, h.err⟩
    generalize ls k ++ (xs.filter rightOf).take (16 - (ls k).length) = X1 at hfin ⊢
    generalize (if min (xs.filter rightOf).length (16 - (ls k).length) < (xs.filter rightOf).length then (15 : Int) else 0) = X3 at hfin ⊢
    generalize min (xs.filter rightOf).length (16 - (ls k).length) = X2 at hfin ⊢
    obtain ⟨L, hL⟩ : ∃ L, L = (ls k).length := ⟨_, rfl⟩
    have h16L : L ≤ 16 := by rw [hL]; exact h16
    rw [← hL] at hbag rec1
    obtain ⟨q, u⟩ := k
    simp only at hk hbag
    subst hk
    have e1 : decide ((p : Int) < 0) = false := decide_eq_false (by omega)
    have e2 : decide ((n : Int) ≤ (p : Int)) = false := decide_eq_false (by omega)
    have hwz : (w.alloc (.cells #[] 38)).heap.size = w.heap.size + 1 := by simp
    have Hbag := Lib.hid hbag; clear hbag
    have Hrec1 := Lib.hid rec1; clear rec1
    have Hown1 := Lib.hid own1; clear own1
    have HL := Lib.hid hL; clear hL hmv
    have Hb1 := Lib.hid b1; clear b1
    have Hh := Lib.hid h; clear h h1
    have Hx := Lib.hid hx; clear hx
    have Hxl := Lib.hid hxl; clear hxl
    have Hfin := Lib.hid hfin; clear hfin
    have Hwz := Lib.hid hwz; clear hwz
    have H16 := Lib.hid h16; clear h16
    go_enter Try.func13, Try.ntmps13
    go_wp2_with fail
    refine Hbag.out.mono ?_
    rintro e w1 ⟨rfl, rfl⟩
    clear Hbag r0
    go_wp2_with (with_reducible refine stop_builtin .append ?_)
    refine unpark ?_
    refine wpList_append_recs msgElem _ rfl _ _ rfl w.heap.size _ [] rfl Hown1.out a1 L c1 (ls ((p : Int), u)) rfl Hrec1.out (by rw [List.length_nil]; omega) Hb1.out.size ?_
    intro v2 w2 own2 g2' _
    rw [List.nil_append] at own2
    have b2 := Hb1.out.grown g2' Hb1.out.size (fun k hk => (Hown1.out.lt k hk).1)
    obtain ⟨a2, c2, rfl⟩ := own2.shape
    obtain ⟨bl, hbl⟩ : ∃ bl, bl = ls ((p : Int), u) := ⟨_, rfl⟩
    have st : PutSt (ls ((p : Int), u)) ((xs.take 0).filter rightOf) bl 0 0 := by rw [hbl]; exact PutSt.start _
    rw [← hbl] at own2 ⊢
    clear hbl Hrec1 Hown1 g2' Hb1
    have Hown2 := Lib.hid own2; clear own2
    have Hb2 := Lib.hid b2; clear b2
    have Hst := Lib.hid st; clear st
    generalize bl.length = bn at Hown2 ⊢
    go_wp2_with fail
    go_loopw [10, 11, 12, 13] (fun bv nn ee i wr => ∃ (j : Nat) (bl : List Msg) (nnn : Nat) (eee : Int), j ≤ N ∧ i = .int .i64 (j : Int) ∧ nn = .int .i64 (nnn : Int) ∧ ee = .int .i64 eee ∧ PutSt (ls ((p : Int), u)) ((xs.take j).filter rightOf) bl nnn eee ∧ Mo wr w.heap.size bv bl ∧ Below w.heap.size w wr) (fun _ _ _ i _ => N - (intOf i).toNat)
    case atStart => exact ⟨0, bl, 0, 0, by omega, rfl, rfl, rfl, Hst.out, Hown2.out, Hb2.out⟩
    case round =>
      clear Hst Hown2 Hb2
      obtain ⟨j, bl, nnn, eee, hj, rfl, rfl, rfl, hst, hown, hb⟩ := hrel
      obtain ⟨av, cv, rfl⟩ := hown.shape
      obtain ⟨bn, hbn⟩ : ∃ bn, bn = bl.length := ⟨_, rfl⟩
      rw [← hbn] at hown ⊢
      have hfw := hst.few H16.out
      have hnn : nnn ≤ 16 := hfw.1
      have hbn16 : bn ≤ 16 := by rw [hbn]; exact hfw.2
      clear hfw
      have Hbn := Lib.hid hbn; clear hbn
      have Hst := Lib.hid hst; clear hst
      have Hown := Lib.hid hown; clear hown
      have Hb := Lib.hid hb; clear hb
      by_cases hlt : j < N
      · have hjx : j < xs.length := by rw [Hxl.out]; exact hlt
        have hnext := filter_next hjx
        have hxw := Hx.out.keep Hb.out
        obtain ⟨bx, ox, rfl⟩ := hxw.addr (by omega)
        have hcx := hxw.at hjx
        obtain ⟨m, hm'⟩ : ∃ m, m = xs[j] := ⟨_, rfl⟩
        rw [← hm'] at hcx hnext
        clear hm' hxw
        have hright := fun w : World => RRight_calls (w := w) m
        generalize rightOf m = X at hnext hright
        obtain ⟨mm, hmm⟩ : ∃ mm, mm = m := ⟨_, rfl⟩
        have hcells : mm.cells = m.cells := by rw [hmm]
        rw [← hmm] at hnext
        clear hmm
        obtain ⟨k1, k2, k3, k4⟩ := m
        simp only [Msg.cells, Msg.kind, Msg.part, Msg.tx, Msg.what] at hright
        have hat : ∀ k u, (Msg.cells (k1, k2, k3, k4))[k]? = some u → wr.cell? ⟨bx, ox + j * 4 + k, none⟩ = some u := hcx
        simp only [Msg.cells, Msg.kind, Msg.part, Msg.tx, Msg.what] at hat
        clear hcx
        have x0 := hat 0 _ rfl
        have x1 := hat 1 _ rfl
        have x2 := hat 2 _ rfl
        have x3 := hat 3 _ rfl
        simp only [Nat.add_zero] at x0 x1 x2 x3
        have i1 : (0 : Int) ≤ (j : Int) := by omega
        have i2 : (j : Int) < (N : Int) := by omega
        have Hnext := Lib.hid hnext; clear hnext
        have Hcells := Lib.hid hcells; clear hcells
        have Hright := Lib.hid hright; clear hright
        have Hat := Lib.hid hat; clear hat
        go_wp2_with fail
        refine (Hright.out _).mono ?_
        rintro e w3 ⟨rfl, b3⟩
        have hb3 := Hb.out.trans (b3.mono Hb.out.size)
        have own3 := Hown.out.below b3
        have hxl := World.block_lt_of_cell? _ _ x0
        have hat3 : ∀ k u, (Msg.cells (k1, k2, k3, k4))[k]? = some u → w3.cell? ⟨bx, ox + j * 4 + k, none⟩ = some u := fun k u hu => by
          have h := Hat.out k u hu
          rw [← h]
          unfold World.cell?
          rw [b3.block _ hxl]
        simp only [Msg.cells, Msg.kind, Msg.part, Msg.tx, Msg.what] at hat3
        clear x0 x1 x2 x3 b3 hxl
        have x0 := hat3 0 _ rfl
        have x1 := hat3 1 _ rfl
        have x2 := hat3 2 _ rfl
        have x3 := hat3 3 _ rfl
        simp only [Nat.add_zero] at x0 x1 x2 x3
        clear hat3 Hat Hb Hown Hright
        have Hb := Lib.hid hb3; clear hb3
        have Hown := Lib.hid own3; clear own3
        cases X with
        | false =>
          go_wp2_with fail
          go_roundw
          case rel => exact ⟨j + 1, bl, nnn, eee, by omega, by go_num, rfl, rfl, by rw [Hnext.out]; simpa using Hst.out, Hown.out, Hb.out⟩
          case measure => simp [intOf]; omega
        | true =>
          by_cases hf : 16 ≤ bn
          · have d1 : decide ((16 : Int) ≤ (bn : Int)) = true := decide_eq_true (by omega)
            go_wp2_with fail
            go_roundw
            case rel => exact ⟨j + 1, bl, nnn, 15, by omega, by go_num, rfl, rfl, by rw [Hnext.out]; exact Hst.out.full H16.out (by rw [← Hbn.out]; exact hf) _, Hown.out, Hb.out⟩
            case measure => simp [intOf]; omega
          · have d1 : decide ((16 : Int) ≤ (bn : Int)) = false := decide_eq_false (by omega)
            go_wp2_with (with_reducible refine stop_builtin .append ?_)
            refine unpark ?_
            have b4 : Below w3.heap.size w3 (w3.alloc (.cells #[.int .i64 k1, .int .i64 k2, .int .i64 k3, .int .i64 k4] 38)) := (Below.refl _ _).alloc (Nat.le_refl _) _
            have m4 := heap_alloc_new w3 (.cells #[.int .i64 k1, .int .i64 k2, .int .i64 k3, .int .i64 k4] 38)
            have own4 := Hown.out.below b4
            have hb4 := Hb.out.trans (b4.mono Hb.out.size)
            clear x0 x1 x2 x3
            generalize w3.alloc (.cells #[.int .i64 k1, .int .i64 k2, .int .i64 k3, .int .i64 k4] 38) = w4 at b4 m4 own4 hb4 ⊢
            refine wpList_append_rec1 msgElem _ rfl _ _ rfl w.heap.size _ bl rfl own4 w3.heap.size 1 (by decide) (by decide) mm rfl m4 (fun j u hu => by
              have hu : (Msg.cells mm)[j]? = some u := hu
              rw [Hcells.out] at hu
              simpa [Msg.cells] using hu) (by rw [← Hbn.out]; omega) hb4.size ?_
            intro v5 w5 own5 g5 _
            have hb5 := hb4.grown g5 hb4.size (fun k hk => (own4.lt k hk).1)
            obtain ⟨a5, c5, hv5⟩ := own5.shape
            obtain ⟨bn5, hbn5⟩ : ∃ bn5, bn5 = (bl ++ [mm]).length := ⟨_, rfl⟩
            rw [← hbn5] at hv5
            subst hv5
            clear hbn5 own4 g5 hb4 m4 b4
            have Hb5 := Lib.hid hb5; clear hb5
            have Hown5 := Lib.hid own5; clear own5
            go_wp2_with fail
            go_roundw
            case rel => exact ⟨j + 1, bl ++ [mm], nnn + 1, eee, by omega, by go_num, by go_num, rfl, by rw [Hnext.out]; exact Hst.out.push H16.out (by rw [← Hbn.out]; omega) _, Hown5.out, Hb5.out⟩
            case measure => simp [intOf]; omega
      · obtain rfl : j = N := by omega
        have hfin := Hfin.out bl nnn eee (by have := Hst.out; rwa [List.take_of_length_le (by rw [Hxl.out]; exact Nat.le_refl _)] at this)
        obtain ⟨rfl, rfl, rfl⟩ := hfin
        have hset := RSet_calls (Hh.out.below Hb.out) hp u av bn cv
        have hleft := RLeft.turned Hh.out Hb.out (i := p) u (Nat.le_refl _) Hown.out ((Hst.out.few H16.out).2)
        have Hset := Lib.hid hset; clear hset
        have Hleft := Lib.hid hleft; clear hleft
        go_wp2_with fail
        refine Hset.out.mono ?_
        rintro e w6 ⟨rfl, hw6⟩
        rw [← hw6] at Hleft
        clear hw6 Hset
        go_wp2
        go_ret2
        exact ⟨rfl, Hleft.out⟩
  all_goals
    simp only [if_neg hm]
    obtain ⟨q, u⟩ := k
    simp only at h0
    first
      | (have e1 : decide (q < 0) = true := decide_eq_true h0
         have Hh := Lib.hid h; clear h hm hx
         go_enter Try.func13, Try.ntmps13
         go_wp2
         go_ret2
         exact ⟨rfl, RLeft.same Hh.out (Below.refl _ _)⟩)
      | (simp only at hn0
         have e1 : decide (q < 0) = false := decide_eq_false (by omega)
         have e2 : decide ((n : Int) ≤ q) = true := decide_eq_true hn0
         have Hh := Lib.hid h; clear h hm hx
         go_enter Try.func13, Try.ntmps13
         go_wp2
         go_ret2
         exact ⟨rfl, RLeft.same Hh.out (Below.refl _ _)⟩)
end
end Go.Proofs.Ytckahkpikjhkmaa
