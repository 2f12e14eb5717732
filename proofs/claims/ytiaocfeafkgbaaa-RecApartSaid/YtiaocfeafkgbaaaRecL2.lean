/- The law RecApart. -/
import Derived.Test.YtiaocfeafkgbaaaRecO
namespace Go.Proofs.Ytiaocfeafkgbaaa
open Go.RowKit

theorem apart_law {a b : Rc} (ha : RightRc a) (hao : a.ok) (hb : RightRc b) (hbo : b.ok) (hl : (enc a).length ≤ (enc b).length) : decide (enc a = (enc b).take (enc a).length) = decide (a = b) := by
  rw [decide_eq_decide]
  constructor
  · intro h
    have e : enc a ++ (enc b).drop (enc a).length = enc b ++ [] := by
      rw [List.append_nil]
      conv => lhs; lhs; rw [h]
      rw [List.take_append_drop]
    exact enc_apart ha hao hb hbo e
  · rintro rfl
    rw [List.take_length]
set_option maxHeartbeats 8000000 in
theorem lawRecApart {w : World} {a b : Rc} (ha : a.ok) (hb : b.ok) : Calls Try.prog 4 #[.agg a.cells.toArray, .agg b.cells.toArray] w fun e w' => e = .returned (.bool true) ∧ Below w.heap.size w w' := by
  have e1 := fun w : World => Encode_calls (w := w) a ha
  have e2 := fun w : World => Encode_calls (w := w) b hb
  have hap : rightRc a = true → rightRc b = true → (enc a).length ≤ (enc b).length → decide (enc a = (enc b).take (enc a).length) = decide (a = b) := fun h1 h2 h3 => apart_law (of_decide_eq_true h1) ha (of_decide_eq_true h2) hb h3
  have hq := fun w => rc_eql w a b
  have hg := fun x y w => rc_guard .eql x y a b w
  obtain ⟨A, hA⟩ : ∃ A, A = rightRc a := ⟨_, rfl⟩
  obtain ⟨B, hB⟩ : ∃ B, B = rightRc b := ⟨_, rfl⟩
  obtain ⟨X, hX⟩ : ∃ X, X = enc a := ⟨_, rfl⟩
  obtain ⟨Y, hY⟩ : ∃ Y, Y = enc b := ⟨_, rfl⟩
  obtain ⟨D, hD⟩ : ∃ D, D = decide (a = b) := ⟨_, rfl⟩
  rw [← hA, ← hX] at e1
  rw [← hB, ← hY] at e2
  rw [← hA, ← hB, ← hX, ← hY, ← hD] at hap
  rw [← hD] at hq
  clear hA hB hX hY hD ha hb
  obtain ⟨ka, ta, ma, a0, a1, a2, a3, aot, ao, ant, an⟩ := a
  obtain ⟨kb, tb, mb, b0, b1, b2, b3, bot, bo, bnt, bn⟩ := b
  simp only [Rc.cells] at e1 e2 hq hg ⊢
  have E1 := Lib.hid e1; clear e1
  have E2 := Lib.hid e2; clear e2
  have Hq := Lib.hid hq; clear hq
  have Hg := Lib.hid hg; clear hg
  have Hap := Lib.hid hap; clear hap
  obtain ⟨w1, hw1⟩ : ∃ w1, w1 = w.alloc (.cells #[.int .i64 ka, .int .i64 ta, .int .u16 ma, .int .u8 a0, .int .u8 a1, .int .u8 a2, .int .u8 a3, .bool aot, .int .i64 ao, .bool ant, .int .i64 an] 34) := ⟨_, rfl⟩
  have b1' : Below w.heap.size w w1 := by rw [hw1]; exact (Below.refl _ _).alloc (Nat.le_refl _) _
  have x1 : w1.heap[w.heap.size]? = some (.cells #[.int .i64 ka, .int .i64 ta, .int .u16 ma, .int .u8 a0, .int .u8 a1, .int .u8 a2, .int .u8 a3, .bool aot, .int .i64 ao, .bool ant, .int .i64 an] 34 (0, 0)) := by rw [hw1]; exact heap_alloc_new w _
  have s1 : w1.heap.size = w.heap.size + 1 := by rw [hw1, World.size_alloc]
  obtain ⟨w2, hw2⟩ : ∃ w2, w2 = w1.alloc (.cells #[.int .i64 kb, .int .i64 tb, .int .u16 mb, .int .u8 b0, .int .u8 b1, .int .u8 b2, .int .u8 b3, .bool bot, .int .i64 bo, .bool bnt, .int .i64 bn] 34) := ⟨_, rfl⟩
  have b2' : Below w1.heap.size w1 w2 := by rw [hw2]; exact (Below.refl _ _).alloc (Nat.le_refl _) _
  have x2 : w2.heap[w.heap.size + 1]? = some (.cells #[.int .i64 kb, .int .i64 tb, .int .u16 mb, .int .u8 b0, .int .u8 b1, .int .u8 b2, .int .u8 b3, .bool bot, .int .i64 bo, .bool bnt, .int .i64 bn] 34 (0, 0)) := by rw [← s1, hw2]; exact heap_alloc_new w1 _
  have x1' := (b2'.block _ (Array.getElem?_eq_some_iff.1 x1).1).trans x1
  have hb := b1'.trans (b2'.mono b1'.size)
  clear x1 s1 b1' b2'
  have XA := Lib.hid x1'; clear x1'
  have XB := Lib.hid x2; clear x2
  have Hb := Lib.hid hb; clear hb
  go_enter Try.func4, Try.ntmps4
  go_wp2_with fail
  rw [← hw1, ← hw2]
  clear hw1 hw2
  generalize w.heap.size + 1 = gb at *
  refine alive_calls.mono ?_
  rintro e w3 ⟨rfl, bk⟩
  have xa := (bk.block _ (Array.getElem?_eq_some_iff.1 XA.out).1).trans XA.out
  have xb := (bk.block _ (Array.getElem?_eq_some_iff.1 XB.out).1).trans XB.out
  have hb := Hb.out.trans (bk.mono Hb.out.size)
  clear XA XB Hb bk
  have XA := Lib.hid xa; clear xa
  have XB := Lib.hid xb; clear xb
  have Hb := Lib.hid hb; clear hb
  have y0 := cells_at XA.out 0
  have y1 := cells_at XA.out 1
  have y2 := cells_at XA.out 2
  have y3 := cells_at XA.out 3
  have y4 := cells_at XA.out 4
  have y5 := cells_at XA.out 5
  have y6 := cells_at XA.out 6
  have y7 := cells_at XA.out 7
  have y8 := cells_at XA.out 8
  have y9 := cells_at XA.out 9
  have y10 := cells_at XA.out 10
  go_wp2_with fail
  clear y0 y1 y2 y3 y4 y5 y6 y7 y8 y9 y10
  refine (E1.out _).mono ?_
  rintro e w4 ⟨vx, rfl, ox, bk⟩
  have ox := ox.mono Hb.out.size
  have xa := (bk.block _ (Array.getElem?_eq_some_iff.1 XA.out).1).trans XA.out
  have xb := (bk.block _ (Array.getElem?_eq_some_iff.1 XB.out).1).trans XB.out
  have hb := Hb.out.trans (bk.mono Hb.out.size)
  clear XA XB Hb bk
  have XA := Lib.hid xa; clear xa
  have XB := Lib.hid xb; clear xb
  have Hb := Lib.hid hb; clear hb
  have OX := Lib.hid ox; clear ox
  have y0 := cells_at XB.out 0
  have y1 := cells_at XB.out 1
  have y2 := cells_at XB.out 2
  have y3 := cells_at XB.out 3
  have y4 := cells_at XB.out 4
  have y5 := cells_at XB.out 5
  have y6 := cells_at XB.out 6
  have y7 := cells_at XB.out 7
  have y8 := cells_at XB.out 8
  have y9 := cells_at XB.out 9
  have y10 := cells_at XB.out 10
  go_wp2_with fail
  clear y0 y1 y2 y3 y4 y5 y6 y7 y8 y9 y10
  refine (E2.out _).mono ?_
  rintro e w5 ⟨vy, rfl, oy, bk⟩
  have oy := oy.mono Hb.out.size
  have xa := (bk.block _ (Array.getElem?_eq_some_iff.1 XA.out).1).trans XA.out
  have xb := (bk.block _ (Array.getElem?_eq_some_iff.1 XB.out).1).trans XB.out
  have hb := Hb.out.trans (bk.mono Hb.out.size)
  have iOX := OX.out.below bk
  clear XA XB Hb bk
  have XA := Lib.hid xa; clear xa
  have XB := Lib.hid xb; clear xb
  have Hb := Lib.hid hb; clear hb
  clear OX
  have OX := Lib.hid iOX; clear iOX
  have ix := OX.out
  clear OX E1 E2
  cases A with
  | false =>
    rw [if_neg (by decide)] at ix
    obtain ⟨ax, cx, rfl, -, -⟩ := ix.ints
    obtain ⟨ay, cy, rfl, -, -⟩ := oy.ints
    clear ix oy Hap Hq Hg XA XB
    rw [show ([] : List Int).length = 0 from rfl]
    generalize (if B = true then Y else []).length = YL
    go_wp2
    go_ret
    exact ⟨rfl, Hb.out⟩
  | true =>
    rw [if_pos rfl] at ix
    obtain ⟨ax, cx, rfl, jx, -⟩ := ix.ints
    clear ix
    cases B with
    | false =>
      rw [if_neg (by decide)] at oy
      obtain ⟨ay, cy, rfl, -, -⟩ := oy.ints
      clear oy Hap Hq Hg XA XB jx
      rw [show ([] : List Int).length = 0 from rfl]
      generalize X.length = XL at *
      go_wp2
      go_ret
      exact ⟨rfl, Hb.out⟩
    | true =>
      rw [if_pos rfl] at oy
      obtain ⟨ay, cy, rfl, jy, -⟩ := oy.ints
      clear oy
      by_cases hlen : Y.length < X.length
      · have dl : decide ((Y.length : Int) < (X.length : Int)) = true := decide_eq_true (by omega)
        have dm : decide (Y.length < X.length) = true := decide_eq_true hlen
        have hlt : (Y.length : Int) < (X.length : Int) := by omega
        clear Hap Hq Hg XA XB jx jy hlen
        generalize X.length = XL at *
        generalize Y.length = YL at *
        go_wp2
        go_ret
        exact ⟨rfl, Hb.out⟩
      · have dl : decide ((Y.length : Int) < (X.length : Int)) = false := decide_eq_false (by omega)
        have dm : decide (Y.length < X.length) = false := decide_eq_false hlen
        have hle : X.length ≤ Y.length := by omega
        have hap := Hap.out rfl rfl hle
        have jt := jy.take X.length hle
        have cm := jy.max
        have cl := jy.le
        obtain ⟨XL, hXL⟩ : ∃ XL, XL = X.length := ⟨_, rfl⟩
        obtain ⟨YL, hYL⟩ : ∃ YL, YL = Y.length := ⟨_, rfl⟩
        have hi1 : (XL : Int) ≤ (cy : Int) := by omega
        have hi2 : (0 : Int) ≤ (XL : Int) := by omega
        have hsb := fun (d : Nat) (os : Array Obj) => SameBytes_calls (jx.keep (below_regrown w5 d os)) (jt.keep (below_regrown w5 d os))
        rw [hap] at hsb
        rw [← hXL] at hsb dl dm ⊢
        rw [← hYL] at dl dm ⊢
        have hdd : (D == D) = true := by simp
        have Hsb := Lib.hid hsb; clear hsb hap hXL hYL jx jy jt Hap hle hlen cm cl
        have z0 := cell_regrown (cells_at XA.out 0)
        have u0 := cell_regrown (cells_at XB.out 0)
        have z1 := cell_regrown (cells_at XA.out 1)
        have u1 := cell_regrown (cells_at XB.out 1)
        have z2 := cell_regrown (cells_at XA.out 2)
        have u2 := cell_regrown (cells_at XB.out 2)
        have z3 := cell_regrown (cells_at XA.out 3)
        have u3 := cell_regrown (cells_at XB.out 3)
        have z4 := cell_regrown (cells_at XA.out 4)
        have u4 := cell_regrown (cells_at XB.out 4)
        have z5 := cell_regrown (cells_at XA.out 5)
        have u5 := cell_regrown (cells_at XB.out 5)
        have z6 := cell_regrown (cells_at XA.out 6)
        have u6 := cell_regrown (cells_at XB.out 6)
        have z7 := cell_regrown (cells_at XA.out 7)
        have u7 := cell_regrown (cells_at XB.out 7)
        have z8 := cell_regrown (cells_at XA.out 8)
        have u8 := cell_regrown (cells_at XB.out 8)
        have z9 := cell_regrown (cells_at XA.out 9)
        have u9 := cell_regrown (cells_at XB.out 9)
        have z10 := cell_regrown (cells_at XA.out 10)
        have u10 := cell_regrown (cells_at XB.out 10)
        have hq := Hq.out
        have hg := Hg.out
        go_wp2_with fail
        refine wp_region_quiet_below (by kernel_rfl) (by kernel_rfl) ?_
        repeat (go_big_quiet_step ((go_at_call 13; exact Calls.regrown_of ((Hsb.out _ _).mono fun e w' ⟨h1, n, h2⟩ => ⟨h1, by rw [h2]; exact Below.drewN (Below.refl _ _) n⟩))))
        refine wpQuiet_nil ?_
        intro wq hwq
        have bk : Below w5.heap.size w5 wq := by obtain ⟨q, rfl⟩ := hwq; exact below_regrown _ _ _
        have hb := Hb.out.trans (bk.mono Hb.out.size)
        clear hwq bk Hb hq hg z0 u0 z1 u1 z2 u2 z3 u3 z4 u4 z5 u5 z6 u6 z7 u7 z8 u8 z9 u9 z10 u10
        have Hb := Lib.hid hb; clear hb
        go_wp2
        go_ret
        exact ⟨rfl, Hb.out⟩
end Go.Proofs.Ytiaocfeafkgbaaa
