/- The document's Decode. -/
import Derived.Test.YtiaocfeafkgbaaaRecD3
import Derived.Test.YtiaocfeafkgbaaaRecD4
import Derived.Deep.Cut
import Derived.Deep.CutRange
import Derived.Deep.CutBlock
import Derived.StillTailTactics
namespace Go.Proofs.Ytiaocfeafkgbaaa
open Go.RowKit

theorem setAll_below {B g : Nat} {a : World} (hg : B ≤ g) : ∀ (vs : List Value) (i : Nat) (w : World), Below B a w → Below B a (setAll w g i vs)
  | [], _, _, h => h
  | v :: vs, i, _, h => setAll_below hg vs (i + 1) _ (h.setCell hg v)
theorem three {b : List Int} (h : 3 ≤ b.length) : ∃ z0 z1 z2 r, b = z0 :: z1 :: z2 :: r := by
  match b, h with
  | z0 :: z1 :: z2 :: r, _ => exact ⟨z0, z1, z2, r, rfl⟩
theorem from3 {z0 z1 z2 : Int} {r : List Int} (h0 : 0 ≤ z0 ∧ z0 ≤ 255) (h1 : 0 ≤ z1 ∧ z1 ≤ 255) (h2 : 0 ≤ z2 ∧ z2 ≤ 255) : ((fromZ ((z0 :: z1 :: z2 :: r).take 3) : Nat) : Int) = z0 + 256 * z1 + 65536 * z2 := by
  show ((z0.toNat + 256 * (z1.toNat + 256 * (z2.toNat + 256 * 0)) : Nat) : Int) = _
  omega
/-- The world within Decode: the result's block holds noughts, the record's block a record. -/
structure DSt (w wx : World) (b g : Nat) (r : Rc) : Prop where
  z : wx.heap[b]? = some (.cells #[.int .i64 0, .int .i64 0, .int .u16 0, .int .u8 0, .int .u8 0, .int .u8 0, .int .u8 0, .bool false, .int .i64 0, .bool false, .int .i64 0] 34 (0, 0))
  r : wx.heap[g]? = some (.cells r.cells.toArray 34 (0, 0))
  bel : Below w.heap.size w wx
theorem DSt.lt {w wx : World} {b g : Nat} {r : Rc} (h : DSt w wx b g r) : b < wx.heap.size ∧ g < wx.heap.size := ⟨(Array.getElem?_eq_some_iff.1 h.z).1, (Array.getElem?_eq_some_iff.1 h.r).1⟩
theorem DSt.step {w wx wy : World} {b g : Nat} {r : Rc} (h : DSt w wx b g r) (hb : Below wx.heap.size wx wy) : DSt w wy b g r :=
  ⟨(hb.block b h.lt.1).trans h.z, (hb.block g h.lt.2).trans h.r, h.bel.trans (hb.mono h.bel.size)⟩
theorem DSt.row {w wx wy : World} {b g off : Nat} {r r' : Rc} {xs : List Value} (h : DSt w wx b g r) (hg : w.heap.size ≤ g) (hn : b ≠ g) (h1 : wy.heap[g]? = some (.cells (splice r.cells.toArray.toList off xs).toArray 34 (0, 0))) (h2 : wx.grownBy wy (some g)) (hr : (splice r.cells off xs).toArray = r'.cells.toArray) : DSt w wy b g r' :=
  ⟨(h2.block b h.lt.1 (by simpa using hn)).trans h.z, by rw [h1, ← hr], h.bel.grown h2 h.bel.size (fun k hk => by cases hk; exact hg)⟩
theorem Try.sizeRec : (Try.prog.info? 34).map (·.size) = some 11 := by kernel_rfl
theorem Try.sizeU16 : (Try.prog.info? 28).map (·.size) = some 1 := by kernel_rfl
theorem Try.sizeKey : (Try.prog.info? 30).map (·.size) = some 4 := by kernel_rfl
theorem Try.sizeVal : (Try.prog.info? 32).map (·.size) = some 2 := by kernel_rfl
theorem parse_ok {zs : List Int} (hz : ∀ z ∈ zs, 0 ≤ z ∧ z ≤ 255) {r : Rc} {n : Nat} (h : parse zs = some (r, n)) : r.ok := by
  rcases rec_parse hz with ⟨-, h'⟩ | ⟨-, -, h'⟩
  · rw [h] at h'; cases h'
  · rw [h] at h'
    cases h'
    exact rec_ok (s := ⟨zs, false⟩) hz
theorem from2 {zs : List Int} (h5 : 5 ≤ zs.length) (hz : ∀ z ∈ zs, 0 ≤ z ∧ z ≤ 255) : ((fromZ ((zs.drop 3).take 2) : Nat) : Int) = zs.getD 3 0 + 256 * zs.getD 4 0 ∧ (0 ≤ zs.getD 3 0 ∧ zs.getD 3 0 ≤ 255) ∧ (0 ≤ zs.getD 4 0 ∧ zs.getD 4 0 ≤ 255) := by
  match zs, h5 with
  | a :: b :: c :: d :: e :: t, _ =>
    have hd := hz d (by simp)
    have he := hz e (by simp)
    refine ⟨?_, hd, he⟩
    show ((d.toNat + 256 * (e.toNat + 256 * 0) : Nat) : Int) = d + 256 * e
    omega
set_option maxRecDepth 100000 in
set_option maxHeartbeats 8000000 in
theorem RDecode_calls {w : World} {a : Option Addr} {L c : Nat} {zs : List Int} (hx : Ints w .u8 a L c zs) : Calls Try.prog 16 #[.slice a L c] w fun e w' => e = .returned (.tuple #[.agg (dec zs).1.cells.toArray, .int .i64 ((dec zs).2 : Nat)]) ∧ Below w.heap.size w w' := by
  have hfit : ∀ z ∈ zs, 0 ≤ z ∧ z ≤ 255 := fun z hz => wf_u8 (hx.fit z hz)
  have hl := hx.len
  have hmx := hx.max
  have hle := hx.le
  have hdec : dec zs = match parse zs with | some (r, n) => if rightRc r = true ∧ enc r = zs.take n then (r, n) else (noRc, 0) | none => (noRc, 0) := rfl
  obtain ⟨D, hD⟩ : ∃ D, D = dec zs := ⟨_, rfl⟩
  rw [← hD] at hdec ⊢
  clear hD
  have HD := Lib.hid hdec; clear hdec
  have hb := (Below.refl w.heap.size w).alloc (Nat.le_refl _) (.cells #[.int .i64 0, .int .i64 0, .int .u16 0, .int .u8 0, .int .u8 0, .int .u8 0, .int .u8 0, .bool false, .int .i64 0, .bool false, .int .i64 0] 34)
  have z := heap_alloc_new w (.cells #[.int .i64 0, .int .i64 0, .int .u16 0, .int .u8 0, .int .u8 0, .int .u8 0, .int .u8 0, .bool false, .int .i64 0, .bool false, .int .i64 0] 34)
  obtain ⟨w1, hw1⟩ : ∃ w1, w1 = w.alloc (.cells #[.int .i64 0, .int .i64 0, .int .u16 0, .int .u8 0, .int .u8 0, .int .u8 0, .int .u8 0, .bool false, .int .i64 0, .bool false, .int .i64 0] 34) := ⟨_, rfl⟩
  have s1 : w1.heap.size = w.heap.size + 1 := by rw [hw1, World.size_alloc]
  rw [← hw1] at hb z
  have Hb := Lib.hid hb; clear hb
  have Z := Lib.hid z; clear z
  have S1 := Lib.hid s1; clear s1
  have Hx := Lib.hid hx; clear hx
  by_cases h3 : L < 3
  case pos =>
    have hp : parse zs = none := by unfold parse; rw [if_pos (by omega)]
    have hD := HD.out
    rw [hp] at hD
    clear HD
    have HD := Lib.hid hD; clear hD hp
    have d3 : decide ((L : Int) < 3) = true := decide_eq_true (by omega)
    clear h3
    rw [hw1] at Z Hb
    clear hw1
    go_enter Try.func16, Try.ntmps16
    go_wp2
    refine bodyPost_ret (results_row2 Try.results16 _ _ w.heap.size 34 _ _ _ rfl Z.out Try.underlying34 rfl (by kernel_rfl)) rfl ?_
    exact ⟨by rw [HD.out]; rfl, Hb.out⟩
  case neg =>
    have d3 : decide ((L : Int) < 3) = false := decide_eq_false (by omega)
    obtain ⟨z0, z1, z2, zr, hzs⟩ := three (b := zs) (by omega)
    have hz0 := hfit z0 (by rw [hzs]; simp)
    have hz1 := hfit z1 (by rw [hzs]; simp)
    have hz2 := hfit z2 (by rw [hzs]; simp)
    have hU := from3 (r := zr) hz0 hz1 hz2
    rw [← hzs] at hU
    obtain ⟨gb, go_, rfl, hcx⟩ := Hx.out.cell (by omega)
    have hcx1 := fun i hi => (Hb.out.cell (p := ⟨gb, go_ + i, none⟩) (World.block_lt_of_cell? w _ (hcx i hi))).trans (hcx i hi)
    have x0 := cell_regrown (hcx1 0 (by omega))
    have x1 := cell_regrown (hcx1 1 (by omega))
    have x2 := cell_regrown (hcx1 2 (by omega))
    rw [hzs] at x0 x1 x2
    simp only [List.getD_cons_zero, List.getD_cons_succ, Nat.add_zero] at x0 x1 x2
    obtain ⟨U, hUd⟩ : ∃ U, U = fromZ (zs.take 3) := ⟨_, rfl⟩
    rw [← hUd] at hU
    have hsum1 : IntKind.i64.wrap (256 * z1) = 256 * z1 := IntWalk.i64_in _ (by omega)
    have hsum2 : IntKind.i64.wrap (65536 * z2) = 65536 * z2 := IntWalk.i64_in _ (by omega)
    have hsum3 : IntKind.i64.wrap (z0 + 256 * z1) = z0 + 256 * z1 := IntWalk.i64_in _ (by omega)
    have hsum4 : IntKind.i64.wrap (z0 + 256 * z1 + 65536 * z2) = (U : Int) := by rw [hU]; exact IntWalk.i64_in _ (by omega)
    have hUl : U < 16777216 := by omega
    have j0 : 0 < L := by omega
    have j1 : (1 : Int) < (L : Int) := by omega
    have j2 : (2 : Int) < (L : Int) := by omega
    have j3 : 1 < L := by omega
    have j4 : 2 < L := by omega
    have j5 : (0 : Int) < (L : Int) := by omega
    have HU := Lib.hid hUd; clear hUd hU
    have Hfit := Lib.hid hfit; clear hfit
    have Hzs := Lib.hid hzs; clear hzs
    have Hcx := Lib.hid hcx; clear hcx hcx1
    clear h3
    go_enter Try.func16, Try.ntmps16
    go_wp2_with fail
    rw [← hw1]
    clear hw1
    refine wp_region_quiet_below (by kernel_rfl) (by kernel_rfl) ?_
    repeat (go_big_quiet_step (fail))
    refine wpQuiet_nil ?_
    intro wq hwq
    have bk : Below w1.heap.size w1 wq := by obtain ⟨q, rfl⟩ := hwq; exact below_regrown _ _ _
    clear hwq x0 x1 x2
    have hb := Hb.out.trans (bk.mono Hb.out.size)
    have z := (bk.block _ (Array.getElem?_eq_some_iff.1 Z.out).1).trans Z.out
    have hgt := bk.size
    rw [S1.out] at hgt
    clear Hb Z bk S1
    have b2 := (Below.refl wq.heap.size wq).alloc (Nat.le_refl _) (.cells #[.int .i64 ((U : Int) % 8 + 1), .int .i64 ((U : Int) / 8), .int .u16 0, .int .u8 0, .int .u8 0, .int .u8 0, .int .u8 0, .bool false, .int .i64 0, .bool false, .int .i64 0] 34)
    have r2 := heap_alloc_new wq (.cells #[.int .i64 ((U : Int) % 8 + 1), .int .i64 ((U : Int) / 8), .int .u16 0, .int .u8 0, .int .u8 0, .int .u8 0, .int .u8 0, .bool false, .int .i64 0, .bool false, .int .i64 0] 34)
    obtain ⟨w2, hw2⟩ : ∃ w2, w2 = wq.alloc (.cells #[.int .i64 ((U : Int) % 8 + 1), .int .i64 ((U : Int) / 8), .int .u16 0, .int .u8 0, .int .u8 0, .int .u8 0, .int .u8 0, .bool false, .int .i64 0, .bool false, .int .i64 0] 34) := ⟨_, rfl⟩
    rw [← hw2] at b2 r2
    have hb2 := hb.trans (b2.mono hb.size)
    have z2 := (b2.block _ (Array.getElem?_eq_some_iff.1 z).1).trans z
    clear hb z b2
    obtain ⟨K, hK⟩ : ∃ K : Int, K = (U : Int) % 8 + 1 := ⟨_, rfl⟩
    obtain ⟨T, hT⟩ : ∃ T : Int, T = (U : Int) / 8 := ⟨_, rfl⟩
    have hst : DSt w w2 w.heap.size wq.heap.size ⟨K, T, 0, 0, 0, 0, 0, false, 0, false, 0⟩ := ⟨z2, by rw [hK, hT]; exact r2, hb2⟩
    clear z2 r2 hb2
    have hpar : parse zs = if maskedK K then (if zs.length < 5 then none else some (⟨K, T, (fromZ ((zs.drop 3).take 2) : Nat), 0, 0, 0, 0, false, 0, false, 0⟩, 5))
      else if keyedK K then
        if zs.length < 8 then none else
        if zs.length < 8 + (if (zs.getD 7 0).toNat % 2 = 1 then (zs.getD 7 0).toNat / 4 % 8 + 1 else 0) + (if (zs.getD 7 0).toNat / 2 % 2 = 1 then (zs.getD 7 0).toNat / 32 + 1 else 0) then none else
        some (⟨K, T, 0, zs.getD 3 0, zs.getD 4 0, zs.getD 5 0, zs.getD 6 0, decide ((zs.getD 7 0).toNat % 2 = 1), rvalAt (zs.drop 8) (if (zs.getD 7 0).toNat % 2 = 1 then (zs.getD 7 0).toNat / 4 % 8 + 1 else 0), decide ((zs.getD 7 0).toNat / 2 % 2 = 1), rvalAt (zs.drop (8 + (if (zs.getD 7 0).toNat % 2 = 1 then (zs.getD 7 0).toNat / 4 % 8 + 1 else 0))) (if (zs.getD 7 0).toNat / 2 % 2 = 1 then (zs.getD 7 0).toNat / 32 + 1 else 0)⟩,
          8 + (if (zs.getD 7 0).toNat % 2 = 1 then (zs.getD 7 0).toNat / 4 % 8 + 1 else 0) + (if (zs.getD 7 0).toNat / 2 % 2 = 1 then (zs.getD 7 0).toNat / 32 + 1 else 0))
      else some (⟨K, T, 0, 0, 0, 0, 0, false, 0, false, 0⟩, 3) := by
        unfold parse
        rw [if_neg (by omega), ← HU.out]
        have e1 : ((U % 8 : Nat) : Int) + 1 = K := by omega
        have e2 : ((U / 8 : Nat) : Int) = T := by omega
        simp only [e1, e2]
    have Hpar := Lib.hid hpar; clear hpar
    have Hst := Lib.hid hst; clear hst
    have HK := Lib.hid hK; clear hK
    have HT := Lib.hid hT; clear hT
    clear HU Hzs hz0 hz1 hz2 hsum1 hsum2 hsum3 hsum4
    go_upto_region 6 with fail
    rw [← hw2]
    clear hw2
    generalize wq.heap.size = g at *
    have x0 : w2.cell? ⟨g, 0, none⟩ = some (.int .i64 K) := cells_at Hst.out.r 0
    clear hUl
    go_cut [45] from 38 (fun s wx => s = .bool (decide (maskedK K)) ∧ wx = w2)
    case first => as_aux_lemma =>
      by_cases k1 : K = 2
      · have e1 : (K == 2) = true := by simpa using k1
        have hd := Lib.hid (decide_eq_true (show maskedK K from .inl k1))
        clear k1
        go_wp2_with fail
        go_meet
        exact ⟨by rw [hd.out], rfl⟩
      · by_cases k2 : K = 8
        · have e1 : (K == 2) = false := by simpa using k1
          have e2 : (K == 8) = true := by simpa using k2
          have hd := Lib.hid (decide_eq_true (show maskedK K from .inr k2))
          clear k1 k2
          go_wp2_with fail
          go_meet
          exact ⟨by rw [hd.out], rfl⟩
        · have e1 : (K == 2) = false := by simpa using k1
          have e2 : (K == 8) = false := by simpa using k2
          have hd := Lib.hid (decide_eq_false (show ¬ maskedK K by unfold maskedK; omega))
          clear k1 k2
          go_wp2_with fail
          go_meet
          exact ⟨by rw [hd.out], rfl⟩
    case rest =>
      obtain ⟨rfl, hwc⟩ := hcut
      subst hwc
      obtain ⟨w3, rfl⟩ : ∃ w3, w3 = wc := ⟨_, rfl⟩
      clear x0
      go_upto_if 45 with fail
      go_cut [3, 6] from 45 (fun s3 s wx => ∃ (m : Int) (n : Nat), s3 = .int .i64 0 ∧ s = .int .i64 (n : Int) ∧ DSt w wx w.heap.size g ⟨K, T, m, 0, 0, 0, 0, false, 0, false, 0⟩ ∧ n ≤ L ∧ (maskedK K → parse zs = some (⟨K, T, m, 0, 0, 0, 0, false, 0, false, 0⟩, n)) ∧ (¬ maskedK K → n = 3 ∧ m = 0))
      case first => as_aux_lemma =>
        by_cases hm : maskedK K
        case pos =>
          rw [decide_eq_true hm]
          by_cases h5 : L < 5
          case pos =>
            have d5 : decide ((L : Int) < 5) = true := decide_eq_true (by omega)
            have hp : parse zs = none := by rw [Hpar.out, if_pos hm, if_pos (by omega)]
            have hD := HD.out
            rw [hp] at hD
            clear HD Hpar hp
            have HD := Lib.hid hD; clear hD
            go_wp2_with (with_reducible refine stop_store 34 ?_)
            refine unpark ?_
            refine wpList_store_at rfl _ _ _ rfl w.heap.size 0 rfl _ rfl [.int .i64 0, .int .i64 0, .int .u16 0, .int .u8 0, .int .u8 0, .int .u8 0, .int .u8 0, .bool false, .int .i64 0, .bool false, .int .i64 0] rfl _ _ Hst.out.z 11 rfl (by decide) (by simp [Value.oneCell']) Try.sizeRec ?_
            intro wz hz hg _
            have zf : wz.heap[w.heap.size]? = some (.cells #[.int .i64 0, .int .i64 0, .int .u16 0, .int .u8 0, .int .u8 0, .int .u8 0, .int .u8 0, .bool false, .int .i64 0, .bool false, .int .i64 0] 34 (0, 0)) := hz
            have hm := Hst.out.bel.grown hg Hst.out.bel.size (fun k hk => by cases hk; exact Nat.le_refl _)
            clear Hst hz hg
            have ZF := Lib.hid zf; clear zf
            have HM := Lib.hid hm; clear hm
            go_wp2
            refine bodyPost_ret (results_row2 Try.results16 _ _ w.heap.size 34 _ _ _ rfl ZF.out Try.underlying34 rfl (by kernel_rfl)) rfl ?_
            exact ⟨by rw [HD.out]; rfl, HM.out⟩
          case neg =>
            have d5 : decide ((L : Int) < 5) = false := decide_eq_false (by omega)
            obtain ⟨hf2, hz3, hz4⟩ := from2 (zs := zs) (by omega) Hfit.out
            have hpz : parse zs = some (⟨K, T, (fromZ ((zs.drop 3).take 2) : Nat), 0, 0, 0, 0, false, 0, false, 0⟩, 5) := by rw [Hpar.out, if_pos hm, if_neg (by omega)]
            rw [hf2] at hpz
            clear hf2
            have hcx : ∀ i, i < L → w3.cell? ⟨gb, go_ + i, none⟩ = some (.int .u8 (zs.getD i 0)) := fun i hi => (Hst.out.bel.cell (p := ⟨gb, go_ + i, none⟩) (World.block_lt_of_cell? w _ (Hcx.out i hi))).trans (Hcx.out i hi)
            have x3 := hcx 3 (by omega)
            have x4 := hcx 4 (by omega)
            generalize zs.getD 3 0 = z3 at *
            generalize zs.getD 4 0 = z4 at *
            have fz := frozen_of_row w3 g 2 _ _ Hst.out.r
            have x2 : w3.cell? ⟨g, 2, none⟩ = some (.int .u16 0) := cells_at Hst.out.r 2
            have j3' : (3 : Int) < (L : Int) := by omega
            have j4' : (4 : Int) < (L : Int) := by omega
            have Hpz := Lib.hid hpz; clear hpz hcx
            have Hm := Lib.hid hm; clear hm
            have hsA : IntKind.u16.wrap (256 * z4) = 256 * z4 := by rw [IntKind.wrap_u16]; omega
            have hsB : IntKind.u16.wrap (z3 + 256 * z4) = z3 + 256 * z4 := by rw [IntKind.wrap_u16]; omega
            have hsC : IntKind.u16.wrap z3 = z3 := by rw [IntKind.wrap_u16]; omega
            have hsD : IntKind.u16.wrap z4 = z4 := by rw [IntKind.wrap_u16]; omega
            go_wp2_with fail
            go_still_tail 11, (by kernel_rfl)
            change wpList _ _ _ _ _ w3.drew
            have hst := Hst.out.step (below_drew w3)
            clear Hst x3 x4 x2 fz hsA hsB hsC hsD
            generalize w3.drew = wd at hst ⊢
            refine wpList_store_at rfl _ _ _ rfl g 2 rfl _ rfl [.int .u16 (z3 + 256 * z4)] rfl _ _ hst.r 1 rfl (by simp [Rc.cells]) (by simp [Value.oneCell']) Try.sizeU16 ?_
            intro w4 hz hg _
            have hs4 : DSt w w4 w.heap.size g ⟨K, T, z3 + 256 * z4, 0, 0, 0, 0, false, 0, false, 0⟩ := hst.row (by omega) (by omega) hz hg rfl
            clear hst hz hg
            have Hs4 := Lib.hid hs4; clear hs4
            have h5' : 5 ≤ L := by omega
            clear hz3 hz4
            go_wp2_with fail
            go_meet
            exact ⟨_, 5, rfl, rfl, Hs4.out, h5', fun _ => Hpz.out, fun h => absurd Hm.out h⟩
        case neg =>
          rw [decide_eq_false hm]
          have HM := Lib.hid hm; clear hm
          go_wp2_with fail
          go_meet
          exact ⟨0, 3, rfl, rfl, Hst.out, by omega, fun h => absurd h HM.out, fun _ => ⟨rfl, rfl⟩⟩
      case rest =>
        obtain ⟨m, n1, rfl, rfl, hst, hn1, hmk, hnm⟩ := hcut
        obtain ⟨w4, rfl⟩ : ∃ w4, w4 = wc := ⟨_, rfl⟩
        clear Hst
        have x0 : w4.cell? ⟨g, 0, none⟩ = some (.int .i64 K) := cells_at hst.r 0
        have Hst := Lib.hid hst; clear hst
        have Hmk := Lib.hid hmk; clear hmk
        have Hnm := Lib.hid hnm; clear hnm
        go_upto_region 11 with fail
        go_cut [68] from 61 (fun s wx => s = .bool (decide (keyedK K)) ∧ wx = w4)
        case first => as_aux_lemma =>
          by_cases k1 : K = 1
          · have e1 : (K == 1) = true := by simpa using k1
            have hd := Lib.hid (decide_eq_true (show keyedK K from .inl k1))
            clear k1
            go_wp2_with fail
            go_meet
            exact ⟨by rw [hd.out], rfl⟩
          · by_cases k2 : K = 7
            · have e1 : (K == 1) = false := by simpa using k1
              have e2 : (K == 7) = true := by simpa using k2
              have hd := Lib.hid (decide_eq_true (show keyedK K from .inr k2))
              clear k1 k2
              go_wp2_with fail
              go_meet
              exact ⟨by rw [hd.out], rfl⟩
            · have e1 : (K == 1) = false := by simpa using k1
              have e2 : (K == 7) = false := by simpa using k2
              have hd := Lib.hid (decide_eq_false (show ¬ keyedK K by unfold keyedK; omega))
              clear k1 k2
              go_wp2_with fail
              go_meet
              exact ⟨by rw [hd.out], rfl⟩
        case rest =>
          obtain ⟨rfl, hwc⟩ := hcut
          subst hwc
          obtain ⟨w5, rfl⟩ : ∃ w5, w5 = wc := ⟨_, rfl⟩
          clear x0
          go_upto_if 68 with fail
          go_cut [3, 6, 7, 8, 9] from 68 (fun s3 s _ _ _ wx => ∃ (r : Rc) (n : Nat), s3 = .int .i64 0 ∧ s = .int .i64 (n : Int) ∧ DSt w wx w.heap.size g r ∧ n ≤ L ∧ parse zs = some (r, n))
          case first => as_aux_lemma =>
            by_cases hy : keyedK K
            case neg =>
              rw [decide_eq_false hy]
              have HY := Lib.hid hy; clear hy
              have hcx : ∀ (P : Prop), P → True := fun _ _ => trivial
              clear hcx
              by_cases hm : maskedK K
              · have hpz := Hmk.out hm
                have Hpz := Lib.hid hpz; clear hpz hm
                go_wp2_with fail
                go_meet
                exact ⟨_, n1, rfl, rfl, Hst.out, hn1, Hpz.out⟩
              · obtain ⟨e1, e2⟩ := Hnm.out hm
                have hpz : parse zs = some (⟨K, T, m, 0, 0, 0, 0, false, 0, false, 0⟩, n1) := by rw [Hpar.out, if_neg hm, if_neg HY.out, e1, e2]
                have Hpz := Lib.hid hpz; clear hpz hm e1 e2
                go_wp2_with fail
                go_meet
                exact ⟨_, n1, rfl, rfl, Hst.out, hn1, Hpz.out⟩
            case pos =>
              rw [decide_eq_true hy]
              have hm : ¬ maskedK K := by unfold maskedK; unfold keyedK at hy; omega
              obtain ⟨e1, e2⟩ := Hnm.out hm
              subst e1 e2
              have hp1 := Hpar.out
              rw [if_neg hm, if_pos hy] at hp1
              clear Hpar Hmk Hnm hm hy
              have Hpar := Lib.hid hp1; clear hp1
              by_cases h8 : L < 8
              case pos =>
                have d8 : decide ((L : Int) < 8) = true := decide_eq_true (by omega)
                have hp : parse zs = none := by rw [Hpar.out, if_pos (by omega)]
                have hD := HD.out
                rw [hp] at hD
                clear HD Hpar hp
                have HD := Lib.hid hD; clear hD
                go_wp2_with (with_reducible refine stop_store 34 ?_)
                refine unpark ?_
                refine wpList_store_at rfl _ _ _ rfl w.heap.size 0 rfl _ rfl [.int .i64 0, .int .i64 0, .int .u16 0, .int .u8 0, .int .u8 0, .int .u8 0, .int .u8 0, .bool false, .int .i64 0, .bool false, .int .i64 0] rfl _ _ Hst.out.z 11 rfl (by decide) (by simp [Value.oneCell']) Try.sizeRec ?_
                intro wz hz hg _
                have zf : wz.heap[w.heap.size]? = some (.cells #[.int .i64 0, .int .i64 0, .int .u16 0, .int .u8 0, .int .u8 0, .int .u8 0, .int .u8 0, .bool false, .int .i64 0, .bool false, .int .i64 0] 34 (0, 0)) := hz
                have hm := Hst.out.bel.grown hg Hst.out.bel.size (fun k hk => by cases hk; exact Nat.le_refl _)
                clear Hst hz hg
                have ZF := Lib.hid zf; clear zf
                have HM := Lib.hid hm; clear hm
                go_wp2
                refine bodyPost_ret (results_row2 Try.results16 _ _ w.heap.size 34 _ _ _ rfl ZF.out Try.underlying34 rfl (by kernel_rfl)) rfl ?_
                exact ⟨by rw [HD.out]; rfl, HM.out⟩
              case neg =>
                have d8 : decide ((L : Int) < 8) = false := decide_eq_false (by omega)
                have hp1 := Hpar.out
                rw [if_neg (by omega)] at hp1
                have hz := fun i (hi : i < L) => Hfit.out (zs.getD i 0) (by rw [List.getD_eq_getElem?_getD, List.getElem?_eq_getElem (by omega)]; exact List.getElem_mem _)
                have hz3 := hz 3 (by omega)
                have hz4 := hz 4 (by omega)
                have hz5 := hz 5 (by omega)
                have hz6 := hz 6 (by omega)
                have hz7 := hz 7 (by omega)
                have hcx : ∀ i, i < L → w5.cell? ⟨gb, go_ + i, none⟩ = some (.int .u8 (zs.getD i 0)) := fun i hi => (Hst.out.bel.cell (p := ⟨gb, go_ + i, none⟩) (World.block_lt_of_cell? w _ (Hcx.out i hi))).trans (Hcx.out i hi)
                have x3 := hcx 3 (by omega)
                have x4 := hcx 4 (by omega)
                have x5 := hcx 5 (by omega)
                have x6 := hcx 6 (by omega)
                have x7 := Hcx.out 7 (by omega)
                clear hcx hz
                generalize zs.getD 3 0 = z3 at *
                generalize zs.getD 4 0 = z4 at *
                generalize zs.getD 5 0 = z5 at *
                generalize zs.getD 6 0 = z6 at *
                generalize zs.getD 7 0 = F at *
                clear Hpar
                have Hpar := Lib.hid hp1; clear hp1
                have Hx7 := Lib.hid x7; clear x7
                have J3 : (3 : Int) < (L : Int) := by omega
                have J4 : (4 : Int) < (L : Int) := by omega
                have J5 : (5 : Int) < (L : Int) := by omega
                have J6 : (6 : Int) < (L : Int) := by omega
                have J7 : (7 : Int) < (L : Int) := by omega
                go_wp2_with fail
                refine wp_region_free [0, 1, 2, 3, 4, 5, 6, 7, 8, 9, 10, 11, 12, 13, 14] (by kernel_rfl) (by kernel_rfl) rfl (by kernel_rfl) (fun _ _ _ h => by obtain ⟨_, h, _⟩ := h; cases h) (fun _ _ h => by obtain ⟨h, _⟩ := h; cases h) ?_
                have hbk := below_drew w5
                have hst := Hst.out.step hbk
                generalize w5.drew = wd at hst hbk ⊢
                have X3 := (hbk.cell (World.block_lt_of_cell? _ _ x3)).trans x3
                have X4 := (hbk.cell (World.block_lt_of_cell? _ _ x4)).trans x4
                have X5 := (hbk.cell (World.block_lt_of_cell? _ _ x5)).trans x5
                have X6 := (hbk.cell (World.block_lt_of_cell? _ _ x6)).trans x6
                clear Hst x3 x4 x5 x6 hbk
                have Hst := Lib.hid hst; clear hst
                simp only [List.map_cons, List.map_nil, List.getD_cons_zero, List.getD_cons_succ]
                go_wp2_with (with_reducible refine stop_store 30 ?_)
                refine unpark ?_
                have hst := Hst.out
                clear Hst X3 X4 X5 X6
                refine wpList_store_at rfl _ _ _ rfl g 3 rfl _ rfl [.int .u8 z3, .int .u8 z4, .int .u8 z5, .int .u8 z6] rfl _ _ hst.r 4 rfl (by simp [Rc.cells]) (by simp [Value.oneCell']) Try.sizeKey ?_
                intro w6 hz hg _
                have hs6 : DSt w w6 w.heap.size g ⟨K, T, 0, z3, z4, z5, z6, false, 0, false, 0⟩ := hst.row (by omega) (by omega) hz hg rfl
                clear hst hz hg hz3 hz4 hz5 hz6
                have x7 := (hs6.bel.cell (p := ⟨gb, go_ + 7, none⟩) (World.block_lt_of_cell? w _ Hx7.out)).trans Hx7.out
                have Hs6 := Lib.hid hs6; clear hs6 Hx7
                go_upto_region 17 with fail
                clear x7
                by_cases o1 : F % 2 = 1
                case pos =>
                  have e1 : (F % 2 == 1) = true := by simpa using o1
                  have f1 : F.toNat % 2 = 1 := by omega
                  obtain ⟨la, hla⟩ : ∃ la : Nat, F / 4 % 8 + 1 = (la : Int) := ⟨(F / 4 % 8 + 1).toNat, by omega⟩
                  have f2 : F.toNat / 4 % 8 + 1 = la := by omega
                  have hp2 := Hpar.out
                  simp only [if_pos f1, f2, decide_eq_true f1] at hp2
                  clear Hpar f1 f2
                  have hla8 : 1 ≤ la ∧ la ≤ 8 := by omega
                  have Hpar := Lib.hid hp2; clear hp2 o1
                  by_cases l1 : L < 8 + la
                  case pos =>
                    have d1 : decide ((L : Int) < 8 + (la : Int)) = true := decide_eq_true (by omega)
                    have hp : parse zs = none := by rw [Hpar.out, if_pos (by omega)]
                    have hD := HD.out
                    rw [hp] at hD
                    clear HD Hpar hp
                    have HD := Lib.hid hD; clear hD
                    go_wp2_with (with_reducible refine stop_store 34 ?_)
                    refine unpark ?_
                    refine wpList_store_at rfl _ _ _ rfl w.heap.size 0 rfl _ rfl [.int .i64 0, .int .i64 0, .int .u16 0, .int .u8 0, .int .u8 0, .int .u8 0, .int .u8 0, .bool false, .int .i64 0, .bool false, .int .i64 0] rfl _ _ Hs6.out.z 11 rfl (by decide) (by simp [Value.oneCell']) Try.sizeRec ?_
                    intro wz hz hg _
                    have zf : wz.heap[w.heap.size]? = some (.cells #[.int .i64 0, .int .i64 0, .int .u16 0, .int .u8 0, .int .u8 0, .int .u8 0, .int .u8 0, .bool false, .int .i64 0, .bool false, .int .i64 0] 34 (0, 0)) := hz
                    have hm := Hs6.out.bel.grown hg Hs6.out.bel.size (fun k hk => by cases hk; exact Nat.le_refl _)
                    clear Hs6 hz hg
                    have ZF := Lib.hid zf; clear zf
                    have HM := Lib.hid hm; clear hm
                    go_wp2
                    refine bodyPost_ret (results_row2 Try.results16 _ _ w.heap.size 34 _ _ _ rfl ZF.out Try.underlying34 rfl (by kernel_rfl)) rfl ?_
                    exact ⟨by rw [HD.out]; rfl, HM.out⟩
                  case neg =>
                    have d1 : decide ((L : Int) < 8 + (la : Int)) = false := decide_eq_false (by omega)
                    have hpp := Hpar.out
                    clear Hpar

                    have hnum := Rnumber_calls (Hx.out.keep (Hs6.out.bel)) (p := 8) (n := la) ⟨by omega, by omega⟩ (by omega)
                    generalize rvalAt (zs.drop (8)) la = v1 at *
                    have hnum' : Calls Try.prog 35 #[.slice (some ⟨gb, go_, none⟩) L c, .int .i64 (8), .int .i64 (la : Int)] w6 fun e w' => e = .returned (.int .i64 v1) ∧ w' = w6 := hnum
                    clear hnum
                    have Hnum := Lib.hid hnum'; clear hnum'
                    go_wp2_with fail
                    refine Hnum.out.mono ?_
                    rintro e wn ⟨rfl, rfl⟩
                    clear Hnum
                    go_wp2_with (with_reducible refine stop_store 32 ?_)
                    refine unpark ?_
                    refine wpList_store_at rfl _ _ _ rfl g 7 rfl _ rfl [.bool true, .int .i64 v1] rfl _ _ Hs6.out.r 2 rfl (by simp [Rc.cells]) (by simp [Value.oneCell']) Try.sizeVal ?_
                    intro w7 hz hg _
                    have hs : DSt w w7 w.heap.size g ⟨K, T, 0, z3, z4, z5, z6, true, v1, false, 0⟩ := Hs6.out.row (by omega) (by omega) hz hg rfl
                    clear hz hg Hs6
                    have Hs7 := Lib.hid hs; clear hs
                    have Hpar := Lib.hid hpp; clear hpp
                    go_upto_region 23 with fail
                    clear hla d1 e1
                    by_cases o2 : F / 2 % 2 = 1
                    case pos =>
                      have e2 : (F / 2 % 2 == 1) = true := by simpa using o2
                      have f2 : F.toNat / 2 % 2 = 1 := by omega
                      obtain ⟨lb, hlb⟩ : ∃ lb : Nat, F / 32 + 1 = (lb : Int) := ⟨(F / 32 + 1).toNat, by omega⟩
                      have f3 : F.toNat / 32 + 1 = lb := by omega
                      have hp2 := Hpar.out
                      simp only [if_pos f2, f3, decide_eq_true f2] at hp2
                      clear Hpar f2 f3
                      have hlb8 : 1 ≤ lb ∧ lb ≤ 8 := by omega
                      have Hpar := Lib.hid hp2; clear hp2 o2
                      by_cases l2 : L < 8 + la + lb
                      case pos =>
                        have d2 : decide ((L : Int) < 8 + (la : Int) + (lb : Int)) = true := decide_eq_true (by omega)
                        have hp : parse zs = none := by rw [Hpar.out, if_pos (by omega)]
                        have hD := HD.out
                        rw [hp] at hD
                        clear HD Hpar hp
                        have HD := Lib.hid hD; clear hD
                        go_wp2_with (with_reducible refine stop_store 34 ?_)
                        refine unpark ?_
                        refine wpList_store_at rfl _ _ _ rfl w.heap.size 0 rfl _ rfl [.int .i64 0, .int .i64 0, .int .u16 0, .int .u8 0, .int .u8 0, .int .u8 0, .int .u8 0, .bool false, .int .i64 0, .bool false, .int .i64 0] rfl _ _ Hs7.out.z 11 rfl (by decide) (by simp [Value.oneCell']) Try.sizeRec ?_
                        intro wz hz hg _
                        have zf : wz.heap[w.heap.size]? = some (.cells #[.int .i64 0, .int .i64 0, .int .u16 0, .int .u8 0, .int .u8 0, .int .u8 0, .int .u8 0, .bool false, .int .i64 0, .bool false, .int .i64 0] 34 (0, 0)) := hz
                        have hm := Hs7.out.bel.grown hg Hs7.out.bel.size (fun k hk => by cases hk; exact Nat.le_refl _)
                        clear Hs7 hz hg
                        have ZF := Lib.hid zf; clear zf
                        have HM := Lib.hid hm; clear hm
                        go_wp2
                        refine bodyPost_ret (results_row2 Try.results16 _ _ w.heap.size 34 _ _ _ rfl ZF.out Try.underlying34 rfl (by kernel_rfl)) rfl ?_
                        exact ⟨by rw [HD.out]; rfl, HM.out⟩
                      case neg =>
                        have d2 : decide ((L : Int) < 8 + (la : Int) + (lb : Int)) = false := decide_eq_false (by omega)
                        have hpz := Hpar.out
                        rw [if_neg (by omega)] at hpz
                        clear Hpar

                        have hnum := Rnumber_calls (Hx.out.keep (Hs7.out.bel)) (p := 8 + la) (n := lb) ⟨by omega, by omega⟩ (by omega)
                        generalize rvalAt (zs.drop (8 + la)) lb = v2 at *
                        have hnum' : Calls Try.prog 35 #[.slice (some ⟨gb, go_, none⟩) L c, .int .i64 (8 + (la : Int)), .int .i64 (lb : Int)] w7 fun e w' => e = .returned (.int .i64 v2) ∧ w' = w7 := hnum
                        clear hnum
                        have Hnum := Lib.hid hnum'; clear hnum'
                        go_wp2_with fail
                        refine Hnum.out.mono ?_
                        rintro e wn ⟨rfl, rfl⟩
                        clear Hnum
                        go_wp2_with (with_reducible refine stop_store 32 ?_)
                        refine unpark ?_
                        refine wpList_store_at rfl _ _ _ rfl g 9 rfl _ rfl [.bool true, .int .i64 v2] rfl _ _ Hs7.out.r 2 rfl (by simp [Rc.cells]) (by simp [Value.oneCell']) Try.sizeVal ?_
                        intro w8 hz hg _
                        have hs : DSt w w8 w.heap.size g ⟨K, T, 0, z3, z4, z5, z6, true, v1, true, v2⟩ := Hs7.out.row (by omega) (by omega) hz hg rfl
                        clear hz hg Hs7
                        have Hs8 := Lib.hid hs; clear hs
                        have Hpz := Lib.hid hpz; clear hpz
                        have hfin : 8 + la + lb ≤ L := by omega
                        go_wp2_with fail
                        go_meet
                        exact ⟨_, 8 + la + lb, rfl, rfl, Hs8.out, hfin, Hpz.out⟩
                    case neg =>
                      have e2 : (F / 2 % 2 == 1) = false := by simpa using o2
                      have f2 : ¬ F.toNat / 2 % 2 = 1 := by omega
                      have hp2 := Hpar.out
                      simp only [if_neg f2, decide_eq_false f2] at hp2
                      rw [if_neg (by omega)] at hp2
                      clear Hpar f2
                      have Hpz := Lib.hid hp2; clear hp2 o2
                      have hfin : 8 + la ≤ L := by omega
                      go_wp2_with fail
                      go_meet
                      exact ⟨_, 8 + la, rfl, rfl, Hs7.out, hfin, Hpz.out⟩
                case neg =>
                  have e1 : (F % 2 == 1) = false := by simpa using o1
                  have f1 : ¬ F.toNat % 2 = 1 := by omega
                  have hp2 := Hpar.out
                  simp only [if_neg f1, decide_eq_false f1, Nat.add_zero] at hp2
                  rw [show rvalAt (zs.drop 8) 0 = 0 from rfl] at hp2
                  clear Hpar f1
                  have Hpar := Lib.hid hp2; clear hp2 o1
                  go_upto_region 23 with fail
                  clear e1
                  by_cases o2 : F / 2 % 2 = 1
                  case pos =>
                    have e2 : (F / 2 % 2 == 1) = true := by simpa using o2
                    have f2 : F.toNat / 2 % 2 = 1 := by omega
                    obtain ⟨lb, hlb⟩ : ∃ lb : Nat, F / 32 + 1 = (lb : Int) := ⟨(F / 32 + 1).toNat, by omega⟩
                    have f3 : F.toNat / 32 + 1 = lb := by omega
                    have hp2 := Hpar.out
                    simp only [if_pos f2, f3, decide_eq_true f2] at hp2
                    clear Hpar f2 f3
                    have hlb8 : 1 ≤ lb ∧ lb ≤ 8 := by omega
                    have Hpar := Lib.hid hp2; clear hp2 o2
                    by_cases l2 : L < 8 + lb
                    case pos =>
                      have d2 : decide ((L : Int) < 8 + (lb : Int)) = true := decide_eq_true (by omega)
                      have hp : parse zs = none := by rw [Hpar.out, if_pos (by omega)]
                      have hD := HD.out
                      rw [hp] at hD
                      clear HD Hpar hp
                      have HD := Lib.hid hD; clear hD
                      go_wp2_with (with_reducible refine stop_store 34 ?_)
                      refine unpark ?_
                      refine wpList_store_at rfl _ _ _ rfl w.heap.size 0 rfl _ rfl [.int .i64 0, .int .i64 0, .int .u16 0, .int .u8 0, .int .u8 0, .int .u8 0, .int .u8 0, .bool false, .int .i64 0, .bool false, .int .i64 0] rfl _ _ Hs6.out.z 11 rfl (by decide) (by simp [Value.oneCell']) Try.sizeRec ?_
                      intro wz hz hg _
                      have zf : wz.heap[w.heap.size]? = some (.cells #[.int .i64 0, .int .i64 0, .int .u16 0, .int .u8 0, .int .u8 0, .int .u8 0, .int .u8 0, .bool false, .int .i64 0, .bool false, .int .i64 0] 34 (0, 0)) := hz
                      have hm := Hs6.out.bel.grown hg Hs6.out.bel.size (fun k hk => by cases hk; exact Nat.le_refl _)
                      clear Hs6 hz hg
                      have ZF := Lib.hid zf; clear zf
                      have HM := Lib.hid hm; clear hm
                      go_wp2
                      refine bodyPost_ret (results_row2 Try.results16 _ _ w.heap.size 34 _ _ _ rfl ZF.out Try.underlying34 rfl (by kernel_rfl)) rfl ?_
                      exact ⟨by rw [HD.out]; rfl, HM.out⟩
                    case neg =>
                      have d2 : decide ((L : Int) < 8 + (lb : Int)) = false := decide_eq_false (by omega)
                      have hpz := Hpar.out
                      rw [if_neg (by omega)] at hpz
                      clear Hpar

                      have hnum := Rnumber_calls (Hx.out.keep (Hs6.out.bel)) (p := 8) (n := lb) ⟨by omega, by omega⟩ (by omega)
                      generalize rvalAt (zs.drop (8)) lb = v2 at *
                      have hnum' : Calls Try.prog 35 #[.slice (some ⟨gb, go_, none⟩) L c, .int .i64 (8), .int .i64 (lb : Int)] w6 fun e w' => e = .returned (.int .i64 v2) ∧ w' = w6 := hnum
                      clear hnum
                      have Hnum := Lib.hid hnum'; clear hnum'
                      go_wp2_with fail
                      refine Hnum.out.mono ?_
                      rintro e wn ⟨rfl, rfl⟩
                      clear Hnum
                      go_wp2_with (with_reducible refine stop_store 32 ?_)
                      refine unpark ?_
                      refine wpList_store_at rfl _ _ _ rfl g 9 rfl _ rfl [.bool true, .int .i64 v2] rfl _ _ Hs6.out.r 2 rfl (by simp [Rc.cells]) (by simp [Value.oneCell']) Try.sizeVal ?_
                      intro w8 hz hg _
                      have hs : DSt w w8 w.heap.size g ⟨K, T, 0, z3, z4, z5, z6, false, 0, true, v2⟩ := Hs6.out.row (by omega) (by omega) hz hg rfl
                      clear hz hg Hs6
                      have Hs8 := Lib.hid hs; clear hs
                      have Hpz := Lib.hid hpz; clear hpz
                      have hfin : 8 + lb ≤ L := by omega
                      go_wp2_with fail
                      go_meet
                      exact ⟨_, 8 + lb, rfl, rfl, Hs8.out, hfin, Hpz.out⟩
                  case neg =>
                    have e2 : (F / 2 % 2 == 1) = false := by simpa using o2
                    have f2 : ¬ F.toNat / 2 % 2 = 1 := by omega
                    have hp2 := Hpar.out
                    simp only [if_neg f2, decide_eq_false f2] at hp2
                    rw [if_neg (by omega)] at hp2
                    clear Hpar f2
                    have Hpz := Lib.hid hp2; clear hp2 o2
                    have hfin : 8 ≤ L := by omega
                    go_wp2_with fail
                    go_meet
                    exact ⟨_, 8, rfl, rfl, Hs6.out, hfin, Hpz.out⟩
          case rest =>
            obtain ⟨r, n, rfl, rfl, hst, hn, hpz⟩ := hcut
            obtain ⟨w6, rfl⟩ : ∃ w6, w6 = wc := ⟨_, rfl⟩
            have hok := parse_ok Hfit.out hpz
            have hD := HD.out
            rw [hpz] at hD
            clear HD Hpar Hmk Hnm Hst hpz Hfit
            have hD : D = if rightRc r = true ∧ enc r = zs.take n then (r, n) else (noRc, 0) := hD
            have hen := fun w : World => REncode_calls (w := w) r hok
            obtain ⟨k, t, m, k0, k1, k2, k3, ot, o, nt, n_⟩ := r
            simp only [Rc.cells] at hen
            clear hok
            have q0 : w6.cell? ⟨g, 0, none⟩ = some (.int .i64 k) := cells_at hst.r 0
            have q1 : w6.cell? ⟨g, 1, none⟩ = some (.int .i64 t) := cells_at hst.r 1
            have q2 : w6.cell? ⟨g, 2, none⟩ = some (.int .u16 m) := cells_at hst.r 2
            have q3 : w6.cell? ⟨g, 3, none⟩ = some (.int .u8 k0) := cells_at hst.r 3
            have q4 : w6.cell? ⟨g, 4, none⟩ = some (.int .u8 k1) := cells_at hst.r 4
            have q5 : w6.cell? ⟨g, 5, none⟩ = some (.int .u8 k2) := cells_at hst.r 5
            have q6 : w6.cell? ⟨g, 6, none⟩ = some (.int .u8 k3) := cells_at hst.r 6
            have q7 : w6.cell? ⟨g, 7, none⟩ = some (.bool ot) := cells_at hst.r 7
            have q8 : w6.cell? ⟨g, 8, none⟩ = some (.int .i64 o) := cells_at hst.r 8
            have q9 : w6.cell? ⟨g, 9, none⟩ = some (.bool nt) := cells_at hst.r 9
            have q10 : w6.cell? ⟨g, 10, none⟩ = some (.int .i64 n_) := cells_at hst.r 10
            have Hst := Lib.hid hst; clear hst
            have Hen := Lib.hid hen; clear hen
            have HD := Lib.hid hD; clear hD
            go_wp2_with fail
            clear q0 q1 q2 q3 q4 q5 q6 q7 q8 q9 q10
            refine (Hen.out _).mono ?_
            rintro e w7 ⟨v, rfl, own, bk⟩
            have hst := Hst.out.step bk
            clear Hst Hen bk
            have hx7 := Hx.out.keep hst.bel
            cases hr : rightRc ⟨k, t, m, k0, k1, k2, k3, ot, o, nt, n_⟩ with
            | false =>
              have hD := HD.out
              rw [hr, if_neg (by rintro ⟨h, -⟩; cases h)] at hD
              clear HD own hx7 hr
              have HD := Lib.hid hD; clear hD
              have Hst := Lib.hid hst; clear hst
              go_wp2_with (with_reducible refine stop_store 34 ?_)
              refine unpark ?_
              refine wpList_store_at rfl _ _ _ rfl w.heap.size 0 rfl _ rfl [.int .i64 0, .int .i64 0, .int .u16 0, .int .u8 0, .int .u8 0, .int .u8 0, .int .u8 0, .bool false, .int .i64 0, .bool false, .int .i64 0] rfl _ _ Hst.out.z 11 rfl (by decide) (by simp [Value.oneCell']) Try.sizeRec ?_
              intro wz hz hg _
              have zf : wz.heap[w.heap.size]? = some (.cells #[.int .i64 0, .int .i64 0, .int .u16 0, .int .u8 0, .int .u8 0, .int .u8 0, .int .u8 0, .bool false, .int .i64 0, .bool false, .int .i64 0] 34 (0, 0)) := hz
              have hm := Hst.out.bel.grown hg Hst.out.bel.size (fun k hk => by cases hk; exact Nat.le_refl _)
              clear Hst hz hg
              have ZF := Lib.hid zf; clear zf
              have HM := Lib.hid hm; clear hm
              go_wp2
              refine bodyPost_ret (results_row2 Try.results16 _ _ w.heap.size 34 _ _ _ rfl ZF.out Try.underlying34 rfl (by kernel_rfl)) rfl ?_
              exact ⟨by rw [HD.out]; rfl, HM.out⟩
            | true =>
              rw [hr] at own
              rw [if_pos rfl] at own
              obtain ⟨va, vc, rfl, vi, -⟩ := own.ints
              have heq := SameBytes_calls vi (hx7.take n hn)
              have hD := HD.out
              have hnc : (n : Int) ≤ (c : Int) := by omega
              have hn0 : (0 : Int) ≤ (n : Int) := by omega
              have Hst := Lib.hid hst; clear hst
              clear HD own hx7
              by_cases hq : enc ⟨k, t, m, k0, k1, k2, k3, ot, o, nt, n_⟩ = zs.take n
              · rw [if_pos ⟨hr, hq⟩] at hD
                rw [decide_eq_true hq] at heq
                have HD := Lib.hid hD; clear hD
                have Heq := Lib.hid heq; clear heq vi hq hr
                go_wp2_with fail
                refine Heq.out.mono ?_
                rintro e w8 ⟨rfl, nd, hw8⟩
                have hst := Hst.out.step (by rw [hw8]; exact below_drawn w7 nd : Below w7.heap.size w7 w8)
                clear Hst Heq hw8
                have q0 : w8.cell? ⟨g, 0, none⟩ = some (.int .i64 k) := cells_at hst.r 0
                have q1 : w8.cell? ⟨g, 1, none⟩ = some (.int .i64 t) := cells_at hst.r 1
                have q2 : w8.cell? ⟨g, 2, none⟩ = some (.int .u16 m) := cells_at hst.r 2
                have q3 : w8.cell? ⟨g, 3, none⟩ = some (.int .u8 k0) := cells_at hst.r 3
                have q4 : w8.cell? ⟨g, 4, none⟩ = some (.int .u8 k1) := cells_at hst.r 4
                have q5 : w8.cell? ⟨g, 5, none⟩ = some (.int .u8 k2) := cells_at hst.r 5
                have q6 : w8.cell? ⟨g, 6, none⟩ = some (.int .u8 k3) := cells_at hst.r 6
                have q7 : w8.cell? ⟨g, 7, none⟩ = some (.bool ot) := cells_at hst.r 7
                have q8 : w8.cell? ⟨g, 8, none⟩ = some (.int .i64 o) := cells_at hst.r 8
                have q9 : w8.cell? ⟨g, 9, none⟩ = some (.bool nt) := cells_at hst.r 9
                have q10 : w8.cell? ⟨g, 10, none⟩ = some (.int .i64 n_) := cells_at hst.r 10
                have Hst := Lib.hid hst; clear hst
                go_wp2_with (with_reducible refine stop_store 34 ?_)
                refine unpark ?_
                refine wpList_store_at rfl _ _ _ rfl w.heap.size 0 rfl _ rfl [.int .i64 k, .int .i64 t, .int .u16 m, .int .u8 k0, .int .u8 k1, .int .u8 k2, .int .u8 k3, .bool ot, .int .i64 o, .bool nt, .int .i64 n_] rfl _ _ Hst.out.z 11 rfl (by decide) (by simp [Value.oneCell']) Try.sizeRec ?_
                intro wz hz hg _
                have zf : wz.heap[w.heap.size]? = some (.cells #[.int .i64 k, .int .i64 t, .int .u16 m, .int .u8 k0, .int .u8 k1, .int .u8 k2, .int .u8 k3, .bool ot, .int .i64 o, .bool nt, .int .i64 n_] 34 (0, 0)) := hz
                have hm := Hst.out.bel.grown hg Hst.out.bel.size (fun k hk => by cases hk; exact Nat.le_refl _)
                clear Hst hz hg
                have ZF := Lib.hid zf; clear zf
                have HM := Lib.hid hm; clear hm
                go_wp2
                refine bodyPost_ret (results_row2 Try.results16 _ _ w.heap.size 34 _ _ _ rfl ZF.out Try.underlying34 rfl (by kernel_rfl)) rfl ?_
                exact ⟨by rw [HD.out]; rfl, HM.out⟩
              · rw [if_neg (fun h => hq h.2)] at hD
                rw [decide_eq_false hq] at heq
                have HD := Lib.hid hD; clear hD
                have Heq := Lib.hid heq; clear heq vi hq hr
                go_wp2_with fail
                refine Heq.out.mono ?_
                rintro e w8 ⟨rfl, nd, hw8⟩
                have hst := Hst.out.step (by rw [hw8]; exact below_drawn w7 nd : Below w7.heap.size w7 w8)
                clear Hst Heq hw8
                have Hst := Lib.hid hst; clear hst
                go_wp2_with (with_reducible refine stop_store 34 ?_)
                refine unpark ?_
                refine wpList_store_at rfl _ _ _ rfl w.heap.size 0 rfl _ rfl [.int .i64 0, .int .i64 0, .int .u16 0, .int .u8 0, .int .u8 0, .int .u8 0, .int .u8 0, .bool false, .int .i64 0, .bool false, .int .i64 0] rfl _ _ Hst.out.z 11 rfl (by decide) (by simp [Value.oneCell']) Try.sizeRec ?_
                intro wz hz hg _
                have zf : wz.heap[w.heap.size]? = some (.cells #[.int .i64 0, .int .i64 0, .int .u16 0, .int .u8 0, .int .u8 0, .int .u8 0, .int .u8 0, .bool false, .int .i64 0, .bool false, .int .i64 0] 34 (0, 0)) := hz
                have hm := Hst.out.bel.grown hg Hst.out.bel.size (fun k hk => by cases hk; exact Nat.le_refl _)
                clear Hst hz hg
                have ZF := Lib.hid zf; clear zf
                have HM := Lib.hid hm; clear hm
                go_wp2
                refine bodyPost_ret (results_row2 Try.results16 _ _ w.heap.size 34 _ _ _ rfl ZF.out Try.underlying34 rfl (by kernel_rfl)) rfl ?_
                exact ⟨by rw [HD.out]; rfl, HM.out⟩
end Go.Proofs.Ytiaocfeafkgbaaa
