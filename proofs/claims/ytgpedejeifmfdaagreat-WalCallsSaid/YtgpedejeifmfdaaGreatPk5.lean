/- word.Pack. -/
import Derived.Test.YtgpedejeifmfdaaGreatRound
import Derived.Test.YtgpedejeifmfdaaGreatPk4
import Derived.Test.YtgpedejeifmfdaaGreatPk2
namespace Go.Proofs.YtgpedejeifmfdaaGreat
open Go.RowKit Go.Shelf
attribute [local go_sem] Oper.semAt_some

attribute [local go_sem] Oper.semAt_some
def packV : List Int → List Int → Nat
  | k :: ws, v :: vs => v.toNat + 2 ^ k.toNat * packV ws vs
  | _, _ => 0
def fitB (k v : Int) : Bool := decide (0 ≤ v ∧ v < 2 ^ k.toNat)
def okV (ws vs : List Int) : Prop := ∀ j, j < ws.length → fitB (ws[j]?.getD 0) (vs[j]?.getD 0) = true
theorem cell_other (W : World) (b x : Nat) (v : Value) (h : x ≠ b) : (W.setCell ⟨b, 0, none⟩ v).cell? ⟨x, 0, none⟩ = W.cell? ⟨x, 0, none⟩ := by
  unfold World.cell?
  rw [heap_setCell_other W _ _ _ h]
theorem pack_step {ws vs : List Int} {n : Nat} (hr : rightS ws = true) (hl : ws.length = n) (hl2 : vs.length = n) {pre : List (Ix n)} {x : Ix n} {u W V : Nat} (hpl : pre.length < n)
    (hW : ws[x.1]?.getD 0 = (W : Int)) (hV : vs[x.1]?.getD 0 = (V : Int)) (hf : V < 2 ^ W)
    (hu : Idx n pre → u < 2 ^ (sumW (ws.drop (n - pre.length))).toNat ∧ u = packV (ws.drop (n - pre.length)) (vs.drop (n - pre.length))) (hi : Idx n (pre ++ [x])) :
    u * 2 ^ W % 2 ^ 64 + V < 2 ^ (sumW (ws.drop (n - (pre ++ [x]).length))).toNat ∧ u * 2 ^ W % 2 ^ 64 + V = packV (ws.drop (n - (pre ++ [x]).length)) (vs.drop (n - (pre ++ [x]).length)) := by
  obtain ⟨hp, hxv⟩ := idx_snoc hi
  obtain ⟨hu1, hu2⟩ := hu hp
  obtain ⟨hok, hsum⟩ := of_decide_eq_true hr
  rw [List.length_append, List.length_singleton]
  have hk : n - (pre.length + 1) < ws.length := by omega
  have hk2 : n - (pre.length + 1) < vs.length := by omega
  have hxk : x.1 = n - (pre.length + 1) := by omega
  have e1 : ws[n - (pre.length + 1)] = (W : Int) := by rw [hxk, List.getElem?_eq_getElem hk, Option.getD_some] at hW; exact hW
  have e2 : vs[n - (pre.length + 1)] = (V : Int) := by rw [hxk, List.getElem?_eq_getElem hk2, Option.getD_some] at hV; exact hV
  have hsp : sumW ws = sumW (ws.take (n - (pre.length + 1))) + sumW (ws.drop (n - (pre.length + 1))) := by rw [← sumW_append, List.take_append_drop]
  have ht := sumW_bound (ws := ws.take (n - (pre.length + 1))) fun y hy => hok y (List.mem_of_mem_take hy)
  have hd := sumW_bound (ws := ws.drop (n - pre.length)) fun y hy => hok y (List.mem_of_mem_drop hy)
  rw [List.drop_eq_getElem_cons hk, List.drop_eq_getElem_cons hk2, show n - (pre.length + 1) + 1 = n - pre.length by omega, e1, e2] at *
  have hs : sumW ((W : Int) :: ws.drop (n - pre.length)) = (W : Int) + sumW (ws.drop (n - pre.length)) := rfl
  show _ ∧ _ = (V : Int).toNat + 2 ^ (W : Int).toNat * packV (ws.drop (n - pre.length)) (vs.drop (n - pre.length))
  obtain ⟨S, hS⟩ : ∃ S : Nat, sumW (ws.drop (n - pre.length)) = (S : Int) := ⟨(sumW (ws.drop (n - pre.length))).toNat, by omega⟩
  rw [hS] at hu1 hs hd
  rw [← hu2, hs, Int.toNat_natCast, Int.toNat_natCast]
  have e3 : ((W : Int) + (S : Int)).toNat = S + W := by omega
  rw [e3]
  rw [Int.toNat_natCast] at hu1
  have h64 : S + W ≤ 64 := by omega
  have hle : (2 : Nat) ^ (S + W) ≤ 2 ^ 64 := Nat.pow_le_pow_right (by decide) h64
  have h5 : (u + 1) * 2 ^ W ≤ 2 ^ S * 2 ^ W := Nat.mul_le_mul_right _ hu1
  rw [Nat.pow_add] at hle ⊢
  rw [Nat.add_mul, Nat.one_mul] at h5
  have hm : u * 2 ^ W % 2 ^ 64 = u * 2 ^ W := Nat.mod_eq_of_lt (by omega)
  rw [hm, Nat.mul_comm (2 ^ W) u]
  omega
set_option maxRecDepth 100000 in
set_option maxHeartbeats 4000000 in
theorem Pack_in {w : World} {a b : Option Addr} {n c d : Nat} {ws vs : List Int} (hx : Ints w .i64 a n c ws) (hy : Ints w .i64 b n d vs) (hn : n ≤ 1000) (hr : rightS ws = true) :
    CallsIn Fence.wide 4 Tryz.prog 79 #[.slice a n c, .slice b n d] w fun e W' => (e = .returned (.tuple #[.int .u64 (packV ws vs : Nat), .bool true]) ∧ okV ws vs ∨ e = .returned (.tuple #[.int .u64 0, .bool false]) ∧ ¬ okV ws vs) ∧ Below w.heap.size w W' := by
  have hro : (Fence.wide).round = none := rfl
  have hI := RowB.of hx
  have hJ := RowB.of hy
  have hri := fun w' (hb : Below w.heap.size w w') => right_calls (hx.keep hb) hn
  rw [hr] at hri
  have hne : ((n : Int) != (n : Int)) = false := by simp
  have Hri := Lib.hid hri; clear hri
  refine callsIn_of_wp_marks Tryz.func79 rfl trivial ?_ hro
  simp only [Tryz.ntmps79, List.size_toArray, List.length_cons, List.length_nil, Nat.reduceAdd, Nat.reduceSub, Array.replicate_succ, Array.replicate_zero, List.push_toArray, List.append_toArray, List.nil_append, List.cons_append]
  gi_wp2_with first
    | (refine ⟨trivial, ?_⟩; gi_at_call 104; refine (callsIn_wide.2 (Hri.out _ (by exact (((Below.refl _ w).alloc (Nat.le_refl _) _).alloc (by simp) _).alloc (by simp; omega) _))).mono ?_; rintro e w' ⟨rfl, rfl⟩)
    | (refine ⟨trivial, ?_⟩; gi_at_call 105; refine (backI_mk_in Fence.wide 3 trivial hro _ _ _ _).mono ?_; rintro e w' ⟨rfl, rfl⟩)
  have hB0 : Below w.heap.size w (((((w.alloc (.cells #[.slice a n c] 125)).alloc (.cells #[.int .u64 0] 122)).alloc (.cells #[.bool false] 4)).alloc (.cells #[.int .u64 0] 122)).alloc (.cells #[.slice b n d] 125)) := (((((Below.refl _ w).alloc (Nat.le_refl _) _).alloc (by simp) _).alloc (by simp; omega) _).alloc (by simp; omega) _).alloc (by simp; omega) _
  have b0 := ((((Boxed.new w 125 (.slice a n c)).alloc (.cells #[.int .u64 0] 122)).alloc (.cells #[.bool false] 4)).alloc (.cells #[.int .u64 0] 122)).alloc (.cells #[.slice b n d] 125)
  have b1 := (((Boxed.new (w.alloc (.cells #[.slice a n c] 125)) 122 (.int .u64 0)).alloc (.cells #[.bool false] 4)).alloc (.cells #[.int .u64 0] 122)).alloc (.cells #[.slice b n d] 125)
  have b2 := ((Boxed.new ((w.alloc (.cells #[.slice a n c] 125)).alloc (.cells #[.int .u64 0] 122)) 4 (.bool false)).alloc (.cells #[.int .u64 0] 122)).alloc (.cells #[.slice b n d] 125)
  have b3 := (Boxed.new (((w.alloc (.cells #[.slice a n c] 125)).alloc (.cells #[.int .u64 0] 122)).alloc (.cells #[.bool false] 4)) 122 (.int .u64 0)).alloc (.cells #[.slice b n d] 125)
  have b4 := Boxed.new ((((w.alloc (.cells #[.slice a n c] 125)).alloc (.cells #[.int .u64 0] 122)).alloc (.cells #[.bool false] 4)).alloc (.cells #[.int .u64 0] 122)) 125 (.slice b n d)
  simp only [World.size_alloc] at b1 b2 b3 b4
  have hWs : (((((w.alloc (.cells #[.slice a n c] 125)).alloc (.cells #[.int .u64 0] 122)).alloc (.cells #[.bool false] 4)).alloc (.cells #[.int .u64 0] 122)).alloc (.cells #[.slice b n d] 125)).heap.size = w.heap.size + 5 := by simp
  generalize (((((w.alloc (.cells #[.slice a n c] 125)).alloc (.cells #[.int .u64 0] 122)).alloc (.cells #[.bool false] 4)).alloc (.cells #[.int .u64 0] 122)).alloc (.cells #[.slice b n d] 125)) = w0 at *
  have hl := hx.len
  have hl2 := hy.len
  have hmax := hy.max
  have hle := hy.le
  have hok : okW ws := (of_decide_eq_true hr).1
  refine wpIn_rangeFunc_ownG hro (by decide) (gf := 114) (lb := #[.pointer (some ⟨w.heap.size + 1 + 1 + 1 + 1, 0, none⟩)]) rfl trivial (enters_of Tryz.func114 (by kernel_rfl) rfl)
    (backI_stops Fence.wide 3 trivial hro (by decide) (w.heap.size + 1 + 1 + 1 + 1) w.heap.size b n d vs (by omega) w0 (by omega) (by omega) b4.cell (hJ.below hB0)) KpB.trans (KpB.put (by omega) (by omega)) (Below.refl _ _) (fun _ => rfl)
    (fun pre W => (∃ u : Nat, u < 2 ^ 64 ∧ (∀ x ∈ pre, fitB (ws[x.1]?.getD 0) (vs[x.1]?.getD 0) = true) ∧ (Idx n pre → u < 2 ^ (sumW (ws.drop (n - pre.length))).toNat ∧ u = packV (ws.drop (n - pre.length)) (vs.drop (n - pre.length))) ∧
      W.cell? ⟨w.heap.size, 0, none⟩ = some (.slice a n c) ∧ W.cell? ⟨w.heap.size + 1, 0, none⟩ = some (.int .u64 0) ∧ W.frozen? ⟨w.heap.size + 1, 0, none⟩ = false ∧ W.cell? ⟨w.heap.size + 1 + 1, 0, none⟩ = some (.bool false) ∧ W.frozen? ⟨w.heap.size + 1 + 1, 0, none⟩ = false ∧
      W.cell? ⟨w.heap.size + 1 + 1 + 1, 0, none⟩ = some (.int .u64 (u : Int)) ∧ W.frozen? ⟨w.heap.size + 1 + 1 + 1, 0, none⟩ = false) ∧ Below w.heap.size w W)
    (fun c pre W => (c = .ret ∧ (∃ x ∈ pre, fitB (ws[x.1]?.getD 0) (vs[x.1]?.getD 0) = false) ∧ W.cell? ⟨w.heap.size + 1, 0, none⟩ = some (.int .u64 0) ∧ W.cell? ⟨w.heap.size + 1 + 1, 0, none⟩ = some (.bool false)) ∧ Below w.heap.size w W)
    (OwnFrom.and (Own.from (fun s A B row hs hg hr => by
      obtain ⟨u, h1, h2, h3, h4, h5, h6, h7, h8, h9, h10⟩ := hs
      exact ⟨u, h1, h2, h3, cell_kept h4 hg hr, cell_kept h5 hg hr, (frozen_kept h5 hg hr).trans h6, cell_kept h7 hg hr, (frozen_kept h7 hg hr).trans h8, cell_kept h9 hg hr, (frozen_kept h9 hg hr).trans h10⟩) _) (ownFrom_below (Nat.le_refl _) (by omega)))
    (fun c => OwnFrom.and (Own.from (fun s A B row hs hg hr => ⟨hs.1, hs.2.1, cell_kept hs.2.2.1 hg hr, cell_kept hs.2.2.2 hg hr⟩) _) (ownFrom_below (Nat.le_refl _) (by omega)))
    ⟨⟨0, by decide, fun x hx => (by cases hx), fun _ => (by rw [List.length_nil, Nat.sub_zero, List.drop_of_length_le (by omega)]; exact ⟨by decide, rfl⟩), b0.cell, b1.cell, b1.frozen, b2.cell, b2.frozen, b3.cell, b3.frozen⟩, hB0⟩
    (fun x => { tmps := #[.slice a n c, .slice b n d, .pointer (some ⟨w.heap.size, 0, none⟩), undef, .pointer (some ⟨w.heap.size + 1, 0, none⟩), .pointer (some ⟨w.heap.size + 1 + 1, 0, none⟩), .pointer (some ⟨w.heap.size + 1 + 1 + 1, 0, none⟩), .int .i64 (x.1 : Int), .int .i64 (vs[x.1]?.getD 0),
      .slice a n c, .bool true, .bool false, .bool false, .slice b n d, .int .i64 n, .slice a n c, .int .i64 n, .bool false, .bool false, .slice b n d,
      .func (.func 114) #[] #[.pointer (some ⟨w.heap.size + 1 + 1 + 1 + 1, 0, none⟩)], .int .i64 (x.1 : Int), .int .i64 (vs[x.1]?.getD 0), undef, undef, undef, undef, undef, undef, undef, undef, undef, undef, undef, undef, undef, undef, undef, undef, undef, undef], defers := [] }) ?assign ?body ?done ?stop
  case assign =>
    intro l x W K hK
    dsimp only [valAt]
    gi_wp2
    exact hK
  case body =>
    rintro l pre x W ⟨⟨u, hu, hfp, hui, c0, c1, f1, c2, f2, c3, f3⟩, hB⟩ hpl
    have hxn := x.2
    obtain ⟨ba, oa, ha, hbl, hcs⟩ := (hI.below hB) (by omega)
    have hcx := hcs x.1 hxn
    have hmem : ws[x.1]?.getD 0 ∈ ws := by rw [List.getElem?_eq_getElem (by omega), Option.getD_some]; exact List.getElem_mem _
    have hkw := hok _ hmem
    obtain ⟨W1, hW1⟩ : ∃ W1 : Nat, ws[x.1]?.getD 0 = (W1 : Int) := ⟨(ws[x.1]?.getD 0).toNat, by omega⟩
    have hfx := hfp
    have hps := fun V (hV : vs[x.1]?.getD 0 = ((V : Nat) : Int)) (hf : V < 2 ^ W1) (hi : Idx n (pre ++ [x])) => pack_step hr hl hl2 hpl hW1 hV hf hui hi
    rw [hW1] at hcx hkw
    have HW1 := Lib.hid hW1; clear hW1 hmem hcs
    have hv64 := hy.i64 x.1
    rw [List.getD_eq_getElem?_getD] at hv64
    have k1 : 1 ≤ W1 := by omega
    have k2 : W1 ≤ 63 := by omega
    have hmin : min W1 64 = W1 := by omega
    subst ha
    have kb : ∀ W', Below w.heap.size W W' → W'.heap[w.heap.size + 1 + 1 + 1 + 1]? = W.heap[w.heap.size + 1 + 1 + 1 + 1]? → KpB w.heap.size (w.heap.size + 1 + 1 + 1 + 1) W W' := fun W' h1 h2 => ⟨h1, by unfold World.cell?; rw [h2]⟩
    have Hps := Lib.hid hps; clear hps
    have Hfp := Lib.hid hfp; clear hfp hfx hui
    have Hkb := Lib.hid kb; clear kb
    have HB := Lib.hid hB; clear hB
    obtain ⟨v, hv⟩ : ∃ v, v = vs[x.1]?.getD 0 := ⟨_, rfl⟩
    rw [← hv] at hv64 ⊢
    cases hfit : fitB (W1 : Int) v with
    | true =>
      have hf := of_decide_eq_true hfit
      rw [Int.toNat_natCast] at hf
      obtain ⟨V, rfl⟩ : ∃ V : Nat, v = (V : Int) := ⟨v.toNat, by omega⟩
      have hV : V < 2 ^ W1 := by
        have h2 := hf.2
        rw [show (2 : Int) ^ W1 = ((2 ^ W1 : Nat) : Int) by push_cast; rfl] at h2
        omega
      have hps := Hps.out V hv.symm hV
      obtain ⟨hb1, hb2⟩ := bits_or_sum (u := u) (c := V) W1 (by omega) hV
      have hwv : IntKind.u64.wrap (V : Int) = (V : Int) := by rw [IntKind.wrap_u64]; omega
      have hz : ((V : Int) / 2 ^ W1 != 0) = false := by
        rw [show (V : Int) / 2 ^ W1 = ((V / 2 ^ W1 : Nat) : Int) by push_cast; rfl, Nat.div_eq_of_lt hV]
        rfl
      generalize u * 2 ^ W1 % 2 ^ 64 + V = U at hb1 hb2 hps
      have Hps2 := Lib.hid hps; clear hps Hps hf hV hu
      have Hb1 := Lib.hid hb1; clear hb1
      have Hb2 := Lib.hid hb2; clear hb2
      have Hfit := Lib.hid hfit; clear hfit
      have Hv := Lib.hid hv; clear hv hv64
      have hmx : Tryz.prog.follows .mixedOrders = true := by kernel_rfl
      gi_wp2
      have c3d := (show W.drew.cell? ⟨w.heap.size + 1 + 1 + 1, 0, none⟩ = some (.int .u64 (u : Int)) from c3)
      have c0d := (show W.drew.cell? ⟨w.heap.size, 0, none⟩ = some (.slice (some ⟨ba, oa, none⟩) n c) from c0)
      have hcd := (show W.drew.cell? ⟨ba, oa + x.1, none⟩ = some (.int .i64 (W1 : Int)) from hcx)
      have f3d := (show W.drew.frozen? ⟨w.heap.size + 1 + 1 + 1, 0, none⟩ = false from f3)
      refine wpIn_region_yield [6] 7 [0, 1, 2, 3, 4, 5, 8, 9] (by kernel_rfl) (by kernel_rfl) (by kernel_rfl) rfl (by kernel_rfl) ?hp ?ho ?hh
      case hp => intro _ _ _ h; exact h
      case ho => intro _ _ h; exact h
      case hh =>
        simp only [List.map_cons, List.map_nil, List.getD_cons_zero, List.getD_cons_succ]
        clear c0d c3d hcd f3d
        go_wp2_with fail
        refine yield_at (.int .u64 (V : Int)) rfl (fun w2 => ?hr) ?hw
        case hr => simp [execOp, go_sem, hwv, Tryz.underlying3, Tryz.underlying122]
        case hw =>
          have c3 := (show W.drew.cell? ⟨w.heap.size + 1 + 1 + 1, 0, none⟩ = some (.int .u64 (u : Int)) from c3)
          have c0 := (show W.drew.cell? ⟨w.heap.size, 0, none⟩ = some (.slice (some ⟨ba, oa, none⟩) n c) from c0)
          have hcx := (show W.drew.cell? ⟨ba, oa + x.1, none⟩ = some (.int .i64 (W1 : Int)) from hcx)
          have f3 := (show W.drew.frozen? ⟨w.heap.size + 1 + 1 + 1, 0, none⟩ = false from f3)
          simp only [List.map_cons, List.map_nil, List.getD_cons_zero, List.getD_cons_succ]
          go_wp2_with fail
          rw [Hb1.out]
          refine ⟨((KeepsOthers.setCell _ _ _).trans (KeepsOthers.drew _)).from _, Hkb.out _ (((Below.refl w.heap.size W).setCell (p := ⟨w.heap.size + 1 + 1 + 1, 0, none⟩) (by simp only; omega) _).drew) ?_, ⟨U, Hb2.out, ?_, fun hi => Hps2.out hi, ?_, ?_, ?_, ?_, ?_, ?_, ?_⟩, ?_⟩
          · exact heap_setCell_other W _ _ _ (by simp only; omega)
          · intro y hy
            rcases List.mem_append.1 hy with hy | hy
            · exact Hfp.out y hy
            · obtain rfl := List.mem_singleton.1 hy
              rw [HW1.out, ← Hv.out]
              exact Hfit.out
          · exact (cell_other W _ _ _ (by omega)).trans c0
          · exact (cell_other W _ _ _ (by omega)).trans c1
          · show (W.setCell _ _).frozen? _ = false
            rw [World.frozen?_setCell]; exact f1
          · exact (cell_other W _ _ _ (by omega)).trans c2
          · show (W.setCell _ _).frozen? _ = false
            rw [World.frozen?_setCell]; exact f2
          · exact World.cell?_setCell_same' W _ _ (by rw [show W.cell? ⟨w.heap.size + 1 + 1 + 1, 0, none⟩ = some (.int .u64 (u : Int)) from c3]; rfl)
          · show (W.setCell _ _).frozen? _ = false
            rw [World.frozen?_setCell]; exact f3
          · exact (HB.out.setCell (p := ⟨w.heap.size + 1 + 1 + 1, 0, none⟩) (by simp only; omega) _).drew
    | false =>
      have hz : (IntKind.u64.wrap v / 2 ^ W1 != 0) = true := by
        have hnf := of_decide_eq_false hfit
        rw [Int.toNat_natCast] at hnf
        have hle : (2 : Nat) ^ W1 ≤ 2 ^ 63 := Nat.pow_le_pow_right (by decide) k2
        have hp := Nat.two_pow_pos W1
        rw [show (2 : Int) ^ W1 = ((2 ^ W1 : Nat) : Int) by push_cast; rfl] at hnf ⊢
        obtain ⟨Y, hY⟩ : ∃ Y : Nat, IntKind.u64.wrap v = (Y : Int) := ⟨(IntKind.u64.wrap v).toNat, by rw [IntKind.wrap_u64]; omega⟩
        have hge : 2 ^ W1 ≤ Y := by
          rw [IntKind.wrap_u64] at hY
          generalize (2 : Nat) ^ W1 = X at *
          omega
        rw [hY, show (Y : Int) / ((2 ^ W1 : Nat) : Int) = ((Y / 2 ^ W1 : Nat) : Int) from rfl]
        have : 1 ≤ Y / 2 ^ W1 := (Nat.le_div_iff_mul_le hp).2 (by omega)
        exact bne_iff_ne.2 (by omega)
      have Hfit := Lib.hid hfit; clear hfit
      have Hv := Lib.hid hv; clear hv hv64 Hps hu
      gi_wp2
      refine ⟨((KeepsOthers.setCell _ _ _).trans (KeepsOthers.setCell _ _ _)).from _, ⟨rfl, ⟨x, List.mem_append.2 (.inr (by simp)), by rw [HW1.out, ← Hv.out]; exact Hfit.out⟩, ?_, ?_⟩, ?_⟩
      · rw [cell_other _ _ _ _ (by omega)]
        exact World.cell?_setCell_same' W _ _ (by rw [c1]; rfl)
      · exact World.cell?_setCell_same' _ _ _ (by rw [cell_other _ _ _ _ (by omega), c2]; rfl)
      · exact (HB.out.setCell (p := ⟨w.heap.size + 1, 0, none⟩) (by simp only; omega) _).setCell (p := ⟨w.heap.size + 1 + 1, 0, none⟩) (by simp only; omega) _
  case done =>
    rintro D ys W hD ⟨hyl, hyi⟩ ⟨⟨u, hu, hfp, hui, c0, c1, f1, c2, f2, c3, f3⟩, hB⟩ hK
    have hu2 := (hui hyi).2
    rw [hyl, Nat.sub_self, List.drop_zero, List.drop_zero] at hu2
    have hall : okV ws vs := fun j hj => by
      have ht : n - 1 - j < ys.length := by omega
      have := hfp (ys[n - 1 - j]) (List.getElem_mem ht)
      rw [hyi (n - 1 - j) ht, show n - 1 - (n - 1 - j) = j by omega] at this
      exact this
    have Hall := Lib.hid hall; clear hall hui hfp
    have Hu2 := Lib.hid hu2; clear hu2 hyi
    gi_wp2
    have hK' := ((KeepsOthers.setCell W ⟨w.heap.size + 1, 0, none⟩ (.int .u64 (u : Int))).trans (KeepsOthers.setCell _ ⟨w.heap.size + 1 + 1, 0, none⟩ (.bool true))).same D _ hK rfl
    refine ⟨by simp, .inl ⟨_, _, rfl, run_takeDeferred hK', ?_⟩⟩
    have q1 := (cell_other (W.setCell ⟨w.heap.size + 1, 0, none⟩ (.int .u64 (u : Int))) (w.heap.size + 1 + 1) (w.heap.size + 1) (.bool true) (by omega)).trans (World.cell?_setCell_same' W ⟨w.heap.size + 1, 0, none⟩ (.int .u64 (u : Int)) (by rw [c1]; rfl))
    have q2 := World.cell?_setCell_same' (W.setCell ⟨w.heap.size + 1, 0, none⟩ (.int .u64 (u : Int))) ⟨w.heap.size + 1 + 1, 0, none⟩ (.bool true) (by rw [cell_other _ _ _ _ (by omega), c2]; rfl)
    have p1 := cell_kept q1 (grownBy_putObj' _ D (.deferred none)) (fun r e => by cases e; exact ⟨_, hK', rfl⟩)
    have p2 := cell_kept q2 (grownBy_putObj' _ D (.deferred none)) (fun r e => by cases e; exact ⟨_, hK', rfl⟩)
    refine ⟨.tuple #[.int .u64 (u : Int), .bool true], ?_, .inl ⟨by rw [← Hu2.out], Hall.out⟩, ((hB.setCell (p := ⟨w.heap.size + 1, 0, none⟩) (by simp only; omega) _).setCell (p := ⟨w.heap.size + 1 + 1, 0, none⟩) (by simp only; omega) _).trans (belowK_b (w := w) (Nat.le_refl _) _ D _ _ (by omega) hK' rfl rfl)⟩
    simp [results, Tryz.f79, go_sem, p1, p2]
  case stop =>
    rintro D co pre W hD _ ⟨⟨rfl, hbad, c1, c2⟩, hB⟩ hK
    have hno : ¬ okV ws vs := fun h => by
      obtain ⟨x, _, hx⟩ := hbad
      have := h x.1 (by rw [hl]; exact x.2)
      rw [hx] at this
      cases this
    have Hno := Lib.hid hno; clear hno hbad
    gi_wp2
    refine ⟨by simp, .inl ⟨_, _, rfl, run_takeDeferred hK, ?_⟩⟩
    have p1 := cell_kept c1 (grownBy_putObj' _ D (.deferred none)) (fun r e => by cases e; exact ⟨_, hK, rfl⟩)
    have p2 := cell_kept c2 (grownBy_putObj' _ D (.deferred none)) (fun r e => by cases e; exact ⟨_, hK, rfl⟩)
    refine ⟨.tuple #[.int .u64 0, .bool false], ?_, .inr ⟨rfl, Hno.out⟩, hB.trans (belowK_b (w := w) (Nat.le_refl _) _ D _ _ (by omega) hK rfl rfl)⟩
    simp [results, Tryz.f79, go_sem, p1, p2]
instance (ws vs : List Int) : Decidable (okV ws vs) := by unfold okV; infer_instance
/-- What Pack answers. -/
def packS (ws vs : List Int) : Nat × Bool := if rightS ws = true ∧ vs.length = ws.length ∧ okV ws vs then (packV ws vs, true) else (0, false)
set_option maxHeartbeats 1000000 in
theorem Pack_calls {w : World} {a b : Option Addr} {n c m d : Nat} {ws vs : List Int} (hx : Ints w .i64 a n c ws) (hy : Ints w .i64 b m d vs) (hn : n ≤ 1000) (hm : m ≤ 1000) :
    Calls Tryz.prog 79 #[.slice a n c, .slice b m d] w fun e W' => e = .returned (.tuple #[.int .u64 ((packS ws vs).1 : Nat), .bool (packS ws vs).2]) ∧ Below w.heap.size w W' := by
  have hl := hx.len
  have hl2 := hy.len
  by_cases hg : rightS ws = true ∧ n = m
  · obtain ⟨hr, rfl⟩ := hg
    refine ((callsIn_wide (n := 4)).1 (Pack_in hx hy hn hr)).mono ?_
    rintro e W' ⟨⟨rfl, hok⟩ | ⟨rfl, hok⟩, hb⟩
    · unfold packS
      rw [if_pos ⟨hr, by omega, hok⟩]
      exact ⟨rfl, hb⟩
    · unfold packS
      rw [if_neg fun h => hok h.2.2]
      exact ⟨rfl, hb⟩
  · have hp : packS ws vs = (0, false) := by
      unfold packS
      rw [if_neg fun h => hg ⟨h.1, by omega⟩]
    rw [hp]
    have hri := fun w' (hb : Below w.heap.size w w') => right_calls (hx.keep hb) hn
    have hB0 : Below w.heap.size w (((w.alloc (.cells #[.slice a n c] 125)).alloc (.cells #[.int .u64 0] 122)).alloc (.cells #[.bool false] 4)) := (((Below.refl _ w).alloc (Nat.le_refl _) _).alloc (by simp) _).alloc (by simp; omega) _
    have hd : rightS ws = false ∨ (rightS ws = true ∧ ((m : Int) != (n : Int)) = true) := by
      cases hr : rightS ws
      · exact .inl rfl
      · exact .inr ⟨rfl, bne_iff_ne.2 fun e => hg ⟨hr, by omega⟩⟩
    clear hg hp
    generalize rightS ws = R at hri hd
    have Hri := Lib.hid hri; clear hri hx hy
    have HB0 := Lib.hid hB0; clear hB0
    rcases hd with rfl | ⟨rfl, hne⟩
    all_goals
      go_enter Tryz.func79, Tryz.ntmps79
      go_wp2_with fail
      refine (Hri.out _ HB0.out).mono ?_
      rintro e w1 ⟨rfl, rfl⟩
      go_wp2_with fail
      refine bodyPost_ret (v := .tuple #[.int .u64 0, .bool false]) (by simp [results, Tryz.f79, go_sem]) rfl ?_
      exact ⟨rfl, HB0.out⟩
end Go.Proofs.YtgpedejeifmfdaaGreat
