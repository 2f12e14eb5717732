/- The document's device: Write. -/
import Derived.Test.YtpcekoimalafkaaDiskR2
namespace Go.Proofs.Ytpcekoimalafkaa
open Go.RowKit

theorem Try.infoRW : (Try.prog.info? 65).map (fun i => (i.zero, i.size, i.bytes)) = some (some (.agg #[.int .i64 0, .slice none 0 0]), 2, 32) := by kernel_rfl

set_option maxHeartbeats 2000000 in
theorem RWrite_calls {w : World} {B b : Nat} {sv cv : Value} {S : List (List Int)} {C : List (Int × List Int)} {R : Nat → Prop} (h : RefAt w B b sv cv S C R) (k : Int) {a : Option Addr} {n c : Nat} {zs : List Int} (hx : Ints w .u8 a n c zs) (hC : C.length ≤ 1000000) :
    Calls Try.prog 15 #[.pointer (some ⟨b, 0, none⟩), .int .i64 k, .slice a n c] w fun e w' => e = .returned (.int .i64 (writeErr S k n)) ∧ ∃ cv' R',
      RefAt w' B b sv cv' S (written S C k zs) R' ∧ (∀ x, rfoot b sv cv' R' x → rfoot b sv cv R x ∨ w.heap.size ≤ x) ∧ Mod (rfoot b sv cv R) w w' := by
  obtain ⟨sa, cs, rfl⟩ := h.shape_s
  have c0 := cells_at h.root 0
  have c1 := cells_at h.root 1
  have hSl := h.len
  have hzl := hx.len
  by_cases h1 : k < 0
  · have e1 : decide (k < 0) = true := decide_eq_true h1
    have hw : written S C k zs = C := by unfold written; rw [if_neg (by omega)]
    have he : writeErr S k n = 11 := by unfold writeErr; rw [if_neg (by omega)]
    rw [hw, he]
    clear hw he
    have Hh := Lib.hid h; clear h
    go_enter Try.func15, Try.ntmps15
    go_wp2
    go_ret
    exact ⟨rfl, cv, R, Hh.out, fun x hx => .inl hx, Mod.refl _ _⟩
  have e1 : decide (k < 0) = false := decide_eq_false h1
  by_cases h2 : (S.length : Int) ≤ k
  · have e2 : decide ((S.length : Int) ≤ k) = true := decide_eq_true h2
    have hw : written S C k zs = C := by unfold written; rw [if_neg (by omega)]
    have he : writeErr S k n = 11 := by unfold writeErr; rw [if_neg (by omega)]
    rw [hw, he]
    clear hw he
    have Hh := Lib.hid h; clear h
    go_enter Try.func15, Try.ntmps15
    go_wp2
    go_ret
    exact ⟨rfl, cv, R, Hh.out, fun x hx => .inl hx, Mod.refl _ _⟩
  have e2 : decide ((S.length : Int) ≤ k) = false := decide_eq_false h2
  by_cases h3 : n ≠ 32
  · have e3 : ((n : Int) != 32) = true := by simp; omega
    have hw : written S C k zs = C := by unfold written; rw [if_neg (by omega)]
    have he : writeErr S k n = 10 := by unfold writeErr; rw [if_pos (by omega), if_neg h3]
    rw [hw, he]
    clear hw he
    have Hh := Lib.hid h; clear h
    go_enter Try.func15, Try.ntmps15
    go_wp2
    go_ret
    exact ⟨rfl, cv, R, Hh.out, fun x hx => .inl hx, Mod.refl _ _⟩
  obtain rfl : n = 32 := Decidable.not_not.1 h3
  clear h3
  have hw : written S C k zs = C ++ [(k, zs)] := by unfold written; rw [if_pos ⟨by omega, by omega, hzl⟩]
  have he : writeErr S k 32 = 0 := by unfold writeErr; rw [if_pos ⟨by omega, by omega⟩, if_pos rfl]
  rw [hw, he]
  clear hw he
  have Hhd := Lib.hid h; clear h
  have Hzl := Lib.hid hzl; clear hzl
  have Hx := Lib.hid hx; clear hx
  go_enter Try.func15, Try.ntmps15
  go_wp2_with fail
  have hd := Hhd.out.drew
  have hxd := Hx.out.drew
  have hmd : Mod (fun _ => False) w w.drew := ⟨rfl, rfl, rfl, Nat.le_refl _, fun _ _ _ => rfl⟩
  have Hd := Lib.hid hd; clear hd
  have Hxd := Lib.hid hxd; clear hxd
  have Hmd := Lib.hid hmd; clear hmd
  clear c0 c1
  refine wp_region_held (fun w' => w'.cell? ⟨b, 1, none⟩ = some cv) [0, 1, 2, 3, 4, 5, 6] [[7], [8, 9], [10, 11, 12, 13]] (by kernel_rfl) (by kernel_rfl) rfl (by kernel_rfl) (fun _ _ _ h => by obtain ⟨_, h, _⟩ := h; cases h) (fun _ _ h => by obtain ⟨h, _⟩ := h; cases h)
    (cells_at Hd.out.root 1) rfl ?_
  apply Exists.intro
  apply And.intro
  · intro w' hS
    simp only [List.map_cons, List.map_nil, List.getD_cons_zero, List.getD_cons_succ]
    go_wp2_with fail
    exact pre_end
  · simp only [List.map_cons, List.map_nil, List.getD_cons_zero, List.getD_cons_succ]
    generalize w.drew = w0 at Hd Hxd Hmd ⊢
    refine segs_more ?_
    go_wp2_with fail
    refine (CopyBytes_calls Hxd.out (by omega)).mono ?_
    rintro e w1 ⟨v, rfl, own1, _, b1⟩
    obtain ⟨g, c1, rfl, x1⟩ := own1.ofInts (n := 32) Hzl.out (by decide)
    have hg1 := own1.block g rfl
    have hbl := (Hd.out.lt b (.inl rfl)).2
    clear own1
    have Hx1 := Lib.hid x1; clear x1
    have Hb1 := Lib.hid b1; clear b1
    go_wp2_with fail
    refine seg_end (by rw [Hb1.out.cell hbl]; exact cells_at Hd.out.root 1) (segs_more ?_)
    go_wp2_with (with_reducible refine stop_build 65 ?_)
    refine unpark ?_
    refine wpList_build2 rfl _ _ _ _ _ rfl (.int .i64 k) (slv (g, c1)) rfl rfl (.agg #[.int .i64 k, slv (g, c1)]) (by kernel_rfl) ?_
    go_wp2_with fail
    have hz2 : (w1.alloc (.cells #[.int .i64 k, slv (g, c1)] 65)).heap.size = w1.heap.size + 1 := by simp
    have hx2 := heap_alloc_new w1 (.cells #[.int .i64 k, slv (g, c1)] 65)
    have ba2 : Below w0.heap.size w0 (w1.alloc (.cells #[.int .i64 k, slv (g, c1)] 65)) := Hb1.out.alloc Hb1.out.size _
    have hi2 := Hx1.out.alloc (.cells #[.int .i64 k, slv (g, c1)] 65)
    generalize w1.alloc (.cells #[.int .i64 k, slv (g, c1)] 65) = w2 at hz2 hx2 ba2 hi2 ⊢
    refine seg_end (by rw [ba2.cell hbl]; exact cells_at Hd.out.root 1) (segs_last ?_)
    obtain ⟨ds, hp0, hrow, hps⟩ := Hd.out.cache
    obtain ⟨ti, hi', hz0', hz1', hz2'⟩ := info_parts Try.infoRW
    have Hhp := Lib.hid hp0; clear hp0
    have Hps := Lib.hid hps; clear hps
    have hrow2 := ownsRow_keep hrow (w' := w2) fun g _ hlt => ba2.block g hlt
    have Hba2 := Lib.hid ba2; clear ba2
    have Hi2 := Lib.hid hi2; clear hi2
    have Hz2 := Lib.hid hz2; clear hz2
    have hsz01 := Hb1.out.size
    have hBl := Hd.out.bb
    go_wp2_with (with_reducible refine stop_builtin .append ?_)
    refine unpark ?_
    refine wpList_append_row _ rfl _ _ 43 rfl B 65 ti (.agg #[.int .i64 0, .slice none 0 0]) 2 32 Try.underlying43 hi' hz0' hz1' hz2' rfl (by decide) cv C.length (ds.flatMap wrv) rfl hrow2 w1.heap.size 0 1 1 (wrv (k, g, c1)) rfl rfl (by decide)
      (fun j' u hu => by rw [Nat.zero_add, cells_at hx2 j']; simpa [wrv] using hu) (fun u hu => by simp [wrv] at hu; rcases hu with rfl | rfl <;> rfl) (by unfold maxLen; omega) (by omega) (by have := Hz2.out; omega) ?_
    intro v' w3 hrow3 hgr3 hv3
    have hv4 : v'.ownBlock = cv.ownBlock ∨ ∃ q, v'.ownBlock = some q ∧ w0.heap.size ≤ q ∧ q ≠ g := hv3.imp id fun e => ⟨_, e, by have := Hz2.out; omega, by have := Hz2.out; omega⟩
    obtain ⟨hnew, hmod⟩ := Hd.out.pushCache Hba2.out Hi2.out hg1.1 (x := k) (by omega) Hhp.out Hps.out hrow3 hgr3 hv4
    have r3 : w3.heap[b]? = some (.cells #[.slice sa S.length cs, cv] 45 (0, 0)) :=
      (hgr3.block b (by have := Hz2.out; omega) fun e => (Hd.out.cb _ e.symm).1 rfl).trans ((Hba2.out.block b hbl).trans Hd.out.root)
    have c3 := cells_at r3 1
    have f3 := frozen_of_row w3 b 1 _ _ r3
    have hfoot : ∀ x, rfoot b (.slice sa S.length cs) v' (fun k => R k ∨ k = g) x → rfoot b (.slice sa S.length cs) cv R x ∨ w.heap.size ≤ x := by
      have hw0 := Hmd.out.size
      rintro x (rfl | hx | hx | hx | rfl)
      · exact .inl (.inl rfl)
      · exact .inl (.inr (.inl hx))
      · rcases hv4 with e | ⟨q, e, hq, _⟩
        · exact .inl (.inr (.inr (.inl (e ▸ hx))))
        · rw [e] at hx; cases hx; exact .inr (by omega)
      · exact .inl (.inr (.inr (.inr hx)))
      · exact .inr (by omega)
    have hmod' : Mod (rfoot b (.slice sa S.length cs) cv R) w _ := Hmd.out.trans hmod (fun _ h => h.elim) (fun _ _ h => h)
    obtain ⟨a', c', hv'⟩ := hnew.shape_c
    obtain ⟨m', hm'⟩ : ∃ m', m' = (C ++ [(k, zs)]).length := ⟨_, rfl⟩
    rw [← hm'] at hv'
    subst hv'
    have Hnew := Lib.hid hnew; clear hnew
    have Hmod := Lib.hid hmod'; clear hmod'
    have Hfoot := Lib.hid hfoot; clear hfoot
    clear hrow hrow2 hrow3 hgr3 hv3 hv4 hmod r3 hi' hz0' hz1' hz2' hx2 hm'
    go_wp2_with fail
    go_ret
    exact ⟨rfl, _, _, Hnew.out, Hfoot.out, Hmod.out⟩
end Go.Proofs.Ytpcekoimalafkaa
