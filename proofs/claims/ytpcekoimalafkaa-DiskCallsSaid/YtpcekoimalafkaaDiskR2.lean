/- The document's device: New, Write. -/
import Derived.Test.YtpcekoimalafkaaDiskR1
namespace Go.Proofs.Ytpcekoimalafkaa
open Go.RowKit

theorem Try.infoBs : (Try.prog.info? 32).map (fun i => (i.zero, i.size, i.bytes)) = some (some (.slice none 0 0), 1, 24) := by kernel_rfl

theorem RNew_bad {w : World} {n : Int} (hn : ¬ (1 ≤ n ∧ n ≤ 512)) :
    Calls Try.prog 12 #[.int .i64 n] w fun e w' => e = .returned (.tuple #[.pointer none, .int .i64 11]) ∧ w = w' := by
  by_cases h1 : n < 1
  · have hd : decide (n < 1) = true := decide_eq_true h1
    go_enter Try.func12, Try.ntmps12
    go_wp2
    go_ret2
    exact ⟨rfl, rfl⟩
  · have hd : decide (n < 1) = false := decide_eq_false h1
    have hd2 : decide (512 < n) = true := decide_eq_true (by omega)
    go_enter Try.func12, Try.ntmps12
    go_wp2
    go_ret2
    exact ⟨rfl, rfl⟩

set_option maxHeartbeats 2000000 in
theorem RNew_calls {w : World} {n : Nat} (h1 : 1 ≤ n) (h2 : n ≤ 512) :
    Calls Try.prog 12 #[.int .i64 n] w fun e w' => ∃ b sv R, e = .returned (.tuple #[.pointer (some ⟨b, 0, none⟩), .int .i64 0]) ∧ RefAt w' w.heap.size b sv (.slice none 0 0) (fresh n) [] R ∧ Below w.heap.size w w' := by
  have hd : decide ((n : Int) < 1) = false := decide_eq_false (by omega)
  have hd2 : decide (512 < (n : Int)) = false := decide_eq_false (by omega)
  go_enter Try.func12, Try.ntmps12
  go_wp2_with fail
  have hr0 : RefAt (w.alloc (.cells #[.slice none 0 0, .slice none 0 0] 45)) w.heap.size w.heap.size (.slice none 0 0) (.slice none 0 0) (fresh 0) [] (fun _ => False) :=
    ⟨heap_alloc_new w _, ⟨[], rfl, ⟨rfl, .inl ⟨rfl, rfl⟩⟩, fun i hi => absurd hi (by simp [fresh])⟩, ⟨[], rfl, ⟨rfl, .inl ⟨rfl, rfl⟩⟩, fun i hi => absurd hi (by simp)⟩, id, (fun g hg => by cases hg), (fun g hg => by cases hg), (fun g hg => hg.elim), Nat.le_refl _, (fun p hp => by cases hp), by simp [fresh]⟩
  have hb0 : Below w.heap.size w (w.alloc (.cells #[.slice none 0 0, .slice none 0 0] 45)) := (Below.refl _ _).alloc (Nat.le_refl _) _
  go_loopw [5] (fun i wr => ∃ (j : Nat) (sv : Value) (R : Nat → Prop), j ≤ n ∧ i = .int .i64 j ∧ RefAt wr w.heap.size w.heap.size sv (.slice none 0 0) (fresh j) [] R ∧ Below w.heap.size w wr) (fun i _ => n - (intOf i).toNat)
  case atStart => exact ⟨0, _, _, by omega, rfl, hr0, hb0⟩
  case round =>
    obtain ⟨j, sv, R, hj, rfl, hr, hbel⟩ := hrel
    clear hr0 hb0
    have Hbel := Lib.hid hbel; clear hbel
    by_cases hlt : j < n
    · have hjl : (fresh j).length = j := by simp [fresh]
      have hd := hr.drew
      have hbd : Below w.heap.size w wr.drew := Hbel.out.trans ⟨rfl, rfl, rfl, Nat.le_refl _, fun _ _ => rfl⟩
      have Hd := Lib.hid hd; clear hd hr
      have Hbd := Lib.hid hbd; clear hbd
      have Hjl := Lib.hid hjl; clear hjl
      have i2 : (j : Int) < (n : Int) := by omega
      have hmk : ∀ w : World, (Instr.makeSlice 32 (.int .i64 32) (.int .i64 32)).run Try.prog w = .ok (.slice (some ⟨w.heap.size, 0, none⟩) 32 32) (w.alloc (.cells (sct zsec).toArray 5)) := fun w => by kernel_rfl
      go_wp2_with fail
      refine wp_region_held (fun w' => w'.cell? ⟨w.heap.size, 0, none⟩ = some sv) [0, 1, 2, 3, 4] [[5], [6], [7, 8, 9, 10]] (by kernel_rfl) (by kernel_rfl) rfl (by kernel_rfl) (fun _ _ _ h => by obtain ⟨_, _, _, _, h, _⟩ := h; cases h) (fun _ _ h => by obtain ⟨_, _, _, h, _⟩ := h; cases h)
        (cells_at Hd.out.root 0) rfl ?_
      apply Exists.intro
      apply And.intro
      · intro w' hS
        simp only [List.map_cons, List.map_nil, List.getD_cons_zero, List.getD_cons_succ]
        go_wp2_with fail
        exact pre_end
      · simp only [List.map_cons, List.map_nil, List.getD_cons_zero, List.getD_cons_succ]
        obtain ⟨w0, hw0⟩ : ∃ w0, w0 = wr.drew := ⟨_, rfl⟩
        rw [← hw0] at Hd Hbd ⊢
        clear hw0
        refine segs_more ?_
        go_wp2_with fail
        have hbl : w.heap.size < w0.heap.size := (Hd.out.lt _ (.inl rfl)).2
        have hbs := Hbd.out.size
        have ba : Below w0.heap.size w0 (w0.alloc (.cells (sct zsec).toArray 5)) := (Below.refl _ _).alloc (Nat.le_refl _) _
        have hx : (w0.alloc (.cells (sct zsec).toArray 5)).heap[w0.heap.size]? = some (.cells (sct zsec).toArray 5 (0, 0)) := heap_alloc_new w0 _
        have hz1 : (w0.alloc (.cells (sct zsec).toArray 5)).heap.size = w0.heap.size + 1 := by simp
        generalize w0.alloc (.cells (sct zsec).toArray 5) = w1 at ba hx hz1 ⊢
        have hi := (ints_of_sct ⟨rfl, by decide⟩ hx : Ints w1 .u8 (some ⟨w0.heap.size, 0, none⟩) 32 32 zsec)
        clear hx
        refine seg_end (by rw [ba.cell hbl]; exact cells_at Hd.out.root 0) (segs_more ?_)
        have Hz1 := Lib.hid hz1; clear hz1
        have Hi := Lib.hid hi; clear hi
        have Hba := Lib.hid ba; clear ba hmk
        go_wp2_with fail
        have ba2 : Below w0.heap.size w0 (w1.alloc (.cells #[slv (w0.heap.size, 32)] 32)) := Hba.out.alloc Hba.out.size _
        have hi2 := Hi.out.alloc (.cells #[slv (w0.heap.size, 32)] 32)
        have hx2 := heap_alloc_new w1 (.cells #[slv (w0.heap.size, 32)] 32)
        have hz2 : (w1.alloc (.cells #[slv (w0.heap.size, 32)] 32)).heap.size = w0.heap.size + 2 := by have := Hz1.out; simp; omega
        change SegQ _ _ _ (w1.alloc (.cells #[slv (w0.heap.size, 32)] 32))
        generalize w1.alloc (.cells #[slv (w0.heap.size, 32)] 32) = w2 at ba2 hi2 hx2 hz2 ⊢
        refine seg_end (by rw [ba2.cell hbl]; exact cells_at Hd.out.root 0) (segs_last ?_)
        have Hz2 := Lib.hid hz2; clear hz2
        obtain ⟨ps, hp0, hrow, hps⟩ := Hd.out.safe
        obtain ⟨ti, hi', hz0', hz1', hz2'⟩ := info_parts Try.infoBs
        have Hhp := Lib.hid hp0; clear hp0
        have Hps := Lib.hid hps; clear hps
        have hrow2 := ownsRow_keep hrow (w' := w2) fun g _ hlt => ba2.block g hlt
        have Hba2 := Lib.hid ba2; clear ba2 Hba Hi
        have Hi2 := Lib.hid hi2; clear hi2
        go_wp2_with (with_reducible refine stop_builtin .append ?_)
        refine unpark ?_
        refine wpList_append_row _ rfl _ _ 42 rfl w.heap.size 32 ti (.slice none 0 0) 1 24 Try.underlying42 hi' hz0' hz1' hz2' rfl (by decide) sv (fresh j).length (ps.map slv) rfl hrow2 w1.heap.size 0 1 1 [slv (w0.heap.size, 32)] rfl rfl (by decide)
          (fun j' u hu => by rw [Nat.zero_add, cells_at hx2 j']; simpa using hu) (fun u hu => by rw [List.mem_singleton.1 hu]; rfl) (by have := Hjl.out; unfold maxLen; omega) (by have := Hjl.out; omega) (by have := Hz2.out; omega) ?_
        intro v' w3 hrow3 hgr3 hv3
        have hv4 : v'.ownBlock = sv.ownBlock ∨ ∃ q, v'.ownBlock = some q ∧ w0.heap.size ≤ q ∧ q ≠ w0.heap.size := hv3.imp id fun e => ⟨_, e, by have := Hz2.out; omega, by have := Hz2.out; omega⟩
        have hfr : fresh (j + 1) = fresh j ++ [zsec] := by unfold fresh; rw [List.replicate_succ']
        obtain ⟨hnew, hmod⟩ := Hd.out.pushSafe Hba2.out Hi2.out (Nat.le_refl _) (by have := Hjl.out; omega) Hhp.out Hps.out hrow3 hgr3 hv4
        rw [← hfr] at hnew
        have hbel := hmod.below Hbd.out hbs fun k hk => (Hd.out.lt k hk).1
        have r3 : w3.heap[w.heap.size]? = some (.cells #[sv, .slice none 0 0] 45 (0, 0)) :=
          (hgr3.block w.heap.size (by have := Hz2.out; omega) fun e => (Hd.out.sb _ e.symm).1 rfl).trans ((Hba2.out.block w.heap.size hbl).trans Hd.out.root)
        have c3 := cells_at r3 0
        have f3 := frozen_of_row w3 w.heap.size 0 _ _ r3
        obtain ⟨a', c', hv'⟩ := hnew.shape_s
        obtain ⟨m', hm'⟩ : ∃ m', m' = (fresh (j + 1)).length := ⟨_, rfl⟩
        rw [← hm'] at hv'
        subst hv'
        clear hm'
        have Hnew := Lib.hid hnew; clear hnew
        have Hbel' := Lib.hid hbel; clear hbel
        clear hrow hrow2 hrow3 hgr3 hv3 hv4 hmod r3 hi' hz0' hz1' hz2' hx2 hfr
        go_wp2_with fail
        go_roundw
        case rel => exact ⟨j + 1, _, _, by omega, by go_num, Hnew.out, Hbel'.out⟩
        case measure => simp [intOf]; omega
    · obtain rfl : j = n := by omega
      have Hr := Lib.hid hr; clear hr
      go_wp2
      go_ret2
      exact ⟨_, _, _, rfl, Hr.out, Hbel.out⟩
end Go.Proofs.Ytpcekoimalafkaa
