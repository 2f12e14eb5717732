/- DiskReads: the walk of the law. -/
import Derived.Test.YtpcekoimalafkaaDiskB
import Derived.Test.YtpcekoimalafkaaDiskP
import Derived.Test.YtpcekoimalafkaaDiskO
import Derived.Test.YtpcekoimalafkaaTable
namespace Go.Proofs.Ytpcekoimalafkaa
open Go.RowKit

theorem Try.infoBs : (Try.prog.info? 32).map (fun i => (i.zero, i.size, i.bytes)) = some (some (.slice none 0 0), 1, 24) := by kernel_rfl

/-- What is told of the sectors, behind a write. -/
def Told (st s : State) (N k : Nat) (zs : List Int) : Prop := st.1.length = N ∧ ∀ i, i < N → readOf st.1 st.2 (i : Int) = if i = k then zs else readOf s.1 s.2 (i : Int)
theorem told_written {s : State} {N k : Nat} {zs : List Int} (hs : s.1.length = N) (hk : k < N) (hz : zs.length = 32) : Told (s.1, written s.1 s.2 (k : Int) zs) s N k zs := by
  refine ⟨hs, fun i hi => ?_⟩
  have e1 : written s.1 s.2 (k : Int) zs = s.2 ++ [((k : Int), zs)] := by unfold written; rw [if_pos ⟨by omega, by omega, hz⟩]
  rw [e1]
  show readOf s.1 (s.2 ++ [((k : Int), zs)]) (i : Int) = _
  rw [readOf_in (by omega), readOf_in (by omega), lastOf_snoc]
  by_cases h : i = k
  · subst h; simp
  · have : ¬ ((i : Int) = (k : Int)) := by omega
    rw [if_neg this, if_neg h]
theorem told_settled {st s : State} {N k : Nat} {zs : List Int} (h : Told st s N k zs) (hC : ∀ p ∈ st.2, 0 ≤ p.1) : Told (settled st.1 st.2, []) s N k zs := by
  refine ⟨(settled_len _ _).trans h.1, fun i hi => ?_⟩
  rw [← h.2 i hi]
  exact readOf_flushed (by rw [h.1]; exact hi) hC

set_option maxHeartbeats 4000000 in
theorem lawDiskReads {w : World} {n : Int} (_hn : (Lit.int .i64 n).wf = true) {a : Option Addr} {m c : Nat} {xs : List CallV} (hr : CallRow w a m c xs)
    {p : Int} (_hp : (Lit.int .i64 p).wf = true) {da : Option Addr} {dn dc : Nat} {zs : List Int} (hd : Ints w .u8 da dn dc zs) :
    Calls Try.prog 7 #[.int .i64 n, .slice a m c, .int .i64 p, .slice da dn dc] w fun e w' => e = .returned (.bool true) ∧ Below w.heap.size w w' := by
  go_enter Try.func7, Try.ntmps7
  go_wp2_with fail
  refine alive_calls.mono ?_
  rintro e w1 ⟨rfl, b1⟩
  have hr1 := hr.keep b1
  have hd1 := hd.keep b1
  have B1 := Lib.hid b1; clear b1
  go_wp2_with fail
  refine (great_calls hr1).mono ?_
  rintro e w2 ⟨rfl, rfl⟩
  cases hg : greatOf xs with
  | true =>
    go_wp2
    go_ret
    exact ⟨rfl, B1.out⟩
  | false =>
  by_cases h1 : n < 1
  · have hd : decide (n < 1) = true := decide_eq_true h1
    go_wp2
    go_ret
    exact ⟨rfl, B1.out⟩
  have e1 : decide (n < 1) = false := decide_eq_false h1
  by_cases h2 : 40 < n
  · have e2 : decide (40 < n) = true := decide_eq_true h2
    go_wp2
    go_ret
    exact ⟨rfl, B1.out⟩
  have e2 : decide (40 < n) = false := decide_eq_false h2
  by_cases h5 : dn ≠ 32
  · have e5 : ((dn : Int) != 32) = true := by simp; omega
    go_wp2
    go_ret
    exact ⟨rfl, B1.out⟩
  obtain rfl : dn = 32 := Decidable.not_not.1 h5
  clear h5
  obtain ⟨N, rfl⟩ : ∃ N : Nat, n = N := ⟨n.toNat, by omega⟩
  have HG := Lib.hid hg; clear hg
  go_wp2_with fail
  refine (begin_dev (w0 := w) B1.out (by omega) (by omega) hr1 HG.out).mono ?_
  rintro e w3 ⟨b, F, rfl, d3, f3, b3⟩
  obtain ⟨s, hs⟩ : ∃ s, s = stepsOf (fresh N, []) xs := ⟨_, rfl⟩
  rw [← hs] at d3
  have hlen : s.1.length = N := by rw [hs, (stepsOf_len _ _).1]; simp [fresh]
  have hcl : s.2.length ≤ 80 := by
    have := (stepsOf_len (fresh N, []) xs).2
    rw [← hs] at this
    have := (notGreat HG.out).1
    simp at *
    omega
  clear hs hr1
  have hF : ∀ k, F k → k < w3.heap.size := fun k hk => (d3.low k hk).2
  have hF2 := Lib.hid hF; clear hF
  have Hlen := Lib.hid hlen; clear hlen
  have hxlt : ∀ b o, da = some ⟨b, o, none⟩ → b < w.heap.size := by
    rintro b o rfl
    obtain ⟨b', o', e', hc⟩ := hd.cell (by decide)
    cases e'
    exact World.block_lt_of_cell? _ _ (hc 0 (by decide))
  have Hxlt := Lib.hid hxlt; clear hxlt
  clear hd1 b3 f3 e1 e2
  have hb3 := Lib.hid d3.bel
  go_wp2_with fail
  have d4 := d3.step (w' := w3.alloc (.cells #[] 32)) ((Below.refl _ _).alloc (Nat.le_refl _) _)
  have g0 : Growing (w3.alloc (.cells #[] 32)) w3.heap.size 32 (.slice (some ⟨w3.heap.size, 0, none⟩) 0 0) [] (fun i => readOf s.1 s.2 (i : Int)) :=
    ⟨World.ownsRow_made w3 #[] 0 (Nat.le_refl _) (by unfold maxLen; omega) rfl, fun i hi => absurd hi (by simp)⟩
  go_loopw [10, 11] (fun v i wr => ∃ us : List Value, us.length ≤ N ∧ i = .int .i64 (us.length : Nat) ∧ Dev w wr b F s ∧ Growing wr w3.heap.size 32 v us (fun i => readOf s.1 s.2 (i : Int)) ∧ w3.heap.size ≤ wr.heap.size) (fun _ i _ => N - (intOf i).toNat)
  case atStart => exact ⟨[], by simp, rfl, d4, g0, by simp⟩
  case round =>
    obtain ⟨us, hj, rfl, dr, hgr, hle⟩ := hrel
    clear d3 d4 g0
    obtain ⟨j, hjl⟩ : ∃ j, j = us.length := ⟨_, rfl⟩
    rw [← hjl] at hj ⊢
    have Hjl := Lib.hid hjl; clear hjl
    by_cases hlt : j < N
    · have hrd := Read_dev dr (j : Int)
      have i1 : (0 : Int) ≤ (j : Int) := by omega
      have i2 : (j : Int) < (N : Int) := by omega
      rw [show readErr s (j : Int) = 0 by unfold readErr; rw [Hlen.out, if_pos ⟨i1, i2⟩]] at hrd
      have hsec := dr.sector (k := (j : Int)) (by rw [Hlen.out]; exact ⟨i1, i2⟩)
      go_wp2_with fail
      refine hrd.mono ?_
      rintro e w5 ⟨v5, rfl, o5, b5, d5⟩
      obtain ⟨g5, c5, rfl, x5⟩ := o5.ofInts (n := 32) hsec.1 (by decide)
      have hg5 := o5.block g5 rfl
      have gr5 := hgr.keep b5
      have hne5 := hgr.ne hg5.1
      have hle5 := Nat.le_trans hle b5.size
      have hle5' : w3.heap.size ≤ g5 := Nat.le_trans hle hg5.1
      clear hrd o5 b5 hgr hsec
      have ba : Below w5.heap.size w5 (w5.alloc (.cells #[.slice (some ⟨g5, 0, none⟩) 32 c5] 32)) := (Below.refl _ _).alloc (Nat.le_refl _) _
      have d6 := d5.step ba
      have gr6 := gr5.keep ba
      have x6 := x5.keep ba
      have hc6 := heap_alloc_new w5 (.cells #[.slice (some ⟨g5, 0, none⟩) 32 c5] 32)
      have hs6 : w5.heap.size ≤ (w5.alloc (.cells #[.slice (some ⟨g5, 0, none⟩) 32 c5] 32)).heap.size := by simp
      have hg6 := hg5.2
      clear d5 gr5 x5 ba hg5
      have Hd6 := Lib.hid d6; clear d6
      have Hgr6 := Lib.hid gr6; clear gr6
      have Hx6 := Lib.hid x6; clear x6
      go_wp2_with (with_reducible refine stop_builtin .append ?_)
      obtain ⟨i0, hi, hz0, hz1, hz2⟩ := info_parts Try.infoBs
      obtain ⟨w6, hw6⟩ : ∃ w6, w6 = w5.alloc (.cells #[.slice (some ⟨g5, 0, none⟩) 32 c5] 32) := ⟨_, rfl⟩
      rw [← hw6] at Hd6 Hgr6 Hx6 hc6 hs6 ⊢
      clear hw6
      refine unpark ?_
      refine wpList_append_row _ rfl _ _ 42 rfl w3.heap.size 32 i0 (.slice none 0 0) 1 24 Try.underlying42 hi hz0 hz1 hz2 rfl (by decide) _ us.length us rfl Hgr6.out.row w5.heap.size 0 1 1 [.slice (some ⟨g5, 0, none⟩) 32 c5] rfl rfl (by decide)
        (fun j' u hu => by rw [Nat.zero_add, cells_at hc6 j']; simpa using hu) (fun u hu => by rw [List.mem_singleton.1 hu]; rfl) (by have := Hjl.out; unfold maxLen; omega) (by have := Hjl.out; omega) (by omega) ?_
      intro v7 w7 own7 grown7 hv7
      have gr7 := Hgr6.out.push (n := 32) (c := c5) (b := g5) (by rw [← Hjl.out]; exact Hx6.out) hle5' (by omega) hne5 own7 grown7 hv7
      have d7 := Hd6.out.aside (G := fun k => w3.heap.size ≤ k) (Mod.of_grown grown7 fun k hk => (Hgr6.out.row.lt k hk).1) (fun k hk => by have := hF2.out k hk; omega) (fun k hk => Nat.le_trans hb3.out.size hk)
      have hle7 := Nat.le_trans hle5 (Nat.le_trans hs6 grown7.size)
      have Hgr7 := Lib.hid gr7; clear gr7
      have Hd7 := Lib.hid d7; clear d7
      clear own7 grown7 hv7 Hgr6 Hd6 Hx6 hc6 hi hz0 hz1 hz2
      go_wp2_with fail
      go_roundw
      case rel => exact ⟨us ++ [.slice (some ⟨g5, 0, none⟩) 32 c5], by have := Hjl.out; simp; omega, by rw [List.length_append, ← Hjl.out]; go_num, Hd7.out, Hgr7.out, hle7⟩
      case measure => simp [intOf]; omega
    · obtain rfl : j = N := by omega
      obtain ⟨wo, rfl⟩ : ∃ wo : World, wo = wr := ⟨_, rfl⟩
      have tb := hgr.table (by have := Hjl.out; omega)
      rw [← Hjl.out] at tb
      obtain ⟨V, hV⟩ : ∃ V, V = u10 := ⟨_, rfl⟩
      rw [← hV] at tb hgr ⊢
      clear hV
      obtain ⟨g, cg, rfl, _⟩ := tb.out
      clear hgr
      have x4 : Ints wo .u8 da 32 dc zs := hd.keepOn fun b o e _ => dr.bel.block b (Hxlt.out b o e)
      have Htb := Lib.hid tb; clear tb
      go_wp2_with fail
      refine (Write_dev dr p x4 (by omega)).mono ?_
      rintro e w5 ⟨rfl, d5, m5⟩
      have x5 : Ints w5 .u8 da 32 dc zs := m5.ints x4 fun b o e hF => by have := Hxlt.out b o e; have := (dr.low b hF).1; omega
      have t5 := Htb.out.keep (w' := w5) m5.size fun b h1 h2 => m5.block b h2 fun hF => by have := hF2.out b hF; omega
      have av : ∀ x, grownF F wo w5 x → x < w3.heap.size ∨ wo.heap.size ≤ x := fun x hx => hx.imp (hF2.out x) fun h => h.1
      obtain ⟨F', hF'⟩ : ∃ F', F' = grownF F wo w5 := ⟨_, rfl⟩
      rw [← hF'] at d5 av
      have Hav := Lib.hid av; clear av hF' m5 x4 Htb dr
      by_cases h3 : p < 0
      · have e3 : decide (p < 0) = true := decide_eq_true h3
        have hwe : writeErr s.1 p 32 = 11 := by unfold writeErr; rw [if_neg (by omega)]
        rw [hwe]
        have Hb := Lib.hid d5.bel
        clear hwe d5 x5 t5
        go_wp2
        go_ret
        exact ⟨rfl, Hb.out⟩
      have e3 : decide (p < 0) = false := decide_eq_false h3
      by_cases h4 : (j : Int) ≤ p
      · have e4 : decide ((j : Int) ≤ p) = true := decide_eq_true h4
        have hwe : writeErr s.1 p 32 = 11 := by unfold writeErr; rw [if_neg (by rw [Hlen.out]; omega)]
        rw [hwe]
        have Hb := Lib.hid d5.bel
        clear hwe d5 x5 t5
        go_wp2
        go_ret
        exact ⟨rfl, Hb.out⟩
      have e4 : decide ((j : Int) ≤ p) = false := decide_eq_false h4
      obtain ⟨k, rfl⟩ : ∃ k : Nat, p = k := ⟨p.toNat, by omega⟩
      have e4n : decide (j ≤ k) = false := decide_eq_false (by omega)
      have hwe : writeErr s.1 (k : Int) 32 = 0 := by unfold writeErr; rw [if_pos ⟨by omega, by rw [Hlen.out]; omega⟩, if_pos rfl]
      rw [hwe]
      have told := told_written (s := s) (k := k) Hlen.out (by omega) x5.len
      obtain ⟨st, hst⟩ : ∃ st, st = (s.1, written s.1 s.2 (k : Int) zs) := ⟨_, rfl⟩
      rw [← hst] at d5 told
      clear hwe hst
      have Htold := Lib.hid told; clear told
      have Hd5 := Lib.hid d5; clear d5
      have Ht5 := Lib.hid t5; clear t5
      have Hx5 := Lib.hid x5; clear x5
      go_wp2_with fail
      go_loopw [15] (fun i wr' => ∃ (q : Nat) (st : State), q ≤ 2 ∧ i = .int .i64 q ∧ Dev w wr' b F' st ∧ Told st s j k zs ∧ Table wr' w3.heap.size wo.heap.size (.slice (some ⟨g, 0, none⟩) j cg) j (fun i => readOf s.1 s.2 (i : Int)) ∧ Ints wr' .u8 da 32 dc zs) (fun i _ => 2 - (intOf i).toNat)
      case atStart => exact ⟨0, st, by omega, rfl, Hd5.out, Htold.out, Ht5.out, Hx5.out⟩
      case round =>
        obtain ⟨q, st', hq, rfl, dq, toldq, tq, xq⟩ := hrel
        clear Hd5 Htold Ht5 Hx5
        obtain ⟨wq, rfl⟩ : ∃ wq : World, wq = wr := ⟨_, rfl⟩
        have Hdq := Lib.hid dq; clear dq
        have Htold := Lib.hid toldq; clear toldq
        have Htq := Lib.hid tq; clear tq
        have Hxq := Lib.hid xq; clear xq
        by_cases hq2 : q < 2
        · have i1 : (q : Int) < 2 := by omega
          go_wp2_with fail
          go_loopw [16] (fun i wr' => ∃ y : Nat, y ≤ j ∧ i = .int .i64 y ∧ Dev w wr' b F' st' ∧ Table wr' w3.heap.size wo.heap.size (.slice (some ⟨g, 0, none⟩) j cg) j (fun i => readOf s.1 s.2 (i : Int)) ∧ Ints wr' .u8 da 32 dc zs) (fun i _ => j - (intOf i).toNat)
          case atStart => exact ⟨0, by omega, rfl, Hdq.out, Htq.out, Hxq.out⟩
          case round =>
            obtain ⟨y, hy, rfl, dy, ty, xy⟩ := hrel
            by_cases hyj : y < j
            · have i2 : (0 : Int) ≤ (y : Int) := by omega
              have i3 : (y : Int) < (j : Int) := by omega
              have hrd := Read_dev dy (y : Int)
              have hl := Htold.out.1
              rw [show readErr st' (y : Int) = 0 by unfold readErr; rw [hl, if_pos ⟨i2, i3⟩]] at hrd
              have hsec := dy.sector (k := (y : Int)) (by rw [hl]; exact ⟨i2, i3⟩)
              have htl := Htold.out.2 y hyj
              clear hl
              go_wp2_with fail
              refine hrd.mono ?_
              rintro e w6 ⟨v6, rfl, o6, b6, d6⟩
              obtain ⟨g6, c6, rfl, x6⟩ := o6.ofInts (n := 32) hsec.1 (by decide)
              have t6 := ty.below b6
              have x6' := xy.keep b6
              clear hrd o6 b6 hsec dy ty xy
              have Hd6 := Lib.hid d6; clear d6
              by_cases hyk : y = k
              · obtain rfl : y = k := hyk
                rw [if_pos rfl] at htl
                have g1 : ((y : Int) == (y : Int)) = true := by simp
                have g2 : ((y : Int) != (y : Int)) = false := by simp
                have Ht6 := Lib.hid t6; clear t6
                have Htl := Lib.hid htl; clear htl
                go_wp2_with fail
                refine (SameBytes_yes x6 x6' Htl.out).mono ?_
                rintro e w7 ⟨rfl, n7, rfl⟩
                have b7 : Below w6.heap.size w6 (w6.drewN n7) := ⟨rfl, rfl, rfl, Nat.le_refl _, fun _ _ => rfl⟩
                have d7 := Hd6.out.step b7
                have t7 := Ht6.out.below b7
                have x7 := x6'.keep b7
                clear x6 x6' Hd6 Ht6 b7
                generalize w6.drewN n7 = w7 at *
                have Hd7 := Lib.hid d7; clear d7
                have Ht7 := Lib.hid t7; clear t7
                have Hx7 := Lib.hid x7; clear x7
                go_wp2_with fail
                go_roundw
                case rel => exact ⟨y + 1, by omega, by go_num, Hd7.out, Ht7.out, Hx7.out⟩
                case measure => simp [intOf]; omega
              · rw [if_neg hyk] at htl
                have hyk' : (y : Int) ≠ (k : Int) := by omega
                have g1 : ((y : Int) == (k : Int)) = false := by simpa using hyk'
                have g2 : ((y : Int) != (k : Int)) = true := by simpa using hyk'
                obtain ⟨g', c', e', _, _, _, _, hel⟩ := t6.out
                simp only [Value.slice.injEq, Option.some.injEq, Addr.mk.injEq, and_true, true_and] at e'
                obtain ⟨rfl, rfl⟩ := e'
                obtain ⟨b8, n8, c8, hc8, x8, _⟩ := hel y hyj
                have Ht6 := Lib.hid t6; clear t6
                have Hx6 := Lib.hid x6'; clear x6'
                have Htl := Lib.hid htl; clear htl
                have Hyk := Lib.hid hyk; clear hyk hyk' hel
                go_wp2_with fail
                refine (SameBytes_yes x6 x8 Htl.out).mono ?_
                rintro e w7 ⟨rfl, n7, rfl⟩
                have b7 : Below w6.heap.size w6 (w6.drewN n7) := ⟨rfl, rfl, rfl, Nat.le_refl _, fun _ _ => rfl⟩
                have d7 := Hd6.out.step b7
                have t7 := Ht6.out.below b7
                have x7 := Hx6.out.keep b7
                clear x6 x8 Hx6 Hd6 Ht6 b7 hc8
                generalize w6.drewN n7 = w7 at *
                have Hd7 := Lib.hid d7; clear d7
                have Ht7 := Lib.hid t7; clear t7
                have Hx7 := Lib.hid x7; clear x7
                go_wp2_with fail
                go_roundw
                case rel => exact ⟨y + 1, by omega, by go_num, Hd7.out, Ht7.out, Hx7.out⟩
                case measure => simp [intOf]; omega
            · obtain rfl : y = j := by omega
              go_wp2_with fail
              refine (Flush_dev dy).mono ?_
              rintro e w6 ⟨rfl, d6, m6⟩
              have x6 : Ints w6 .u8 da 32 dc zs := m6.ints xy fun b o e hF => by have := Hxlt.out b o e; have := (dy.low b hF).1; omega
              have t6 := ty.keep (w' := w6) m6.size fun b h1 h2 => m6.block b (Nat.lt_of_lt_of_le h2 ty.fit) fun hF => by have := Hav.out b hF; omega
              have told6 := told_settled Htold.out fun p hp => (dy.wrs p hp).2.1
              clear dy m6 xy ty
              have Hd6 := Lib.hid d6; clear d6
              have Ht6 := Lib.hid t6; clear t6
              have Hx6 := Lib.hid x6; clear x6
              have Htold6 := Lib.hid told6; clear told6
              go_wp2_with fail
              go_roundw
              case rel => exact ⟨q + 1, _, by omega, by go_num, Hd6.out, Htold6.out, Ht6.out, Hx6.out⟩
              case measure => simp [intOf]; omega
        · obtain rfl : q = 2 := by omega
          have Hb := Lib.hid Hdq.out.bel
          go_wp2
          go_ret
          exact ⟨rfl, Hb.out⟩
end Go.Proofs.Ytpcekoimalafkaa
