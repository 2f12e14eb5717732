/- The law BoxOrder. -/
import Derived.Test.YtjmifnhpgedafaaBox9
import Derived.Test.YtjmifnhpgedafaaBoxO
namespace Go.Proofs.Ytjmifnhpgedafaa
open Go.RowKit

set_option maxHeartbeats 4000000 in
set_option maxRecDepth 100000 in
theorem lawBoxOrder {w : World} {r : Int} {a : Option Addr} {n c : Nat} {xs : List Msg} (hr : (Lit.int .i64 r).wf = true) (hx : Msgs w a n c xs) :
    Calls Try.prog 4 #[.int .i64 r, .slice a n c] w fun e w' => e = .returned (.bool true) ∧ Below w.heap.size w w' := by
  have hl := hx.len
  have hle := hx.le
  have hmx := hx.max
  have Hx := Lib.hid hx; clear hx
  have Hl := Lib.hid hl; clear hl
  go_enter Try.func4, Try.ntmps4
  go_wp2_with fail
  refine alive_calls.mono ?_
  rintro e w1 ⟨rfl, b1⟩
  by_cases h1 : r < 1
  · have e1 : decide (r < 1) = true := decide_eq_true h1
    have Hb := Lib.hid b1; clear b1
    go_wp2
    go_ret
    exact ⟨rfl, Hb.out⟩
  by_cases h2 : 8 < r
  · have e1 : decide (r < 1) = false := decide_eq_false h1
    have e2 : decide (8 < r) = true := decide_eq_true h2
    have Hb := Lib.hid b1; clear b1
    go_wp2
    go_ret
    exact ⟨rfl, Hb.out⟩
  by_cases h3 : 60 < n
  · have e1 : decide (r < 1) = false := decide_eq_false h1
    have e2 : decide (8 < r) = false := decide_eq_false h2
    have e3 : decide ((60 : Int) < (n : Int)) = true := decide_eq_true (by omega)
    have Hb := Lib.hid b1; clear b1
    go_wp2
    go_ret
    exact ⟨rfl, Hb.out⟩
  have e1 : decide (r < 1) = false := decide_eq_false h1
  have e2 : decide (8 < r) = false := decide_eq_false h2
  have e3 : decide ((60 : Int) < (n : Int)) = false := decide_eq_false (by omega)
  obtain ⟨R, rfl⟩ : ∃ R : Nat, r = R := ⟨r.toNat, by omega⟩
  have hR1 : 1 ≤ R := by omega
  have hR8 : R ≤ 8 := by omega
  have hn : n ≤ 60 := by omega
  clear h1 h2 h3 hr
  have Hb1 := Lib.hid b1; clear b1
  have en := New_bx Hb1.out (0, 0) hR1 hR8
  simp only [Label.cells] at en
  have EN := Lib.hid en; clear en
  go_wp2_with fail
  refine EN.out.mono ?_
  rintro e w2 ⟨b, F0, rfl, d2, -, -⟩
  clear EN Hb1 e1 e2 e3
  have Hd2 := Lib.hid d2; clear d2
  go_wp2_with fail
  have own0 : MOwn (w2.alloc (.cells #[] 34)) w.heap.size (.slice (some ⟨w2.heap.size, 0, none⟩) 0 0) [] := by
    have : (w2.alloc (.cells #[] 34)).ownsRow w2.heap.size 34 4 (.slice (some ⟨w2.heap.size, 0, none⟩) 0 0) 0 [] := World.ownsRow_made w2 #[] 0 (Nat.le_refl _) (by unfold maxLen; omega) rfl
    exact ⟨this.1, this.2.imp id fun ⟨g, cap, cur, e, hB, rest⟩ => ⟨g, cap, cur, e, Nat.le_trans Hd2.out.bel.size hB, rest⟩⟩
  have d3 := Hd2.out.step ((Below.refl _ _).alloc (Nat.le_refl _) (.cells #[] 34))
  have dis0 : ∀ g, (Value.slice (some ⟨w2.heap.size, 0, none⟩) 0 0).ownBlock = some g → ¬ F0 g := fun g hg hF => by
    have : g = w2.heap.size := by simpa [Value.ownBlock] using hg.symm
    have := (Hd2.out.low g hF).2
    omega
  have Hown0 := Lib.hid own0; clear own0
  have Hd3 := Lib.hid d3; clear d3
  have Hdis0 := Lib.hid dis0; clear dis0
  clear Hd2
  go_loopw [7, 8] (fun v i wr => ∃ (j : Nat) (ms : List Msg) (F : Nat → Prop), j ≤ n ∧ i = .int .i64 j ∧ Bx w wr b F (0, 0) R ms ∧ MOwn wr w.heap.size v ms ∧ ∀ g, v.ownBlock = some g → ¬ F g) (fun _ i _ => n - (intOf i).toNat)
  case atStart => exact ⟨0, [], F0, by omega, rfl, Hd3.out, Hown0.out, Hdis0.out⟩
  case round =>
    obtain ⟨j, ms, F, hj, rfl, hd, hown, hdis⟩ := hrel
    clear Hown0 Hd3 Hdis0
    have hroom := hd.room.2
    have hxr := Hx.out.keep (hd.bel)
    have Hd := Lib.hid hd; clear hd
    have Hdis := Lib.hid hdis; clear hdis
    by_cases hlt : j < n
    · obtain ⟨bx, ox, rfl⟩ := hxr.addr (by omega)
      have hjx : j < xs.length := by rw [Hl.out]; exact hlt
      have hcx := hxr.at hjx
      have hst := fun (w3 : World) (h3 : Msgs w3 (some ⟨bx, ox, none⟩) n c xs) => h3.at hjx
      obtain ⟨m', hm'⟩ : ∃ m', m' = xs[j] := ⟨_, rfl⟩
      rw [← hm'] at hcx hst
      clear hm'
      have hp := Put_bx Hd.out (0, 0) 0 m'
      rw [putOf_open] at hp
      obtain ⟨va, vc, rfl⟩ := own_slice hown
      obtain ⟨L, hL⟩ : ∃ L, L = ms.length := ⟨_, rfl⟩
      rw [← hL] at hown Hdis hroom ⊢
      obtain ⟨m, hm⟩ : ∃ m, m = m' := ⟨_, rfl⟩
      rw [← hm] at hcx
      obtain ⟨m1, m2, m3, m4⟩ := m
      simp only [Msg.cells, Msg.kind, Msg.part, Msg.tx, Msg.what] at hcx
      have hmc : m'.cells = [.int .i64 m1, .int .i64 m2, .int .i64 m3, .int .i64 m4] := by rw [← hm]; rfl
      rw [hmc] at hp hst
      have x0 := hcx 0 _ rfl
      have x1 := hcx 1 _ rfl
      have x2 := hcx 2 _ rfl
      have x3 := hcx 3 _ rfl
      simp only [Nat.add_zero] at x0
      have Hm := Lib.hid hm; clear hm
      have Hst := Lib.hid hst; clear hst
      clear hcx hmc
      have Hp := Lib.hid hp; clear hp
      have Hown := Lib.hid hown; clear hown
      have HL := Lib.hid hL; clear hL
      clear hxr
      have i1 : (0 : Int) ≤ (j : Int) := by omega
      have i2 : (j : Int) < (n : Int) := by omega
      go_wp2_with fail
      by_cases hr : rightOf m' = true
      · by_cases hlr : L < R
        · refine Hp.out.mono ?_
          rw [if_pos hr, if_pos (by rw [← HL.out]; exact hlr)]
          rintro e w3 ⟨rfl, d3, m3⟩
          have own3 := Hown.out.grown m3 Hdis.out
          have hx3 := Hx.out.keep d3.bel
          have hdis3 : ∀ g, (Value.slice va L vc).ownBlock = some g → ¬ grownF F wr w3 g := fun g hg h => h.elim (Hdis.out g hg) fun h => by have := (World.ownsRow.lt Hown.out g hg).2; omega
          have hcx := Hst.out w3 hx3
          clear x0 x1 x2 x3 Hst Hp
          have x0 := hcx 0 _ rfl
          have x1 := hcx 1 _ rfl
          have x2 := hcx 2 _ rfl
          have x3 := hcx 3 _ rfl
          simp only [Nat.add_zero] at x0
          clear hcx m3 hx3
          simp only at d3
          have Hd3 := Lib.hid d3; clear d3
          have Hown3 := Lib.hid own3; clear own3
          have Hdis3 := Lib.hid hdis3; clear hdis3
          clear Hown Hdis Hd hr
          go_wp2_with (with_reducible refine stop_builtin .append ?_)
          refine unpark ?_
          have own4 : MOwn (w3.alloc (.cells #[.int .i64 m1, .int .i64 m2, .int .i64 m3, .int .i64 m4] 34)) w.heap.size (.slice va L vc) ms := Hown3.out.keep fun g _ hg => heap_alloc_old _ _ hg
          have d4 := Hd3.out.step ((Below.refl _ _).alloc (Nat.le_refl _) (.cells #[.int .i64 m1, .int .i64 m2, .int .i64 m3, .int .i64 m4] 34))
          have hx4 := heap_alloc_new w3 (.cells #[.int .i64 m1, .int .i64 m2, .int .i64 m3, .int .i64 m4] 34)
          generalize w3.alloc (.cells #[.int .i64 m1, .int .i64 m2, .int .i64 m3, .int .i64 m4] 34) = w4 at own4 d4 hx4 ⊢
          refine wpList_append_msgs _ rfl _ _ rfl w.heap.size _ ms rfl own4 w3.heap.size 0 1 1 [m'] rfl rfl (by decide)
            (fun k u hu => by rw [Nat.zero_add, cells_at hx4 k]; rw [← Hm.out] at hu; simpa [mrow, Msg.cells] using hu) (by rw [← HL.out]; omega) d4.bel.size ?_
          intro v' w5 own5 g5 hv5
          have m5 : Mod (fun k => (Value.slice va L vc).ownBlock = some k) w4 w5 := Mod.of_grown g5 fun k hk => hk
          have d5 := d4.aside m5 (fun k hF hk => Hdis3.out k hk hF) fun k hk => (World.ownsRow.lt own4 k hk).1
          have hdis5 : ∀ g, v'.ownBlock = some g → ¬ grownF F wr w3 g := fun g hg hF => by
            rcases hv5 with e | e
            · exact Hdis3.out g (e ▸ hg) hF
            · have : g = w4.heap.size := by rw [e] at hg; exact (Option.some.inj hg).symm
              have := (d4.low g hF).2
              omega
          clear own4 d4 hx4 g5 hv5 m5 Hd3 Hown3 Hdis3 x0 x1 x2 x3
          have Hd5 := Lib.hid d5; clear d5
          have Hown5 := Lib.hid own5; clear own5
          have Hdis5 := Lib.hid hdis5; clear hdis5
          go_wp2_with fail
          go_roundw
          case rel => exact ⟨j + 1, _, _, by omega, by go_num, Hd5.out, Hown5.out, Hdis5.out⟩
          case measure => simp [intOf]; omega
        · have e1 : decide ((L : Int) < (R : Int)) = false := decide_eq_false (by omega)
          refine Hp.out.mono ?_
          rw [if_pos hr, if_neg (by rw [← HL.out]; exact hlr)]
          rintro e w3 ⟨rfl, d3, m3⟩
          have own3 := Hown.out.grown m3 Hdis.out
          have hdis3 : ∀ g, (Value.slice va L vc).ownBlock = some g → ¬ grownF F wr w3 g := fun g hg h => h.elim (Hdis.out g hg) fun h => by have := (World.ownsRow.lt Hown.out g hg).2; omega
          clear x0 x1 x2 x3 Hst Hp m3 hr
          simp only at d3
          have Hd3 := Lib.hid d3; clear d3
          have Hown3 := Lib.hid own3; clear own3
          have Hdis3 := Lib.hid hdis3; clear hdis3
          clear Hown Hdis Hd
          go_wp2_with fail
          go_roundw
          case rel => exact ⟨j + 1, _, _, by omega, by go_num, Hd3.out, Hown3.out, Hdis3.out⟩
          case measure => simp [intOf]; omega
      · refine Hp.out.mono ?_
        rw [if_neg hr]
        rintro e w3 ⟨rfl, d3, m3⟩
        have own3 := Hown.out.grown m3 Hdis.out
        have hdis3 : ∀ g, (Value.slice va L vc).ownBlock = some g → ¬ grownF F wr w3 g := fun g hg h => h.elim (Hdis.out g hg) fun h => by have := (World.ownsRow.lt Hown.out g hg).2; omega
        clear x0 x1 x2 x3 Hst Hp m3 hr
        simp only at d3
        have Hd3 := Lib.hid d3; clear d3
        have Hown3 := Lib.hid own3; clear own3
        have Hdis3 := Lib.hid hdis3; clear hdis3
        clear Hown Hdis Hd
        go_wp2_with fail
        go_roundw
        case rel => exact ⟨j + 1, _, _, by omega, by go_num, Hd3.out, Hown3.out, Hdis3.out⟩
        case measure => simp [intOf]; omega
    · obtain rfl : j = n := by omega
      clear hxr
      obtain ⟨va, vc, rfl⟩ := own_slice hown
      obtain ⟨L, hL⟩ : ∃ L, L = ms.length := ⟨_, rfl⟩
      rw [← hL] at hown Hdis hroom ⊢
      have HL := Lib.hid hL; clear hL
      have Hown := Lib.hid hown; clear hown
      go_wp2_with fail
      have own1 : (wr.alloc (.cells #[] 34)).ownsRow wr.heap.size 34 4 (.slice (some ⟨wr.heap.size, 0, none⟩) 0 0) 0 [] := World.ownsRow_made wr #[] 0 (Nat.le_refl _) (by unfold maxLen; omega) rfl
      have own2 : MOwn (wr.alloc (.cells #[] 34)) w.heap.size (.slice (some ⟨wr.heap.size, 0, none⟩) 0 0) [] :=
        ⟨own1.1, own1.2.imp id fun ⟨g, cap, cur, e, hB, rest⟩ => ⟨g, cap, cur, e, Nat.le_trans Hd.out.bel.size hB, rest⟩⟩
      have ownw : MOwn (wr.alloc (.cells #[] 34)) w.heap.size (.slice va L vc) ms := Hown.out.keep fun g _ hg => heap_alloc_old _ _ hg
      have d1 := Hd.out.step ((Below.refl _ _).alloc (Nat.le_refl _) (.cells #[] 34))
      have dis1 : ∀ g, (Value.slice (some ⟨wr.heap.size, 0, none⟩) 0 0).ownBlock = some g → ¬ F g := fun g hg hF => by
        have : g = wr.heap.size := by simpa [Value.ownBlock] using hg.symm
        have := (Hd.out.low g hF).2
        omega
      have dis2 : ∀ g, (Value.slice va L vc).ownBlock = some g → ¬ F g ∧ (Value.slice (some ⟨wr.heap.size, 0, none⟩) 0 0).ownBlock ≠ some g := fun g hg => by
        refine ⟨Hdis.out g hg, fun e => ?_⟩
        have : g = wr.heap.size := by simpa [Value.ownBlock] using e.symm
        have := (World.ownsRow.lt Hown.out g hg).2
        omega
      generalize wr.alloc (.cells #[] 34) = w5 at own2 ownw d1 ⊢
      clear own1
      have H1 := Lib.hid own2; clear own2
      have H2 := Lib.hid ownw; clear ownw
      have H3 := Lib.hid d1; clear d1
      have H4 := Lib.hid dis1; clear dis1
      have H5 := Lib.hid dis2; clear dis2
      clear Hown Hd Hdis
      go_loopw [11] (fun v2 wq => ∃ (gs ms2 : List Msg) (F2 : Nat → Prop), gs ++ ms2 = ms ∧ Bx w wq b F2 (0, 0) R ms2 ∧ MOwn wq w.heap.size v2 gs ∧ MOwn wq w.heap.size (.slice va L vc) ms ∧
        (∀ g, v2.ownBlock = some g → ¬ F2 g) ∧ (∀ g, (Value.slice va L vc).ownBlock = some g → ¬ F2 g ∧ v2.ownBlock ≠ some g)) (fun v2 _ => match v2 with | .slice _ k _ => L - k | _ => 0)
      case atStart => exact ⟨[], ms, F, rfl, H3.out, H1.out, H2.out, H4.out, H5.out⟩
      case round =>
        obtain ⟨gs, ms2, F2, hcat, hd, own, ownw, dis, disw⟩ := hrel
        clear H1 H2 H3 H4 H5
        obtain ⟨va2, vc2, rfl⟩ := own_slice own
        obtain ⟨K, hK⟩ : ∃ K, K = gs.length := ⟨_, rfl⟩
        rw [← hK] at own dis disw ⊢
        have hLK : K + ms2.length = L := by rw [hK, HL.out, ← hcat, List.length_append]
        have HK := Lib.hid hK; clear hK
        have Hcat := Lib.hid hcat; clear hcat
        have Hd := Lib.hid hd; clear hd
        have Hown := Lib.hid own; clear own
        have Hownw := Lib.hid ownw; clear ownw
        have Hdis := Lib.hid dis; clear dis
        have Hdisw := Lib.hid disw; clear disw
        go_wp2_with fail
        refine (Len_bx Hd.out).mono ?_
        rintro e w6 ⟨rfl, rfl⟩
        cases ms2 with
        | nil =>
          have hgs : gs = ms := by rw [← Hcat.out, List.append_nil]
          obtain ⟨a2, n2, c2, e2, x2, -⟩ := MOwn.msgs Hown.out
          cases e2
          obtain ⟨a1, n1, c1, e1, x1, -⟩ := MOwn.msgs Hownw.out
          cases e1
          simp only [List.length_nil]
          clear hLK
          have X1 := Lib.hid x1; clear x1
          have X2 := Lib.hid x2; clear x2
          go_wp2_with fail
          refine (SameMsgs_calls X2.out X1.out hgs).mono ?_
          rintro e w7 ⟨rfl, nd, rfl⟩
          have bel := (Hd.out.drawn nd).bel
          have Hbel := Lib.hid bel; clear bel
          go_wp2
          go_ret
          exact ⟨rfl, Hbel.out⟩
        | cons m rest =>
          rw [List.length_cons] at hLK ⊢
          have e1 : decide ((0 : Int) < ((rest.length + 1 : Nat) : Int)) = true := decide_eq_true (by omega)
          have e2 : decide ((K : Int) ≤ (R : Int)) = true := decide_eq_true (by omega)
          have e2n : decide (K ≤ R) = true := decide_eq_true (by omega)
          have ht := Take_bx Hd.out (0, 0) 0 0
          rw [takeOf_open, if_pos ⟨by omega, by rw [List.length_cons]; omega⟩] at ht
          simp only [Int.toNat_zero, List.getD_cons_zero, List.eraseIdx_cons_zero, Label.cells] at ht
          obtain ⟨m', hm⟩ : ∃ m', m' = m := ⟨_, rfl⟩
          obtain ⟨m1, m2, m3, m4⟩ := m
          simp only [Msg.cells, Msg.kind, Msg.part, Msg.tx, Msg.what] at ht
          rw [← hm] at Hcat Hd
          have Hm := Lib.hid hm; clear hm
          have Ht := Lib.hid ht; clear ht
          generalize rest.length = M at hLK e1 ⊢
          go_wp2_with fail
          refine Ht.out.mono ?_
          rintro e w6 ⟨rfl, d6, m6⟩
          have own6 := Hown.out.grown m6 Hdis.out
          have ownw6 := Hownw.out.grown m6 fun g hg => (Hdisw.out g hg).1
          have dis6 : ∀ g, (Value.slice va2 K vc2).ownBlock = some g → ¬ grownF F2 wr w6 g := fun g hg h => h.elim (Hdis.out g hg) fun h => by have := (World.ownsRow.lt Hown.out g hg).2; omega
          have disw6 : ∀ g, (Value.slice va L vc).ownBlock = some g → ¬ grownF F2 wr w6 g ∧ (Value.slice va2 K vc2).ownBlock ≠ some g := fun g hg => ⟨fun h => h.elim (Hdisw.out g hg).1 fun h => by have := (World.ownsRow.lt Hownw.out g hg).2; omega, (Hdisw.out g hg).2⟩
          clear m6 Ht Hd Hown Hownw Hdis Hdisw
          have h6s := d6.bel.size
          have Hd6 := Lib.hid d6; clear d6
          have Hown6 := Lib.hid own6; clear own6
          have Hownw6 := Lib.hid ownw6; clear ownw6
          have Hdis6 := Lib.hid dis6; clear dis6
          have Hdisw6 := Lib.hid disw6; clear disw6
          go_wp2_with (with_reducible refine stop_builtin .append ?_)
          refine unpark ?_
          generalize hw7 : w6.alloc (.cells #[.int .i64 m1, .int .i64 m2, .int .i64 m3, .int .i64 m4] 34) = w7
          have b7 : Below w6.heap.size w6 w7 := by rw [← hw7]; exact (Below.refl _ _).alloc (Nat.le_refl _) _
          have hs7 : w7.heap.size = w6.heap.size + 1 := by rw [← hw7]; simp
          clear hw7
          have hx8 := heap_alloc_new w7 (.cells #[.int .i64 m1, .int .i64 m2, .int .i64 m3, .int .i64 m4] 34)
          have b8 : Below w6.heap.size w6 (w7.alloc (.cells #[.int .i64 m1, .int .i64 m2, .int .i64 m3, .int .i64 m4] 34)) := b7.alloc b7.size _
          generalize w7.alloc (.cells #[.int .i64 m1, .int .i64 m2, .int .i64 m3, .int .i64 m4] 34) = w8 at hx8 b8 ⊢
          rw [hs7] at hx8
          generalize w6.heap.size + 1 = g8 at hx8 ⊢
          have d8 := Hd6.out.step b8
          have own8 := Hown6.out.keep fun g _ hg => b8.block g hg
          have ownw8 := Hownw6.out.keep fun g _ hg => b8.block g hg
          refine wpList_append_msgs _ rfl _ _ rfl w.heap.size _ gs rfl own8 g8 0 1 1 [m'] rfl rfl (by decide)
            (fun k u hu => by rw [Nat.zero_add, cells_at hx8 k]; rw [Hm.out] at hu; simpa [mrow, Msg.cells] using hu) (by rw [← HK.out]; omega) d8.bel.size ?_
          intro v' w9 own9 g9 hv9
          have m9 : Mod (fun k => (Value.slice va2 K vc2).ownBlock = some k) w8 w9 := Mod.of_grown g9 fun k hk => hk
          have d9 := d8.aside m9 (fun k hF hk => Hdis6.out k hk hF) fun k hk => (World.ownsRow.lt own8 k hk).1
          have ownw9 := ownw8.grown m9 fun k hk hk2 => (Hdisw6.out k hk).2 hk2
          have dis9 : ∀ g, v'.ownBlock = some g → ¬ grownF F2 wr w6 g := fun g hg hF => by
            rcases hv9 with e | e
            · exact Hdis6.out g (e ▸ hg) hF
            · have : g = w8.heap.size := by rw [e] at hg; exact (Option.some.inj hg).symm
              have := (d8.low g hF).2
              omega
          have disw9 : ∀ g, (Value.slice va L vc).ownBlock = some g → ¬ grownF F2 wr w6 g ∧ v'.ownBlock ≠ some g := fun g hg => by
            refine ⟨(Hdisw6.out g hg).1, fun e2 => ?_⟩
            rcases hv9 with e | e
            · exact (Hdisw6.out g hg).2 (e ▸ e2)
            · have : g = w8.heap.size := by rw [e] at e2; exact (Option.some.inj e2).symm
              have := (World.ownsRow.lt ownw8 g hg).2
              omega
          have hcat9 : (gs ++ [m']) ++ rest = ms := by rw [← Hcat.out, List.append_assoc]; rfl
          obtain ⟨va9, vc9, hv'⟩ := own_slice own9
          rw [List.length_append, List.length_cons, List.length_nil, ← HK.out] at hv'
          subst hv'
          clear hx8 b7 b8 d8 own8 ownw8 g9 hv9 m9 Hd6 Hown6 Hownw6 Hdis6 Hdisw6
          have Hd9 := Lib.hid d9; clear d9
          have Hown9 := Lib.hid own9; clear own9
          have Hownw9 := Lib.hid ownw9; clear ownw9
          have Hdis9 := Lib.hid dis9; clear dis9
          have Hdisw9 := Lib.hid disw9; clear disw9
          have Hcat9 := Lib.hid hcat9; clear hcat9
          go_wp2_with fail
          go_roundw
          case rel => exact ⟨_, _, _, Hcat9.out, Hd9.out, Hown9.out, Hownw9.out, Hdis9.out, Hdisw9.out⟩
          case measure => simp; omega
end Go.Proofs.Ytjmifnhpgedafaa
