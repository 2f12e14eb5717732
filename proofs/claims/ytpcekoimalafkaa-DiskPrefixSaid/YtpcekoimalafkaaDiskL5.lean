/- DiskPrefix: the walk of the law. -/
import Derived.Test.YtpcekoimalafkaaDiskB
import Derived.Test.YtpcekoimalafkaaDiskP
import Derived.Test.YtpcekoimalafkaaDiskO
namespace Go.Proofs.Ytpcekoimalafkaa
open Go.RowKit

def nextOf (C : List (Int × List Int)) (K : Nat) : Int := match C[K]? with | some p => p.1 | none => -1
theorem nextOf_low {C : List (Int × List Int)} {K : Nat} (h : C.length ≤ K) : nextOf C K = -1 := by unfold nextOf; rw [List.getElem?_eq_none h]
theorem nextOf_at {C : List (Int × List Int)} {K : Nat} (h : C.length = K) (p : Int × List Int) : nextOf (C ++ [p]) K = p.1 := by unfold nextOf; subst h; simp
theorem nextOf_past {C : List (Int × List Int)} {K : Nat} (h : K < C.length) (p : Int × List Int) : nextOf (C ++ [p]) K = nextOf C K := by unfold nextOf; rw [List.getElem?_append_left h]

theorem prefix_eq {S : List (List Int)} {C : List (Int × List Int)} {K : Nat} {keep tear : Int} (hK : (K : Int) = max keep 0) {i : Nat} (hi : (i : Int) ≠ nextOf C K) (hC : ∀ p ∈ C, 0 ≤ p.1) :
    (crashed S C keep tear).getD i [] = (settled S (C.take K)).getD i [] := by
  have hc : clampTo keep C.length = min K C.length := by unfold clampTo; omega
  have ht : C.take (min K C.length) = C.take K := by rw [List.take_eq_take_iff]; omega
  unfold crashed
  rw [hc, ht]
  by_cases h : K < C.length
  · rw [Nat.min_eq_left (by omega)]
    unfold nextOf at hi
    cases hp : C[K]? with
    | none => rfl
    | some p =>
      rw [hp] at hi
      simp only at hi ⊢
      have h0 := hC p (List.mem_of_getElem? hp)
      unfold torn
      rw [List.getD_eq_getElem?_getD, List.getElem?_set_ne (by omega), ← List.getD_eq_getElem?_getD]
  · rw [Nat.min_eq_right (by omega), List.getElem?_eq_none (Nat.le_refl _)]

set_option maxHeartbeats 4000000 in
theorem lawDiskPrefix {w : World} {n : Int} (_hn : (Lit.int .i64 n).wf = true) {a : Option Addr} {m c : Nat} {xs : List CallV} (hr : CallRow w a m c xs)
    {a2 : Option Addr} {m2 c2 : Nat} {ys : List CallV} (hr2 : CallRow w a2 m2 c2 ys) {keep : Int} (_hk : (Lit.int .i64 keep).wf = true) {tear : Int} (_ht : (Lit.int .i64 tear).wf = true) :
    Calls Try.prog 5 #[.int .i64 n, .slice a m c, .slice a2 m2 c2, .int .i64 keep, .int .i64 tear] w fun e w' => e = .returned (.bool true) ∧ Below w.heap.size w w' := by
  go_enter Try.func5, Try.ntmps5
  go_wp2_with fail
  refine alive_calls.mono ?_
  rintro e w1 ⟨rfl, b1⟩
  have hr1 := hr.keep b1
  have hr21 := hr2.keep b1
  have B1 := Lib.hid b1; clear b1
  go_wp2_with fail
  refine (great_calls hr1).mono ?_
  rintro e w2 ⟨rfl, rfl⟩
  cases hg : greatOf xs with
  | true =>
    go_wp2
    go_ret
    exact ⟨rfl, B1.out⟩
  | false =>
  have HG := Lib.hid hg; clear hg
  go_wp2_with fail
  refine (great_calls hr21).mono ?_
  rintro e w2 ⟨rfl, rfl⟩
  cases hg2 : greatOf ys with
  | true =>
    go_wp2
    go_ret
    exact ⟨rfl, B1.out⟩
  | false =>
  have HG2 := Lib.hid hg2; clear hg2
  by_cases h1 : n < 1
  · have hd : decide (n < 1) = true := decide_eq_true h1
    go_wp2
    go_ret
    exact ⟨rfl, B1.out⟩
  have e1 : decide (n < 1) = false := decide_eq_false h1
  by_cases h2 : 40 < n
  · have e2 : decide (40 < n) = true := decide_eq_true h2
    go_wp2
    go_ret
    exact ⟨rfl, B1.out⟩
  have e2 : decide (40 < n) = false := decide_eq_false h2
  obtain ⟨N, rfl⟩ : ∃ N : Nat, n = N := ⟨n.toNat, by omega⟩
  go_wp2_with fail
  refine (begin_dev (w0 := w) B1.out (by omega) (by omega) hr1 HG.out).mono ?_
  rintro e w3 ⟨ba, Fa, rfl, d3, f3, b3⟩
  obtain ⟨s, hs⟩ : ∃ s, s = stepsOf (fresh N, []) xs := ⟨_, rfl⟩
  rw [← hs] at d3
  have hlen : s.1.length = N := by rw [hs, (stepsOf_len _ _).1]; simp [fresh]
  have hr3 := hr1.keep b3
  have Hs := Lib.hid hs; clear hs
  go_wp2_with fail
  refine (begin_dev (w0 := w) d3.bel (by omega) (by omega) hr3 HG.out).mono ?_
  rintro e w4 ⟨bb, Fb, rfl, d4, f4, b4⟩
  rw [← Hs.out] at d4
  have dis : ∀ x, Fa x → ¬ Fb x := fun x hx hy => by have := (d3.low x hx).2; have := f4 x hy; omega
  have da4 := d3.step b4
  have hng2 := notGreat HG2.out
  have hly := hr2.len
  clear hr1 hr21 hr3 e1 e2 f3 b3 f4 b4 d3
  have Hlen := Lib.hid hlen; clear hlen
  have Hly := Lib.hid hly; clear hly
  go_wp2_with fail
  refine (Flush_dev da4).mono ?_
  rintro e w5 ⟨rfl, d5, m5⟩
  have db5 := d4.aside m5 (fun x hx hy => dis x hy hx) fun x hx => (da4.low x hx).1
  clear da4 d4 m5
  go_wp2_with fail
  refine (Flush_dev db5).mono ?_
  rintro e w6 ⟨rfl, d6, m6⟩
  have da6 := d5.aside m6 dis fun x hx => (db5.low x hx).1
  clear db5 d5 m6
  obtain ⟨S, hS⟩ : ∃ S, S = settled s.1 s.2 := ⟨_, rfl⟩
  rw [← hS] at d6 da6
  have hlS : S.length = N := by rw [hS, settled_len, Hlen.out]
  clear hS Hlen Hs
  have HlS := Lib.hid hlS; clear hlS
  obtain ⟨K, hK⟩ : ∃ K : Nat, (K : Int) = max keep 0 := ⟨(max keep 0).toNat, by omega⟩
  obtain ⟨M, hM⟩ : ∃ M : Int, M = (K : Int) := ⟨_, rfl⟩
  have hmax : ∀ w, (Builtin.max_ #[3, 3] 3 #[.int .i64 keep, .int .i64 0]).run Try.prog w = .ok (.int .i64 M) w := fun w => by
    have : (Builtin.max_ #[3, 3] 3 #[.int .i64 keep, .int .i64 0]).run Try.prog w = .ok (.int .i64 (if (0 : Int) > keep then 0 else keep)) w := rfl
    rw [this]
    have e : (if (0 : Int) > keep then 0 else keep) = M := by rw [hM, hK]; split <;> omega
    rw [e]
  have hKM : M ≤ (K : Int) ∧ (K : Int) ≤ M := by omega
  have hMk : (0 ≤ keep → M = keep) ∧ (keep < 0 → M = 0) := by omega
  have HK := Lib.hid hK; clear hK
  have HMk := Lib.hid hMk; clear hMk
  clear hM
  have Hd6 := Lib.hid d6; clear d6
  have Hda6 := Lib.hid da6; clear da6
  have Hdis := Lib.hid dis; clear dis
  go_wp2_with fail
  go_loopw [13, 14, 15] (fun nn nx i wr => ∃ (j L : Nat) (X : Int) (C : List (Int × List Int)) (Fa Fb : Nat → Prop), j ≤ m2 ∧ i = .int .i64 j ∧ nn = .int .i64 L ∧ L = C.length ∧ nx = .int .i64 X ∧ X = nextOf C K ∧
    Dev w wr ba Fa (S, C) ∧ Dev w wr bb Fb (S, C.take K) ∧ (∀ x, Fa x → ¬ Fb x) ∧ L ≤ j) (fun _ _ i _ => m2 - (intOf i).toNat)
  case atStart => exact ⟨0, 0, -1, [], Fa, Fb, by omega, rfl, rfl, rfl, rfl, (nextOf_low (Nat.zero_le _)).symm, Hda6.out, by simpa using Hd6.out, Hdis.out, by omega⟩
  case round =>
    obtain ⟨j, L, X, C, Fa, Fb, hj, rfl, rfl, hL, rfl, hX, da, db, dis, hC⟩ := hrel
    clear Hd6 Hda6 Hdis
    have HL := Lib.hid hL; clear hL
    have HX := Lib.hid hX; clear hX
    have Hdis := Lib.hid dis; clear dis
    by_cases hlt : j < m2
    · obtain ⟨bx, ox, rfl, hc⟩ := (hr2.keep da.bel).cell (by omega)
      have hjx : j < ys.length := by rw [Hly.out]; exact hlt
      have hin : ys[j] ∈ ys := List.getElem_mem _
      have hcx := hc j hjx
      have hok := (hr2.ok _ hin).data
      have hdn := hng2.2 _ hin
      obtain ⟨x, hx⟩ : ∃ x, x = ys[j] := ⟨_, rfl⟩
      rw [← hx] at hcx hin hok hdn
      clear hx hc hin
      have hcells : ∀ i v, x.cells[i]? = some v → wr.cell? ⟨bx, ox + j * 4 + i, none⟩ = some v := fun i v hv => by
        have hi : i < 4 := (List.getElem?_eq_some_iff.1 hv).1
        rw [Nat.add_assoc, hcx i hi]; exact hv
      obtain ⟨what, place, tr, ad, dn, dc, zs⟩ := x
      simp only [CallV.cells] at hcells hdn hok
      have Hcells := Lib.hid hcells; clear hcells hcx
      have Hok := Lib.hid hok; clear hok
      have i1 : (0 : Int) ≤ (j : Int) := by omega
      have i2 : (j : Int) < (m2 : Int) := by omega
      have Hda := Lib.hid da; clear da
      have Hdb := Lib.hid db; clear db
      go_wp2_with (with_reducible refine stop_load 34 ?_)
      refine unpark ?_
      refine wpList_load_cells rfl _ _ rfl bx (ox + j * 4) rfl [.int .i64 what, .int .i64 place, .int .i64 tr, .slice ad dn dc] Hcells.out 4 rfl _ Try.underlying34 rfl Try.sizeCall ?_
      go_wp2_with (with_reducible refine stop_store 34 ?_)
      refine unpark ?_
      refine wpList_store_at rfl _ _ _ rfl _ 0 rfl _ rfl [.int .i64 what, .int .i64 place, .int .i64 tr, .slice ad dn dc] rfl _ _ (heap_alloc_new _ _) 4 rfl (by decide) (by simp [Value.oneCell']) Try.sizeCall ?_
      intro w7 hw7 hg7 hs7
      clear hs7
      replace hw7 : w7.heap[wr.heap.size]? = some (.cells #[.int .i64 what, .int .i64 place, .int .i64 tr, .slice ad dn dc] 34 (0, 0)) := hw7
      have hal : Below wr.heap.size wr w7 := ((Below.refl _ _).alloc (Nat.le_refl _) _).grown hg7 (by simp) (fun k hk => by cases hk; exact Nat.le_refl _)
      have da7 := Hda.out.step hal
      have db7 := Hdb.out.step hal
      have hd7 := Hok.out.keep da7.bel
      have c1 := cells_at hw7 1
      have c3 := cells_at hw7 3
      have hlo : wr.heap.size < w7.heap.size := (Array.getElem?_eq_some_iff.1 hw7).1
      have hFa : ∀ x, Fa x → x < wr.heap.size := fun x hx => (Hda.out.low x hx).2
      clear hg7 hal Hcells Hda Hdb
      have HFa := Lib.hid hFa; clear hFa
      have Hdb7 := Lib.hid db7; clear db7
      have hwr := Write_dev da7 place hd7 (by show C.length ≤ 1000000; have := hng2.1; have := Hly.out; have := HL.out; omega)
      clear hd7
      have Hda7 := Lib.hid da7; clear da7
      have Hhwr := Lib.hid hwr; clear hwr
      have Hw7 := Lib.hid hw7; clear hw7
      go_wp2_with fail
      refine Hhwr.out.mono ?_
      rintro e w8 ⟨rfl, da8, m8⟩
      have db8 := Hdb7.out.aside m8 (fun x hx hy => Hdis.out x hy hx) fun x hx => (Hda7.out.low x hx).1
      have hw8 := (m8.block wr.heap.size hlo fun hF => by have := HFa.out _ hF; omega).trans Hw7.out
      have dis8 : ∀ x, grownF Fa w7 w8 x → ¬ Fb x := fun x hx hy => hx.elim (fun h => Hdis.out x h hy) fun h => by have := (Hdb7.out.low x hy).2; omega
      have hd8 := Hok.out.keep da8.bel
      clear c1 c3 m8 Hhwr Hda7 Hdb7 Hw7
      have c1 := cells_at hw8 1
      have c3 := cells_at hw8 3
      clear hw8
      have Hdis8 := Lib.hid dis8; clear dis8
      by_cases hok : (0 ≤ place ∧ place < (S.length : Int)) ∧ dn = 32
      case neg =>
        have hE : writeErr S place dn ≠ 0 := by
          unfold writeErr
          split
          · split
            · rename_i h1 h2; exact absurd ⟨h1, h2⟩ hok
            · decide
          · decide
        have hWr : written S C place zs = C := by
          unfold written
          rw [if_neg]
          intro h
          exact hok ⟨⟨h.1, h.2.1⟩, by rw [← Hok.out.len]; exact h.2.2⟩
        rw [hWr] at da8
        obtain ⟨E, hEq⟩ : ∃ E, E = writeErr S place dn := ⟨_, rfl⟩
        rw [← hEq] at hE
        have hEb : (E != 0) = true := by simpa using hE
        have Hda8 := Lib.hid da8; clear da8
        have Hdb8 := Lib.hid db8; clear db8
        have HokN := Lib.hid hok; clear hok
        have Hd8 := Lib.hid hd8; clear hd8
        simp only [← hEq]
        clear hWr hEq hE
        go_wp2_with fail
        go_roundw
        case rel => exact ⟨j + 1, L, X, C, _, Fb, by omega, by go_num, rfl, HL.out, rfl, HX.out, Hda8.out, Hdb8.out, Hdis8.out, by omega⟩
        case measure => simp [intOf]; omega
      obtain ⟨hpl, rfl⟩ := hok
      have hE : writeErr S place 32 = 0 := by unfold writeErr; rw [if_pos hpl, if_pos rfl]
      have hWr : written S C place zs = C ++ [(place, zs)] := by unfold written; rw [if_pos ⟨hpl.1, hpl.2, Hok.out.len⟩]
      rw [hWr] at da8
      simp only [hE]
      clear hE hWr
      have Hda8 := Lib.hid da8; clear da8
      have Hpl := Lib.hid hpl; clear hpl
      by_cases hlk : (L : Int) < keep
      · have hbl : decide ((L : Int) < keep) = true := decide_eq_true hlk
        have hLK : L < K := by have := HMk.out.1 (by omega); omega
        have hne : ((L : Int) == M) = false := by have : (L : Int) ≠ M := by omega
                                                  simpa using this
        have htk : C.take K = C := List.take_of_length_le (by have := HL.out; omega)
        rw [htk] at db8
        have hwr := Write_dev db8 place hd8 (by show C.length ≤ 1000000; have := hng2.1; have := Hly.out; have := HL.out; omega)
        have hWr : written S C place zs = C ++ [(place, zs)] := by unfold written; rw [if_pos ⟨Hpl.out.1, Hpl.out.2, Hok.out.len⟩]
        simp only [hWr] at hwr
        have Hhwr := Lib.hid hwr; clear hwr hWr htk
        have Hdb8 := Lib.hid db8; clear db8
        have Hd8 := Lib.hid hd8; clear hd8
        go_wp2_with fail
        refine Hhwr.out.mono ?_
        rintro e w9 ⟨rfl, db9, m9⟩
        have da9 := Hda8.out.aside m9 Hdis8.out fun x hx => (Hdb8.out.low x hx).1
        have dis9 : ∀ x, grownF Fa w7 w8 x → ¬ grownF Fb w8 w9 x := fun x hx hy => hy.elim (Hdis8.out x hx) fun h => by have := (Hda8.out.low x hx).2; omega
        have htk9 : (C ++ [(place, zs)]).take K = C ++ [(place, zs)] := List.take_of_length_le (by have := HL.out; simp; omega)
        have hX9 : X = nextOf (C ++ [(place, zs)]) K := by rw [HX.out, nextOf_low (by have := HL.out; omega), nextOf_low (by have := HL.out; simp; omega)]
        have hL9 : L + 1 = (C ++ [(place, zs)]).length := by rw [List.length_append, ← HL.out]; rfl
        rw [← htk9] at db9
        clear m9 Hhwr Hdb8 Hda8 htk9 c1 c3
        have Hdb9 := Lib.hid db9; clear db9
        have Hda9 := Lib.hid da9; clear da9
        have Hdis9 := Lib.hid dis9; clear dis9
        have HX9 := Lib.hid hX9; clear hX9
        have HL9 := Lib.hid hL9; clear hL9
        go_wp2_with fail
        go_roundw
        case rel => exact ⟨j + 1, L + 1, X, C ++ [(place, zs)], _, _, by omega, by go_num, by go_num, HL9.out, rfl, HX9.out, Hda9.out, Hdb9.out, Hdis9.out, by omega⟩
        case measure => simp [intOf]; omega
      have hbl : decide ((L : Int) < keep) = false := decide_eq_false hlk
      have hKL : K ≤ L := by
        have h := HMk.out
        by_cases h0 : 0 ≤ keep
        · have := h.1 h0; omega
        · have := h.2 (by omega); omega
      have htk9 : (C ++ [(place, zs)]).take K = C.take K := List.take_append_of_le_length (by have := HL.out; omega)
      have hL9 : L + 1 = (C ++ [(place, zs)]).length := by rw [List.length_append, ← HL.out]; rfl
      rw [← htk9] at db8
      have HL9 := Lib.hid hL9; clear hL9 htk9
      have Hdb8 := Lib.hid db8; clear db8
      have Hd8 := Lib.hid hd8; clear hd8
      by_cases heq : L = K
      · have hne : ((L : Int) == M) = true := by have : (L : Int) = M := by omega
                                                 simpa using this
        have hX9 : place = nextOf (C ++ [(place, zs)]) K := (nextOf_at (K := K) (HL.out.symm.trans heq) (place, zs)).symm
        have HX9 := Lib.hid hX9; clear hX9
        have Heq := Lib.hid heq; clear heq
        go_wp2_with fail
        go_roundw
        case rel => exact ⟨j + 1, L + 1, place, C ++ [(place, zs)], _, _, by omega, by go_num, by go_num, HL9.out, rfl, HX9.out, Hda8.out, Hdb8.out, Hdis8.out, by omega⟩
        case measure => simp [intOf]; omega
      · have hne : ((L : Int) == M) = false := by have : (L : Int) ≠ M := by omega
                                                  simpa using this
        have hX9 : X = nextOf (C ++ [(place, zs)]) K := by rw [HX.out]; exact (nextOf_past (by rw [← HL.out]; omega) _).symm
        have HX9 := Lib.hid hX9; clear hX9
        have Heq := Lib.hid heq; clear heq
        go_wp2_with fail
        go_roundw
        case rel => exact ⟨j + 1, L + 1, X, C ++ [(place, zs)], _, _, by omega, by go_num, by go_num, HL9.out, rfl, HX9.out, Hda8.out, Hdb8.out, Hdis8.out, by omega⟩
        case measure => simp [intOf]; omega
    · obtain rfl : j = m2 := by omega
      go_wp2_with fail
      refine (Crash_dev da keep tear).mono ?_
      rintro e w7 ⟨rfl, da7, m7⟩
      have db7 := db.aside m7 (fun x hx hy => Hdis.out x hy hx) fun x hx => (da.low x hx).1
      have hwrs := da.wrs
      clear da db m7
      go_wp2_with fail
      refine (Flush_dev db7).mono ?_
      rintro e w8 ⟨rfl, db8, m8⟩
      have da8 := da7.aside m8 Hdis.out fun x hx => (db7.low x hx).1
      clear da7 db7 m8
      have hpre : ∀ i : Nat, (i : Int) ≠ X → (crashed S C keep tear).getD i [] = (settled S (C.take K)).getD i [] := fun i hi => prefix_eq HK.out (by rw [← HX.out]; exact hi) fun p hp => (hwrs p hp).2.1
      have hl1 : (crashed S C keep tear).length = N := by rw [crashed_len, HlS.out]
      have hl2 : (settled S (C.take K)).length = N := by rw [settled_len, HlS.out]
      obtain ⟨S1, hS1⟩ : ∃ S1, S1 = crashed S C keep tear := ⟨_, rfl⟩
      obtain ⟨S2, hS2⟩ : ∃ S2, S2 = settled S (C.take K) := ⟨_, rfl⟩
      simp only [← hS1, ← hS2] at da8 db8 hpre hl1 hl2
      clear hS1 hS2 hwrs
      have Hpre := Lib.hid hpre; clear hpre
      have Hl1 := Lib.hid hl1; clear hl1
      have Hl2 := Lib.hid hl2; clear hl2
      have Hda8 := Lib.hid da8; clear da8
      have Hdb8 := Lib.hid db8; clear db8
      obtain ⟨wo, rfl⟩ : ∃ wo : World, wo = wr := ⟨_, rfl⟩
      go_wp2_with fail
      go_loopw [17] (fun i wr' => ∃ y : Nat, y ≤ N ∧ i = .int .i64 y ∧ Dev w wr' ba Fa (S1, []) ∧ Dev w wr' bb Fb (S2, [])) (fun i _ => N - (intOf i).toNat)
      case atStart => exact ⟨0, by omega, rfl, Hda8.out, Hdb8.out⟩
      case round =>
        obtain ⟨y, hy, rfl, da, db⟩ := hrel
        by_cases hyj : y < N
        · have i2 : (0 : Int) ≤ (y : Int) := by omega
          have i3 : (y : Int) < (N : Int) := by omega
          have hrd := Read_dev da (y : Int)
          have hsec := da.sector (k := (y : Int)) (by rw [Hl1.out]; exact ⟨i2, i3⟩)
          have hro : readOf S1 [] (y : Int) = S1.getD y [] := readOf_flat (by rw [Hl1.out]; exact hyj)
          have hro2 : readOf S2 [] (y : Int) = S2.getD y [] := readOf_flat (by rw [Hl2.out]; exact hyj)
          have hsec2 := db.sector (k := (y : Int)) (by rw [Hl2.out]; exact ⟨i2, i3⟩)
          have Hro2 := Lib.hid hro2; clear hro2
          have Hsec2 := Lib.hid hsec2; clear hsec2
          go_wp2_with fail
          refine hrd.mono ?_
          rintro e w9 ⟨v9, rfl, o9, b9, da9⟩
          replace o9 : Own w9 wr.heap.size 5 .u8 v9 (readOf S1 [] (y : Int)) := o9
          obtain ⟨g9, c9, rfl, x9⟩ := o9.ofInts (n := 32) hsec.1 (by decide)
          rw [hro] at x9
          have db9 := db.step b9
          obtain ⟨E1, hE1⟩ : ∃ E1, E1 = readErr (S1, []) (y : Int) := ⟨_, rfl⟩
          rw [← hE1]
          clear hE1 hrd hsec hro o9 b9 da db
          have hrd := Read_dev db9 (y : Int)
          go_wp2_with fail
          refine hrd.mono ?_
          rintro e wa ⟨va, rfl, oa, ba', dba⟩
          replace oa : Own wa w9.heap.size 5 .u8 va (readOf S2 [] (y : Int)) := oa
          obtain ⟨ga, ca, rfl, xa⟩ := oa.ofInts (n := 32) Hsec2.out.1 (by decide)
          rw [Hro2.out] at xa
          have daa := da9.step ba'
          have x9a := x9.keep ba'
          obtain ⟨E2, hE2⟩ : ∃ E2, E2 = readErr (S2, []) (y : Int) := ⟨_, rfl⟩
          rw [← hE2]
          clear hE2 hrd oa ba' da9 db9 x9 Hsec2 Hro2
          have Hdaa := Lib.hid daa; clear daa
          have Hdba := Lib.hid dba; clear dba
          by_cases hyX : (y : Int) = X
          · have hb : ((y : Int) != X) = false := by simpa using hyX
            have HyX := Lib.hid hyX; clear hyX
            clear x9a xa
            go_wp2_with fail
            go_roundw
            case rel => exact ⟨y + 1, by omega, by go_num, Hdaa.out, Hdba.out⟩
            case measure => simp [intOf]; omega
          · have hb : ((y : Int) != X) = true := by simpa using hyX
            have heq := Hpre.out y hyX
            have Heq := Lib.hid heq; clear heq
            have HyX := Lib.hid hyX; clear hyX
            go_wp2_with fail
            refine (SameBytes_yes x9a xa Heq.out).mono ?_
            rintro e wb ⟨rfl, nb, rfl⟩
            have bb' : Below wa.heap.size wa (wa.drewN nb) := ⟨rfl, rfl, rfl, Nat.le_refl _, fun _ _ => rfl⟩
            have dab := Hdaa.out.step bb'
            have dbb := Hdba.out.step bb'
            clear bb' Hdaa Hdba x9a xa
            generalize wa.drewN nb = wb at *
            have Hdab := Lib.hid dab; clear dab
            have Hdbb := Lib.hid dbb; clear dbb
            go_wp2_with fail
            go_roundw
            case rel => exact ⟨y + 1, by omega, by go_num, Hdab.out, Hdbb.out⟩
            case measure => simp [intOf]; omega
        · obtain rfl : y = N := by omega
          have Hb := Lib.hid da.bel
          clear da db
          go_wp2
          go_ret
          exact ⟨rfl, Hb.out⟩
end Go.Proofs.Ytpcekoimalafkaa
