/- DiskLasts: the walk of the law. -/
import Derived.Test.YtpcekoimalafkaaDiskB
import Derived.Test.YtpcekoimalafkaaDiskP
import Derived.Test.YtpcekoimalafkaaDiskO
namespace Go.Proofs.Ytpcekoimalafkaa
open Go.RowKit

theorem Try.infoInt : (Try.prog.info? 3).map (fun i => (i.zero, i.size, i.bytes)) = some (some (.int .i64 0), 1, 8) := by kernel_rfl

theorem made_ints (n : Nat) : madeCells #[.int .i64 0] n = Array.replicate n (.int .i64 0) := by
  apply Array.ext
  · simp [madeCells]
  · intro i h1 h2
    simp [madeCells, Nat.mod_one]

/-- What the row of marks tells. -/
def Marks (ws : List Int) (C : List (Int × List Int)) : Prop := ∀ p ∈ C, ws.getD p.1.toNat 0 = 1
theorem Marks.put {ws : List Int} {S : List (List Int)} {C : List (Int × List Int)} (h : Marks ws C) {k : Nat} {zs : List Int} (hk : k < ws.length) : Marks (ws.set k 1) (written S C (k : Int) zs) := by
  have old : ∀ q : Nat, ws.getD q 0 = 1 → (ws.set k 1).getD q 0 = 1 := fun q hq => by
    rw [List.getD_eq_getElem?_getD, List.getElem?_set]
    split
    · simp
    · rw [← List.getD_eq_getElem?_getD]; exact hq
  have one : (ws.set k 1).getD k 0 = 1 := by simp [List.getD_eq_getElem?_getD, hk]
  intro p hp
  unfold written at hp
  split at hp
  · rcases List.mem_append.1 hp with hp | hp
    · exact old _ (h p hp)
    · rw [List.mem_singleton.1 hp]
      simpa using one
  · exact old _ (h p hp)

set_option maxHeartbeats 4000000 in
theorem lawDiskLasts {w : World} {n : Int} (_hn : (Lit.int .i64 n).wf = true) {a : Option Addr} {m c : Nat} {xs : List CallV} (hr : CallRow w a m c xs)
    {a2 : Option Addr} {m2 c2 : Nat} {ys : List CallV} (hr2 : CallRow w a2 m2 c2 ys) {keep : Int} (_hk : (Lit.int .i64 keep).wf = true) {tear : Int} (_ht : (Lit.int .i64 tear).wf = true) :
    Calls Try.prog 4 #[.int .i64 n, .slice a m c, .slice a2 m2 c2, .int .i64 keep, .int .i64 tear] w fun e w' => e = .returned (.bool true) ∧ Below w.heap.size w w' := by
  go_enter Try.func4, Try.ntmps4
  go_wp2_with fail
  refine alive_calls.mono ?_
  rintro e w1 ⟨rfl, b1⟩
  have hr1 := hr.keep b1
  have hr21 := hr2.keep b1
  have B1 := Lib.hid b1; clear b1
  go_wp2_with fail
  refine (great_calls hr1).mono ?_
  rintro e w2 ⟨rfl, rfl⟩
  cases hg : greatOf xs with
  | true =>
    go_wp2
    go_ret
    exact ⟨rfl, B1.out⟩
  | false =>
  have HG := Lib.hid hg; clear hg
  go_wp2_with fail
  refine (great_calls hr21).mono ?_
  rintro e w2 ⟨rfl, rfl⟩
  cases hg2 : greatOf ys with
  | true =>
    go_wp2
    go_ret
    exact ⟨rfl, B1.out⟩
  | false =>
  have HG2 := Lib.hid hg2; clear hg2
  by_cases h1 : n < 1
  · have hd : decide (n < 1) = true := decide_eq_true h1
    go_wp2
    go_ret
    exact ⟨rfl, B1.out⟩
  have e1 : decide (n < 1) = false := decide_eq_false h1
  by_cases h2 : 40 < n
  · have e2 : decide (40 < n) = true := decide_eq_true h2
    go_wp2
    go_ret
    exact ⟨rfl, B1.out⟩
  have e2 : decide (40 < n) = false := decide_eq_false h2
  obtain ⟨N, rfl⟩ : ∃ N : Nat, n = N := ⟨n.toNat, by omega⟩
  go_wp2_with fail
  refine (begin_dev (w0 := w) B1.out (by omega) (by omega) hr1 HG.out).mono ?_
  rintro e w3 ⟨b, F, rfl, d3, f3, b3⟩
  obtain ⟨s, hs⟩ : ∃ s, s = stepsOf (fresh N, []) xs := ⟨_, rfl⟩
  rw [← hs] at d3
  have hlen : s.1.length = N := by rw [hs, (stepsOf_len _ _).1]; simp [fresh]
  have hng2 := notGreat HG2.out
  have hly := hr2.len
  clear hs hr1 hr21 e1 e2 f3 b3
  have Hlen := Lib.hid hlen; clear hlen
  have Hly := Lib.hid hly; clear hly
  go_wp2_with fail
  refine (Flush_dev d3).mono ?_
  rintro e w4 ⟨rfl, d4, _⟩
  obtain ⟨S, hS⟩ : ∃ S, S = settled s.1 s.2 := ⟨_, rfl⟩
  rw [← hS] at d4
  have hlS : S.length = N := by rw [hS, settled_len, Hlen.out]
  clear hS Hlen d3
  have HlS := Lib.hid hlS; clear hlS
  go_wp2_with fail
  refine (Image_dev d4).mono ?_
  rintro e w5 ⟨v5, rfl, o5, b5, d5⟩
  have hflat : ∀ j, j ≤ S.length → (S.take j).flatten.length = j * 32 := by
    intro j hj
    induction j with
    | zero => simp
    | succ j ih =>
      rw [List.take_succ_eq_append_getElem (show j < S.length by omega), List.flatten_append, List.length_append, ih (by omega)]
      have := (d4.sec _ (List.getElem_mem (l := S) (n := j) (by omega))).1
      simp [this]
      omega
  have hfl : S.flatten.length = N * 32 := by
    have := hflat S.length (Nat.le_refl _)
    rwa [List.take_length, HlS.out] at this
  obtain ⟨gs, cs, rfl, x5⟩ := o5.ofInts (n := N * 32) hfl (by omega)
  have hgs := o5.block gs rfl
  have hF : ∀ k, F k → k < w4.heap.size := fun k hk => (d4.low k hk).2
  have hb5 := Lib.hid d5.bel
  clear hfl hflat o5 b5 d4
  have HF := Lib.hid hF; clear hF
  obtain ⟨ii, hi, hz0, hz1, hz2⟩ := info_parts Try.infoInt
  have hmk : ∀ w : World, (Instr.makeSlice 49 (.int .i64 (N : Int)) (.int .i64 (N : Int))).run Try.prog w = .ok (.slice (some ⟨w.heap.size, 0, none⟩) N N) (w.alloc (.cells (Array.replicate N (.int .i64 0)) 3)) := fun w => by
    have := run_makeSlice (P := Try.prog) w 49 3 ii _ Try.underlying49 hi hz0 .i64 .i64 (N : Int) (N : Int) (by omega) (Int.le_refl _) (by rw [hz1]; simp; omega) (by rw [hz2]; omega) (by omega)
    simp only [Int.toNat_natCast, hz1, Nat.mul_one] at this
    rw [this]
    have e : (Value.int .i64 0).cells = #[.int .i64 0] := rfl
    rw [e, made_ints]
  have own0 : Own (w5.alloc (.cells (Array.replicate N (.int .i64 0)) 3)) w5.heap.size 3 .i64 (.slice (some ⟨w5.heap.size, 0, none⟩) N N) (List.replicate N 0) :=
    ⟨⟨by simp, .inr ⟨w5.heap.size, N, _, by simp, Nat.le_refl _, heap_alloc_new w5 _, by simp, by unfold maxLen; omega, by simp, by simp⟩⟩, fun z hz => by obtain ⟨_, rfl⟩ := List.mem_replicate.1 hz; decide⟩
  have ba : Below w5.heap.size w5 (w5.alloc (.cells (Array.replicate N (.int .i64 0)) 3)) := (Below.refl _ _).alloc (Nat.le_refl _) _
  have d6 := d5.step ba
  have x6 := x5.keep ba
  clear hi hz0 hz1 hz2 d5 x5 ba
  have Hmk := Lib.hid hmk; clear hmk
  have Hd6 := Lib.hid d6; clear d6
  have Hx6 := Lib.hid x6; clear x6
  have Ho6 := Lib.hid own0; clear own0
  go_wp2_with (with_reducible refine stop_makeSlice 49 ?_)
  have hmk := Hmk.out
  clear Hmk
  refine unpark ?_
  go_wp2_with fail
  obtain ⟨w6, hw6⟩ : ∃ w6, w6 = w5.alloc (.cells (Array.replicate N (.int .i64 0)) 3) := ⟨_, rfl⟩
  have hs6 : w6.heap.size = w5.heap.size + 1 := by rw [hw6]; simp
  rw [← hw6] at Hd6 Hx6 Ho6 ⊢
  clear hw6 hmk
  obtain ⟨gw, hgw⟩ : ∃ gw, gw = w5.heap.size := ⟨_, rfl⟩
  rw [← hgw] at Ho6 hs6 ⊢
  have hgsw : gs < gw := by omega
  have Hs6 := Lib.hid hs6; clear hs6
  have hgw5 : w5.heap.size ≤ gw ∧ gw ≤ w5.heap.size := by rw [hgw]; exact ⟨Nat.le_refl _, Nat.le_refl _⟩
  clear hgw
  go_loopw [14] (fun i wr => ∃ (j : Nat) (C : List (Int × List Int)) (F' : Nat → Prop) (ws : List Int), j ≤ m2 ∧ i = .int .i64 j ∧ Dev w wr b F' (S, C) ∧ C.length ≤ j ∧
    Own wr gw 3 .i64 (.slice (some ⟨gw, 0, none⟩) N N) ws ∧ ws.length = N ∧ Marks ws C ∧ Ints wr .u8 (some ⟨gs, 0, none⟩) (N * 32) cs S.flatten ∧ (∀ k, F' k → k < w4.heap.size ∨ w6.heap.size ≤ k)) (fun i _ => m2 - (intOf i).toNat)
  case atStart => exact ⟨0, [], F, List.replicate N 0, by omega, rfl, Hd6.out, by simp, Ho6.out, by simp, (fun _ h => by cases h), Hx6.out, fun k hk => .inl (HF.out k hk)⟩
  case round =>
    obtain ⟨j, C, F', ws, hj, rfl, dr, hC, own, hws, hmk, xr, hav⟩ := hrel
    clear Hd6 Hx6 Ho6 HF
    have Hav := Lib.hid hav; clear hav
    have Hws := Lib.hid hws; clear hws
    have Hmk := Lib.hid hmk; clear hmk
    by_cases hlt : j < m2
    · obtain ⟨bx, ox, rfl, hc⟩ := (hr2.keep dr.bel).cell (by omega)
      have hjx : j < ys.length := by rw [Hly.out]; exact hlt
      have hin : ys[j] ∈ ys := List.getElem_mem _
      have hcx := hc j hjx
      have hok := (hr2.keep dr.bel).ok _ hin
      have hbk := (hr2.ok _ hin).data.block
      have hdn := hng2.2 _ hin
      obtain ⟨x, hx⟩ : ∃ x, x = ys[j] := ⟨_, rfl⟩
      rw [← hx] at hcx hin hok hdn hbk
      clear hx hc hin
      have hcells : ∀ i v, x.cells[i]? = some v → wr.cell? ⟨bx, ox + j * 4 + i, none⟩ = some v := fun i v hv => by
        have hi : i < 4 := (List.getElem?_eq_some_iff.1 hv).1
        rw [Nat.add_assoc, hcx i hi]; exact hv
      obtain ⟨what, place, tr, da, dn, dc, zs⟩ := x
      have hd := hok.data
      simp only [CallV.cells] at hcells hd hdn hbk
      have Hbk := Lib.hid hbk; clear hbk
      have Hcells := Lib.hid hcells; clear hcells hcx hok
      have i1 : (0 : Int) ≤ (j : Int) := by omega
      have i2 : (j : Int) < (m2 : Int) := by omega
      go_wp2_with (with_reducible refine stop_load 34 ?_)
      refine unpark ?_
      refine wpList_load_cells rfl _ _ rfl bx (ox + j * 4) rfl [.int .i64 what, .int .i64 place, .int .i64 tr, .slice da dn dc] Hcells.out 4 rfl _ Try.underlying34 rfl Try.sizeCall ?_
      go_wp2_with (with_reducible refine stop_store 34 ?_)
      refine unpark ?_
      refine wpList_store_at rfl _ _ _ rfl _ 0 rfl _ rfl [.int .i64 what, .int .i64 place, .int .i64 tr, .slice da dn dc] rfl _ _ (heap_alloc_new _ _) 4 rfl (by decide) (by simp [Value.oneCell']) Try.sizeCall ?_
      intro w7 hw7 hg7 hs7
      clear hs7
      replace hw7 : w7.heap[wr.heap.size]? = some (.cells #[.int .i64 what, .int .i64 place, .int .i64 tr, .slice da dn dc] 34 (0, 0)) := hw7
      have hal : Below wr.heap.size wr w7 := ((Below.refl _ _).alloc (Nat.le_refl _) _).grown hg7 (by simp) (fun k hk => by cases hk; exact Nat.le_refl _)
      have d7 := dr.step hal
      have own7 := own.below hal
      have x7 := xr.keep hal
      have hd7 := hd.keep hal
      have c0 := cells_at hw7 0
      have c1 := cells_at hw7 1
      have c3 := cells_at hw7 3
      have hlo : wr.heap.size < w7.heap.size := (Array.getElem?_eq_some_iff.1 hw7).1
      have hgwr := (own.block gw rfl).2
      clear hw7 hg7 hal dr own xr hd Hcells
      have Hd7 := Lib.hid d7; clear d7
      have Ho7 := Lib.hid own7; clear own7
      have Hx7 := Lib.hid x7; clear x7
      have Hdd := Lib.hid hd7; clear hd7
      by_cases h0 : what = 0
      case neg =>
        have g0 : ((what : Int) == 0) = false := by simpa using h0
        have H0 := Lib.hid h0; clear h0
        go_wp2_with fail
        go_roundw
        case rel => exact ⟨j + 1, C, F', ws, by omega, by go_num, Hd7.out, by omega, Ho7.out, Hws.out, Hmk.out, Hx7.out, Hav.out⟩
        case measure => simp [intOf]; omega
      subst h0
      by_cases h3 : place < 0
      · have g3 : decide (0 ≤ place) = false := decide_eq_false (by omega)
        go_wp2_with fail
        go_roundw
        case rel => exact ⟨j + 1, C, F', ws, by omega, by go_num, Hd7.out, by omega, Ho7.out, Hws.out, Hmk.out, Hx7.out, Hav.out⟩
        case measure => simp [intOf]; omega
      obtain ⟨k, rfl⟩ : ∃ k : Nat, place = k := ⟨place.toNat, by omega⟩
      by_cases h4 : N ≤ k
      · have g4 : decide (k < N) = false := decide_eq_false (by omega)
        go_wp2_with fail
        go_roundw
        case rel => exact ⟨j + 1, C, F', ws, by omega, by go_num, Hd7.out, by omega, Ho7.out, Hws.out, Hmk.out, Hx7.out, Hav.out⟩
        case measure => simp [intOf]; omega
      have g4 : decide (k < N) = true := decide_eq_true (by omega)
      obtain ⟨hcl, hfr⟩ := Ho7.out.at Hws.out k (by omega)
      have hput := Ho7.out.put Hws.out k (z := 1) (by decide)
      have i3 : (0 : Int) ≤ (k : Int) := by omega
      have i4 : (k : Int) < (N : Int) := by omega
      have oth : ∀ x, x ≠ gw → (w7.setCell ⟨gw, k, none⟩ (.int .i64 1)).heap[x]? = w7.heap[x]? := fun x hx => heap_setCell_other w7 _ x _ hx
      have c1' := (World.cell?_of_block (a := ⟨wr.heap.size, 1, none⟩) (oth wr.heap.size (by omega))).trans c1
      have c3' := (World.cell?_of_block (a := ⟨wr.heap.size, 3, none⟩) (oth wr.heap.size (by omega))).trans c3
      obtain ⟨w8, hw8⟩ : ∃ w8, w8 = w7.setCell ⟨gw, k, none⟩ (.int .i64 1) := ⟨_, rfl⟩
      rw [← hw8] at oth c1' c3' hput
      have d8 : Dev w w8 b F' (S, C) := Hd7.out.aside (G := fun x => x = gw) ⟨by rw [hw8]; rfl, by rw [hw8]; rfl, by rw [hw8]; rfl, by rw [hw8]; simp, fun x _ hx => oth x hx⟩ (fun x hx e => by have := Hav.out x hx; have := Hs6.out; have := hb5.out.size; omega) (fun x e => by have := hb5.out.size; omega)
      have x8 : Ints w8 .u8 (some ⟨gs, 0, none⟩) (N * 32) cs S.flatten := Hx7.out.keepOn fun x o e _ => by cases e; exact oth gs (by omega)
      have dd8 : Ints w8 .u8 da dn dc zs := Hdd.out.keepPos fun x o h e _ => oth x (by have := Hbk.out x o h e; have := hb5.out.size; omega)
      have hwr := Write_dev d8 (k : Int) dd8 (by show C.length ≤ 1000000; have := hng2.1; have := Hly.out; omega)
      have Hput := Lib.hid hput; clear hput
      have Hw8 := Lib.hid hw8; clear hw8
      clear c1' c3'
      have Hd8 := Lib.hid d8; clear d8
      have Hx8 := Lib.hid x8; clear x8
      have Hhwr := Lib.hid hwr; clear hwr
      clear dd8 oth
      go_wp2_with fail
      rw [← Hw8.out]
      refine Hhwr.out.mono ?_
      rintro e w9 ⟨rfl, d9, m9⟩
      have mk9 := Hmk.out.put (S := S) (zs := zs) (k := k) (by rw [Hws.out]; omega)
      have x9 := m9.ints Hx8.out fun x o e hF => by cases e; have := Hav.out _ hF; have := Hs6.out; omega
      have o9 := m9.own Hput.out fun g hg hF => by have e : gw = g := (by simpa [Value.ownBlock] using hg); have := Hav.out g hF; have := Hs6.out; omega
      have e8 : w8.heap.size = w7.heap.size := by rw [Hw8.out]; simp
      have av9 : ∀ x, grownF F' w8 w9 x → x < w4.heap.size ∨ w6.heap.size ≤ x := fun x hx => hx.elim (Hav.out x) fun h => .inr (by have := Hs6.out; omega)
      clear e8
      have cl9 : (written S C (k : Int) zs).length ≤ j + 1 := by
        unfold written
        split
        · simp; omega
        · omega
      have ws9 : (ws.set k 1).length = N := by rw [List.length_set]; exact Hws.out
      have Hws9 := Lib.hid ws9; clear ws9
      have Hd9 := Lib.hid d9; clear d9
      have Hx9 := Lib.hid x9; clear x9
      have Ho9 := Lib.hid o9; clear o9
      have Hmk9 := Lib.hid mk9; clear mk9
      have Hav9 := Lib.hid av9; clear av9
      clear m9 Hhwr Hx8 Hd8 Hput c0 c1 c3 hcl hfr
      have Hc9 := Lib.hid cl9; clear cl9
      go_wp2_with fail
      go_roundw
      case rel => exact ⟨j + 1, _, _, ws.set k 1, by omega, by go_num, Hd9.out, Hc9.out, Ho9.out, Hws9.out, Hmk9.out, Hx9.out, Hav9.out⟩
      case measure => simp [intOf]; omega
    · obtain rfl : j = m2 := by omega
      go_wp2_with fail
      refine (Crash_dev dr keep tear).mono ?_
      rintro e w7 ⟨rfl, d7, m7⟩
      have x7 := m7.ints xr fun x o e hF => by cases e; have := Hav.out _ hF; have := Hs6.out; omega
      have o7 := m7.own own fun g hg hF => by have e : gw = g := (by simpa [Value.ownBlock] using hg); have := Hav.out g hF; have := Hs6.out; omega
      have hsec7 := d7.sec
      have hot : ∀ i : Nat, i < N → ws.getD i 0 = 0 → (crashed S C keep tear).getD i [] = S.getD i [] := fun i hi h0 => crashed_other i (fun p hp e => by have := Hmk.out p hp; rw [e, h0] at this; cases this) keep tear
      have hl1 : (crashed S C keep tear).length = N := by rw [crashed_len, HlS.out]
      obtain ⟨S1, hS1⟩ : ∃ S1, S1 = crashed S C keep tear := ⟨_, rfl⟩
      have hpart : ∀ i, i < N → (S.flatten.take (32 * i + 32)).drop (32 * i) = S.getD i [] := fun i hi => flatten_part S i (fun z hz => (dr.sec z hz).1) (by rw [HlS.out]; exact hi)
      rw [← hS1] at d7 hot hl1 hsec7
      clear hS1 m7 xr own dr
      have Hot := Lib.hid hot; clear hot
      have Hl1 := Lib.hid hl1; clear hl1
      have Hpart := Lib.hid hpart; clear hpart
      have Hsec7 := Lib.hid hsec7; clear hsec7
      have Hd7 := Lib.hid d7; clear d7
      have Hx7 := Lib.hid x7; clear x7
      have Ho7 := Lib.hid o7; clear o7
      obtain ⟨wo, rfl⟩ : ∃ wo : World, wo = wr := ⟨_, rfl⟩
      go_wp2_with fail
      go_loopw [16] (fun i wr' => ∃ y : Nat, y ≤ N ∧ i = .int .i64 y ∧ Dev w wr' b F' (S1, []) ∧ Own wr' gw 3 .i64 (.slice (some ⟨gw, 0, none⟩) N N) ws ∧ Ints wr' .u8 (some ⟨gs, 0, none⟩) (N * 32) cs S.flatten) (fun i _ => N - (intOf i).toNat)
      case atStart => exact ⟨0, by omega, rfl, Hd7.out, Ho7.out, Hx7.out⟩
      case round =>
        obtain ⟨y, hy, rfl, dy, oy, xy⟩ := hrel
        by_cases hyj : y < N
        · have i2 : (0 : Int) ≤ (y : Int) := by omega
          have i3 : (y : Int) < (N : Int) := by omega
          have hrd := Read_dev dy (y : Int)
          have hsec := dy.sector (k := (y : Int)) (by rw [Hl1.out]; exact ⟨i2, i3⟩)
          have hro : readOf S1 [] (y : Int) = S1.getD y [] := readOf_flat (by rw [Hl1.out]; exact hyj)
          rw [show readErr (S1, []) (y : Int) = 0 by unfold readErr; rw [Hl1.out, if_pos ⟨i2, i3⟩]] at hrd
          go_wp2_with fail
          refine hrd.mono ?_
          rintro e w8 ⟨v8, rfl, o8, b8, d8⟩
          replace o8 : Own w8 wr.heap.size 5 .u8 v8 (readOf S1 [] (y : Int)) := o8
          obtain ⟨g8, c8, rfl, x8⟩ := o8.ofInts (n := 32) hsec.1 (by decide)
          rw [hro] at x8
          have oy8 := oy.below b8
          have xy8 := xy.keep b8
          clear hrd hsec hro o8 b8 dy oy xy
          have Hd8 := Lib.hid d8; clear d8
          obtain ⟨hcl, _⟩ := oy8.at Hws.out y hyj
          have Ho8 := Lib.hid oy8; clear oy8
          obtain ⟨q, hq⟩ : ∃ q, q = ws.getD y 0 := ⟨_, rfl⟩
          rw [← hq] at hcl
          by_cases hq0 : q = 0
          · subst hq0
            have heq := Hot.out y hyj hq.symm
            have hp := Hpart.out y hyj
            have hcs := xy8.le
            have hcm := xy8.max
            have z8 := (xy8.take (32 * y + 32) (by omega)).dropAt (32 * y) (by omega)
            rw [hp, Nat.zero_add, show 32 * y + 32 - 32 * y = 32 by omega] at z8
            clear hp hq
            have Heq := Lib.hid heq; clear heq
            have Hxy := Lib.hid xy8; clear xy8
            have ncs : ¬ cs = 32 * y := by omega
            go_wp2_with fail
            refine (SameBytes_yes x8 z8 Heq.out).mono ?_
            rintro e w9 ⟨rfl, n9, rfl⟩
            have b9 : Below w8.heap.size w8 (w8.drewN n9) := ⟨rfl, rfl, rfl, Nat.le_refl _, fun _ _ => rfl⟩
            have d9 := Hd8.out.step b9
            have o9 := Ho8.out.below b9
            have x9 := Hxy.out.keep b9
            clear x8 z8 Hd8 Ho8 Hxy b9 hcl
            generalize w8.drewN n9 = w9 at *
            have Hd9 := Lib.hid d9; clear d9
            have Ho9 := Lib.hid o9; clear o9
            have Hx9 := Lib.hid x9; clear x9
            go_wp2_with fail
            go_roundw
            case rel => exact ⟨y + 1, by omega, by go_num, Hd9.out, Ho9.out, Hx9.out⟩
            case measure => simp [intOf]; omega
          · have hqb : ((q : Int) == 0) = false := by simpa using hq0
            clear hq
            have Hq0 := Lib.hid hq0; clear hq0
            have Hxy := Lib.hid xy8; clear xy8
            go_wp2_with fail
            go_roundw
            case rel => exact ⟨y + 1, by omega, by go_num, Hd8.out, Ho8.out, Hxy.out⟩
            case measure => simp [intOf]; omega
        · obtain rfl : y = N := by omega
          go_wp2_with fail
          refine (Image_dev dy).mono ?_
          rintro e w8 ⟨v8, rfl, o8, b8, d8⟩
          obtain ⟨a8, n8, c8, rfl, x8, _⟩ := o8.read
          have hbx : ∀ x o, a8 = some ⟨x, o, none⟩ → wr.heap.size ≤ x := fun x o e => (o8.block x (by rw [e]; rfl)).1
          have hFx : ∀ x, F' x → x < wr.heap.size := fun x hx => (dy.low x hx).2
          clear dy oy xy o8 b8
          have Hbx := Lib.hid hbx; clear hbx
          have HFx := Lib.hid hFx; clear hFx
          go_wp2_with fail
          refine (Crash_dev d8 tear keep).mono ?_
          rintro e w9 ⟨rfl, d9, m9⟩
          rw [crashed_none] at d9
          have x9 := m9.ints x8 fun x o e hF => by have := Hbx.out x o e; have := HFx.out x hF; omega
          clear d8 m9 x8
          go_wp2_with fail
          refine (Image_dev d9).mono ?_
          rintro e wa ⟨va, rfl, oa, ba, da⟩
          obtain ⟨aa, na, ca, rfl, xa, _⟩ := oa.read
          have xb := x9.keep ba
          clear oa ba d9 x9
          go_wp2_with fail
          refine (SameBytes_yes xa xb rfl).mono ?_
          rintro e wb ⟨rfl, nb, rfl⟩
          have db := da.step (w' := wa.drewN nb) ⟨rfl, rfl, rfl, Nat.le_refl _, fun _ _ => rfl⟩
          clear da xa xb
          generalize wa.drewN nb = wb at *
          go_wp2_with fail
          refine (Loose_dev db).mono ?_
          rintro e _ ⟨rfl, rfl⟩
          have Hb := Lib.hid db.bel
          clear db
          simp only [List.length_nil]
          go_wp2
          go_ret
          exact ⟨rfl, Hb.out⟩
end Go.Proofs.Ytpcekoimalafkaa
