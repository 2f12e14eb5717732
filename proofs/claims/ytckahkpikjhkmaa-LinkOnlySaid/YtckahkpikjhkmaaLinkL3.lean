/- The law LinkOnly. -/
import Derived.Test.YtckahkpikjhkmaaLinkL2
import Derived.Test.YtckahkpikjhkmaaLinkD
namespace Go.Proofs.Ytckahkpikjhkmaa
open Go.RowKit

theorem put_up (L xs : List Msg) : putN 1 (upd ls0 (0, true) L) (0, true) xs = (min (xs.filter rightOf).length (16 - L.length), if 16 - L.length < (xs.filter rightOf).length then 15 else 0, upd ls0 (0, true) (L ++ (xs.filter rightOf).take (min (xs.filter rightOf).length (16 - L.length)))) := by
  unfold putN
  rw [if_pos (by decide), upd_same, upd_upd]
  have e : (xs.filter rightOf).take (16 - L.length) = (xs.filter rightOf).take (min (xs.filter rightOf).length (16 - L.length)) := by
    rcases Nat.le_total (xs.filter rightOf).length (16 - L.length) with h | h
    · rw [Nat.min_eq_left h, List.take_of_length_le h, List.take_of_length_le (Nat.le_refl _)]
    · rw [Nat.min_eq_right h]
  rw [← e]
  congr 2
  by_cases h : 16 - L.length < (xs.filter rightOf).length
  · rw [if_pos h, if_pos (by omega)]
  · rw [if_neg h, if_neg (by omega)]
theorem take_up (L : List Msg) (i : Int) (s : Bool) : takeN 1 (upd ls0 (0, true) L) (0, true) i s = if 0 ≤ i ∧ i < L.length then (L.getD i.toNat noMsg, 0, upd ls0 (0, true) (if s then L else L.eraseIdx i.toNat)) else (noMsg, 12, upd ls0 (0, true) L) := by
  unfold takeN
  rw [if_pos (by decide), upd_same]
  split
  · cases s
    · simp [upd_upd]
    · rfl
  · rfl
theorem right_take (xs : List Msg) (q : Nat) : (xs.take q).filter rightOf = (xs.filter rightOf).take (cntR xs q) := by
  have e : xs.filter rightOf = (xs.take q).filter rightOf ++ (xs.drop q).filter rightOf := by
    conv => lhs; rw [← List.take_append_drop q xs, List.filter_append]
  rw [e]
  unfold cntR
  rw [List.take_left']
  rfl
theorem right_next (xs : List Msg) {q : Nat} (hq : q < xs.length) : (xs.take (q + 1)).filter rightOf = (xs.take q).filter rightOf ++ (if rightOf xs[q] then [xs[q]] else []) := by
  rw [List.take_add_one, List.getElem?_eq_getElem hq, List.filter_append]
  simp only [Option.toList_some]
  cases h : rightOf xs[q] <;> simp [h]
theorem sum_up (l : List Msg) : sumOf (upd ls0 (0, true) l) (keysOf 1) = l.length := by
  show ((upd ls0 (0, true) l (0, true)).length + (([] : List Msg).length + 0)) = _
  rw [upd_same]; simp
abbrev callObj (x : CallL) : Obj := .cells #[.int .i64 x.what, .int .i64 x.part, .int .i64 x.pos, .bool x.up, .bool x.stays, .slice x.la x.ln x.lc] 34

set_option maxHeartbeats 16000000 in
set_option maxRecDepth 100000 in
theorem lawLinkOnly {w : World} {a : Option Addr} {n c : Nat} {xs : List CallL} (hx : LRow w a n c xs) :
    Calls Try.prog 5 #[.slice a n c] w fun e w' => e = .returned (.bool true) ∧ Below w.heap.size w w' := by
  have hl := hx.recs.len
  have Hx := Lib.hid hx; clear hx
  have Hl := Lib.hid hl; clear hl
  go_enter Try.func5, Try.ntmps5
  go_wp2_with fail
  refine alive_calls.mono ?_
  rintro e w1 ⟨rfl, b1⟩
  have Hb1 := Lib.hid b1; clear b1
  go_wp2_with fail
  refine (great_calls (Hx.out.keep Hb1.out)).mono ?_
  rintro e w1 ⟨G, rfl, rfl, hG⟩
  cases G with
  | true =>
    clear hG
    go_wp2
    go_ret
    exact ⟨rfl, Hb1.out⟩
  | false =>
  obtain ⟨hn, h60⟩ := hG rfl
  clear hG
  have H60 := Lib.hid h60; clear h60
  have hnew := New_lk (w0 := w) (n := 1) Hb1.out (by decide) (by decide)
  have Hnew := Lib.hid hnew; clear hnew
  go_wp2_with fail
  refine Hnew.out.mono ?_
  rintro e w2 ⟨b, F, rfl, l2, -, -⟩
  clear Hnew Hb1
  have ba : Below w2.heap.size w2 (w2.alloc (.cells #[] 38)) := (Below.refl _ _).alloc (Nat.le_refl _) _
  have oa : OwnM w (w2.alloc (.cells #[] 38)) F (.slice (some ⟨w2.heap.size, 0, none⟩) 0 0) [] :=
    ⟨(ROwn.made (F := msgF) (E := 38) w2).mono l2.bel.size, fun g hg hf => by
      have e : w2.heap.size = g := by injection hg
      have := (l2.low _ hf).2
      omega⟩
  have la : Lk w (w2.alloc (.cells #[] 38)) b F 1 (upd ls0 (0, true) []) := by
    have := l2.step ba
    rwa [show upd ls0 (0, true) [] = ls0 from by funext x; unfold upd; split <;> rfl]
  clear l2 ba
  have Hk := Lib.hid la; clear la
  have Ho := Lib.hid oa; clear oa
  go_wp2_with fail
  go_loopw [5, 6, 7, 8] (fun pv tv sv i wr => ∃ (j T : Nat) (S : Bool) (F : Nat → Prop) (L P : List Msg), j ≤ n ∧ tv = .int .i64 T ∧ sv = .bool S ∧ i = .int .i64 j ∧ Lk w wr b F 1 (upd ls0 (0, true) L) ∧ OwnM w wr F pv P ∧ (∀ m ∈ L, m ∈ P) ∧ (S = false → T + L.length = P.length) ∧ P.length ≤ 16 * j ∧ T ≤ j) (fun _ _ _ i _ => n - (intOf i).toNat)
  case atStart => exact ⟨0, 0, false, F, [], [], by omega, rfl, rfl, rfl, Hk.out, Ho.out, (fun _ h => h), (fun _ => rfl), by simp, by omega⟩
  case round =>
    clear Hk Ho
    obtain ⟨j, T, S, F4, L, P, hj, rfl, rfl, rfl, hk, ho, hsub, hsum, hPl, hTj⟩ := hrel
    have hL16 := hk.small (k := (0, true)) (by decide)
    rw [upd_same] at hL16
    obtain ⟨va, vc, rfl⟩ := ho.own.shape
    obtain ⟨N, hN⟩ : ∃ N, N = P.length := ⟨_, rfl⟩
    rw [← hN] at ho hsum hPl ⊢
    have HN := Lib.hid hN; clear hN
    have Hsub := Lib.hid hsub; clear hsub
    have Hsum := Lib.hid hsum; clear hsum
    by_cases hlt : j < n
    · have hxr := (Hx.out.keep hk.bel).recs
      obtain ⟨bx, ox, rfl⟩ := hxr.addr (by omega)
      have hjx : j < xs.length := by rw [Hl.out]; exact hlt
      have hcx := hxr.at hjx
      have hok := Hx.out.ok _ (List.getElem_mem hjx)
      have h60 := H60.out _ (List.getElem_mem hjx)
      obtain ⟨x, hxx⟩ : ∃ x, x = xs[j] := ⟨_, rfl⟩
      rw [← hxx] at hcx hok h60
      clear hxx hxr
      have x0 := hcx 0 _ rfl
      have x1 := hcx 1 _ rfl
      have x2 := hcx 2 _ rfl
      have x3 := hcx 3 _ rfl
      have x4 := hcx 4 _ rfl
      have x5 := hcx 5 _ rfl
      simp only [callLF, Nat.add_zero] at x0 x1 x2 x3 x4 x5
      clear hcx
      have i1 : (0 : Int) ≤ (j : Int) := by omega
      have i2 : (j : Int) < (n : Int) := by omega
      have b5 := (Below.refl wr.heap.size wr).alloc (Nat.le_refl _) (callObj x)
      have y5 := heap_alloc_new wr (callObj x)
      have hk5 := hk.step b5
      have ho5 := ho.step b5
      have nf : ¬ F4 wr.heap.size := fun hf => by have := (hk.low _ hf).2; omega
      have nv : ∀ g, (Value.slice va N vc).ownBlock = some g → g ≠ wr.heap.size := fun g hg => by have := (ho.own.lt g hg).2; omega
      clear b5 hk ho
      have Hk := Lib.hid hk5; clear hk5
      have Ho := Lib.hid ho5; clear ho5
      go_wp2_with (with_reducible refine stop_load 3 ?_)
      refine unpark ?_
      clear x0 x1 x2 x3 x4 x5
      generalize wr.heap.size = g9 at *
      generalize wr.alloc (.cells #[.int .i64 x.what, .int .i64 x.part, .int .i64 x.pos, .bool x.up, .bool x.stays, .slice x.la x.ln x.lc] 34) = w5 at *
      have y0 := cells_at y5 0
      by_cases hw0 : x.what = 0
      · have e1 : (x.what == 0) = true := by simpa using hw0
        have yl := cells_at y5 5
        have hput := Put_lk Hk.out (0, true) (hok.list.keep Hk.out.bel) (by omega)
        rw [put_up] at hput
        obtain ⟨n1, hn1⟩ : ∃ n1, n1 = min (x.ms.filter rightOf).length (16 - L.length) := ⟨_, rfl⟩
        rw [← hn1] at hput
        have hn16 : n1 ≤ 16 := by omega
        have hn1R : n1 ≤ (x.ms.filter rightOf).length := by omega
        have hLn : L.length + n1 ≤ 16 := by omega
        clear hn1
        have Hput := Lib.hid hput; clear hput hw0
        have Y5 := Lib.hid y5; clear y5
        generalize (if 16 - L.length < (x.ms.filter rightOf).length then (15 : Int) else 0) = E at Hput
        go_wp2_with fail
        refine Hput.out.mono ?_
        rintro e w6 ⟨rfl, l6, m6⟩
        have o6 := Ho.out.mod m6
        have z6 := (m6.block g9 (Array.getElem?_eq_some_iff.1 Y5.out).1 nf).trans Y5.out
        have nf6 : ¬ grownF F4 w5 w6 g9 := fun hf => hf.elim nf fun hf => by have := (Array.getElem?_eq_some_iff.1 Y5.out).1; omega
        generalize grownF F4 w5 w6 = F6 at *
        obtain ⟨L', hL'⟩ : ∃ L', L' = L ++ (x.ms.filter rightOf).take n1 := ⟨_, rfl⟩
        rw [← hL'] at l6
        have HL' := Lib.hid hL'; clear hL' m6 Hk Ho y0 yl Y5 Hput
        have Hk := Lib.hid l6; clear l6
        have Ho := Lib.hid o6; clear o6
        have Hz := Lib.hid z6; clear z6
        have Hnv := Lib.hid nv; clear nv
        have hlist := hok.list
        have hll := hlist.len
        have Hlist := Lib.hid hlist; clear hlist
        have Hll := Lib.hid hll; clear hll
        go_wp2_with fail
        obtain ⟨wo', hwo'⟩ : ∃ wo' : World, wo' = wr := ⟨_, rfl⟩
        clear hwo'
        go_loopw [5, 12, 13] (fun pv kv jv wr => ∃ q : Nat, q ≤ x.ln ∧ cntR x.ms q ≤ n1 ∧ kv = .int .i64 (cntR x.ms q : Nat) ∧ jv = .int .i64 q ∧ Lk w wr b F6 1 (upd ls0 (0, true) L') ∧ OwnM w wr F6 pv (P ++ (x.ms.take q).filter rightOf) ∧ wr.heap[g9]? = some (callObj x) ∧ (∀ g, pv.ownBlock = some g → g ≠ g9)) (fun _ _ jv _ => x.ln - (intOf jv).toNat)
        case atStart => exact ⟨0, by omega, Nat.zero_le _, rfl, rfl, Hk.out, by simpa using Ho.out, Hz.out, Hnv.out⟩
        case round =>
          clear Hk Ho Hz Hnv
          obtain ⟨q, hq, hqn1, rfl, rfl, hk, ho, hz, hnv⟩ := hrel
          have y5 := cells_at hz 5
          obtain ⟨qa, qc, rfl⟩ := ho.own.shape
          have hzl := (Array.getElem?_eq_some_iff.1 hz).1
          obtain ⟨M, hM⟩ : ∃ M, M = (P ++ (x.ms.take q).filter rightOf).length := ⟨_, rfl⟩
          rw [← hM] at ho hnv ⊢
          have hMb : M ≤ 16 * j + 16 := by
            have h1 := HN.out
            have h2 : ((x.ms.take q).filter rightOf).length = cntR x.ms q := rfl
            rw [hM, List.length_append, h2]
            omega
          have HM := Lib.hid hM; clear hM
          have hlr := Hlist.out.keep hk.bel
          by_cases hin : q < x.ln ∧ cntR x.ms q < n1
          · obtain ⟨bm, om, hla⟩ := hlr.addr (by omega)
            have hqx : q < x.ms.length := by rw [Hll.out]; exact hin.1
            rw [hla] at hlr
            have hcm := hlr.at hqx
            have hst := cntR_step x.ms hqx
            have hrn := right_next x.ms hqx
            obtain ⟨m, hm⟩ : ∃ m, m = x.ms[q] := ⟨_, rfl⟩
            rw [← hm] at hcm hst hrn
            clear hm hlr
            have hcl := RRight_calls (w := wr) m
            generalize rightOf m = T' at hcl hst hrn
            obtain ⟨K', hK'⟩ : ∃ K', K' = cntR x.ms (q + 1) := ⟨_, rfl⟩
            rw [← hK'] at hst
            have HK' := Lib.hid hK'; clear hK'
            have m0 := hcm 0 _ rfl
            have m1 := hcm 1 _ rfl
            have m2 := hcm 2 _ rfl
            have m3 := hcm 3 _ rfl
            have ml := World.block_lt_of_cell? _ _ m0
            obtain ⟨k1, k2, k3, k4⟩ := m
            simp only [msgF, Nat.add_zero, Msg.kind, Msg.part, Msg.tx, Msg.what] at m0 m1 m2 m3
            simp only [Msg.cells, Msg.kind, Msg.part, Msg.tx, Msg.what] at hcl
            clear hcm
            obtain ⟨hin1, hin2⟩ := hin
            obtain ⟨K, hK⟩ : ∃ K, K = cntR x.ms q := ⟨_, rfl⟩
            rw [← hK] at hst hin2 hqn1 ⊢
            rw [hla] at y5
            have Hrn := Lib.hid hrn; clear hrn
            have Hcl := Lib.hid hcl; clear hcl
            have Hst := Lib.hid hst; clear hst
            have HK := Lib.hid hK; clear hK
            have j1 : (0 : Int) ≤ (q : Int) := by omega
            have j2 : (q : Int) < (x.ln : Int) := by omega
            have j3 : (K : Int) < (n1 : Int) := by omega
            have j4 : decide (q < x.ln) = true := decide_eq_true hin1
            have j5 : decide (K < n1) = true := decide_eq_true hin2
            have Hla := Lib.hid hla; clear hla
            have Hk := Lib.hid hk; clear hk
            have Ho := Lib.hid ho; clear ho
            have Hz := Lib.hid hz; clear hz
            have Hnv := Lib.hid hnv; clear hnv
            go_wp2_with fail
            refine Hcl.out.mono ?_
            rintro e w9 ⟨rfl, b9⟩
            have l9 := Hk.out.step b9
            have o9 := Ho.out.step b9
            have z9 := (b9.block g9 hzl).trans Hz.out
            have y9 := cells_at z9 5
            rw [Hla.out] at y9
            have r0 := (b9.cell ml).trans m0
            have r1 := (b9.cell ml).trans m1
            have r2 := (b9.cell ml).trans m2
            have r3 := (b9.cell ml).trans m3
            clear Hk Ho Hz b9 Hcl m0 m1 m2 m3 y5 ml
            have Hk := Lib.hid l9; clear l9
            have Ho := Lib.hid o9; clear o9
            have Hz := Lib.hid z9; clear z9
            cases T' with
            | false =>
              have hst : K' = K := by rw [Hst.out]; simp
              go_wp2_with fail
              go_roundw
              case rel => exact ⟨q + 1, by omega, by rw [← HK'.out, hst]; omega, by rw [← HK'.out, hst], by go_num, Hk.out, by rw [Hrn.out]; simpa using Ho.out, Hz.out, Hnv.out⟩
              case measure => simp [intOf]; omega
            | true =>
              have hst : K' = K + 1 := by rw [Hst.out]; simp
              go_wp2_with (with_reducible refine stop_builtin .append ?_)
              refine unpark ?_
              have hx8 := heap_alloc_new w9 (.cells #[.int .i64 k1, .int .i64 k2, .int .i64 k3, .int .i64 k4] 38)
              have b8 : Below w9.heap.size w9 (w9.alloc (.cells #[.int .i64 k1, .int .i64 k2, .int .i64 k3, .int .i64 k4] 38)) := (Below.refl _ _).alloc (Nat.le_refl _) _
              have l8 := Hk.out.step b8
              have o8 := Ho.out.step b8
              have z8 := (b8.block g9 (Array.getElem?_eq_some_iff.1 Hz.out).1).trans Hz.out
              have zl9 := (Array.getElem?_eq_some_iff.1 Hz.out).1
              have s89 := b8.size
              generalize w9.alloc (.cells #[.int .i64 k1, .int .i64 k2, .int .i64 k3, .int .i64 k4] 38) = w8 at hx8 b8 l8 o8 z8 s89 ⊢
              clear Hk Ho Hz b8 r0 r1 r2 r3 y9
              refine wpList_append_rec1 msgElem _ rfl _ _ rfl w.heap.size (.slice qa M qc) (P ++ (x.ms.take q).filter rightOf) rfl o8.own w9.heap.size 1 (by decide) (by decide) (k1, k2, k3, k4) rfl hx8 (fun j u hu => by rw [List.getElem?_toArray]; exact hu) (by rw [← HM.out]; omega) l8.bel.size ?_
              intro v' wA ownA gA hvA
              have mA : Mod (fun k => (Value.slice qa M qc).ownBlock = some k) w8 wA := Mod.of_grown gA fun _ h => h
              have lA := l8.aside mA (fun k hf hg => o8.out k hg hf) (fun k hg => (o8.own.lt k hg).1)
              have oA : OwnM w wA F6 v' (P ++ (x.ms.take (q + 1)).filter rightOf) := ⟨by rw [Hrn.out]; simpa using ownA, fun g hg hf => by
                rcases hvA with e | e
                · rw [e] at hg; exact o8.out g hg hf
                · rw [e] at hg
                  have e : w8.heap.size = g := by injection hg
                  have := (l8.low _ hf).2
                  omega⟩
              have zA := (gA.block g9 (by omega) fun e => Hnv.out g9 e.symm rfl).trans z8
              have nA : ∀ g, v'.ownBlock = some g → g ≠ g9 := fun g hg => by
                rcases hvA with e | e
                · rw [e] at hg; exact Hnv.out g hg
                · rw [e] at hg
                  have e : w8.heap.size = g := by injection hg
                  omega
              clear ownA gA hvA mA l8 o8 hx8 z8 Hnv
              have Hk := Lib.hid lA; clear lA
              have Ho := Lib.hid oA; clear oA
              have Hz := Lib.hid zA; clear zA
              have Hnv := Lib.hid nA; clear nA
              go_wp2_with fail
              go_roundw
              case rel => exact ⟨q + 1, by omega, by rw [← HK'.out, hst]; omega, by rw [← HK'.out, hst]; go_num, by go_num, Hk.out, Ho.out, Hz.out, Hnv.out⟩
              case measure => simp [intOf]; omega
          · have hKn : cntR x.ms q = n1 := by
              by_cases h1 : q < x.ln
              · have : ¬ cntR x.ms q < n1 := fun h2 => hin ⟨h1, h2⟩
                omega
              · have e : q = x.ms.length := by rw [Hll.out]; omega
                have h2 := cntR_all x.ms
                rw [← e] at h2
                omega
            have hd : (decide ((q : Int) < (x.ln : Int)) = false ∧ decide (q < x.ln) = false) ∨ (decide ((q : Int) < (x.ln : Int)) = true ∧ decide (q < x.ln) = true ∧ decide ((n1 : Int) < (n1 : Int)) = false) := by
              by_cases h1 : q < x.ln
              · exact .inr ⟨decide_eq_true (by omega), decide_eq_true h1, decide_eq_false (by omega)⟩
              · exact .inl ⟨decide_eq_false (by omega), decide_eq_false h1⟩
            have hpr := right_take x.ms q
            rw [hKn] at hpr ⊢
            rw [hpr] at ho
            have hLP : ∀ m ∈ L', m ∈ P ++ (x.ms.filter rightOf).take n1 := fun m hm => by
              rw [HL'.out] at hm
              rcases List.mem_append.1 hm with hm | hm
              · exact List.mem_append.2 (.inl (Hsub.out m hm))
              · exact List.mem_append.2 (.inr hm)
            have hPP : (P ++ (x.ms.filter rightOf).take n1).length = N + n1 := by rw [List.length_append, ← HN.out, List.length_take]; omega
            have hLL : L'.length = L.length + n1 := by rw [HL'.out, List.length_append, List.length_take]; omega
            have hsum2 : S = false → T + L'.length = (P ++ (x.ms.filter rightOf).take n1).length := fun h => by have := Hsum.out h; rw [hPP, hLL]; omega
            have hPb : (P ++ (x.ms.filter rightOf).take n1).length ≤ 16 * (j + 1) := by rw [hPP]; omega
            clear hin hpr hlr hKn hnv hLL hPP
            have HLP := Lib.hid hLP; clear hLP
            have Hsum2 := Lib.hid hsum2; clear hsum2
            have HPb := Lib.hid hPb; clear hPb
            have Hk := Lib.hid hk; clear hk
            have Ho := Lib.hid ho; clear ho
            rcases hd with ⟨d1, d3⟩ | ⟨d1, d3, d2⟩
            all_goals
              go_wp2_with fail
              go_roundw
              case rel => exact ⟨j + 1, T, S, F6, L', P ++ (x.ms.filter rightOf).take n1, by omega, rfl, rfl, by go_num, Hk.out, Ho.out, HLP.out, Hsum2.out, HPb.out, by omega⟩
              case measure => simp [intOf]; omega
      · have e1 : (x.what == 0) = false := by simpa using hw0
        have y2 := cells_at y5 2
        have y4 := cells_at y5 4
        have ht := Take_lk Hk.out (0, true) x.pos x.stays
        rw [take_up] at ht
        have Y5 := Lib.hid y5; clear y5
        clear hw0
        by_cases hin : 0 ≤ x.pos ∧ x.pos < (L.length : Int)
        · rw [if_pos hin] at ht
          obtain ⟨I, hI⟩ : ∃ I : Nat, x.pos = I := ⟨x.pos.toNat, by omega⟩
          have hIL : I < L.length := by omega
          have hget : L.getD x.pos.toNat noMsg = L[I] := by rw [hI, Int.toNat_natCast, List.getD_eq_getElem?_getD, List.getElem?_eq_getElem hIL, Option.getD_some]
          rw [hget] at ht
          have hmP := Hsub.out _ (List.getElem_mem hIL)
          obtain ⟨m, hm⟩ : ∃ m, m = L[I] := ⟨_, rfl⟩
          rw [← hm] at ht hmP
          clear hm hget
          have hL2 : ∀ y ∈ (if x.stays then L else L.eraseIdx x.pos.toNat), y ∈ P := fun y hy => by
            split at hy
            · exact Hsub.out y hy
            · exact Hsub.out y (List.mem_of_mem_eraseIdx hy)
          have hs2 : (S || x.stays) = false → (T + 1) + (if x.stays then L else L.eraseIdx x.pos.toNat).length = P.length := fun h => by
            rw [Bool.or_eq_false_iff] at h
            have h1 := Hsum.out h.1
            rw [h.2, hI, Int.toNat_natCast]
            simp only [Bool.false_eq_true, if_false]
            rw [List.length_eraseIdx, if_pos hIL, ← HN.out]
            omega
          generalize (if x.stays then L else L.eraseIdx x.pos.toNat) = L2 at ht hL2 hs2
          clear hin hI
          have HL2 := Lib.hid hL2; clear hL2
          have Hs2 := Lib.hid hs2; clear hs2
          have HmP := Lib.hid hmP; clear hmP
          have heq := fun (y : Msg) w => msg_eql w y m
          have hgd := fun (y : Msg) a b w => msg_guard .eql a b y m w
          have hmem : ∀ q (hq : q < P.length), decide (m ∈ P.take (q + 1)) = (decide (m ∈ P.take q) || decide (P[q] = m)) := fun q hq => by
            rw [List.take_add_one, List.getElem?_eq_getElem hq, Bool.eq_iff_iff]
            simp only [Option.toList_some, List.mem_append, List.mem_singleton, decide_eq_true_iff, Bool.or_eq_true]
            exact or_congr Iff.rfl eq_comm
          have Hmem := Lib.hid hmem; clear hmem
          have hfin : decide (m ∈ P.take N) = true := by rw [HN.out, List.take_length]; exact decide_eq_true HmP.out
          have Hfin := Lib.hid hfin; clear hfin
          obtain ⟨tst, htst⟩ : ∃ f : Nat → Bool, f = fun q => decide (m ∈ P.take q) := ⟨_, rfl⟩
          have t0 : tst 0 = false := by rw [htst]; simp
          have tN : tst N = true := by rw [htst]; exact Hfin.out
          have tS : ∀ q (hq : q < P.length), tst (q + 1) = (tst q || decide (P[q] = m)) := fun q hq => by rw [htst]; exact Hmem.out q hq
          clear htst Hmem Hfin HmP
          have TN := Lib.hid tN; clear tN
          have TS := Lib.hid tS; clear tS
          obtain ⟨k1, k2, k3, k4⟩ := m
          simp only [Msg.cells, Msg.kind, Msg.part, Msg.tx, Msg.what] at ht heq hgd
          have Heq := Lib.hid heq; clear heq
          have Hgd := Lib.hid hgd; clear hgd
          have Ht := Lib.hid ht; clear ht
          go_wp2_with fail
          refine Ht.out.mono ?_
          rintro e w6 ⟨rfl, l6, m6⟩
          have o6 := Ho.out.mod m6
          have z6 := (m6.block g9 (Array.getElem?_eq_some_iff.1 Y5.out).1 nf).trans Y5.out
          generalize grownF F4 w5 w6 = F6 at *
          have b7 := (Below.refl w6.heap.size w6).alloc (Nat.le_refl _) (.cells #[.int .i64 k1, .int .i64 k2, .int .i64 k3, .int .i64 k4] 38)
          have x7 := heap_alloc_new w6 (.cells #[.int .i64 k1, .int .i64 k2, .int .i64 k3, .int .i64 k4] 38)
          have l7 := l6.step b7
          have o7 := o6.step b7
          have z7 := (b7.block g9 (Array.getElem?_eq_some_iff.1 z6).1).trans z6
          have y7 := cells_at z7 4
          clear l6 o6 z6 z7 b7 m6 Hk Ho Y5 Ht y0 y2 y4
          have Hk := Lib.hid l7; clear l7
          have Ho := Lib.hid o7; clear o7
          have Hx7 := Lib.hid x7; clear x7
          have hTb : T ≤ 100 := by omega
          obtain ⟨S2, hS2⟩ : ∃ S2, S2 = (S || x.stays) := ⟨_, rfl⟩
          rw [← hS2] at Hs2
          have hcase : (S = true ∧ S2 = true) ∨ (S = false ∧ S2 = x.stays) := by
            cases S
            · exact .inr ⟨rfl, by rw [hS2]; rfl⟩
            · exact .inl ⟨rfl, by rw [hS2]; rfl⟩
          clear hS2
          go_upto_region 28 with fail
          generalize w6.heap.size = g14 at *
          generalize w6.alloc (.cells #[.int .i64 k1, .int .i64 k2, .int .i64 k3, .int .i64 k4] 38) = w7 at *
          rcases hcase with ⟨rfl, rfl⟩ | ⟨rfl, rfl⟩
          all_goals
            go_wp2_with fail
            obtain ⟨wo', hwo'⟩ : ∃ wo' : World, wo' = wr := ⟨_, rfl⟩
            clear hwo'
            go_loopw [16, 17] (fun th kv wr => ∃ q : Nat, q ≤ N ∧ th = .bool (tst q) ∧ kv = .int .i64 q ∧ Lk w wr b F6 1 (upd ls0 (0, true) L2) ∧ OwnM w wr F6 (.slice va N vc) P ∧ wr.heap[g14]? = some (.cells #[.int .i64 k1, .int .i64 k2, .int .i64 k3, .int .i64 k4] 38 (0, 0))) (fun _ kv _ => N - (intOf kv).toNat)
            case atStart => exact ⟨0, by omega, by rw [t0], rfl, Hk.out, Ho.out, Hx7.out⟩
            case round =>
              clear Hk Ho Hx7 y7
              obtain ⟨q, hq, rfl, rfl, hk, ho, hz⟩ := hrel
              by_cases hqN : q < N
              · have hqP : q < P.length := by rw [← HN.out]; exact hqN
                obtain ⟨va', vc', ev, hrec, -⟩ := ho.own.recs
                rw [← HN.out] at ev hrec
                cases ev
                obtain ⟨pb, po, rfl⟩ := hrec.addr (by omega)
                have hcp := hrec.at hqP
                have hts := TS.out q hqP
                have he := Heq.out P[q]
                have hg := Hgd.out P[q]
                generalize decide (P[q] = (k1, k2, k3, k4)) = D at hts he
                obtain ⟨en, hene⟩ : ∃ en, en = P[q] := ⟨_, rfl⟩
                rw [← hene] at hcp he hg
                clear hene hrec
                obtain ⟨p1, p2, p3, p4⟩ := en
                have q0 := hcp 0 _ rfl
                have q1 := hcp 1 _ rfl
                have q2 := hcp 2 _ rfl
                have q3 := hcp 3 _ rfl
                have ql := World.block_lt_of_cell? _ _ q0
                have zl := (Array.getElem?_eq_some_iff.1 hz).1
                simp only [msgF, Nat.add_zero, Msg.kind, Msg.part, Msg.tx, Msg.what] at q0 q1 q2 q3
                simp only at he hg
                clear hcp
                have He := Lib.hid he; clear he
                have HG := Lib.hid hg; clear hg
                have Q0 := Lib.hid q0; clear q0
                have Q1 := Lib.hid q1; clear q1
                have Q2 := Lib.hid q2; clear q2
                have Q3 := Lib.hid q3; clear q3
                have Hk := Lib.hid hk; clear hk
                have Ho := Lib.hid ho; clear ho
                have Hz := Lib.hid hz; clear hz
                have j1 : (0 : Int) ≤ (q : Int) := by omega
                have j2 : (q : Int) < (N : Int) := by omega
                obtain ⟨B', hB'⟩ : ∃ B', B' = tst (q + 1) := ⟨_, rfl⟩
                rw [← hB'] at hts
                have HB' := Lib.hid hB'; clear hB'
                have Hts := Lib.hid hts; clear hts
                obtain ⟨Bq, hBq⟩ : ∃ Bq, Bq = tst q := ⟨_, rfl⟩
                rw [← hBq] at Hts ⊢
                clear hBq
                go_wp2_with fail
                have s0 := below_drew wr
                refine wp_region_phases (fun w' : World => Below wr.heap.size wr w') 129 [([], [[0, 1]]), ([2, 3, 4, 5, 6], [[7], [8, 9]])] (by kernel_rfl) (by kernel_rfl) rfl (by kernel_rfl) (fun _ _ _ h => by obtain ⟨_, h, _⟩ := h; cases h) s0 ?_
                generalize wr.drew = wd at s0 ⊢
                have Hs0 := Lib.hid s0; clear s0
                refine ph_plain rfl ?_
                simp only [List.map_cons, List.map_nil, List.getD_cons_zero, List.getD_cons_succ]
                refine segsK_more ?_
                go_wp2_with fail
                refine seg_end Hs0.out (segsK_end (ph_more rfl ?_))
                cases Bq
                all_goals
                  apply Exists.intro
                  apply And.intro
                  · intro w' s
                    have xg := (s.block g14 zl).trans Hz.out
                    have y0 := cells_at xg 0
                    have y1 := cells_at xg 1
                    have y2 := cells_at xg 2
                    have y3 := cells_at xg 3
                    have q0 := (s.cell ql).trans Q0.out
                    have q1 := (s.cell ql).trans Q1.out
                    have q2 := (s.cell ql).trans Q2.out
                    have q3 := (s.cell ql).trans Q3.out
                    clear s xg
                    simp only [List.map_cons, List.map_nil, List.getD_cons_zero, List.getD_cons_succ]
                    go_wp2_with fail
                    exact pre_end
                  have he := He.out
                  have hg := HG.out
                  simp only [List.map_cons, List.map_nil, List.getD_cons_zero, List.getD_cons_succ]
                  refine segsK_more ?_
                  go_wp2_with fail
                  refine seg_end Hs0.out (segsK_more ?_)
                  go_wp2_with fail
                  refine seg_end Hs0.out (segsK_end (ph_end ?_))
                  have l9 := Hk.out.step Hs0.out
                  have o9 := Ho.out.step Hs0.out
                  have z9 := (Hs0.out.block g14 zl).trans Hz.out
                  clear Hk Ho Hz Q0 Q1 Q2 Q3 he hg Hs0
                  have Hk := Lib.hid l9; clear l9
                  have Ho := Lib.hid o9; clear o9
                  have Hz := Lib.hid z9; clear z9
                  go_wp2_with fail
                  go_roundw
                  case rel => exact ⟨q + 1, by omega, by rw [← HB'.out, Hts.out]; simp, by go_num, Hk.out, Ho.out, Hz.out⟩
                  case measure => simp [intOf]; omega
              · obtain rfl : q = N := by omega
                rw [TN.out]
                have Hk := Lib.hid hk; clear hk
                have Ho := Lib.hid ho; clear ho
                clear hz
                go_wp2_with fail
                go_roundw
                case rel => exact ⟨j + 1, T + 1, _, F6, L2, P, by omega, by go_num, rfl, by go_num, Hk.out, Ho.out, HL2.out, Hs2.out, by rw [← HN.out]; omega, by omega⟩
                case measure => simp [intOf]; omega
        · rw [if_neg hin] at ht
          simp only [Msg.cells, noMsg, Msg.kind, Msg.part, Msg.tx, Msg.what] at ht
          clear hin
          have Ht := Lib.hid ht; clear ht
          go_wp2_with fail
          refine Ht.out.mono ?_
          rintro e w6 ⟨rfl, l6, m6⟩
          have o6 := Ho.out.mod m6
          generalize grownF F4 w5 w6 = F6 at *
          have b7 := (Below.refl w6.heap.size w6).alloc (Nat.le_refl _) (.cells #[.int .i64 0, .int .i64 0, .int .i64 0, .int .i64 0] 38)
          have l7 := l6.step b7
          have o7 := o6.step b7
          clear l6 o6 b7 m6 Hk Ho Y5 Ht y0 y2 y4
          have Hk := Lib.hid l7; clear l7
          have Ho := Lib.hid o7; clear o7
          go_wp2_with fail
          go_roundw
          case rel => exact ⟨j + 1, T, S, F6, L, P, by omega, rfl, rfl, by go_num, Hk.out, Ho.out, Hsub.out, (fun h => by have := Hsum.out h; rw [← HN.out]; exact this), by rw [← HN.out]; omega, by omega⟩
          case measure => simp [intOf]; omega
    · obtain rfl : j = n := by omega
      cases S with
      | true =>
        have Hk := Lib.hid hk; clear hk
        clear ho
        go_wp2
        go_ret
        exact ⟨rfl, Hk.out.bel⟩
      | false =>
        have htot := Total_lk hk
        rw [sum_up] at htot
        obtain ⟨LL, hLL⟩ : ∃ LL, LL = L.length := ⟨_, rfl⟩
        have hsum := Hsum.out rfl
        rw [← hLL] at htot hsum hL16
        clear hLL
        have Htot := Lib.hid htot; clear htot
        have Hk := Lib.hid hk; clear hk
        clear ho
        have z1 : ((T : Int) + (LL : Int) == (N : Int)) = true := by
          have : (T : Int) + (LL : Int) = (N : Int) := by omega
          simpa using this
        go_wp2_with fail
        refine Htot.out.mono ?_
        rintro e w9 ⟨rfl, b9⟩
        have l9 := Hk.out.step b9
        clear Hk Htot b9
        have Hk := Lib.hid l9; clear l9
        go_wp2_with fail
        go_ret
        exact ⟨rfl, Hk.out.bel⟩
end Go.Proofs.Ytckahkpikjhkmaa
