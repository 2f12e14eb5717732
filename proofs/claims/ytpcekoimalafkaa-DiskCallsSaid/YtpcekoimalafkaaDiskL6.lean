/- DiskCalls: the walk of the law. -/
import Derived.Test.YtpcekoimalafkaaDiskR6
import Derived.Test.YtpcekoimalafkaaDiskB
import Derived.Test.YtpcekoimalafkaaDiskO
import Derived.OpenShut
namespace Go.Proofs.Ytpcekoimalafkaa
open Go.RowKit

theorem written_len (S : List (List Int)) (C : List (Int × List Int)) (k : Int) (zs : List Int) {j : Nat} (h : C.length ≤ j) : (written S C k zs).length ≤ j + 1 := by
  unfold written
  split
  · simp; omega
  · omega
theorem new_bad {w : World} {n : Int} (hn : ¬ (1 ≤ n ∧ n ≤ 512)) :
    Calls Try.prog 11 #[.int .i64 n] w fun e w' => e = .returned (.tuple #[.pointer none, .int .i64 11]) ∧ w = w' := (New_bad hn).mono fun _ _ h => ⟨h.1, h.2.symm⟩

set_option maxRecDepth 100000 in
set_option maxHeartbeats 16000000 in
theorem lawDiskCalls {w : World} {n : Int} (_hn : (Lit.int .i64 n).wf = true) {a : Option Addr} {m c : Nat} {xs : List CallV} (hr : CallRow w a m c xs) :
    Calls Try.prog 3 #[.int .i64 n, .slice a m c] w fun e w' => e = .returned (.bool true) ∧ Below w.heap.size w w' := by
  go_enter Try.func3, Try.ntmps3
  go_wp2_with fail
  refine alive_calls.mono ?_
  rintro e w1 ⟨rfl, b1⟩
  have hr1 := hr.keep b1
  have B1 := Lib.hid b1; clear b1
  go_wp2_with fail
  refine (great_calls hr1).mono ?_
  rintro e w2 ⟨rfl, rfl⟩
  cases hg : greatOf xs with
  | true =>
    go_wp2
    go_ret
    exact ⟨rfl, B1.out⟩
  | false =>
  have HG := Lib.hid hg; clear hg
  by_cases hmid : 40 < n ∧ n ≤ 512
  · have hd : decide (40 < n) = true := decide_eq_true hmid.1
    have hd2 : decide (n ≤ 512) = true := decide_eq_true hmid.2
    clear hmid
    go_wp2
    go_ret
    exact ⟨rfl, B1.out⟩
  have hng := notGreat HG.out
  have hl := hr.len
  have Hl := Lib.hid hl; clear hl
  by_cases hin : ¬ (1 ≤ n ∧ n ≤ 40)
  · have hbad : ¬ (1 ≤ n ∧ n ≤ 512) := by omega
    have hg : decide (40 < n) = false ∨ (decide (40 < n) = true ∧ decide (n ≤ 512) = false) := by
      by_cases h : 40 < n
      · exact .inr ⟨decide_eq_true h, decide_eq_false (by omega)⟩
      · exact .inl (decide_eq_false h)
    have Hbad := Lib.hid hbad
    clear hbad hin hmid
    rcases hg with hg | ⟨hg, hg2⟩
    all_goals
      go_wp2_with fail
      refine (new_bad Hbad.out).mono ?_
      rintro e _ ⟨rfl, rfl⟩
      go_wp2_with fail
      refine (RNew_bad Hbad.out).mono ?_
      rintro e _ ⟨rfl, rfl⟩
      go_wp2_with fail
      go_loopw [9] (fun i wr => i = .int .i64 0 ∧ wr = w2) (fun _ _ => 0)
      case atStart => exact ⟨rfl, rfl⟩
      case round =>
        obtain ⟨rfl, rfl⟩ := hrel
        by_cases hm : 0 < m
        · have i1 : (0 : Int) < (m : Int) := by omega
          go_wp2
          go_ret
          exact ⟨rfl, B1.out⟩
        · obtain rfl : m = 0 := by omega
          go_wp2
          go_ret
          exact ⟨rfl, B1.out⟩
  have hin := Decidable.not_not.1 hin
  clear hmid
  have e1 : decide (40 < n) = false := decide_eq_false (by omega)
  obtain ⟨N, rfl⟩ : ∃ N : Nat, n = N := ⟨n.toNat, by omega⟩
  have hN : 1 ≤ N ∧ N ≤ 40 := by omega
  have hN1 := hN.1
  have hN2 := hN.2
  clear hin hN
  go_wp2_with fail
  refine (New_dev (w0 := w) B1.out hN1 (by omega)).mono ?_
  rintro e w3 ⟨bd, F, rfl, d3, _, _⟩
  go_wp2_with fail
  refine (RNew_ref (w0 := w) d3.bel hN1 (by omega)).mono ?_
  rintro e w4 ⟨br, G, rfl, r4, g4, b4⟩
  have d4 := d3.step b4
  have dis : ∀ k, F k → ¬ G k := fun k hk hg => by have := (d3.low k hk).2; have := g4 k hg; omega
  clear d3 b4 g4 hr1
  have Hd4 := Lib.hid d4; clear d4
  have Hr4 := Lib.hid r4; clear r4
  have Hdis := Lib.hid dis; clear dis
  go_wp2_with fail
  go_loopw [9] (fun i wr => ∃ (j : Nat) (st : State) (F G : Nat → Prop), j ≤ m ∧ i = .int .i64 j ∧ Dev w wr bd F st ∧ Ref w wr br G st ∧ (∀ k, F k → ¬ G k) ∧ st.1.length = N ∧ st.2.length ≤ j) (fun i _ => m - (intOf i).toNat)
  case atStart => exact ⟨0, _, F, G, by omega, rfl, Hd4.out, Hr4.out, Hdis.out, by simp [fresh], by simp⟩
  case round =>
    obtain ⟨j, st, F, G, hj, rfl, hd, hrf, dis, hlen, hcl⟩ := hrel
    clear Hd4 Hr4 Hdis
    have Hdis := Lib.hid dis; clear dis
    have Hlen := Lib.hid hlen; clear hlen
    by_cases hlt : j < m
    · obtain ⟨bx, ox, rfl, hc⟩ := (hr.keep hd.bel).cell (by omega)
      have hjx : j < xs.length := by rw [Hl.out]; exact hlt
      have hin : xs[j] ∈ xs := List.getElem_mem _
      have hcx := hc j hjx
      have hok := (hr.ok _ hin).data
      have hdn := hng.2 _ hin
      obtain ⟨x, hx⟩ : ∃ x, x = xs[j] := ⟨_, rfl⟩
      rw [← hx] at hcx hin hok hdn
      clear hx hc hin
      have hcells : ∀ i v, x.cells[i]? = some v → wr.cell? ⟨bx, ox + j * 4 + i, none⟩ = some v := fun i v hv => by
        have hi : i < 4 := (List.getElem?_eq_some_iff.1 hv).1
        rw [Nat.add_assoc, hcx i hi]; exact hv
      obtain ⟨what, place, tr, ad, dn, dc, zs⟩ := x
      simp only [CallV.cells] at hcells hdn hok
      have Hcells := Lib.hid hcells; clear hcells hcx
      have Hok := Lib.hid hok; clear hok
      have i1 : (0 : Int) ≤ (j : Int) := by omega
      have i2 : (j : Int) < (m : Int) := by omega
      have hjm : j < 80 := by have := hng.1; have := Hl.out; omega
      have Hd := Lib.hid hd; clear hd
      have Hrf := Lib.hid hrf; clear hrf
      go_wp2_with (with_reducible refine stop_load 34 ?_)
      refine unpark ?_
      refine wpList_load_cells rfl _ _ rfl bx (ox + j * 4) rfl [.int .i64 what, .int .i64 place, .int .i64 tr, .slice ad dn dc] Hcells.out 4 rfl _ Try.underlying34 rfl Try.sizeCall ?_
      go_wp2_with (with_reducible refine stop_store 34 ?_)
      refine unpark ?_
      refine wpList_store_at rfl _ _ _ rfl _ 0 rfl _ rfl [.int .i64 what, .int .i64 place, .int .i64 tr, .slice ad dn dc] rfl _ _ (heap_alloc_new _ _) 4 rfl (by decide) (by simp [Value.oneCell']) Try.sizeCall ?_
      intro w7 hw7 hg7 hs7
      clear hs7
      replace hw7 : w7.heap[wr.heap.size]? = some (.cells #[.int .i64 what, .int .i64 place, .int .i64 tr, .slice ad dn dc] 34 (0, 0)) := hw7
      have hal : Below wr.heap.size wr w7 := ((Below.refl _ _).alloc (Nat.le_refl _) _).grown hg7 (by simp) (fun k hk => by cases hk; exact Nat.le_refl _)
      have hd7 := Hd.out.step hal
      have hr7 := Hrf.out.step hal
      have hx7 := Hok.out.keep hd7.bel
      have hlo : ∀ x, F x ∨ G x → x < wr.heap.size := fun x hx => hx.elim (fun h => (Hd.out.low x h).2) fun h => (Hrf.out.low x h).2
      have hws : wr.heap.size < w7.heap.size := (Array.getElem?_eq_some_iff.1 hw7).1
      have hd7sz : w.heap.size ≤ w7.heap.size := hd7.bel.size
      obtain ⟨ws, hwseq⟩ : ∃ ws, ws = wr.heap.size := ⟨_, rfl⟩
      rw [← hwseq] at hw7 hlo hws ⊢
      clear hg7 hal Hd Hrf hwseq
      have c3 : w7.cell? ⟨ws, 3, none⟩ = some (.slice ad dn dc) := cells_at hw7 3
      have Hw7 := Lib.hid hw7; clear hw7
      have Hlo := Lib.hid hlo; clear hlo
      have Hd7 := Lib.hid hd7; clear hd7
      have Hr7 := Lib.hid hr7; clear hr7
      have Hx7 := Lib.hid hx7; clear hx7
      go_wp2_with fail
      refine (CopyBytes_calls Hx7.out (by omega)).mono ?_
      rintro e w8 ⟨v8, rfl, own8, _, b8⟩
      obtain ⟨ao, no, co, rfl, xo, _⟩ := own8.read
      have hxo := Hx7.out.keep b8
      obtain rfl : no = dn := by rw [← xo.len, ← hxo.len]
      have hd8 := Hd7.out.step b8
      have hr8 := Hr7.out.step b8
      have hw8 := (b8.block ws hws).trans Hw7.out
      have hlo8 : ∀ g, (Value.slice ao no co).ownBlock = some g → w7.heap.size ≤ g ∧ g < w8.heap.size := own8.block
      have hws8 : ws < w8.heap.size := Nat.lt_of_lt_of_le hws b8.size
      clear c3 Hw7 Hd7 Hr7 Hx7 b8
      have c0 : w8.cell? ⟨ws, 0, none⟩ = some (.int .i64 what) := cells_at hw8 0
      have c1 : w8.cell? ⟨ws, 1, none⟩ = some (.int .i64 place) := cells_at hw8 1
      have c2 : w8.cell? ⟨ws, 2, none⟩ = some (.int .i64 tr) := cells_at hw8 2
      have c3 : w8.cell? ⟨ws, 3, none⟩ = some (.slice ad no dc) := cells_at hw8 3
      have Hw8 := Lib.hid hw8; clear hw8
      have Hd8 := Lib.hid hd8; clear hd8
      have Hr8 := Lib.hid hr8; clear hr8
      have Hxo := Lib.hid xo; clear xo
      have Hxd := Lib.hid hxo; clear hxo
      have Hown := Lib.hid own8; clear own8
      have Hlo8 := Lib.hid hlo8; clear hlo8
      by_cases h0 : what = 0
      · subst h0
        go_wp2_with fail
        obtain ⟨E, hE⟩ : ∃ E, E = writeErr st.1 place no := ⟨_, rfl⟩
        have hEE : (E != E) = false := by simp
        have HE := Lib.hid hE; clear hE
        clear c0 c2
        have d9 : Dev w w8.drew bd F st := Hd8.out.step ⟨rfl, rfl, rfl, Nat.le_refl _, fun _ _ => rfl⟩
        have r9 : Ref w w8.drew br G st := Hr8.out.step ⟨rfl, rfl, rfl, Nat.le_refl _, fun _ _ => rfl⟩
        have xo9 := Hxo.out.drew
        have xd9 := Hxd.out.drew
        have hw9 : w8.drew.heap[ws]? = _ := Hw8.out
        have own9 : Own w8.drew w7.heap.size 5 .u8 (.slice ao no co) zs := Hown.out.keep fun _ _ _ => rfl
        have hsz9 : w8.drew.heap.size = w8.heap.size := rfl
        have hws9 : ws < w8.drew.heap.size := hws8
        have hlo9 : ∀ g, (Value.slice ao no co).ownBlock = some g → w7.heap.size ≤ g ∧ g < w8.drew.heap.size := Hlo8.out
        clear Hd8 Hr8 Hxo Hxd Hw8 Hown hsz9 hws8 Hlo8
        have Hd9 := Lib.hid d9; clear d9
        have Hr9 := Lib.hid r9; clear r9
        have Hxo := Lib.hid xo9; clear xo9
        have Hxd := Lib.hid xd9; clear xd9
        have Hw9 := Lib.hid hw9; clear hw9
        have Hown := Lib.hid own9; clear own9
        have Hlo9 := Lib.hid hlo9; clear hlo9
        have HS := Lib.hid (show w8.drew.cell? ⟨ws, 1, none⟩ = some (.int .i64 place) ∧ w8.drew.cell? ⟨ws, 3, none⟩ = some (.slice ad no dc) from ⟨c1, c3⟩)
        clear c1 c3
        refine wp_region_held (fun w' : World => w'.cell? ⟨ws, 1, none⟩ = some (.int .i64 place) ∧ w'.cell? ⟨ws, 3, none⟩ = some (.slice ad no dc)) [0, 1, 2, 3, 5, 6, 7, 8, 9] [[4], [10, 11, 12, 13, 14, 15, 16, 17, 18]] (by kernel_rfl) (by kernel_rfl) rfl (by kernel_rfl)
          (fun _ _ _ h => by obtain ⟨_, h, _⟩ := h; cases h) (fun _ _ h => by obtain ⟨h, _⟩ := h; cases h) HS.out rfl ?_
        apply Exists.intro
        apply And.intro
        · rintro w' ⟨s1, s3⟩
          simp only [List.map_cons, List.map_nil, List.getD_cons_zero, List.getD_cons_succ]
          go_wp2_with fail
          exact pre_end
        · simp only [List.map_cons, List.map_nil, List.getD_cons_zero, List.getD_cons_succ]
          generalize w8.drew = w9 at Hd9 Hr9 Hxo Hxd Hw9 Hown HS hws9 Hlo9 ⊢
          refine segs_more ?_
          go_wp2_with fail
          refine (Write_dev Hd9.out place Hxo.out (by omega)).mono ?_
          rintro e wa ⟨rfl, da, ma⟩
          rw [← HE.out]
          have hnF : ∀ g, (Value.slice ao no co).ownBlock = some g → ¬ F g := fun g hg hF => by have := (Hlo9.out g hg).1; have := Hlo.out g (.inl hF); omega
          have ra := Hr9.out.aside ma (fun k hk hf => Hdis.out k hf hk) fun k hk => (Hd9.out.low k hk).1
          have hwa := (ma.block ws hws9 fun hF => by have := Hlo.out ws (.inl hF); omega).trans Hw9.out
          have owna := ma.own Hown.out hnF
          have hxa : Ints wa .u8 ad no dc zs := Hok.out.keep da.bel
          have hza := ma.size
          have dia : ∀ k, grownF F w9 wa k → ¬ G k := fun k hk hg => hk.elim (fun h => Hdis.out k h hg) fun h => by have := (Hr9.out.low k hg).2; omega
          clear ma Hd9 Hr9 Hxo Hxd Hw9 Hown HS
          have s1 : wa.cell? ⟨ws, 1, none⟩ = some (.int .i64 place) := cells_at hwa 1
          have s3 : wa.cell? ⟨ws, 3, none⟩ = some (.slice ad no dc) := cells_at hwa 3
          have HSa := Lib.hid (And.intro s1 s3); clear s1 s3
          have Hwa := Lib.hid hwa; clear hwa
          have Hda := Lib.hid da; clear da
          have Howna := Lib.hid owna; clear owna
          have Hdia := Lib.hid dia; clear dia
          go_wp2_with fail
          refine seg_end HSa.out (segs_last ?_)
          clear HSa
          go_wp2_with fail
          refine (RWrite_ref ra place hxa (by omega)).mono ?_
          rintro e wb ⟨rfl, rb, mb⟩
          rw [← HE.out]
          have db := Hda.out.aside mb Hdia.out fun k hk => (ra.low k hk).1
          have hwb := (mb.block ws (by omega) fun hG => by have := Hlo.out ws (.inr hG); omega).trans Hwa.out
          have ownb := mb.own Howna.out fun g hg hG => by have := (Hlo9.out g hg).1; have := Hlo.out g (.inr hG); omega
          have hxb : Ints wb .u8 ad no dc zs := Hok.out.keep db.bel
          have hzb := mb.size
          have dib : ∀ k, grownF F w9 wa k → ¬ grownF G wa wb k := fun k hk hg => hg.elim (Hdia.out k hk) fun h => by have := (Hda.out.low k hk).2; omega
          have hnF' : ∀ g, (Value.slice ao no co).ownBlock = some g → ¬ grownF F w9 wa g := fun g hg hk => hk.elim (hnF g hg) fun h => by have := (Hlo9.out g hg).2; omega
          have hnG' : ∀ g, (Value.slice ao no co).ownBlock = some g → ¬ grownF G wa wb g := fun g hg hk => hk.elim (fun hG => by have := (Hlo9.out g hg).1; have := Hlo.out g (.inr hG); omega) fun h => by have := (Hlo9.out g hg).2; omega
          obtain ⟨ao', no', co', e', xob, _⟩ := ownb.read
          simp only [Value.slice.injEq] at e'
          obtain ⟨rfl, rfl, rfl⟩ := e'
          clear mb Hda Hwa Howna ra hxa Hlo9 Hdis Hdia
          have s3 : wb.cell? ⟨ws, 3, none⟩ = some (.slice ad no dc) := cells_at hwb 3
          have Hdb := Lib.hid db; clear db
          have Hrb := Lib.hid rb; clear rb
          have Hdib := Lib.hid dib; clear dib
          have Hownb := Lib.hid ownb; clear ownb
          have HnF := Lib.hid hnF'; clear hnF' hnF
          have HnG := Lib.hid hnG'; clear hnG'
          go_wp2_with fail
          refine (SameBytes_yes xob hxb rfl).mono ?_
          rintro e wc ⟨rfl, nc, rfl⟩
          have bc : Below wb.heap.size wb (wb.drewN nc) := ⟨rfl, rfl, rfl, Nat.le_refl _, fun _ _ => rfl⟩
          have dc' := Hdb.out.step bc
          have rc' := Hrb.out.step bc
          have ownc : Own (wb.drewN nc) w7.heap.size 5 .u8 (.slice ao no co) zs := Hownb.out.below bc
          clear xob hxb Hdb Hrb Hownb bc s3 hwb
          generalize wb.drewN nc = wc at *
          have Hdc := Lib.hid dc'; clear dc'
          have Hrc := Lib.hid rc'; clear rc'
          have Hownc := Lib.hid ownc; clear ownc
          go_wp2_with fail
          obtain ⟨F', hF'⟩ : ∃ F', F' = grownF F w9 wa := ⟨_, rfl⟩
          obtain ⟨G', hG'⟩ : ∃ G', G' = grownF G wa wb := ⟨_, rfl⟩
          obtain ⟨st', hst'⟩ : ∃ st' : State, st' = (st.1, written st.1 st.2 place zs) := ⟨_, rfl⟩
          have lenb : st'.1.length = N := by rw [hst']; exact Hlen.out
          have clb : st'.2.length ≤ j + 1 := by rw [hst']; exact written_len _ _ _ _ hcl
          have hzl : zs.length = no := Hok.out.len
          rw [← hF'] at Hdc Hdib HnF
          rw [← hG'] at Hrc Hdib HnG
          rw [← hst'] at Hdc Hrc
          clear hF' hG' hst'
          have Hzl := Lib.hid hzl; clear hzl
          have Hlb := Lib.hid lenb; clear lenb
          obtain ⟨wo, rfl⟩ : ∃ wo : World, wo = wr := ⟨_, rfl⟩
          go_loopw [12] (fun i wr => ∃ (y : Nat) (ys : List Int), y ≤ no ∧ i = .int .i64 y ∧ ys.length = no ∧ Own wr w7.heap.size 5 .u8 (.slice ao no co) ys ∧ Dev w wr bd F' st' ∧ Ref w wr br G' st') (fun i _ => no - (intOf i).toNat)
          case atStart => exact ⟨0, zs, by omega, rfl, Hzl.out, Hownc.out, Hdc.out, Hrc.out⟩
          case round =>
            obtain ⟨y, ys, hy, rfl, hyl, owny, dy, ry⟩ := hrel
            clear Hownc Hdc Hrc
            have Hyl := Lib.hid hyl; clear hyl
            by_cases hyn : y < no
            · obtain ⟨g, cg, e', hc1, hc2, hg1, hg2, iy⟩ := owny.shape Hyl.out (by omega)
              simp only [Value.slice.injEq, true_and] at e'
              obtain ⟨rfl, rfl⟩ := e'
              obtain ⟨hcl', hfr⟩ := owny.at Hyl.out y hyn
              have hu8 := iy.u8 y
              obtain ⟨V, hV⟩ : ∃ V, V = ys.getD y 0 := ⟨_, rfl⟩
              rw [← hV] at hcl' hu8
              have i5 : (0 : Int) ≤ (y : Int) := by omega
              have i6 : (y : Int) < (no : Int) := by omega
              have hu1 := hu8.1
              have hu2 := hu8.2
              have Howny := Lib.hid owny; clear owny iy hu8 hV
              have Hdy := Lib.hid dy; clear dy
              have Hry := Lib.hid ry; clear ry
              have hput := Howny.out.put Hyl.out y (wf_bits .xor .u8 V 255)
              have hm : Mod (fun x => x = g) wr (wr.setCell ⟨g, y, none⟩ (.int .u8 (bits .xor .u8 V 255))) := ⟨rfl, rfl, rfl, by simp, fun x _ hx => heap_setCell_other wr _ x _ hx⟩
              have hgw : w.heap.size ≤ g := by have := Hdy.out.bel.size; have := hd7sz; omega
              have hdp := Hdy.out.aside hm (fun k hk e => HnF.out g rfl (e ▸ hk)) fun k e => by omega
              have hrp := Hry.out.aside hm (fun k hk e => HnG.out g rfl (e ▸ hk)) fun k e => by omega
              have Hput := Lib.hid hput; clear hput
              have Hdp := Lib.hid hdp; clear hdp
              have Hrp := Lib.hid hrp; clear hrp
              clear hm
              go_wp2_with fail
              go_roundw
              case rel => exact ⟨y + 1, _, by omega, by go_num, by rw [List.length_set]; exact Hyl.out, Hput.out, Hdp.out, Hrp.out⟩
              case measure => simp [intOf]; omega
            · obtain rfl : y = no := by omega
              have db := dy
              have rb := ry
              have dib := Hdib.out
              have lenb := Hlb.out
              clear Hdib dy ry owny
              go_wp2_with fail
              have Hdb := Lib.hid db; clear db
              have Hrb := Lib.hid rb; clear rb
              have Hdib := Lib.hid dib; clear dib
              have Hlenb := Lib.hid lenb; clear lenb
              have hcb : st'.2.length ≤ 1000000 := by omega
              have Hcb := Lib.hid hcb; clear hcb
              have Hclb := Lib.hid clb; clear clb
              obtain ⟨wo, rfl⟩ : ∃ wo : World, wo = wr := ⟨_, rfl⟩
              go_wp2_with fail
              go_loopw [13] (fun i wr => ∃ z : Int, -1 ≤ z ∧ z ≤ (N : Int) + 1 ∧ i = .int .i64 z ∧ Dev w wr bd F' st' ∧ Ref w wr br G' st') (fun i _ => ((N : Int) + 1 - intOf i).toNat)
              case atStart => exact ⟨-1, by omega, by omega, rfl, Hdb.out, Hrb.out⟩
              case round =>
                obtain ⟨z, hz1, hz2, rfl, dz, rz⟩ := hrel
                clear Hdb Hrb
                by_cases hzN : z ≤ (N : Int)
                · have e5 : decide (z ≤ (N : Int)) = true := decide_eq_true hzN
                  obtain ⟨E, hE⟩ : ∃ E, E = readErr st' z := ⟨_, rfl⟩
                  have hEE : (E != E) = false := by simp
                  have HE := Lib.hid hE; clear hE
                  go_wp2_with fail
                  refine (Read_dev dz z).mono ?_
                  rintro e wp ⟨vp, rfl, op, bp, dp⟩
                  rw [← HE.out]
                  have rp := rz.step bp
                  obtain ⟨ap, np, cp, rfl, xp, _⟩ := op.read
                  clear op bp dz rz
                  go_wp2_with fail
                  refine (RRead_ref rp Hcb.out z).mono ?_
                  rintro e wq ⟨vq, rfl, oq, bq, rq⟩
                  rw [← HE.out]
                  have dq := dp.step bq
                  have xp' := xp.keep bq
                  obtain ⟨aq, nq, cq, rfl, xq, _⟩ := oq.read
                  clear oq bq dp rp xp
                  have Hdq := Lib.hid dq; clear dq
                  have Hrq := Lib.hid rq; clear rq
                  go_wp2_with fail
                  refine (SameBytes_yes xp' xq rfl).mono ?_
                  rintro e wt ⟨rfl, nt, rfl⟩
                  have bt : Below wq.heap.size wq (wq.drewN nt) := ⟨rfl, rfl, rfl, Nat.le_refl _, fun _ _ => rfl⟩
                  have dt := Hdq.out.step bt
                  have rt := Hrq.out.step bt
                  clear xp' xq Hdq Hrq bt
                  generalize wq.drewN nt = wt at *
                  have Hdt := Lib.hid dt; clear dt
                  have Hrt := Lib.hid rt; clear rt
                  go_wp2_with fail
                  go_roundw
                  case rel => exact ⟨z + 1, by omega, by omega, rfl, Hdt.out, Hrt.out⟩
                  case measure => simp [intOf]; omega
                · have e5 : decide (z ≤ (N : Int)) = false := decide_eq_false hzN
                  obtain ⟨ca, cc, hcell, hbr⟩ := rz.cacheCell
                  have hcd : wr.drew.cell? ⟨br, 1, none⟩ = some (.slice ca st'.2.length cc) := hcell
                  have bd' : Below wr.heap.size wr wr.drew := ⟨rfl, rfl, rfl, Nat.le_refl _, fun _ _ => rfl⟩
                  have dd := dz.step bd'
                  have rd := rz.step bd'
                  clear dz rz hcell bd'
                  have Hdd := Lib.hid dd; clear dd
                  have Hrd := Lib.hid rd; clear rd
                  have Hcd := Lib.hid hcd; clear hcd
                  go_wp2_with fail
                  refine wp_region_held (fun w' : World => w'.cell? ⟨br, 1, none⟩ = some (.slice ca st'.2.length cc)) [0, 2, 3, 4, 5, 6] [[1], [7, 8, 9, 11, 10, 12, 13, 14, 15, 17, 16, 18, 19, 20, 21]] (by kernel_rfl) (by kernel_rfl) rfl (by kernel_rfl)
                    (fun _ _ _ h => by obtain ⟨_, h, _⟩ := h; cases h) (fun _ _ h => by obtain ⟨h, _⟩ := h; cases h) Hcd.out rfl ?_
                  apply Exists.intro
                  apply And.intro
                  · intro w' hS
                    simp only [List.map_cons, List.map_nil, List.getD_cons_zero, List.getD_cons_succ]
                    go_wp2_with fail
                    exact pre_end
                  · simp only [List.map_cons, List.map_nil, List.getD_cons_zero, List.getD_cons_succ]
                    generalize wr.drew = wp at Hdd Hrd Hcd ⊢
                    refine segs_more ?_
                    go_wp2_with fail
                    refine (Loose_dev Hdd.out).mono ?_
                    rintro e _ ⟨rfl, rfl⟩
                    go_wp2_with fail
                    refine seg_end Hcd.out (segs_last ?_)
                    clear Hcd
                    go_wp2_with fail
                    refine (Sectors_dev Hdd.out).mono ?_
                    rintro e _ ⟨rfl, rfl⟩
                    rw [Hlenb.out]
                    go_wp2_with fail
                    refine (Image_dev Hdd.out).mono ?_
                    rintro e wq ⟨vq, rfl, oq, bq, dq⟩
                    have rq := Hrd.out.step bq
                    obtain ⟨aq, nq, cq, rfl, xq, _⟩ := oq.read
                    clear oq bq Hdd Hrd
                    go_wp2_with fail
                    refine (RImage_ref rq).mono ?_
                    rintro e wt ⟨vt, rfl, ot, bt, rt⟩
                    have dt := dq.step bt
                    have xq' := xq.keep bt
                    obtain ⟨au, nu, cu, rfl, xt, _⟩ := ot.read
                    clear ot bt dq rq xq
                    have Hdt := Lib.hid dt; clear dt
                    have Hrt := Lib.hid rt; clear rt
                    go_wp2_with fail
                    refine (SameBytes_yes xq' xt rfl).mono ?_
                    rintro e wu ⟨rfl, nv, rfl⟩
                    have bu : Below wt.heap.size wt (wt.drewN nv) := ⟨rfl, rfl, rfl, Nat.le_refl _, fun _ _ => rfl⟩
                    have du := Hdt.out.step bu
                    have ru := Hrt.out.step bu
                    clear xq' xt Hdt Hrt bu
                    generalize wt.drewN nv = wu at *
                    have Hdu := Lib.hid du; clear du
                    have Hru := Lib.hid ru; clear ru
                    go_wp2_with fail
                    go_roundw
                    case rel => exact ⟨j + 1, st', F', G', by omega, by go_num, Hdu.out, Hru.out, Hdib.out, Hlenb.out, Hclb.out⟩
                    case measure => simp [intOf]; omega
      have g0 : ((what : Int) == 0) = false := by simpa using h0
      have H0 := Lib.hid h0; clear h0
      by_cases h1 : what = 1
      · subst h1
        go_wp2_with fail
        refine (Flush_dev Hd8.out).mono ?_
        rintro e wa ⟨rfl, da, ma⟩
        have ra := Hr8.out.aside ma (fun k hk hf => Hdis.out k hf hk) fun k hk => (Hd8.out.low k hk).1
        clear ma c0 c1 c2 c3
        go_wp2_with fail
        refine (RFlush_ref ra (by have := hcl; omega)).mono ?_
        rintro e wb ⟨rfl, rb, mb⟩
        have db := da.aside mb Hdis.out fun k hk => (ra.low k hk).1
        have dib : ∀ k, F k → ¬ grownF G wa wb k := fun k hk hg => hg.elim (Hdis.out k hk) fun h => by have := (da.low k hk).2; omega
        have lenb : (settled st.1 st.2).length = N := by rw [settled_len]; exact Hlen.out
        have clb : ([] : List (Int × List Int)).length ≤ j + 1 := by simp
        clear mb ra da
        obtain ⟨F', hF'⟩ : ∃ F', F' = F := ⟨_, rfl⟩
        obtain ⟨G', hG'⟩ : ∃ G', G' = grownF G wa wb := ⟨_, rfl⟩
        obtain ⟨st', hst'⟩ : ∃ st' : State, st' = (settled st.1 st.2, []) := ⟨_, rfl⟩
        rw [← hF'] at db dib
        rw [← hG'] at rb dib
        rw [← hst'] at db rb
        replace lenb : st'.1.length = N := by rw [hst']; exact lenb
        replace clb : st'.2.length ≤ j + 1 := by rw [hst']; exact clb
        clear hF' hG' hst'
        have Hdb := Lib.hid db; clear db
        have Hrb := Lib.hid rb; clear rb
        have Hdib := Lib.hid dib; clear dib
        have Hlenb := Lib.hid lenb; clear lenb
        have hcb : st'.2.length ≤ 1000000 := by omega
        have Hcb := Lib.hid hcb; clear hcb
        have Hclb := Lib.hid clb; clear clb
        obtain ⟨wo, rfl⟩ : ∃ wo : World, wo = wr := ⟨_, rfl⟩
        go_wp2_with fail
        go_loopw [13] (fun i wr => ∃ z : Int, -1 ≤ z ∧ z ≤ (N : Int) + 1 ∧ i = .int .i64 z ∧ Dev w wr bd F' st' ∧ Ref w wr br G' st') (fun i _ => ((N : Int) + 1 - intOf i).toNat)
        case atStart => exact ⟨-1, by omega, by omega, rfl, Hdb.out, Hrb.out⟩
        case round =>
          obtain ⟨z, hz1, hz2, rfl, dz, rz⟩ := hrel
          clear Hdb Hrb
          by_cases hzN : z ≤ (N : Int)
          · have e5 : decide (z ≤ (N : Int)) = true := decide_eq_true hzN
            obtain ⟨E, hE⟩ : ∃ E, E = readErr st' z := ⟨_, rfl⟩
            have hEE : (E != E) = false := by simp
            have HE := Lib.hid hE; clear hE
            go_wp2_with fail
            refine (Read_dev dz z).mono ?_
            rintro e wp ⟨vp, rfl, op, bp, dp⟩
            rw [← HE.out]
            have rp := rz.step bp
            obtain ⟨ap, np, cp, rfl, xp, _⟩ := op.read
            clear op bp dz rz
            go_wp2_with fail
            refine (RRead_ref rp Hcb.out z).mono ?_
            rintro e wq ⟨vq, rfl, oq, bq, rq⟩
            rw [← HE.out]
            have dq := dp.step bq
            have xp' := xp.keep bq
            obtain ⟨aq, nq, cq, rfl, xq, _⟩ := oq.read
            clear oq bq dp rp xp
            have Hdq := Lib.hid dq; clear dq
            have Hrq := Lib.hid rq; clear rq
            go_wp2_with fail
            refine (SameBytes_yes xp' xq rfl).mono ?_
            rintro e wt ⟨rfl, nt, rfl⟩
            have bt : Below wq.heap.size wq (wq.drewN nt) := ⟨rfl, rfl, rfl, Nat.le_refl _, fun _ _ => rfl⟩
            have dt := Hdq.out.step bt
            have rt := Hrq.out.step bt
            clear xp' xq Hdq Hrq bt
            generalize wq.drewN nt = wt at *
            have Hdt := Lib.hid dt; clear dt
            have Hrt := Lib.hid rt; clear rt
            go_wp2_with fail
            go_roundw
            case rel => exact ⟨z + 1, by omega, by omega, rfl, Hdt.out, Hrt.out⟩
            case measure => simp [intOf]; omega
          · have e5 : decide (z ≤ (N : Int)) = false := decide_eq_false hzN
            obtain ⟨ca, cc, hcell, hbr⟩ := rz.cacheCell
            have hcd : wr.drew.cell? ⟨br, 1, none⟩ = some (.slice ca st'.2.length cc) := hcell
            have bd' : Below wr.heap.size wr wr.drew := ⟨rfl, rfl, rfl, Nat.le_refl _, fun _ _ => rfl⟩
            have dd := dz.step bd'
            have rd := rz.step bd'
            clear dz rz hcell bd'
            have Hdd := Lib.hid dd; clear dd
            have Hrd := Lib.hid rd; clear rd
            have Hcd := Lib.hid hcd; clear hcd
            go_wp2_with fail
            refine wp_region_held (fun w' : World => w'.cell? ⟨br, 1, none⟩ = some (.slice ca st'.2.length cc)) [0, 2, 3, 4, 5, 6] [[1], [7, 8, 9, 11, 10, 12, 13, 14, 15, 17, 16, 18, 19, 20, 21]] (by kernel_rfl) (by kernel_rfl) rfl (by kernel_rfl)
              (fun _ _ _ h => by obtain ⟨_, h, _⟩ := h; cases h) (fun _ _ h => by obtain ⟨h, _⟩ := h; cases h) Hcd.out rfl ?_
            apply Exists.intro
            apply And.intro
            · intro w' hS
              simp only [List.map_cons, List.map_nil, List.getD_cons_zero, List.getD_cons_succ]
              go_wp2_with fail
              exact pre_end
            · simp only [List.map_cons, List.map_nil, List.getD_cons_zero, List.getD_cons_succ]
              generalize wr.drew = wp at Hdd Hrd Hcd ⊢
              refine segs_more ?_
              go_wp2_with fail
              refine (Loose_dev Hdd.out).mono ?_
              rintro e _ ⟨rfl, rfl⟩
              go_wp2_with fail
              refine seg_end Hcd.out (segs_last ?_)
              clear Hcd
              go_wp2_with fail
              refine (Sectors_dev Hdd.out).mono ?_
              rintro e _ ⟨rfl, rfl⟩
              rw [Hlenb.out]
              go_wp2_with fail
              refine (Image_dev Hdd.out).mono ?_
              rintro e wq ⟨vq, rfl, oq, bq, dq⟩
              have rq := Hrd.out.step bq
              obtain ⟨aq, nq, cq, rfl, xq, _⟩ := oq.read
              clear oq bq Hdd Hrd
              go_wp2_with fail
              refine (RImage_ref rq).mono ?_
              rintro e wt ⟨vt, rfl, ot, bt, rt⟩
              have dt := dq.step bt
              have xq' := xq.keep bt
              obtain ⟨au, nu, cu, rfl, xt, _⟩ := ot.read
              clear ot bt dq rq xq
              have Hdt := Lib.hid dt; clear dt
              have Hrt := Lib.hid rt; clear rt
              go_wp2_with fail
              refine (SameBytes_yes xq' xt rfl).mono ?_
              rintro e wu ⟨rfl, nv, rfl⟩
              have bu : Below wt.heap.size wt (wt.drewN nv) := ⟨rfl, rfl, rfl, Nat.le_refl _, fun _ _ => rfl⟩
              have du := Hdt.out.step bu
              have ru := Hrt.out.step bu
              clear xq' xt Hdt Hrt bu
              generalize wt.drewN nv = wu at *
              have Hdu := Lib.hid du; clear du
              have Hru := Lib.hid ru; clear ru
              go_wp2_with fail
              go_roundw
              case rel => exact ⟨j + 1, st', F', G', by omega, by go_num, Hdu.out, Hru.out, Hdib.out, Hlenb.out, Hclb.out⟩
              case measure => simp [intOf]; omega
      have g1 : ((what : Int) == 1) = false := by simpa using h1
      have H1 := Lib.hid h1; clear h1
      by_cases h2 : what = 2
      · subst h2
        go_wp2_with fail
        refine (Crash_dev Hd8.out place tr).mono ?_
        rintro e wa ⟨rfl, da, ma⟩
        have ra := Hr8.out.aside ma (fun k hk hf => Hdis.out k hf hk) fun k hk => (Hd8.out.low k hk).1
        have hwa := (ma.block ws hws8 fun hF => by have := Hlo.out ws (.inl hF); omega).trans Hw8.out
        clear ma c0 c1 c2 c3
        have c1 : wa.cell? ⟨ws, 1, none⟩ = some (.int .i64 place) := cells_at hwa 1
        have c2 : wa.cell? ⟨ws, 2, none⟩ = some (.int .i64 tr) := cells_at hwa 2
        clear hwa
        go_wp2_with fail
        refine (RCrash_ref ra (by have := hcl; omega) place tr).mono ?_
        rintro e wb ⟨rfl, rb, mb⟩
        have db := da.aside mb Hdis.out fun k hk => (ra.low k hk).1
        have dib : ∀ k, F k → ¬ grownF G wa wb k := fun k hk hg => hg.elim (Hdis.out k hk) fun h => by have := (da.low k hk).2; omega
        have lenb : (crashed st.1 st.2 place tr).length = N := by rw [crashed_len]; exact Hlen.out
        have clb : ([] : List (Int × List Int)).length ≤ j + 1 := by simp
        clear mb ra da c1 c2
        obtain ⟨F', hF'⟩ : ∃ F', F' = F := ⟨_, rfl⟩
        obtain ⟨G', hG'⟩ : ∃ G', G' = grownF G wa wb := ⟨_, rfl⟩
        obtain ⟨st', hst'⟩ : ∃ st' : State, st' = (crashed st.1 st.2 place tr, []) := ⟨_, rfl⟩
        rw [← hF'] at db dib
        rw [← hG'] at rb dib
        rw [← hst'] at db rb
        replace lenb : st'.1.length = N := by rw [hst']; exact lenb
        replace clb : st'.2.length ≤ j + 1 := by rw [hst']; exact clb
        clear hF' hG' hst'
        have Hdb := Lib.hid db; clear db
        have Hrb := Lib.hid rb; clear rb
        have Hdib := Lib.hid dib; clear dib
        have Hlenb := Lib.hid lenb; clear lenb
        have hcb : st'.2.length ≤ 1000000 := by omega
        have Hcb := Lib.hid hcb; clear hcb
        have Hclb := Lib.hid clb; clear clb
        obtain ⟨wo, rfl⟩ : ∃ wo : World, wo = wr := ⟨_, rfl⟩
        go_wp2_with fail
        go_loopw [13] (fun i wr => ∃ z : Int, -1 ≤ z ∧ z ≤ (N : Int) + 1 ∧ i = .int .i64 z ∧ Dev w wr bd F' st' ∧ Ref w wr br G' st') (fun i _ => ((N : Int) + 1 - intOf i).toNat)
        case atStart => exact ⟨-1, by omega, by omega, rfl, Hdb.out, Hrb.out⟩
        case round =>
          obtain ⟨z, hz1, hz2, rfl, dz, rz⟩ := hrel
          clear Hdb Hrb
          by_cases hzN : z ≤ (N : Int)
          · have e5 : decide (z ≤ (N : Int)) = true := decide_eq_true hzN
            obtain ⟨E, hE⟩ : ∃ E, E = readErr st' z := ⟨_, rfl⟩
            have hEE : (E != E) = false := by simp
            have HE := Lib.hid hE; clear hE
            go_wp2_with fail
            refine (Read_dev dz z).mono ?_
            rintro e wp ⟨vp, rfl, op, bp, dp⟩
            rw [← HE.out]
            have rp := rz.step bp
            obtain ⟨ap, np, cp, rfl, xp, _⟩ := op.read
            clear op bp dz rz
            go_wp2_with fail
            refine (RRead_ref rp Hcb.out z).mono ?_
            rintro e wq ⟨vq, rfl, oq, bq, rq⟩
            rw [← HE.out]
            have dq := dp.step bq
            have xp' := xp.keep bq
            obtain ⟨aq, nq, cq, rfl, xq, _⟩ := oq.read
            clear oq bq dp rp xp
            have Hdq := Lib.hid dq; clear dq
            have Hrq := Lib.hid rq; clear rq
            go_wp2_with fail
            refine (SameBytes_yes xp' xq rfl).mono ?_
            rintro e wt ⟨rfl, nt, rfl⟩
            have bt : Below wq.heap.size wq (wq.drewN nt) := ⟨rfl, rfl, rfl, Nat.le_refl _, fun _ _ => rfl⟩
            have dt := Hdq.out.step bt
            have rt := Hrq.out.step bt
            clear xp' xq Hdq Hrq bt
            generalize wq.drewN nt = wt at *
            have Hdt := Lib.hid dt; clear dt
            have Hrt := Lib.hid rt; clear rt
            go_wp2_with fail
            go_roundw
            case rel => exact ⟨z + 1, by omega, by omega, rfl, Hdt.out, Hrt.out⟩
            case measure => simp [intOf]; omega
          · have e5 : decide (z ≤ (N : Int)) = false := decide_eq_false hzN
            obtain ⟨ca, cc, hcell, hbr⟩ := rz.cacheCell
            have hcd : wr.drew.cell? ⟨br, 1, none⟩ = some (.slice ca st'.2.length cc) := hcell
            have bd' : Below wr.heap.size wr wr.drew := ⟨rfl, rfl, rfl, Nat.le_refl _, fun _ _ => rfl⟩
            have dd := dz.step bd'
            have rd := rz.step bd'
            clear dz rz hcell bd'
            have Hdd := Lib.hid dd; clear dd
            have Hrd := Lib.hid rd; clear rd
            have Hcd := Lib.hid hcd; clear hcd
            go_wp2_with fail
            refine wp_region_held (fun w' : World => w'.cell? ⟨br, 1, none⟩ = some (.slice ca st'.2.length cc)) [0, 2, 3, 4, 5, 6] [[1], [7, 8, 9, 11, 10, 12, 13, 14, 15, 17, 16, 18, 19, 20, 21]] (by kernel_rfl) (by kernel_rfl) rfl (by kernel_rfl)
              (fun _ _ _ h => by obtain ⟨_, h, _⟩ := h; cases h) (fun _ _ h => by obtain ⟨h, _⟩ := h; cases h) Hcd.out rfl ?_
            apply Exists.intro
            apply And.intro
            · intro w' hS
              simp only [List.map_cons, List.map_nil, List.getD_cons_zero, List.getD_cons_succ]
              go_wp2_with fail
              exact pre_end
            · simp only [List.map_cons, List.map_nil, List.getD_cons_zero, List.getD_cons_succ]
              generalize wr.drew = wp at Hdd Hrd Hcd ⊢
              refine segs_more ?_
              go_wp2_with fail
              refine (Loose_dev Hdd.out).mono ?_
              rintro e _ ⟨rfl, rfl⟩
              go_wp2_with fail
              refine seg_end Hcd.out (segs_last ?_)
              clear Hcd
              go_wp2_with fail
              refine (Sectors_dev Hdd.out).mono ?_
              rintro e _ ⟨rfl, rfl⟩
              rw [Hlenb.out]
              go_wp2_with fail
              refine (Image_dev Hdd.out).mono ?_
              rintro e wq ⟨vq, rfl, oq, bq, dq⟩
              have rq := Hrd.out.step bq
              obtain ⟨aq, nq, cq, rfl, xq, _⟩ := oq.read
              clear oq bq Hdd Hrd
              go_wp2_with fail
              refine (RImage_ref rq).mono ?_
              rintro e wt ⟨vt, rfl, ot, bt, rt⟩
              have dt := dq.step bt
              have xq' := xq.keep bt
              obtain ⟨au, nu, cu, rfl, xt, _⟩ := ot.read
              clear ot bt dq rq xq
              have Hdt := Lib.hid dt; clear dt
              have Hrt := Lib.hid rt; clear rt
              go_wp2_with fail
              refine (SameBytes_yes xq' xt rfl).mono ?_
              rintro e wu ⟨rfl, nv, rfl⟩
              have bu : Below wt.heap.size wt (wt.drewN nv) := ⟨rfl, rfl, rfl, Nat.le_refl _, fun _ _ => rfl⟩
              have du := Hdt.out.step bu
              have ru := Hrt.out.step bu
              clear xq' xt Hdt Hrt bu
              generalize wt.drewN nv = wu at *
              have Hdu := Lib.hid du; clear du
              have Hru := Lib.hid ru; clear ru
              go_wp2_with fail
              go_roundw
              case rel => exact ⟨j + 1, st', F', G', by omega, by go_num, Hdu.out, Hru.out, Hdib.out, Hlenb.out, Hclb.out⟩
              case measure => simp [intOf]; omega
      have g2 : ((what : Int) == 2) = false := by simpa using h2
      have H2 := Lib.hid h2; clear h2
      have db := Hd8.out
      have rb := Hr8.out
      have dib := Hdis.out
      have lenb := Hlen.out
      have clb : st.2.length ≤ j + 1 := by omega
      obtain ⟨F', rfl⟩ : ∃ F', F' = F := ⟨_, rfl⟩
      obtain ⟨G', rfl⟩ : ∃ G', G' = G := ⟨_, rfl⟩
      obtain ⟨st', rfl⟩ : ∃ st', st' = st := ⟨_, rfl⟩
      clear Hd8 Hr8 Hdis Hlen
      go_wp2_with fail
      have Hdb := Lib.hid db; clear db
      have Hrb := Lib.hid rb; clear rb
      have Hdib := Lib.hid dib; clear dib
      have Hlenb := Lib.hid lenb; clear lenb
      have hcb : st'.2.length ≤ 1000000 := by omega
      have Hcb := Lib.hid hcb; clear hcb
      have Hclb := Lib.hid clb; clear clb
      obtain ⟨wo, rfl⟩ : ∃ wo : World, wo = wr := ⟨_, rfl⟩
      go_wp2_with fail
      go_loopw [13] (fun i wr => ∃ z : Int, -1 ≤ z ∧ z ≤ (N : Int) + 1 ∧ i = .int .i64 z ∧ Dev w wr bd F' st' ∧ Ref w wr br G' st') (fun i _ => ((N : Int) + 1 - intOf i).toNat)
      case atStart => exact ⟨-1, by omega, by omega, rfl, Hdb.out, Hrb.out⟩
      case round =>
        obtain ⟨z, hz1, hz2, rfl, dz, rz⟩ := hrel
        clear Hdb Hrb
        by_cases hzN : z ≤ (N : Int)
        · have e5 : decide (z ≤ (N : Int)) = true := decide_eq_true hzN
          obtain ⟨E, hE⟩ : ∃ E, E = readErr st' z := ⟨_, rfl⟩
          have hEE : (E != E) = false := by simp
          have HE := Lib.hid hE; clear hE
          go_wp2_with fail
          refine (Read_dev dz z).mono ?_
          rintro e wp ⟨vp, rfl, op, bp, dp⟩
          rw [← HE.out]
          have rp := rz.step bp
          obtain ⟨ap, np, cp, rfl, xp, _⟩ := op.read
          clear op bp dz rz
          go_wp2_with fail
          refine (RRead_ref rp Hcb.out z).mono ?_
          rintro e wq ⟨vq, rfl, oq, bq, rq⟩
          rw [← HE.out]
          have dq := dp.step bq
          have xp' := xp.keep bq
          obtain ⟨aq, nq, cq, rfl, xq, _⟩ := oq.read
          clear oq bq dp rp xp
          have Hdq := Lib.hid dq; clear dq
          have Hrq := Lib.hid rq; clear rq
          go_wp2_with fail
          refine (SameBytes_yes xp' xq rfl).mono ?_
          rintro e wt ⟨rfl, nt, rfl⟩
          have bt : Below wq.heap.size wq (wq.drewN nt) := ⟨rfl, rfl, rfl, Nat.le_refl _, fun _ _ => rfl⟩
          have dt := Hdq.out.step bt
          have rt := Hrq.out.step bt
          clear xp' xq Hdq Hrq bt
          generalize wq.drewN nt = wt at *
          have Hdt := Lib.hid dt; clear dt
          have Hrt := Lib.hid rt; clear rt
          go_wp2_with fail
          go_roundw
          case rel => exact ⟨z + 1, by omega, by omega, rfl, Hdt.out, Hrt.out⟩
          case measure => simp [intOf]; omega
        · have e5 : decide (z ≤ (N : Int)) = false := decide_eq_false hzN
          obtain ⟨ca, cc, hcell, hbr⟩ := rz.cacheCell
          have hcd : wr.drew.cell? ⟨br, 1, none⟩ = some (.slice ca st'.2.length cc) := hcell
          have bd' : Below wr.heap.size wr wr.drew := ⟨rfl, rfl, rfl, Nat.le_refl _, fun _ _ => rfl⟩
          have dd := dz.step bd'
          have rd := rz.step bd'
          clear dz rz hcell bd'
          have Hdd := Lib.hid dd; clear dd
          have Hrd := Lib.hid rd; clear rd
          have Hcd := Lib.hid hcd; clear hcd
          go_wp2_with fail
          refine wp_region_held (fun w' : World => w'.cell? ⟨br, 1, none⟩ = some (.slice ca st'.2.length cc)) [0, 2, 3, 4, 5, 6] [[1], [7, 8, 9, 11, 10, 12, 13, 14, 15, 17, 16, 18, 19, 20, 21]] (by kernel_rfl) (by kernel_rfl) rfl (by kernel_rfl)
            (fun _ _ _ h => by obtain ⟨_, h, _⟩ := h; cases h) (fun _ _ h => by obtain ⟨h, _⟩ := h; cases h) Hcd.out rfl ?_
          apply Exists.intro
          apply And.intro
          · intro w' hS
            simp only [List.map_cons, List.map_nil, List.getD_cons_zero, List.getD_cons_succ]
            go_wp2_with fail
            exact pre_end
          · simp only [List.map_cons, List.map_nil, List.getD_cons_zero, List.getD_cons_succ]
            generalize wr.drew = wp at Hdd Hrd Hcd ⊢
            refine segs_more ?_
            go_wp2_with fail
            refine (Loose_dev Hdd.out).mono ?_
            rintro e _ ⟨rfl, rfl⟩
            go_wp2_with fail
            refine seg_end Hcd.out (segs_last ?_)
            clear Hcd
            go_wp2_with fail
            refine (Sectors_dev Hdd.out).mono ?_
            rintro e _ ⟨rfl, rfl⟩
            rw [Hlenb.out]
            go_wp2_with fail
            refine (Image_dev Hdd.out).mono ?_
            rintro e wq ⟨vq, rfl, oq, bq, dq⟩
            have rq := Hrd.out.step bq
            obtain ⟨aq, nq, cq, rfl, xq, _⟩ := oq.read
            clear oq bq Hdd Hrd
            go_wp2_with fail
            refine (RImage_ref rq).mono ?_
            rintro e wt ⟨vt, rfl, ot, bt, rt⟩
            have dt := dq.step bt
            have xq' := xq.keep bt
            obtain ⟨au, nu, cu, rfl, xt, _⟩ := ot.read
            clear ot bt dq rq xq
            have Hdt := Lib.hid dt; clear dt
            have Hrt := Lib.hid rt; clear rt
            go_wp2_with fail
            refine (SameBytes_yes xq' xt rfl).mono ?_
            rintro e wu ⟨rfl, nv, rfl⟩
            have bu : Below wt.heap.size wt (wt.drewN nv) := ⟨rfl, rfl, rfl, Nat.le_refl _, fun _ _ => rfl⟩
            have du := Hdt.out.step bu
            have ru := Hrt.out.step bu
            clear xq' xt Hdt Hrt bu
            generalize wt.drewN nv = wu at *
            have Hdu := Lib.hid du; clear du
            have Hru := Lib.hid ru; clear ru
            go_wp2_with fail
            go_roundw
            case rel => exact ⟨j + 1, st', F', G', by omega, by go_num, Hdu.out, Hru.out, Hdib.out, Hlenb.out, Hclb.out⟩
            case measure => simp [intOf]; omega
    · obtain rfl : j = m := by omega
      have Hb := Lib.hid hd.bel
      clear hd hrf
      go_wp2
      go_ret
      exact ⟨rfl, Hb.out⟩
end Go.Proofs.Ytpcekoimalafkaa
