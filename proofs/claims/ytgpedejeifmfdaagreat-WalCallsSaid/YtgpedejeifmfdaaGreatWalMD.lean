/- Merged by merge.py out of: WalA, WalB, WalC, WalD. -/
import Derived.Test.YtgpedejeifmfdaaGreatWalMC
import Derived.RangeFuncBox
import Derived.RangeFuncLeaves
import Derived.RangeFuncNested
import Derived.Shelf.Abstract
import Derived.OwnWalkIn
import Derived.TacticsInMore
import Derived.LoopNIn
import Derived.LoopIn
/- The log in memory: lay. -/
namespace Go.Proofs.YtgpedejeifmfdaaGreat
open Go.RowKit Go.Sort

theorem place_of {w : World} {b lb N : Nat} {l : Lg} (hs : Calls Tryz.prog 32 #[.pointer (some ⟨b, 0, none⟩)] w fun e w' => e = .returned (.int .i64 (N : Int)) ∧ w' = w) (hp : 0 < N) (hp2 : N ≤ 512) (hl : LogAt w lb b l) {n : Nat} (h1 : 1 ≤ n) (h2 : n ≤ 4294967296) :
    Calls Tryz.prog 54 #[.pointer (some ⟨lb, 0, none⟩), .int .i64 (n : Int)] w fun e w' => e = .returned (.int .i64 (((n - 1) % N : Nat) : Int)) ∧ w' = w := by
  have c0 := cells_at hl 0
  have hm : ((n : Int) - 1).tmod (N : Int) = (((n - 1) % N : Nat) : Int) := by
    rw [Int.tmod_eq_emod_of_nonneg (by omega)]
    rw [show (n : Int) - 1 = ((n - 1 : Nat) : Int) by omega]
    rfl
  have hne : ¬ ((N : Int) = 0) := by omega
  simp only [Lg.cells] at c0
  generalize hR : (((n - 1) % N : Nat) : Int) = R at *
  have Hs := Lib.hid hs; clear hs
  have HR := Lib.hid hR; clear hR
  clear hl
  go_enter Tryz.func54, Tryz.ntmps54
  go_wp2_with fail
  refine Hs.out.mono ?_
  rintro e w1 ⟨rfl, hw⟩
  obtain rfl := hw
  go_wp2
  go_ret
  exact ⟨rfl, rfl⟩
theorem LogAt.keep {w w' : World} {lb db : Nat} {l : Lg} (h : LogAt w lb db l) (hb : w'.heap[lb]? = w.heap[lb]?) : LogAt w' lb db l := by
  unfold LogAt at h ⊢
  rw [hb]
  exact h
set_option maxHeartbeats 8000000 in
set_option maxRecDepth 100000 in
theorem lay_calls {w : World} {B b gs gm lb : Nat} {cv : Value} {S : List (List Int)} {C : List (Int × List Int)} {l : Lg} (hd : DiskAt w B b gs gm cv S C) (hl : LogAt w lb b l) (hne : ¬ foot b gs gm cv lb) (hC : C.length ≤ 1000000)
    {a : Option Addr} {n c : Nat} {data : List Int} {bg : Bool} (hi : Ints w .u8 a n c data) (hn : n ≤ 16) (h1 : 1 ≤ l.next) (h2 : l.next < 4294967296) (h3 : l.first < 4294967296) :
    Calls Tryz.prog 46 #[.pointer (some ⟨lb, 0, none⟩), .slice a n c, .bool bg] w fun e w' => ∃ cv', e = .returned (.tuple #[]) ∧ DiskAt w' B b gs gm cv' S (written S C (((l.next - 1) % S.length : Nat) : Int) (secZ ⟨l.next, l.first, bg, data⟩)) ∧ LogAt w' lb b ⟨l.next + 1, l.first, l.sure⟩ ∧ Mod (fun k => foot b gs gm cv k ∨ k = lb) w w' ∧ ∀ g, cv'.ownBlock = some g → cv.ownBlock = some g ∨ w.heap.size ≤ g := by
  obtain ⟨nx, fi, su⟩ := l
  simp only at h1 h2 h3 ⊢
  have hdl := hi.len
  have hok : (⟨nx, fi, bg, data⟩ : Sc).ok := ⟨h2, h3, by simp only; omega, fun z hz => wf_u8 (hi.fit z hz)⟩
  obtain ⟨N, hN⟩ : ∃ N, N = S.length := ⟨_, rfl⟩
  have hp : 0 < N := by rw [hN]; exact hd.pos
  have hp2 : N ≤ 512 := by rw [hN]; exact hd.len
  obtain ⟨P, hP⟩ : ∃ P, P = (nx - 1) % N := ⟨_, rfl⟩
  have hPN : P < N := by rw [hP]; exact Nat.mod_lt _ hp
  rw [← hN, ← hP]
  obtain ⟨Z, hZ⟩ : ∃ Z, Z = secZ ⟨nx, fi, bg, data⟩ := ⟨_, rfl⟩
  rw [← hZ]
  have hZl : Z.length = 32 := by rw [hZ]; exact secZ_len hok
  have hby := fun (w : World) (h : Ints w .u8 a n c data) => bytes_calls (w := w) hok (a := a) (c := c) (by show Ints w .u8 a data.length c data; rw [hdl]; exact h)
  simp only [scV] at hby
  rw [← hZ, hdl] at hby
  have hwe : writeErr S (P : Int) 32 = 0 := by unfold writeErr; rw [if_pos ⟨by omega, by rw [← hN]; omega⟩, if_pos rfl]
  clear hZ hdl
  have HN := Lib.hid hN; clear hN
  have HP := Lib.hid hP; clear hP
  have Hby := Lib.hid hby; clear hby
  have Hwe := Lib.hid hwe; clear hwe
  have hfl : ∀ k, foot b gs gm cv k → k < w.heap.size := fun k hk => (hd.lt k hk).2
  have HFL := Lib.hid hfl; clear hfl
  have HD := Lib.hid hd; clear hd
  have HL := Lib.hid hl; clear hl
  have HI := Lib.hid hi; clear hi
  have HNE := Lib.hid hne; clear hne
  have Hok := Lib.hid hok; clear hok
  have HZl := Lib.hid hZl; clear hZl
  have hlb : lb < w.heap.size := (Array.getElem?_eq_some_iff.1 HL.out).1
  go_enter Tryz.func46, Tryz.ntmps46
  go_wp2_with fail
  have sd := below_drew w
  refine wp_region_plan (fun w' => w'.heap[lb]? = some (.cells #[.pointer (some ⟨b, 0, none⟩), .int .i64 (nx : Nat), .int .i64 (fi : Nat), .int .i64 (su : Nat)] 70)) (.pre [0, 1, 2, 3, 4, 5, 6, 7, 8, 9] (.yld 10 (.segs [[11], [12], []]))) (by kernel_rfl) (by kernel_rfl) rfl (by kernel_rfl) (fun _ _ _ h => by obtain ⟨_, _, h, _⟩ := h; cases h) (fun _ _ h => by obtain ⟨_, h, _⟩ := h; cases h) ((sd.block _ hlb).trans HL.out) ?_
  have x0 : w.drew.heap[lb]? = some (.cells #[.pointer (some ⟨b, 0, none⟩), .int .i64 (nx : Nat), .int .i64 (fi : Nat), .int .i64 (su : Nat)] 70) := (sd.block _ hlb).trans HL.out
  generalize w.drew = wd at sd x0 ⊢
  have X0 := Lib.hid x0; clear x0
  refine plan_pre (by kernel_rfl) ?_
  apply Exists.intro
  apply And.intro
  · intro w' s
    have z1 := cells_at s 1
    have z2 := cells_at s 2
    clear s
    simp only [List.map_cons, List.map_nil, List.getD_cons_zero, List.getD_cons_succ]
    go_wp2_with fail
    exact pre_end
  refine yld_at (.agg #[.int .i64 (nx : Nat), .int .i64 (fi : Nat), .bool bg, .slice a n c]) rfl (fun w2 _ => by kernel_rfl) ?_
  refine plan_segs (segs_more ?_)
  simp only [List.map_cons, List.map_nil, List.getD_cons_zero, List.getD_cons_succ]
  go_wp2_with fail
  have k1 : Below wd.heap.size wd (wd.alloc (.cells #[.int .i64 0, .int .i64 0, .bool false, .slice none 0 0] 72)) := (Below.refl _ _).alloc (Nat.le_refl _) _
  have x1 := heap_alloc_new wd (.cells #[.int .i64 0, .int .i64 0, .bool false, .slice none 0 0] 72)
  generalize wd.alloc (.cells #[.int .i64 0, .int .i64 0, .bool false, .slice none 0 0] 72) = w1 at k1 x1 ⊢
  have l1 := (k1.block _ (Array.getElem?_eq_some_iff.1 X0.out).1).trans X0.out
  have s1 := sd.trans (k1.mono sd.size)
  obtain ⟨tb, htb⟩ : ∃ t, t = wd.heap.size := ⟨_, rfl⟩
  rw [← htb] at x1 ⊢
  have htl : w.heap.size ≤ tb := by rw [htb]; exact sd.size
  clear k1 sd X0 htb
  have L1 := Lib.hid l1; clear l1
  have S1 := Lib.hid s1; clear s1
  have X1 := Lib.hid x1; clear x1
  refine seg_end L1.out (segs_more ?_)
  go_wp2_with (with_reducible refine stop_store 72 ?_)
  refine unpark ?_
  refine wpList_store_at rfl _ _ _ rfl tb 0 rfl _ rfl _ rfl _ _ X1.out 4 rfl (by simp) (by simp [Value.oneCell']) Tryz.sizeLogSec ?_
  intro w2 x2 g2 s2
  rw [splice_all _ _ (by rfl)] at x2
  have l2 := (g2.block _ (Array.getElem?_eq_some_iff.1 L1.out).1 (by intro e; injection e with e; omega)).trans L1.out
  have b2 := S1.out.grown g2 S1.out.size (fun k hk => by cases hk; exact htl)
  clear g2 s2 L1 S1 X1
  have L2 := Lib.hid l2; clear l2
  have B2 := Lib.hid b2; clear b2
  have X2 := Lib.hid x2; clear x2
  go_wp2_with fail
  refine seg_end L2.out (segs_last ?_)
  go_wp2_with fail
  have sd := below_drew w2
  have l3 := (sd.block _ (Array.getElem?_eq_some_iff.1 L2.out).1).trans L2.out
  have x3 := (sd.block _ (Array.getElem?_eq_some_iff.1 X2.out).1).trans X2.out
  have b3 := B2.out.trans (sd.mono B2.out.size)
  obtain ⟨Q, hQ⟩ : ∃ Q : World → Prop, Q = fun w' => w'.heap[lb]? = some (.cells #[.pointer (some ⟨b, 0, none⟩), .int .i64 (nx : Nat), .int .i64 (fi : Nat), .int .i64 (su : Nat)] 70) ∧ w'.heap[tb]? = some (.cells #[.int .i64 (nx : Nat), .int .i64 (fi : Nat), .bool bg, .slice a n c] 72) := ⟨_, rfl⟩
  have q3 : Q w2.drew := by rw [hQ]; exact ⟨l3, x3⟩
  refine wp_region_plan Q (.pre [0, 1, 2, 3, 4, 5, 6, 7, 8, 10] (.segs [[9], [11], [12], []])) (by kernel_rfl) (by kernel_rfl) rfl (by kernel_rfl) (fun _ _ _ h => by obtain ⟨_, _, h, _⟩ := h; cases h) (fun _ _ h => by obtain ⟨_, h, _⟩ := h; cases h) q3 ?_
  generalize w2.drew = w3 at l3 x3 b3 q3 ⊢
  clear sd L2 X2 B2
  have hl3 : LogAt w3 lb b ⟨nx, fi, su⟩ := l3
  have d3 := HD.out.keep fun k hk => b3.block k (HD.out.lt k hk).2
  have i3 := HI.out.keep b3
  have hpl := place_of (N := N) (by have := Sectors_calls d3; rw [← HN.out] at this; exact this) hp hp2 hl3 h1 (by omega)
  rw [← HP.out] at hpl
  have Hpl := Lib.hid hpl; clear hpl hl3
  have Hb3 := Hby.out _ i3
  have HB3 := Lib.hid Hb3; clear Hb3
  have L3 := Lib.hid l3; clear l3
  have X3 := Lib.hid x3; clear x3
  have B3 := Lib.hid b3; clear b3
  have D3 := Lib.hid d3; clear d3
  have HQ := Lib.hid hQ; clear hQ
  have Q3 := Lib.hid q3; clear q3
  clear HD HI HL Hby i3
  refine plan_pre (by kernel_rfl) ?_
  apply Exists.intro
  apply And.intro
  · intro w' s
    rw [HQ.out] at s
    obtain ⟨s1, s2⟩ := s
    have z0 := cells_at s1 0
    have z1 := cells_at s1 1
    have y0 := cells_at s2 0
    have y1 := cells_at s2 1
    have y2 := cells_at s2 2
    have y3 := cells_at s2 3
    clear s1 s2
    simp only [List.map_cons, List.map_nil, List.getD_cons_zero, List.getD_cons_succ]
    go_wp2_with fail
    exact pre_end
  refine plan_segs (segs_more ?_)
  simp only [List.map_cons, List.map_nil, List.getD_cons_zero, List.getD_cons_succ]
  go_wp2_with fail
  refine Hpl.out.mono ?_
  rintro e w4 ⟨rfl, hw4⟩
  obtain rfl := hw4.symm
  clear Hpl
  go_wp2_with fail
  refine seg_end Q3.out (segs_more ?_)
  go_wp2_with fail
  refine HB3.out.mono ?_
  rintro e w5 ⟨v5, rfl, o5, k5⟩
  have l5 := (k5.block _ (Array.getElem?_eq_some_iff.1 L3.out).1).trans L3.out
  have x5 := (k5.block _ (Array.getElem?_eq_some_iff.1 X3.out).1).trans X3.out
  have b5 := B3.out.trans (k5.mono B3.out.size)
  have d5 := D3.out.keep fun k hk => k5.block k (D3.out.lt k hk).2
  have q5 : Q w5 := by rw [HQ.out]; exact ⟨l5, x5⟩
  clear HB3 L3 X3 B3 D3 Q3 k5
  obtain ⟨g5, c5, rfl, i5⟩ := o5.ofInts (n := 32) HZl.out (by decide)
  have hwr := Write_calls d5 (P : Int) i5 hC
  rw [Hwe.out] at hwr
  have Hwr := Lib.hid hwr; clear hwr o5 i5
  have hfo := d5.lt
  have L5 := Lib.hid l5; clear l5
  have X5 := Lib.hid x5; clear x5
  have B5 := Lib.hid b5; clear b5
  have D5 := Lib.hid d5; clear d5
  go_wp2_with fail
  refine seg_end q5 (segs_more ?_)
  clear q5
  go_wp2_with fail
  refine Hwr.out.mono ?_
  rintro e w6 ⟨cv6, rfl, d6, m6, ho6⟩
  have l6 := (m6.block _ (Array.getElem?_eq_some_iff.1 L5.out).1 HNE.out).trans L5.out
  have htbf : ¬ foot b gs gm cv tb := fun hf => by
    have := HFL.out tb hf; omega
  have x6 := (m6.block _ (Array.getElem?_eq_some_iff.1 X5.out).1 htbf).trans X5.out
  have m06 : Mod (foot b gs gm cv) w w6 := (Mod.of_below (F := foot b gs gm cv) B5.out).trans m6 (fun x h => h) (fun x _ h => h)
  have q6 : Q w6 := by rw [HQ.out]; exact ⟨l6, x6⟩
  have ho6' : ∀ g, cv6.ownBlock = some g → cv.ownBlock = some g ∨ w.heap.size ≤ g := fun g hg => (ho6 g hg).imp id fun h => Nat.le_trans B5.out.size h
  clear Hwr L5 X5 B5 D5 m6 htbf x6 ho6 hfo
  have D6 := Lib.hid d6; clear d6
  have M6 := Lib.hid m06; clear m06
  have L6 := Lib.hid l6; clear l6
  have HO6 := Lib.hid ho6'; clear ho6'
  go_wp2_with fail
  refine seg_end q6 (segs_last ?_)
  clear q6 HQ
  have z1 := cells_at L6.out 1
  go_wp2_with (with_reducible refine stop_store 3 ?_)
  refine unpark ?_
  refine wpList_store_at rfl _ _ _ rfl lb 1 rfl (.int .i64 ((nx : Int) + 1)) rfl [.int .i64 ((nx : Int) + 1)] rfl _ _ L6.out 1 rfl (by simp) (by simp [Value.oneCell']) sizeInt ?_
  intro w7 l7 g7 s7
  simp only [splice] at l7
  have hne6 : ∀ k, foot b gs gm cv6 k → k ≠ lb := fun k hk e => by
    subst e
    rcases hk with rfl | rfl | rfl | hk
    · exact HNE.out (.inl rfl)
    · exact HNE.out (.inr (.inl rfl))
    · exact HNE.out (.inr (.inr (.inl rfl)))
    · rcases HO6.out _ hk with h | h
      · exact HNE.out (.inr (.inr (.inr h)))
      · omega
  have d7 := D6.out.keep fun k hk => g7.block k (D6.out.lt k hk).2 (by intro e; injection e with e; exact hne6 k hk e)
  have m7 : Mod (fun k => foot b gs gm cv k ∨ k = lb) w w7 := M6.out.trans (Mod.of_grown (F := fun k => k = lb) g7 (fun k hk => by cases hk; rfl)) (fun x h => .inl h) (fun x _ h => .inr h)
  clear z1 g7 s7 D6 M6 L6 hne6
  have D7 := Lib.hid d7; clear d7
  have M7 := Lib.hid m7; clear m7
  have L7 := Lib.hid l7; clear l7
  go_wp2
  go_end0
  refine ⟨rfl, cv6, D7.out, ?_, M7.out, HO6.out⟩
  have hz := L7.out
  unfold LogAt
  rw [hz]
  simp [Lg.cells]
end Go.Proofs.YtgpedejeifmfdaaGreat
/- slices.Chunk of bytes, sixteen to each: what comes, and what is kept. -/
namespace Go.Proofs.YtgpedejeifmfdaaGreat
open Go.RowKit Go.Shelf
attribute [local go_sem] Oper.semAt_some

abbrev Ck (n : Nat) : Type := { j : Nat // j < n }
def chV (a : Option Addr) (len K : Nat) (x : Ck K) : Array Value := #[.slice (a.map fun p => p.add (16 * x.1)) (min 16 (len - 16 * x.1)) (min 16 (len - 16 * x.1))]
def KpC (Bs Ns : Nat) (W W' : World) : Prop := W'.cell? ⟨Bs, 0, none⟩ = W.cell? ⟨Bs, 0, none⟩ ∧ W'.cell? ⟨Ns, 0, none⟩ = W.cell? ⟨Ns, 0, none⟩
theorem KpC.refl (Bs Ns : Nat) (W : World) : KpC Bs Ns W W := ⟨rfl, rfl⟩
theorem KpC.trans {Bs Ns : Nat} {A B C : World} (h : KpC Bs Ns A B) (k : KpC Bs Ns B C) : KpC Bs Ns A C := ⟨k.1.trans h.1, k.2.trans h.2⟩
theorem KpC.put {Bs Ns : Nat} {w : World} (hB : Bs < w.heap.size) (hN : Ns < w.heap.size) (W : World) (l : Nat) (o o' : Obj) (hl : w.heap.size ≤ l) (h : W.heap[l]? = some o) (h1 : o.isCells = false) (h2 : o.isWalk = false) : KpC Bs Ns W (W.putObj l o') :=
  ⟨(belowK_b (n₀ := w.heap.size) (Nat.le_refl _) W l o o' hl h h1 h2).cell (p := ⟨Bs, 0, none⟩) hB, (belowK_b (n₀ := w.heap.size) (Nat.le_refl _) W l o o' hl h h1 h2).cell (p := ⟨Ns, 0, none⟩) hN⟩
def Ups {K : Nat} (pre : List (Ck K)) : Prop := ∀ t (h : t < pre.length), (pre[t]).1 = t

set_option maxRecDepth 100000 in
set_option maxHeartbeats 4000000 in
theorem chunk_in (n : Nat) (hn : 1 ≤ n) (l Bs Ns len cap : Nat) (a : Option Addr) (hlen : len ≤ 1000000) (hlc : len ≤ cap) (hcm : cap ≤ 9223372036854775807) (ha : 0 < len → ∃ b o, a = some ⟨b, o, none⟩) (K : Nat) (hK : K = (len + 15) / 16) (J Jx : List (Ck K) → World → Prop) (hJg : ∀ pre A B, J pre A → A.grownBy B none → J pre B)
    (hY : ∀ pre x W, J pre W → pre.length < K → Go.YieldAt Fence.wide (n - 1) Tryz.prog l (chV a len K x) W fun e W' =>
      (e = .returned (.bool true) ∧ J (pre ++ [x]) W' ∧ KpC Bs Ns W W') ∨ (e = .returned (.bool false) ∧ Jx (pre ++ [x]) W'))
    (W : World) (hBs : W.cell? ⟨Bs, 0, none⟩ = some (.slice a len cap)) (hNs : W.cell? ⟨Ns, 0, none⟩ = some (.int .i64 16)) (h0 : J [] W) :
    CallsIn Fence.wide n Tryz.prog 70 #[.func (.yield l) #[] #[], .pointer (some ⟨Bs, 0, none⟩), .pointer (some ⟨Ns, 0, none⟩)] W fun e W' => (∃ v, e = .returned v) ∧
      ((∃ ys : List (Ck K), (ys.length = K ∧ Ups ys) ∧ J ys W') ∨ (∃ pre : List (Ck K), Ups pre ∧ Jx pre W')) := by
  refine callsIn_of_wp Tryz.func70 rfl trivial ?_ rfl
  simp only [Tryz.ntmps70, List.size_toArray, List.length_cons, List.length_nil, Nat.reduceAdd, Nat.reduceSub, Array.replicate_succ, Array.replicate_zero, List.push_toArray, List.append_toArray, List.nil_append, List.cons_append]
  gi_wp2
  gi_loopw [4] (fun i wr => ∃ (j : Nat) (pre : List (Ck K)), pre.length = j ∧ j ≤ K ∧ i = .int .i64 ((16 * j : Nat) : Int) ∧ Ups pre ∧ J pre wr ∧ KpC Bs Ns W wr)
    (fun i _ => len + 16 - (intOf i).toNat)
  case atStart => exact ⟨0, [], rfl, Nat.zero_le _, rfl, fun t h => (by cases h), h0, KpC.refl _ _ _⟩
  case round =>
    obtain ⟨j, pre, hj, hjK, rfl, hpre, hJs, hnx⟩ := hrel
    have hBs' := hnx.1.trans hBs
    have hNs' := hnx.2.trans hNs
    obtain ⟨I, hI⟩ : ∃ I, I = 16 * j := ⟨_, rfl⟩
    rw [← hI]
    by_cases hlt : j < K
    · have hIl : I < len := by omega
      have i1 : (0 : Int) ≤ (I : Int) := by omega
      have i2 : (I : Int) < (len : Int) := by omega
      have i3 : (I : Int) ≤ (len : Int) := by omega
      have i4 : (len : Int) ≤ (cap : Int) := by omega
      obtain ⟨b, o, hab⟩ := ha (by omega)
      have hne : ¬ cap = I := by omega
      subst hab
      obtain ⟨D, hD⟩ : ∃ D, D = len - I := ⟨_, rfl⟩
      obtain ⟨M, hM⟩ : ∃ M, M = min 16 D := ⟨_, rfl⟩
      have hadd : (if I = 0 then (⟨b, o, none⟩ : Addr) else ⟨b, o + I, none⟩) = ⟨b, o + I, none⟩ := by
        split
        · rename_i h; rw [h]; rfl
        · rfl
      have hsub : len - I = D := hD.symm
      have hmin : (if (D : Int) < 16 then (D : Int) else 16) = (M : Int) := by rw [hM]; split <;> omega
      have hM1 : 1 ≤ M := by omega
      have hMl : I + M ≤ len := by omega
      have hBr := cell_regrown hBs'
      have hNr := cell_regrown hNs'
      have HI := Lib.hid hI; clear hI
      have HM := Lib.hid hM; clear hM
      have HJ := Lib.hid hJs; clear hJs
      have HY := Lib.hid hY; clear hY
      clear hD hBs
      gi_wp2
      refine wpIn_wide.2 ?_
      refine wp_region_quiet_below (by kernel_rfl) (by kernel_rfl) ?_
      repeat (any_goals (first | go_big_quiet_step (fail) | quiet_step (fail)))
      refine wpQuiet_nil ?_
      intro w6 hw6
      have hb6 : Below wr.heap.size wr w6 := by obtain ⟨q, rfl⟩ := hw6; exact below_regrown _ _ _
      clear hw6 hBr hNr
      have hJ6 := hJg pre wr w6 HJ.out ⟨hb6.os, hb6.tape, hb6.output, hb6.size, fun k hk _ => hb6.block k hk⟩
      have hBs6 : w6.cell? ⟨Bs, 0, none⟩ = some (.slice (some ⟨b, o, none⟩) len cap) := (hb6.cell (World.block_lt_of_cell? _ _ hBs')).trans hBs'
      have hNs6 : w6.cell? ⟨Ns, 0, none⟩ = some (.int .i64 16) := (hb6.cell (World.block_lt_of_cell? _ _ hNs')).trans hNs'
      have hnx6 : KpC Bs Ns W w6 := hnx.trans ⟨hBs6.trans hBs'.symm, hNs6.trans hNs'.symm⟩
      obtain ⟨fn, tmps, assign, body, hy, hR⟩ := HY.out pre ⟨j, hlt⟩ w6 hJ6 (by omega)
      dsimp only [chV] at hy
      rw [← HI.out, hsub, ← HM.out] at hy
      simp only [Option.map_some, Addr.add] at hy
      rw [hadd] at hy
      clear HY HJ hJ6 hb6 hBs' hNs' hnx hmin hsub
      have hMc : I + M ≤ cap := by omega
      have k1 : (I : Int) + (M : Int) ≤ (cap : Int) := by omega
      have k2 : (I : Int) ≤ (I : Int) + (M : Int) := by omega
      have k3 : (0 : Int) ≤ (I : Int) + (M : Int) := by omega
      have k4 : ((I : Int) + (M : Int)).toNat = I + M := by omega
      have k5 : I + M - I = M := by omega
      have k6 : ¬ M = 0 := by omega
      have HR := Lib.hid hR; clear hR
      gi_wp2
      refine HR.out.mono ?_
      clear HR hy k1 k2 k3 k4 k5 k6
      rintro e W3 (⟨rfl, hJ3, hk3⟩ | ⟨rfl, hJx3⟩)
      · have hNs3 := hk3.2.trans hNs6
        have hnx3 := hnx6.trans hk3
        have HJ3 := Lib.hid hJ3; clear hJ3
        have HN3 := Lib.hid hnx3; clear hnx3 hk3 hnx6
        gi_wp2
        go_roundw
        case rel => exact ⟨j + 1, pre ++ [⟨j, hlt⟩], by simp [hj], by omega, by rw [HI.out]; go_num, fun t ht => by
          rw [List.getElem_append]
          split
          · exact hpre t (by assumption)
          · simp at ht ⊢; omega, HJ3.out, HN3.out⟩
        case measure => simp [intOf]; omega
      · have HJ3 := Lib.hid hJx3; clear hJx3
        gi_wp2
        refine bodyPost_ret (results_none rfl _ _ _) rfl ?_
        exact ⟨⟨_, rfl⟩, .inr ⟨pre ++ [⟨j, hlt⟩], fun t ht => by
          rw [List.getElem_append]
          split
          · exact hpre t (by assumption)
          · simp at ht ⊢; omega, HJ3.out⟩⟩
    · have hnl : ¬ ((I : Int) < (len : Int)) := by omega
      have i1 : decide ((I : Int) < (len : Int)) = false := decide_eq_false hnl
      have i2 : decide (I < len) = false := decide_eq_false (by omega)
      have hjK2 : j = K := by omega
      have HJ := Lib.hid hJs; clear hJs
      have HI := Lib.hid hI; clear hI
      gi_wp2
      go_end0
      exact ⟨⟨_, rfl⟩, .inl ⟨pre, ⟨by omega, hpre⟩, HJ.out⟩⟩
end Go.Proofs.YtgpedejeifmfdaaGreat
/- The log in memory: write. -/
namespace Go.Proofs.YtgpedejeifmfdaaGreat
open Go.RowKit Go.Shelf
attribute [local go_sem] Oper.semAt_some

theorem chunk_mk (n : Nat) (a : Option Addr) (len cap : Nat) (w : World) :
    CallsIn Fence.wide n Tryz.prog 59 #[.slice a len cap, .int .i64 16] w fun e w' => e = .returned (.func (.func 70) #[] #[.pointer (some ⟨w.heap.size, 0, none⟩), .pointer (some ⟨w.heap.size + 1, 0, none⟩)]) ∧ w' = (w.alloc (.cells #[.slice a len cap] 39)).alloc (.cells #[.int .i64 16] 3) := by
  refine callsIn_of_wp Tryz.func59 rfl trivial ?_ rfl
  simp only [Tryz.ntmps59, List.size_toArray, List.length_cons, List.length_nil, Nat.reduceAdd, Nat.reduceSub, Array.replicate_succ, Array.replicate_zero, List.push_toArray, List.append_toArray, List.nil_append, List.cons_append]
  gi_wp2
  go_ret
  exact ⟨rfl, rfl⟩
theorem chunk_stops (n : Nat) (hn : 1 ≤ n) (Bs Ns : Nat) (a : Option Addr) (len cap : Nat) (hlen : len ≤ 1000000) (hlc : len ≤ cap) (hcm : cap ≤ 9223372036854775807) (ha : 0 < len → ∃ b o, a = some ⟨b, o, none⟩) (K : Nat) (hK : K = (len + 15) / 16) (w : World) (hBs : Bs < w.heap.size) (hNs : Ns < w.heap.size)
    (hc : w.cell? ⟨Bs, 0, none⟩ = some (.slice a len cap)) (hc2 : w.cell? ⟨Ns, 0, none⟩ = some (.int .i64 16)) :
    SeqStopsK Fence.wide n Tryz.prog 70 #[.pointer (some ⟨Bs, 0, none⟩), .pointer (some ⟨Ns, 0, none⟩)] (chV a len K) (KpC Bs Ns) (fun ys : List (Ck K) => ys.length = K ∧ Ups ys) Ups K w := fun l J Jx W hW hJ _ hY h0 => by
  have hc' := (hW.cell (p := ⟨Bs, 0, none⟩) hBs).trans hc
  have hc2' := (hW.cell (p := ⟨Ns, 0, none⟩) hNs).trans hc2
  exact chunk_in n hn l Bs Ns len cap a hlen hlc hcm ha K hK J Jx (fun pre A B h hg => hJ pre A B none h hg (fun r e => by cases e)) hY W hc' hc2' h0

/-- The cache behind sectors that are laid. -/
def layC (S : List (List Int)) (C : List (Int × List Int)) (X : List Sc) : List (Int × List Int) := X.foldl (fun C T => written S C (((T.num - 1) % S.length : Nat) : Int) (secZ T)) C
theorem layC_snoc (S : List (List Int)) (C : List (Int × List Int)) (X : List Sc) (T : Sc) : layC S C (X ++ [T]) = written S (layC S C X) (((T.num - 1) % S.length : Nat) : Int) (secZ T) := by unfold layC; rw [List.foldl_append]; rfl
theorem written_len (S : List (List Int)) (C : List (Int × List Int)) (k : Int) (z : List Int) : (written S C k z).length ≤ C.length + 1 := by
  unfold written
  split
  · simp
  · omega
/-- What the rounds of write keep. -/
structure WI (w : World) (B b gs gm lb lx fx : Nat) (cv : Value) (S : List (List Int)) (C : List (Int × List Int)) (l : Lg) (bs : List Int) (K T : Nat) (pre : List (Ck K)) (W : World) : Prop where
  is : ∃ cv' C', DiskAt W B b gs gm cv' S C' ∧ (Ups pre → C' = layC S C ((chunks l.next l.first bs).take pre.length)) ∧ C'.length ≤ C.length + pre.length ∧ ∀ g, cv'.ownBlock = some g → cv.ownBlock = some g ∨ T ≤ g
  log : LogAt W lb b ⟨l.next + pre.length, l.first, l.sure⟩
  le : pre.length ≤ K
  mod : Mod (fun k => foot b gs gm cv k ∨ k = lb) w W
  box : W.cell? ⟨lx, 0, none⟩ = some (.pointer (some ⟨lb, 0, none⟩))
  first : W.cell? ⟨fx, 0, none⟩ = some (.bool (decide (pre.length = 0)))
  size : T ≤ W.heap.size
  free : W.frozen? ⟨fx, 0, none⟩ = false
theorem DiskAt.cells {w : World} {B b gs gm : Nat} {cv : Value} {S : List (List Int)} {C : List (Int × List Int)} (h : DiskAt w B b gs gm cv S C) {k : Nat} (hk : cv.ownBlock = some k) : ∃ o, w.heap[k]? = some o ∧ o.isCells = true := by
  rcases h.cache.2 with ⟨rfl, _⟩ | ⟨g, cap, cur, rfl, hb, hg, _⟩
  · cases hk
  · have : g = k := by simpa [Value.ownBlock] using hk
    subst this
    exact ⟨_, hg, rfl⟩
theorem WI.own {w : World} {B b gs gm lb lx fx : Nat} {cv : Value} {S : List (List Int)} {C : List (Int × List Int)} {l : Lg} {bs : List Int} {K T : Nat} (h1 : b < T) (h2 : gs < T) (h3 : gm < T) (h4 : lb < T) (h5 : w.heap.size ≤ T) :
    OwnFrom T (fun (pre : List (Ck K)) W => WI w B b gs gm lb lx fx cv S C l bs K T pre W) := fun pre W W' row hs hg hr => by
  have hr' : ∀ r, row = some r → ∃ o : Obj, W.heap[r]? = some o ∧ o.isCells = false := fun r e => (hr r e).2
  obtain ⟨cv', C', hd, hu, hl, ho⟩ := hs.is
  refine ⟨⟨cv', C', hd.keep fun k hk => ?_, hu, hl, ho⟩, hs.log.keep (hg.block _ (Array.getElem?_eq_some_iff.1 hs.log).1 fun e => by have := (hr lb e.symm).1; omega), hs.le, ?_, cell_kept hs.box hg hr', cell_kept hs.first hg hr', Nat.le_trans hs.size hg.size, (frozen_kept hs.first hg hr').trans hs.free⟩
  · refine hg.block k (hd.lt k hk).2 fun e => ?_
    obtain ⟨hT, o, ho1, ho2⟩ := hr k e.symm
    rcases hk with rfl | rfl | rfl | hk
    · omega
    · omega
    · omega
    · obtain ⟨o', h6, h7⟩ := hd.cells hk
      rw [ho1] at h6
      cases h6
      rw [h7] at ho2
      cases ho2
  · exact hs.mod.trans (Mod.of_grown (F := fun k => T ≤ k) hg fun k e => (hr k e).1) (fun x h => h) (fun x hx h => by omega)
theorem chunks_get {n f : Nat} {b : List Int} {k : Nat} (h : k < (chunks n f b).length) : (chunks n f b)[k] = chunkAt n f b k := by simp [chunks]
theorem ups_snoc {K : Nat} {pre : List (Ck K)} {x : Ck K} (h : Ups (pre ++ [x])) : Ups pre ∧ x.1 = pre.length := by
  refine ⟨fun t ht => ?_, ?_⟩
  · have := h t (by simp; omega)
    rwa [List.getElem_append_left ht] at this
  · have := h pre.length (by simp)
    simpa using this
/-- A round of write. -/
theorem WI.next {w W W2 : World} {B b gs gm lb lx fx sx nx T : Nat} {cv cv' cv2 : Value} {S : List (List Int)} {C C' : List (Int × List Int)} {l : Lg} {bs : List Int} {K : Nat} {pre : List (Ck K)} {x : Ck K}
    (h : WI w B b gs gm lb lx fx cv S C l bs K T pre W) (hdW : DiskAt W B b gs gm cv' S C') (hu : Ups pre → C' = layC S C ((chunks l.next l.first bs).take pre.length)) (hCl : C'.length ≤ C.length + pre.length) (hoW : ∀ g, cv'.ownBlock = some g → cv.ownBlock = some g ∨ T ≤ g) (hpl : pre.length < K) (hK : K = needZ bs)
    (d2 : DiskAt W2 B b gs gm cv2 S (written S C' (((l.next + pre.length - 1) % S.length : Nat) : Int) (secZ ⟨l.next + pre.length, l.first, decide (pre.length = 0), (bs.drop (16 * x.1)).take 16⟩)))
    (l2 : LogAt W2 lb b ⟨l.next + pre.length + 1, l.first, l.sure⟩) (m2 : Mod (fun k => foot b gs gm cv' k ∨ k = lb) W W2) (o2 : ∀ g, cv2.ownBlock = some g → cv'.ownBlock = some g ∨ W.heap.size ≤ g)
    (hfl : ∀ k, foot b gs gm cv k → k < w.heap.size) (hlb : lb < w.heap.size) (hwT : w.heap.size ≤ T) (h1 : w.heap.size ≤ lx ∧ lx < T) (h2 : w.heap.size ≤ fx ∧ fx < T) (h3 : w.heap.size ≤ sx ∧ sx < T) (h4 : w.heap.size ≤ nx ∧ nx < T) (hne : fx ≠ lx ∧ fx ≠ sx ∧ fx ≠ nx) :
    KeepsFrom T W (W2.setCell ⟨fx, 0, none⟩ (.bool false)) ∧ KpC sx nx W (W2.setCell ⟨fx, 0, none⟩ (.bool false)) ∧ WI w B b gs gm lb lx fx cv S C l bs K T (pre ++ [x]) (W2.setCell ⟨fx, 0, none⟩ (.bool false)) := by
  have hTW := h.size
  have hst : ∀ k, k ≠ fx → (W2.setCell ⟨fx, 0, none⟩ (.bool false)).heap[k]? = W2.heap[k]? := fun k hk => heap_setCell_other W2 _ _ _ (by simpa using hk)
  have hnf : ∀ k, w.heap.size ≤ k → k < T → ¬ (foot b gs gm cv' k ∨ k = lb) := by
    rintro k hk1 hk2 ((rfl | rfl | rfl | hk) | rfl)
    · have := hfl _ (.inl rfl); omega
    · have := hfl _ (.inr (.inl rfl)); omega
    · have := hfl _ (.inr (.inr (.inl rfl))); omega
    · rcases hoW k hk with hk | hk
      · have := hfl k (.inr (.inr (.inr hk))); omega
      · omega
    · omega
  have hblk : ∀ k, w.heap.size ≤ k → k < T → W2.heap[k]? = W.heap[k]? := fun k hk1 hk2 => m2.block k (by omega) (hnf k hk1 hk2)
  have hne2 : ∀ k, foot b gs gm cv2 k → k ≠ fx := fun k hk e => by
    subst e
    rcases hk with rfl | rfl | rfl | hk
    · have := hfl _ (.inl rfl); omega
    · have := hfl _ (.inr (.inl rfl)); omega
    · have := hfl _ (.inr (.inr (.inl rfl))); omega
    · rcases o2 k hk with hk | hk
      · exact hnf k h2.1 h2.2 (.inl (.inr (.inr (.inr hk))))
      · omega
  have hset : W2.grownBy (W2.setCell ⟨fx, 0, none⟩ (.bool false)) (some fx) := ⟨rfl, rfl, rfl, by simp [World.setCell], fun k _ hk => hst k (fun e => hk (by rw [e]))⟩
  have hfs2 : W2.cell? ⟨fx, 0, none⟩ = some (.bool (decide (pre.length = 0))) := by rw [World.cell?_of_block (hblk fx h2.1 h2.2)]; exact h.first
  refine ⟨⟨by have := hset.size; have := m2.size; omega, fun k o hB hk ho => ?_⟩, ⟨?_, ?_⟩, ⟨⟨cv2, _, d2.keep fun k hk => hst k (hne2 k hk), fun hi => ?_, ?_, fun g hg => ?_⟩, ?_, ?_, ?_, ?_, ?_, ?_, ?_⟩⟩
  · have hkW : k < W.heap.size := (Array.getElem?_eq_some_iff.1 hk).1
    rw [hst k (by omega), m2.block k hkW ?_]
    · exact hk
    · rintro ((rfl | rfl | rfl | hc) | rfl)
      · have := hfl _ (.inl rfl); omega
      · have := hfl _ (.inr (.inl rfl)); omega
      · have := hfl _ (.inr (.inr (.inl rfl))); omega
      · obtain ⟨o', h6, h7⟩ := hdW.cells hc
        rw [hk] at h6
        cases h6
        rw [h7] at ho
        cases ho
      · omega
  · rw [World.cell?_of_block (hst sx hne.2.1.symm), World.cell?_of_block (hblk sx h3.1 h3.2)]
  · rw [World.cell?_of_block (hst nx hne.2.2.symm), World.cell?_of_block (hblk nx h4.1 h4.2)]
  · obtain ⟨hp, hx⟩ := ups_snoc hi
    rw [List.length_append, List.length_singleton]
    have hlt : pre.length < (chunks l.next l.first bs).length := by rw [chunks_len, ← hK]; exact hpl
    rw [List.take_succ_eq_append_getElem hlt, layC_snoc, ← hu hp]
    have e : (chunks l.next l.first bs)[pre.length] = ⟨l.next + pre.length, l.first, decide (pre.length = 0), (bs.drop (16 * pre.length)).take 16⟩ := by
      rw [chunks_get]
      rfl
    rw [e, hx]
  · have := written_len S C' (((l.next + pre.length - 1) % S.length : Nat) : Int) (secZ ⟨l.next + pre.length, l.first, decide (pre.length = 0), (bs.drop (16 * x.1)).take 16⟩)
    rw [List.length_append, List.length_singleton]
    omega
  · rcases o2 g hg with hg | hg
    · exact hoW g hg
    · exact .inr (Nat.le_trans hTW hg)
  · rw [List.length_append, List.length_singleton, ← Nat.add_assoc]
    exact l2.keep (hst lb (by omega))
  · rw [List.length_append, List.length_singleton]; omega
  · refine (h.mod.trans m2 (H := fun k => foot b gs gm cv k ∨ k = lb) (fun x h => h) (fun x hx hf => ?_)).trans (Mod.of_grown (F := fun k => k = fx) hset fun k e => by injection e with e; exact e.symm) (fun x h => h) (fun x hx e => by omega)
    rcases hf with hf | hf
    · rcases hf with hf | hf | hf | hf
      · exact .inl (.inl hf)
      · exact .inl (.inr (.inl hf))
      · exact .inl (.inr (.inr (.inl hf)))
      · rcases hoW x hf with hf | hf
        · exact .inl (.inr (.inr (.inr hf)))
        · omega
    · exact .inr hf
  · rw [World.cell?_of_block (hst lx hne.1.symm), World.cell?_of_block (hblk lx h1.1 h1.2)]; exact h.box
  · rw [World.cell?_setCell_same' _ _ _ (by rw [hfs2]; rfl)]
    simp
  · have := hset.size; have := m2.size; omega
  · rw [World.frozen?_setCell, World.frozen?_of_block (hblk fx h2.1 h2.2)]; exact h.free
end Go.Proofs.YtgpedejeifmfdaaGreat
/- The log in memory: write, walked. -/
namespace Go.Proofs.YtgpedejeifmfdaaGreat
open Go.RowKit Go.Shelf
attribute [local go_sem] Oper.semAt_some

set_option maxRecDepth 100000 in
set_option maxHeartbeats 4000000 in
theorem write_calls {w : World} {B b gs gm lb : Nat} {cv : Value} {S : List (List Int)} {C : List (Int × List Int)} {l : Lg} (hd : DiskAt w B b gs gm cv S C) (hl : LogAt w lb b l) (hne : ¬ foot b gs gm cv lb)
    {a : Option Addr} {n c : Nat} {bs : List Int} (hi : Ints w .u8 a n c bs) (hn : n ≤ 900000) {K : Nat} (hK : K = (n + 15) / 16) (hC : C.length + K ≤ 1000000) (hda : ∀ x o, a = some ⟨x, o, none⟩ → ¬ foot b gs gm cv x ∧ x ≠ lb) (h1 : 1 ≤ l.next) (h2 : l.next + K ≤ 4294967296) (h3 : l.first < 4294967296) :
    Calls Tryz.prog 40 #[.pointer (some ⟨lb, 0, none⟩), .slice a n c] w fun e w' => e = .returned (.tuple #[]) ∧ ∃ cv', DiskAt w' B b gs gm cv' S (layC S C (chunks l.next l.first bs)) ∧ LogAt w' lb b ⟨l.next + K, l.first, l.sure⟩ ∧ Mod (fun k => foot b gs gm cv k ∨ k = lb) w w' ∧ ∀ g, cv'.ownBlock = some g → cv.ownBlock = some g ∨ w.heap.size ≤ g := by
  have hbl := hi.len
  have hle := hi.le
  have hmx := hi.max
  have hlb : lb < w.heap.size := (Array.getElem?_eq_some_iff.1 hl).1
  have ha : 0 < n → ∃ b o, a = some ⟨b, o, none⟩ := fun h => by
    obtain ⟨b, o, e, _⟩ := hi.cell h
    exact ⟨b, o, e⟩
  have hCh : (chunks l.next l.first bs).length = K := by rw [chunks_len]; unfold needZ; rw [hbl, hK]
  refine (callsIn_wide (n := 4)).1 ?_
  refine callsIn_of_wp_marks Tryz.func40 rfl trivial ?_ rfl
  simp only [Tryz.ntmps40, List.size_toArray, List.length_cons, List.length_nil, Nat.reduceAdd, Nat.reduceSub, Array.replicate_succ, Array.replicate_zero, List.push_toArray, List.append_toArray, List.nil_append, List.cons_append]
  gi_wp2_with (refine ⟨trivial, ?_⟩; gi_at_call 59; refine (chunk_mk 3 _ _ _ _).mono ?_; rintro e w' ⟨rfl, rfl⟩)
  have hB0 : Below w.heap.size w ((((w.alloc (.cells #[.pointer (some ⟨lb, 0, none⟩)] 32)).alloc (.cells #[.bool true] 4)).alloc (.cells #[.slice a n c] 39)).alloc (.cells #[.int .i64 16] 3)) := ((((Below.refl _ w).alloc (Nat.le_refl _) _).alloc (by simp) _).alloc (by simp; omega) _).alloc (by simp; omega) _
  have b0 := (((Boxed.new w 32 (.pointer (some ⟨lb, 0, none⟩))).alloc (.cells #[.bool true] 4)).alloc (.cells #[.slice a n c] 39)).alloc (.cells #[.int .i64 16] 3)
  have b1 := ((Boxed.new (w.alloc (.cells #[.pointer (some ⟨lb, 0, none⟩)] 32)) 4 (.bool true)).alloc (.cells #[.slice a n c] 39)).alloc (.cells #[.int .i64 16] 3)
  have b2 := (Boxed.new ((w.alloc (.cells #[.pointer (some ⟨lb, 0, none⟩)] 32)).alloc (.cells #[.bool true] 4)) 39 (.slice a n c)).alloc (.cells #[.int .i64 16] 3)
  have b3 := Boxed.new (((w.alloc (.cells #[.pointer (some ⟨lb, 0, none⟩)] 32)).alloc (.cells #[.bool true] 4)).alloc (.cells #[.slice a n c] 39)) 3 (.int .i64 16)
  simp only [World.size_alloc] at b1 b2 b3
  have hWs : ((((w.alloc (.cells #[.pointer (some ⟨lb, 0, none⟩)] 32)).alloc (.cells #[.bool true] 4)).alloc (.cells #[.slice a n c] 39)).alloc (.cells #[.int .i64 16] 3)).heap.size = w.heap.size + 4 := by simp
  generalize ((((w.alloc (.cells #[.pointer (some ⟨lb, 0, none⟩)] 32)).alloc (.cells #[.bool true] 4)).alloc (.cells #[.slice a n c] 39)).alloc (.cells #[.int .i64 16] 3)) = w0 at hB0 b0 b1 b2 b3 hWs ⊢
  have hfl : ∀ k, foot b gs gm cv k → k < w.heap.size := fun k hk => (hd.lt k hk).2
  refine wpIn_rangeFunc_ownG rfl (by decide) (gf := 70) (lb := #[.pointer (some ⟨w.heap.size + 1 + 1, 0, none⟩), .pointer (some ⟨w.heap.size + 1 + 1 + 1, 0, none⟩)]) rfl trivial (enters_of Tryz.func70 (by kernel_rfl) rfl)
    (chunk_stops 3 (by decide) (w.heap.size + 1 + 1) (w.heap.size + 1 + 1 + 1) a n c (by omega) hle hmx ha K hK w0 (by omega) (by omega) b2.cell b3.cell) KpC.trans (KpC.put (by omega) (by omega)) (Below.refl _ _) (fun _ => rfl)
    (fun pre W => WI w B b gs gm lb w.heap.size (w.heap.size + 1) cv S C l bs K w0.heap.size pre W)
    (fun _ _ _ => False)
    (WI.own (by have := hfl b (.inl rfl); omega) (by have := hfl gs (.inr (.inl rfl)); omega) (by have := hfl gm (.inr (.inr (.inl rfl))); omega) (by omega) (by omega))
    (fun _ _ _ _ _ hs _ _ => hs)
    ⟨⟨cv, C, hd.keep fun k hk => hB0.block k (hfl k hk), fun _ => rfl, Nat.le_refl _, fun g hg => .inl hg⟩, hl.keep (hB0.block lb hlb), Nat.zero_le _, Mod.of_below hB0, b0.cell, b1.cell, by omega, b1.frozen⟩
    (fun x => { tmps := #[.pointer (some ⟨lb, 0, none⟩), .slice a n c, .pointer (some ⟨w.heap.size, 0, none⟩), undef, .pointer (some ⟨w.heap.size + 1, 0, none⟩), .slice (a.map fun p => p.add (16 * x.1)) (min 16 (n - 16 * x.1)) (min 16 (n - 16 * x.1)), .slice a n c, .func (.func 70) #[] #[.pointer (some ⟨w.heap.size + 1 + 1, 0, none⟩), .pointer (some ⟨w.heap.size + 1 + 1 + 1, 0, none⟩)],
      .slice (a.map fun p => p.add (16 * x.1)) (min 16 (n - 16 * x.1)) (min 16 (n - 16 * x.1)), undef, undef, undef, undef], defers := [] }) ?assign ?body ?done ?stop
  case assign =>
    intro l x W K hK
    dsimp only [chV]
    gi_wp2
    exact hK
  case body =>
    rintro lp pre x W hWI hpl
    have hx2 := x.2
    obtain ⟨cv', C', hdW, hu, hCl, hoW⟩ := hWI.is
    obtain ⟨a0, o0, rfl⟩ := ha (by omega)
    have hda' := hda a0 o0 rfl
    have ha0 : a0 < w.heap.size := hi.block a0 o0 (by omega) rfl
    have hiW : Ints W .u8 (some ⟨a0, o0, none⟩) n c bs := hWI.mod.ints hi (fun b' o' e => by
      injection e with e; injection e with e1 e2
      subst e1
      rintro (h | h)
      · exact hda'.1 h
      · exact hda'.2 h)
    obtain ⟨M, hM⟩ : ∃ M, M = min 16 (n - 16 * x.1) := ⟨_, rfl⟩
    have hch : Ints W .u8 (some ⟨a0, o0 + 16 * x.1, none⟩) M M ((bs.drop (16 * x.1)).take M) := by
      have := (hiW.dropAt (16 * x.1) (by omega)).take M (by omega)
      exact ⟨this.len, Nat.le_refl _, by omega, this.fit, this.cell⟩
    have hdt : (bs.drop (16 * x.1)).take M = (bs.drop (16 * x.1)).take 16 := by
      by_cases h16 : M = 16
      · rw [h16]
      · rw [List.take_of_length_le (by rw [List.length_drop]; omega), List.take_of_length_le (by rw [List.length_drop]; omega)]
    rw [hdt] at hch
    have hneW : ¬ foot b gs gm cv' lb := fun hf => by
      rcases hf with h | h | h | h
      · exact hne (.inl h)
      · exact hne (.inr (.inl h))
      · exact hne (.inr (.inr (.inl h)))
      · rcases hoW _ h with h | h
        · exact hne (.inr (.inr (.inr h)))
        · omega
    have hla := lay_calls (bg := decide (pre.length = 0)) hdW hWI.log hneW (by omega) hch (by omega) (by simp only; omega) (by simp only; omega) h3
    have hadd : (⟨a0, o0, none⟩ : Addr).add (16 * x.1) = ⟨a0, o0 + 16 * x.1, none⟩ := by unfold Addr.add; split <;> simp_all
    simp only [Option.map_some, hadd]
    rw [← hM]
    have hbx := hWI.box
    have hfs := hWI.first
    have hfz := hWI.free
    have hmodW := hWI.mod
    have hWs2 : w.heap.size ≤ W.heap.size := hWI.mod.size
    have hbxl : w.heap.size < W.heap.size := World.block_lt_of_cell? _ _ hbx
    have hfsl : w.heap.size + 1 < W.heap.size := World.block_lt_of_cell? _ _ hfs
    have hnx := fun cv2 W2 d2 l2 m2 o2 => hWI.next (sx := w.heap.size + 1 + 1) (nx := w.heap.size + 1 + 1 + 1) (x := x) (cv2 := cv2) (W2 := W2) hdW hu hCl hoW hpl (by unfold needZ; rw [hbl, hK]) d2 l2 m2 o2 hfl hlb (by omega) (by omega) (by omega) (by omega) (by omega) (by omega)
    have hfsW := hWI.first
    have hfx : ¬ (foot b gs gm cv' (w.heap.size + 1) ∨ w.heap.size + 1 = lb) := by
      rintro ((h | h | h | h) | h)
      · have := hfl _ (.inl rfl); omega
      · have := hfl _ (.inr (.inl rfl)); omega
      · have := hfl _ (.inr (.inr (.inl rfl))); omega
      · rcases hoW _ h with h | h
        · have := hfl _ (.inr (.inr (.inr h))); omega
        · omega
      · omega
    have hc2 : ∀ W2, Mod (fun k => foot b gs gm cv' k ∨ k = lb) W W2 → W2.cell? ⟨w.heap.size + 1, 0, none⟩ = some (.bool (decide (pre.length = 0))) ∧ W2.frozen? ⟨w.heap.size + 1, 0, none⟩ = false := fun W2 m2 => by
      have hb := m2.block (w.heap.size + 1) hfsl hfx
      exact ⟨(World.cell?_of_block hb).trans hfs, (World.frozen?_of_block hb).trans hfz⟩
    simp only at hla
    have HLA := Lib.hid hla; clear hla
    have HNX := Lib.hid hnx; clear hnx
    have HC2 := Lib.hid hc2; clear hc2

    generalize hdec : decide (pre.length = 0) = D at *
    clear hWI hdW hu hCl hoW hneW hch hdt hiW hadd hmodW hfz hfsW hfx b0 b1 b2 b3 hB0 hdec hM hK hda ha hda' hi hd hl hne hfl hbl hCh hC h1 h2 h3 hn hle hmx hWs hpl hx2 hWs2 hbxl hfsl
    gi_wp2_with (refine ⟨trivial, ?_⟩; gi_at_call 46; refine (CallsIn.inRound lp (callsIn_wide.2 HLA.out)).mono ?_; rintro e W2 ⟨cv2, rfl, d2, l2, m2, o2⟩; obtain ⟨c2, f2⟩ := HC2.out W2 m2; have hnx := HNX.out cv2 W2 d2 l2 m2 o2; clear HNX d2 l2 m2 o2)
    exact hnx
  case done =>
    rintro D ys W hD ⟨hyl, hyu⟩ hWI hDf
    obtain ⟨cv', C', hdW, hu, hCl, hoW⟩ := hWI.is
    have hu2 := hu hyu
    rw [hyl, List.take_of_length_le (by rw [hCh]; exact Nat.le_refl _)] at hu2
    have hlW := hWI.log
    rw [hyl] at hlW
    have hmW := hWI.mod
    have hsW := hWI.size
    have hput : W.grownBy (W.putObj D (.deferred none)) (some D) := grownBy_putObj' W D _
    gi_wp2
    refine ⟨by simp, .inl ⟨_, _, rfl, run_takeDeferred hDf, ?_⟩⟩
    have hDn : ∀ k, foot b gs gm cv' k → k ≠ D := fun k hk e => by
      subst e
      rcases hk with rfl | rfl | rfl | hk
      · have := hfl _ (.inl rfl); omega
      · have := hfl _ (.inr (.inl rfl)); omega
      · have := hfl _ (.inr (.inr (.inl rfl))); omega
      · obtain ⟨o', h6, h7⟩ := hdW.cells hk
        rw [hDf] at h6
        cases h6
        cases h7
    refine ⟨_, results_none rfl _ _ _, rfl, cv', ?_, hlW.keep (hput.block _ (Array.getElem?_eq_some_iff.1 hlW).1 (by intro e; injection e with e; omega)), hmW.trans (Mod.of_grown (F := fun k => k = D) hput fun k e => by injection e with e; exact e.symm) (fun x h => h) (fun x hx e => by omega), fun g hg => (hoW g hg).imp id fun h => by omega⟩
    rw [← hu2]
    exact hdW.keep fun k hk => hput.block k (hdW.lt k hk).2 (by intro e; injection e with e; exact hDn k hk e)
  case stop =>
    rintro D c pre W _ _ h _
    exact h.elim
end Go.Proofs.YtgpedejeifmfdaaGreat
