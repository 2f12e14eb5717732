/- The device for the layers above it (printed by genDk.py). -/
import Derived.Test.YtgpedejeifmfdaaGreatCells
import Derived.Test.YtgpedejeifmfdaaGreatFree
import Derived.Test.YtgpedejeifmfdaaGreatUse
import Derived.Test.YtgpedejeifmfdaaGreatWorlds
import Derived.Test.YtgpedejeifmfdaaGreatPark
namespace Go.Proofs.YtgpedejeifmfdaaGreat
open Go.RowKit
abbrev State := List (List Int) × List (Int × List Int)

/-! ### plain -/
def sct (z : List Int) : List Value := z.map (Value.int .u8)
def Sector (z : List Int) : Prop := z.length = 32 ∧ ∀ x ∈ z, (Lit.int .u8 x).wf = true
def flat (S : List (List Int)) : List Value := S.flatMap sct
def wre (p : Int × List Int) : List Value := .int .i64 p.1 :: sct p.2
def lastOf (C : List (Int × List Int)) (k : Int) : Option (List Int) := (C.reverse.find? fun p => p.1 == k).map (·.2)
theorem lastOf_snoc (C : List (Int × List Int)) (a : Int) (z : List Int) (k : Int) : lastOf (C ++ [(a, z)]) k = if k = a then some z else lastOf C k := by
  unfold lastOf
  rw [List.reverse_append, List.reverse_singleton, List.singleton_append, List.find?_cons]
  by_cases h : k = a
  · subst h; simp
  · have : ((a, z).1 == k) = false := by simp; omega
    rw [this, if_neg h]
theorem sct_len (z : List Int) : (sct z).length = z.length := by simp [sct]
theorem sct_one (z : List Int) : ∀ u ∈ sct z, u.oneCell' = true := by
  intro u hu
  obtain ⟨x, _, rfl⟩ := List.mem_map.1 hu
  rfl
theorem wr_len {p : Int × List Int} (h : Sector p.2) : (wre p).length = 33 := by simp [wre, sct_len, h.1]
theorem wr_one (p : Int × List Int) : ∀ u ∈ wre p, u.oneCell' = true := by
  intro u hu
  rcases List.mem_cons.1 hu with rfl | hu
  · rfl
  · exact sct_one _ u hu
structure DiskAt (w : World) (B b gs gm : Nat) (cv : Value) (S : List (List Int)) (C : List (Int × List Int)) : Prop where
  root : w.heap[b]? = some (.cells #[.slice (some ⟨gs, 0, none⟩) S.length S.length, cv, .map (some gm)] 68 (0, 0))
  safe : w.heap[gs]? = some (.cells (flat S).toArray 94 (0, 0))
  cache : w.ownsRow B 96 33 cv C.length (C.flatMap wre)
  now : MapI w .i64 gm (fun k => (lastOf C k).map fun z => .agg (sct z).toArray)
  sec : ∀ s ∈ S, Sector s
  wrs : ∀ p ∈ C, Sector p.2 ∧ 0 ≤ p.1 ∧ p.1 < S.length
  bb : B ≤ b
  bs : B ≤ gs
  bm : B ≤ gm
  pos : 0 < S.length
  len : S.length ≤ 512
def foot (b gs gm : Nat) (cv : Value) (k : Nat) : Prop := k = b ∨ k = gs ∨ k = gm ∨ cv.ownBlock = some k
theorem DiskAt.lt {w : World} {B b gs gm : Nat} {cv : Value} {S : List (List Int)} {C : List (Int × List Int)} (h : DiskAt w B b gs gm cv S C) : ∀ k, foot b gs gm cv k → B ≤ k ∧ k < w.heap.size := by
  rintro k (rfl | rfl | rfl | hk)
  · exact ⟨h.bb, (Array.getElem?_eq_some_iff.1 h.root).1⟩
  · exact ⟨h.bs, (Array.getElem?_eq_some_iff.1 h.safe).1⟩
  · exact ⟨h.bm, h.now.lt⟩
  · exact h.cache.lt k hk
theorem DiskAt.keep {w w' : World} {B b gs gm : Nat} {cv : Value} {S : List (List Int)} {C : List (Int × List Int)} (h : DiskAt w B b gs gm cv S C) (hk : ∀ k, foot b gs gm cv k → w'.heap[k]? = w.heap[k]?) : DiskAt w' B b gs gm cv S C where
  root := (hk b (.inl rfl)).trans h.root
  safe := (hk gs (.inr (.inl rfl))).trans h.safe
  cache := by
    refine ⟨h.cache.1, ?_⟩
    rcases h.cache.2 with hn | ⟨g, cap, cur, e, hb, hg, rest⟩
    · exact .inl hn
    · exact .inr ⟨g, cap, cur, e, hb, (hk g (.inr (.inr (.inr (by rw [e]; rfl))))).trans hg, rest⟩
  now := h.now.keep (hk gm (.inr (.inr (.inl rfl))))
  sec := h.sec
  wrs := h.wrs
  bb := h.bb
  bs := h.bs
  bm := h.bm
  pos := h.pos
  len := h.len
theorem DiskAt.flat_len {w : World} {B b gs gm : Nat} {cv : Value} {S : List (List Int)} {C : List (Int × List Int)} (h : DiskAt w B b gs gm cv S C) : (flat S).length = S.length * 32 :=
  flatMap_len sct 32 S fun s hs => by rw [sct_len]; exact (h.sec s hs).1
theorem DiskAt.sec_at {w : World} {B b gs gm : Nat} {cv : Value} {S : List (List Int)} {C : List (Int × List Int)} (h : DiskAt w B b gs gm cv S C) {i : Nat} (hi : i < S.length) : ((flat S).drop (i * 32)).take 32 = sct (S.getD i []) := by
  rw [List.getD_eq_getElem?_getD, List.getElem?_eq_getElem hi]
  exact flatMap_at sct 32 S (fun s hs => by rw [sct_len]; exact (h.sec s hs).1) i hi
section
variable {w : World} {B b gs gm : Nat} {cv : Value} {S : List (List Int)} {C : List (Int × List Int)}
theorem there_calls (h : DiskAt w B b gs gm cv S C) (k : Int) :
    Calls Tryz.prog 50 #[.pointer (some ⟨b, 0, none⟩), .int .i64 k] w fun e w' => e = .returned (.bool (decide (0 ≤ k ∧ k < (S.length : Int)))) ∧ w' = w := by
  have c0 := cells_at h.root 0
  have hp := h.len
  go_enter Tryz.func50, Tryz.ntmps50
  by_cases h0 : 0 ≤ k
  · have hd : decide (0 ≤ k) = true := decide_eq_true h0
    go_wp2
    go_ret
    simp [h0]
  · have hd : decide (0 ≤ k) = false := decide_eq_false h0
    go_wp2
    go_ret
    simp
theorem Loose_calls (h : DiskAt w B b gs gm cv S C) :
    Calls Tryz.prog 28 #[.pointer (some ⟨b, 0, none⟩)] w fun e w' => e = .returned (.int .i64 (C.length : Int)) ∧ w' = w := by
  have c1 := cells_at h.root 1
  obtain ⟨a, c, rfl⟩ : ∃ a c, cv = .slice a C.length c := by
    rcases h.cache.2 with ⟨rfl, h0⟩ | ⟨g, cap, cur, rfl, _⟩
    · rw [h0]; exact ⟨_, _, rfl⟩
    · exact ⟨_, _, rfl⟩
  go_enter Tryz.func28, Tryz.ntmps28
  go_wp2
  go_ret
  exact ⟨rfl, rfl⟩
theorem Sectors_calls (h : DiskAt w B b gs gm cv S C) :
    Calls Tryz.prog 32 #[.pointer (some ⟨b, 0, none⟩)] w fun e w' => e = .returned (.int .i64 (S.length : Int)) ∧ w' = w := by
  have c0 := cells_at h.root 0
  go_enter Tryz.func32, Tryz.ntmps32
  go_wp2
  go_ret
  exact ⟨rfl, rfl⟩
def zsec : List Int := List.replicate 32 0
theorem Tryz.zeroSec (w : World) : (zeroValue 94).run Tryz.prog w = .ok (.agg (sct zsec).toArray) w := by kernel_rfl
theorem Tryz.sizeSec : (Tryz.prog.info? 94).map (·.size) = some 32 := by kernel_rfl
theorem Tryz.sizeWr : (Tryz.prog.info? 96).map (·.size) = some 33 := by kernel_rfl
def readOf (S : List (List Int)) (C : List (Int × List Int)) (k : Int) : List Int := if 0 ≤ k ∧ k < (S.length : Int) then (lastOf C k).getD (S.getD k.toNat []) else []
theorem readOf_sector (h : DiskAt w B b gs gm cv S C) {k : Int} (hk : 0 ≤ k ∧ k < (S.length : Int)) : Sector (readOf S C k) := by
  unfold readOf
  rw [if_pos hk]
  cases hl : lastOf C k with
  | some z =>
    unfold lastOf at hl
    rw [Option.map_eq_some_iff] at hl
    obtain ⟨p, hp, rfl⟩ := hl
    exact (h.wrs p (by simpa using List.mem_of_find?_eq_some hp)).1
  | none =>
    rw [Option.getD_none, List.getD_eq_getElem?_getD, List.getElem?_eq_getElem (show k.toNat < S.length by omega)]
    exact h.sec _ (List.getElem_mem _)
theorem ints_of_sct {w : World} {g : Nat} {t : TypeId} {z : List Int} (hz : Sector z) (hg : w.heap[g]? = some (.cells (sct z).toArray t (0, 0))) : Ints w .u8 (some ⟨g, 0, none⟩) 32 32 z := by
  refine Ints.of hz.1 (Nat.le_refl _) (by omega) hz.2 fun j hj => ?_
  rw [Nat.zero_add, cells_at hg j]
  have := hz.1
  simp [sct, List.getD_eq_getElem?_getD, show j < z.length by omega]
set_option maxHeartbeats 1000000 in
theorem Read_calls (h : DiskAt w B b gs gm cv S C) (k : Int) :
    Calls Tryz.prog 65 #[.pointer (some ⟨b, 0, none⟩), .int .i64 k] w fun e w' =>
      ∃ v, e = .returned (.tuple #[v, .int .i64 (if 0 ≤ k ∧ k < (S.length : Int) then 0 else 11)]) ∧ Own w' w.heap.size 5 .u8 v (readOf S C k) ∧ Below w.heap.size w w' := by
  have c0 := cells_at h.root 0
  have c2 := cells_at h.root 2
  have hp := h.len
  by_cases hin : 0 ≤ k ∧ k < (S.length : Int)
  · have hlk := h.now.lookup (P := Tryz.prog) Tryz.underlying65 Tryz.underlying3 (Tryz.zeroSec w) k
    have hS := readOf_sector h hin
    have hgs := h.safe
    have hsa := h.sec_at (i := k.toNat) (by omega)
    have hfl := h.flat_len
    have hro : readOf S C k = (lastOf C k).getD (S.getD k.toNat []) := by unfold readOf; rw [if_pos hin]
    rw [if_pos hin]
    obtain ⟨Z, hZ⟩ : ∃ Z, Z = readOf S C k := ⟨_, rfl⟩
    rw [← hZ] at hS hro ⊢
    clear hZ
    have hth := there_calls h k
    rw [decide_eq_true hin] at hth
    go_enter Tryz.func65, Tryz.ntmps65
    cases hl : lastOf C k with
    | some z =>
      rw [hl] at hlk hro
      simp only [Option.map_some, Option.getD_some, Option.isSome_some] at hlk hro
      subst hro
      go_wp2_with fail
      refine hth.mono ?_
      rintro e w1 ⟨rfl, rfl⟩
      go_wp2_with (with_reducible refine stop_store 94 ?_)
      refine unpark ?_
      refine wpList_store_at rfl _ _ _ rfl _ 0 rfl _ rfl _ rfl _ _ (heap_alloc_new _ _) 32 (by rw [sct_len]; exact hS.1) (by decide) (sct_one _) Tryz.sizeSec ?_
      intro w2 hw2 hg2 hs2
      clear hs2
      rw [splice_all _ _ (by rw [sct_len, hS.1]; rfl)] at hw2
      have hi2 := (ints_of_sct hS hw2).alloc (.cells #[] 5)
      have hb2 : Below w1.heap.size w1 w2 := ((Below.refl _ _).alloc (Nat.le_refl _) _).grown hg2 (by simp) (fun k hk => by cases hk; exact Nat.le_refl _)
      clear hg2 hw2
      have h0 : Own (w2.alloc (.cells #[] 5)) w1.heap.size 5 .u8 (.slice (some ⟨w2.heap.size, 0, none⟩) 0 0) [] :=
        ⟨World.ownsRow_made w2 #[] 0 hb2.size (by unfold maxLen; omega) rfl, fun _ h => by cases h⟩
      have hb0 := hb2.alloc hb2.size (.cells #[] 5)
      have Hb0 := Lib.hid hb0; clear hb0 hb2
      go_wp2_with (at_builtin; refine park ?_)
      refine unpark ?_
      refine wpList_append_ints _ rfl _ _ 39 rfl .u8 w1.heap.size 5 (.int .u8 0) 1 Tryz.underlying39 Tryz.infoU8 rfl _ [] rfl h0 _ 32 32 Z rfl hi2 (by simp) (by decide) (by have := Hb0.out.size; simpa using this) ?_
      intro v w' hown hg hne
      go_wp2
      go_ret2
      exact ⟨v, rfl, by simpa using hown, Hb0.out.grown hg Hb0.out.size (fun k hk => (h0.block k hk).1)⟩
    | none =>
      rw [hl] at hlk hro
      simp only [Option.map_none, Option.getD_none, Option.isSome_none] at hlk hro
      rw [← hro] at hsa
      clear hro
      have i1 := hin.1
      have i2 := hin.2
      go_wp2_with fail
      refine hth.mono ?_
      rintro e w1 ⟨rfl, rfl⟩
      go_wp2_with (with_reducible refine stop_store 94 ?_)
      refine unpark ?_
      refine wpList_store_at rfl _ _ _ rfl _ 0 rfl _ rfl _ rfl _ _ (heap_alloc_new _ _) 32 (by rw [sct_len]; rfl) (by decide) (sct_one _) Tryz.sizeSec ?_
      intro w2 hw2 hg2 hs2
      clear hs2
      rw [splice_all _ _ (by rw [sct_len]; rfl)] at hw2
      have hb2 : Below w1.heap.size w1 w2 := ((Below.refl _ _).alloc (Nat.le_refl _) _).grown hg2 (by simp) (fun k hk => by cases hk; exact Nat.le_refl _)
      have h2 := h.keep (w' := w2) fun k hk => hb2.block k (h.lt k hk).2
      have c0 := cells_at h2.root 0
      have hgs2 := h2.safe
      go_wp2_with (with_reducible refine stop_load 94 ?_)
      refine unpark ?_
      refine wpList_load_at rfl _ _ rfl gs (k.toNat * 32) rfl _ _ _ hgs2 32 (sct Z) (by rw [sct_len, hS.1]) (by simpa using hsa) _ Tryz.underlying94 rfl Tryz.sizeSec ?_
      go_wp2_with (with_reducible refine stop_store 94 ?_)
      refine unpark ?_
      refine wpList_store_at rfl _ _ _ rfl _ 0 rfl _ rfl _ rfl _ _ hw2 32 (by rw [sct_len]; exact hS.1) (by simp [sct_len, zsec]) (sct_one _) Tryz.sizeSec ?_
      intro w3 hw3 hg3 hs3
      clear hs3
      rw [splice_all _ _ (by rw [sct_len, sct_len, hS.1]; rfl)] at hw3
      have hlt0 : w1.heap.size < w2.heap.size := (Array.getElem?_eq_some_iff.1 hw2).1
      have hi2 := (ints_of_sct hS hw3).alloc (.cells #[] 5)
      have hb3 : Below w1.heap.size w1 w3 := hb2.grown hg3 hb2.size (fun k hk => by cases hk; exact Nat.le_refl _)
      clear hg3 hw3 hw2 hb2 h2 hgs2 c0 hlt0
      have h0 : Own (w3.alloc (.cells #[] 5)) w1.heap.size 5 .u8 (.slice (some ⟨w3.heap.size, 0, none⟩) 0 0) [] :=
        ⟨World.ownsRow_made w3 #[] 0 hb3.size (by unfold maxLen; omega) rfl, fun _ h => by cases h⟩
      have hb0 := hb3.alloc hb3.size (.cells #[] 5)
      have Hb0 := Lib.hid hb0; clear hb0 hb3
      go_wp2_with (at_builtin; refine park ?_)
      refine unpark ?_
      refine wpList_append_ints _ rfl _ _ 39 rfl .u8 w1.heap.size 5 (.int .u8 0) 1 Tryz.underlying39 Tryz.infoU8 rfl _ [] rfl h0 _ 32 32 Z rfl hi2 (by simp) (by decide) (by have := Hb0.out.size; simpa using this) ?_
      intro v w' hown hg hne
      go_wp2
      go_ret2
      exact ⟨v, rfl, by simpa using hown, Hb0.out.grown hg Hb0.out.size (fun k hk => (h0.block k hk).1)⟩
  · have hth := there_calls h k
    rw [decide_eq_false hin] at hth
    have hro : readOf S C k = [] := by unfold readOf; rw [if_neg hin]
    rw [if_neg hin, hro]
    go_enter Tryz.func65, Tryz.ntmps65
    go_wp2_with fail
    refine hth.mono ?_
    rintro e w1 ⟨rfl, rfl⟩
    go_wp2
    go_ret2
    exact ⟨_, rfl, ⟨World.ownsRow_nil _ _ _ _, fun _ h => by cases h⟩, Below.refl _ _⟩
end
theorem Tryz.infoWr : ∃ i z, Tryz.prog.info? 96 = some i ∧ i.zero = some z ∧ i.size = 33 ∧ i.bytes = 40 ∧ z.cells.size = 33 ∧ z.cells.toList = wre (0, zsec) := by
  cases h : Tryz.prog.info? 96 with
  | none => exact absurd (show (Tryz.prog.info? 96).isSome = true by kernel_rfl) (by rw [h]; decide)
  | some i =>
    have hq : (Tryz.prog.info? 96).map (fun i => (i.zero, i.size, i.bytes)) = some (some (.agg (wre (0, zsec)).toArray), 33, 40) := by kernel_rfl
    rw [h] at hq
    simp only [Option.map_some, Option.some.injEq, Prod.mk.injEq] at hq
    exact ⟨i, _, rfl, hq.1, hq.2.1, hq.2.2, by decide, by simp [Value.cells]⟩
theorem list32 : ∀ (z : List Int), z.length = 32 → ∃ x0 x1 x2 x3 x4 x5 x6 x7 x8 x9 x10 x11 x12 x13 x14 x15 x16 x17 x18 x19 x20 x21 x22 x23 x24 x25 x26 x27 x28 x29 x30 x31, z = [x0, x1, x2, x3, x4, x5, x6, x7, x8, x9, x10, x11, x12, x13, x14, x15, x16, x17, x18, x19, x20, x21, x22, x23, x24, x25, x26, x27, x28, x29, x30, x31]
  | [x0, x1, x2, x3, x4, x5, x6, x7, x8, x9, x10, x11, x12, x13, x14, x15, x16, x17, x18, x19, x20, x21, x22, x23, x24, x25, x26, x27, x28, x29, x30, x31], _ => ⟨x0, x1, x2, x3, x4, x5, x6, x7, x8, x9, x10, x11, x12, x13, x14, x15, x16, x17, x18, x19, x20, x21, x22, x23, x24, x25, x26, x27, x28, x29, x30, x31, rfl⟩
theorem build_wr (w : World) (k : Int) {z : List Int} (hz : Sector z) :
    (Instr.build 96 #[(0, .int .i64 k), (1, .agg (sct z).toArray)]).run Tryz.prog w = .ok (.agg (wre (k, z)).toArray) w := by
  obtain ⟨x0, x1, x2, x3, x4, x5, x6, x7, x8, x9, x10, x11, x12, x13, x14, x15, x16, x17, x18, x19, x20, x21, x22, x23, x24, x25, x26, x27, x28, x29, x30, x31, rfl⟩ := list32 z hz.1
  kernel_rfl
theorem buildSlice_wr (w : World) (k : Int) {z : List Int} (hz : Sector z) :
    (Instr.buildSlice 66 1 #[(0, .agg (wre (k, z)).toArray)]).run Tryz.prog w = .ok (.slice (some ⟨w.heap.size, 0, none⟩) 1 1) (w.alloc (.cells (wre (k, z)).toArray 96)) := by
  obtain ⟨x0, x1, x2, x3, x4, x5, x6, x7, x8, x9, x10, x11, x12, x13, x14, x15, x16, x17, x18, x19, x20, x21, x22, x23, x24, x25, x26, x27, x28, x29, x30, x31, rfl⟩ := list32 z hz.1
  kernel_rfl
theorem foot_apart {w : World} {B b gs gm : Nat} {cv : Value} {S : List (List Int)} {C : List (Int × List Int)} (h : DiskAt w B b gs gm cv S C) :
    gs ≠ b ∧ gm ≠ b ∧ gm ≠ gs ∧ (∀ g, cv.ownBlock = some g → g ≠ b ∧ g ≠ gs ∧ g ≠ gm) := by
  have h1 := h.root
  have h2 := h.safe
  obtain ⟨es, cl, h3, _⟩ := h.now
  refine ⟨fun e => ?_, fun e => ?_, fun e => ?_, fun g hg => ?_⟩
  · subst e; rw [h1] at h2; simp at h2
  · subst e; rw [h1] at h3; simp at h3
  · subst e; rw [h2] at h3; simp at h3
  · rcases h.cache.2 with ⟨rfl, _⟩ | ⟨g', cap, cur, rfl, _, h4, _⟩
    · cases hg
    · simp only [Value.ownBlock, Option.some.injEq] at hg
      subst hg
      refine ⟨fun e => ?_, fun e => ?_, fun e => ?_⟩
      · subst e; rw [h1] at h4; simp at h4
      · subst e; rw [h2] at h4; simp at h4
      · subst e; rw [h3] at h4; simp at h4
def writeErr (S : List (List Int)) (k : Int) (n : Nat) : Int := if 0 ≤ k ∧ k < (S.length : Int) then (if n = 32 then 0 else 10) else 11
def written (S : List (List Int)) (C : List (Int × List Int)) (k : Int) (zs : List Int) : List (Int × List Int) :=
  if 0 ≤ k ∧ k < (S.length : Int) ∧ zs.length = 32 then C ++ [(k, zs)] else C
set_option maxHeartbeats 2000000 in
theorem Write_calls {w : World} {B b gs gm : Nat} {cv : Value} {S : List (List Int)} {C : List (Int × List Int)} (h : DiskAt w B b gs gm cv S C) (k : Int) {a : Option Addr} {n c : Nat} {zs : List Int} (hx : Ints w .u8 a n c zs) (hC : C.length ≤ 1000000) :
    Calls Tryz.prog 19 #[.pointer (some ⟨b, 0, none⟩), .int .i64 k, .slice a n c] w fun e w' =>
      ∃ cv', e = .returned (.int .i64 (writeErr S k n)) ∧ DiskAt w' B b gs gm cv' S (written S C k zs) ∧ Mod (foot b gs gm cv) w w' ∧ ∀ g, cv'.ownBlock = some g → cv.ownBlock = some g ∨ w.heap.size ≤ g := by
  have hth := there_calls h k
  have hlz := hx.len
  by_cases hin : 0 ≤ k ∧ k < (S.length : Int)
  · rw [decide_eq_true hin] at hth
    by_cases hn : n = 32
    · subst hn
      have hz : Sector zs := ⟨hlz, hx.fit⟩
      have he : writeErr S k 32 = 0 := by unfold writeErr; rw [if_pos hin, if_pos rfl]
      have hw : written S C k zs = C ++ [(k, zs)] := by unfold written; rw [if_pos ⟨hin.1, hin.2, hlz⟩]
      rw [he, hw]
      obtain ⟨bx, ox, rfl, cx⟩ := hx.cell (by decide)
      have hcx : ∀ j v, (sct zs)[j]? = some v → w.cell? ⟨bx, ox + j, none⟩ = some v := by
        intro j v hv
        have hj : j < 32 := by have := (List.getElem?_eq_some_iff.1 hv).1; rw [sct_len] at this; omega
        rw [cx j hj]
        simp only [sct, List.getElem?_map] at hv
        rw [List.getD_eq_getElem?_getD]
        cases hq : zs[j]? with
        | none => rw [hq] at hv; cases hv
        | some x => rw [hq] at hv; simpa using hv
      clear cx he hw hlz
      have harr : ∀ w, (Instr.arrayAt 94 (.slice (some ⟨bx, ox, none⟩) 32 c)).run Tryz.prog w = .ok (.pointer (some ⟨bx, ox, none⟩)) w := fun w => by
        simp [Instr.arrayAt, run_underlying (w := w) Tryz.underlying94]
      go_enter Tryz.func19, Tryz.ntmps19
      go_wp2_with fail
      refine hth.mono ?_
      rintro e w1 ⟨rfl, rfl⟩
      clear hth
      go_wp2_with (with_reducible refine stop_load 94 ?_)
      refine unpark ?_
      refine wpList_load_cells rfl _ _ rfl bx ox rfl (sct zs) hcx 32 (by rw [sct_len, hz.1]) _ Tryz.underlying94 rfl Tryz.sizeSec ?_
      go_wp2_with (with_reducible refine stop_store 94 ?_)
      refine unpark ?_
      refine wpList_store_at rfl _ _ _ rfl _ 0 rfl _ rfl _ rfl _ _ (heap_alloc_new _ _) 32 (by rw [sct_len]; exact hz.1) (by decide) (sct_one _) Tryz.sizeSec ?_
      intro w2 hw2 hg2 hs2
      clear hs2
      rw [splice_all _ _ (by rw [sct_len, hz.1]; rfl)] at hw2
      have hb2 : Below w1.heap.size w1 w2 := ((Below.refl _ _).alloc (Nat.le_refl _) _).grown hg2 (by simp) (fun k hk => by cases hk; exact Nat.le_refl _)
      have h2 := h.keep (w' := w2) fun k hk => hb2.block k (h.lt k hk).2
      have Hcl := h.lt
      clear hcx hg2
      go_wp2_with fail
      refine wp_region_free [0, 1, 2, 3, 4, 5, 6, 7, 8, 9, 10, 11, 12] (by kernel_rfl) (by kernel_rfl) rfl (by kernel_rfl) (fun _ _ _ h => by obtain ⟨_, _, h, _⟩ := h; cases h) (fun _ _ h => by obtain ⟨_, h, _⟩ := h; cases h) ?_
      simp only [List.map_cons, List.map_nil, List.getD_cons_zero, List.getD_cons_succ]
      have h3 : DiskAt w2.drew B b gs gm cv S C := h2.keep fun _ _ => rfl
      have hw3 : w2.drew.heap[w1.heap.size]? = some (.cells (sct zs).toArray 94 (0, 0)) := hw2
      have hb3 : Below w1.heap.size w1 w2.drew := hb2.trans ⟨rfl, rfl, rfl, Nat.le_refl _, fun _ _ => rfl⟩
      clear h2 hw2 hb2
      generalize w2.drew = w3 at h3 hw3 hb3 ⊢
      have c1 := cells_at h3.root 1
      have hbw := build_wr w3 k hz
      have hbs := buildSlice_wr w3 k hz
      go_wp2_with (with_reducible refine stop_load 94 ?_)
      refine unpark ?_
      refine wpList_load_at rfl _ _ rfl w1.heap.size 0 rfl _ _ _ hw3 32 (sct zs) (by rw [sct_len, hz.1]) (by rw [List.drop_zero]; exact List.take_of_length_le (by simp [sct_len, hz.1])) _ Tryz.underlying94 rfl Tryz.sizeSec ?_
      go_wp2_with (with_reducible refine stop_build 96 ?_)
      refine unpark ?_
      refine wpList_build2 rfl _ _ _ _ _ rfl _ _ rfl rfl _ hbw ?_
      go_wp2_with (with_reducible refine stop_buildSlice 66 ?_)
      refine unpark ?_
      refine wpList_buildSlice1 rfl _ _ _ _ rfl _ rfl _ hbs ?_
      go_wp2_with (at_builtin; refine park ?_)
      refine unpark ?_
      obtain ⟨iw, zw, hiw, hzw, hsz, hby, hzs, _⟩ := Tryz.infoWr
      have hcw : ∀ j u, (wre (k, zs))[j]? = some u → (w3.alloc (.cells (wre (k, zs)).toArray 96)).cell? ⟨w3.heap.size, 0 + j, none⟩ = some u := fun j u hu => by
        rw [Nat.zero_add]
        exact (cell_of_row (w3.alloc (.cells (wre (k, zs)).toArray 96)) w3.heap.size j (wre (k, zs)).toArray 96 (0, 0) (heap_alloc_new w3 _)).trans (by simpa using hu)
      refine wpList_append_row _ rfl _ _ 66 rfl B 96 iw zw 33 40 Tryz.underlying66 hiw hzw hsz hby hzs (by decide) cv C.length (C.flatMap wre) rfl (h3.cache.alloc _) w3.heap.size 0 1 1 (wre (k, zs)) (by rfl) (wr_len hz) (by decide)
        hcw (wr_one _) (by unfold maxLen; omega) (by omega) (by have := h3.bb; have := (h3.lt b (.inl rfl)).2; simp; omega) ?_
      intro cv' w4 hcache hg4 hne
      have hal : Below w3.heap.size w3 (w3.alloc (.cells (wre (k, zs)).toArray 96)) := (Below.refl _ _).alloc (Nat.le_refl _) _
      have hg1 : w1.heap.size ≤ w3.heap.size := hb3.size
      have hfr := foot_apart h3
      have hlt3 := h3.lt
      have same4 : ∀ x, x < w3.heap.size → cv.ownBlock ≠ some x → w4.heap[x]? = w3.heap[x]? := fun x hx hne =>
        (hg4.block x (by simp; omega) (fun e => hne e.symm)).trans (hal.block x hx)
      have r4 := (same4 b (hlt3 b (.inl rfl)).2 (fun e => (hfr.2.2.2 b e).1 rfl)).trans h3.root
      have s4 := (same4 gs (hlt3 gs (.inr (.inl rfl))).2 (fun e => (hfr.2.2.2 gs e).2.1 rfl)).trans h3.safe
      have n4 := h3.now.keep (w' := w4) (same4 gm (hlt3 gm (.inr (.inr (.inl rfl)))).2 (fun e => (hfr.2.2.2 gm e).2.2 rfl))
      have t4 := (same4 w1.heap.size (Array.getElem?_eq_some_iff.1 hw3).1 (fun e => by have := (Hcl _ (.inr (.inr (.inr e)))).2; omega)).trans hw3
      have m4 : Mod (foot b gs gm cv) w1 w4 := (Mod.of_below hb3 : Mod (foot b gs gm cv) w1 w3).trans ((Mod.of_below hal : Mod (foot b gs gm cv) _ _).trans (Mod.of_grown hg4 (F := foot b gs gm cv) fun x hx => .inr (.inr (.inr hx))) (fun _ h => h) (fun _ _ h => h)) (fun _ h => h) (fun _ _ h => h)
      have o4 : ∀ g, cv'.ownBlock = some g → cv.ownBlock = some g ∨ w1.heap.size ≤ g := fun g hg => by
        rcases hne with e | e
        · exact .inl (by rw [← e]; exact hg)
        · rw [e] at hg
          simp at hg
          exact .inr (by omega)
      have Hm4 := Lib.hid m4; clear m4
      have Ho4 := Lib.hid o4; clear o4
      have Hfr := Lib.hid hfr; clear hfr
      clear hcw hg4 hal same4 hbw hbs h3 hw3 hb3 c1 hlt3 hne hiw hzw
      have c1 := cells_at r4 1
      have f1 := frozen_of_row w4 b 1 _ _ r4
      obtain ⟨av, capv, rfl⟩ : ∃ av capv, cv' = .slice av (C.length + 1) capv := by
        rcases hcache.2 with ⟨_, h0⟩ | ⟨g, cap, cur, rfl, _⟩
        · omega
        · exact ⟨_, _, rfl⟩
      go_wp2_with fail
      have bnd := Hfr.out
      obtain ⟨w5, hw5⟩ : ∃ w5, w5 = w4.setCell ⟨b, 1, none⟩ (.slice av (C.length + 1) capv) := ⟨_, rfl⟩
      have oth5 : ∀ x, x ≠ b → w5.heap[x]? = w4.heap[x]? := fun x hx => by rw [hw5]; exact heap_setCell_other w4 _ x _ hx
      have r5 : w5.heap[b]? = some (.cells #[.slice (some ⟨gs, 0, none⟩) S.length S.length, .slice av (C.length + 1) capv, .map (some gm)] 68 (0, 0)) := by
        rw [hw5]
        exact heap_setCell_same w4 b 1 _ _ _ r4
      have s5 := (oth5 gs bnd.1).trans s4
      have n5 := n4.keep (w' := w5) (oth5 gm bnd.2.1)
      have t5 := (oth5 w1.heap.size (fun e => by have := (Hcl _ (.inl rfl)).2; omega)).trans t4
      have hsz5 : w5.heap.size = w4.heap.size := by rw [hw5]; simp
      have m5 : Mod (foot b gs gm cv) w1 w5 := Hm4.out.trans (⟨by rw [hw5]; rfl, by rw [hw5]; rfl, by rw [hw5]; rfl, by omega, fun x _ hx => oth5 x fun e => hx (.inl e)⟩ : Mod (foot b gs gm cv) w4 w5) (fun _ h => h) (fun _ _ h => h)
      have k5 : w5.ownsRow B 96 33 (.slice av (C.length + 1) capv) (C.length + 1) (C.flatMap wre ++ wre (k, zs)) := by
        refine ⟨hcache.1, ?_⟩
        rcases hcache.2 with hn | ⟨g, cap, cur, e, hb, hg, rest⟩
        · exact .inl hn
        · refine .inr ⟨g, cap, cur, e, hb, (oth5 g fun e2 => ?_).trans hg, rest⟩
          subst e2
          rw [r4] at hg
          simp at hg
      rw [← hw5]
      clear hw5 hcache r4 s4 n4 t4 c1 f1 hsz5 Hm4 oth5 bnd
      refine wp_region_free [0, 1, 2, 3, 4, 5, 6] (by kernel_rfl) (by kernel_rfl) rfl (by kernel_rfl) (fun _ _ _ h => by obtain ⟨_, _, h, _⟩ := h; cases h) (fun _ _ h => by obtain ⟨_, h, _⟩ := h; cases h) ?_
      simp only [List.map_cons, List.map_nil, List.getD_cons_zero, List.getD_cons_succ]
      have r6 : w5.drew.heap[b]? = _ := r5
      have s6 : w5.drew.heap[gs]? = _ := s5
      have n6 := n5.keep (w' := w5.drew) rfl
      have t6 : w5.drew.heap[w1.heap.size]? = _ := t5
      have m6 : Mod (foot b gs gm cv) w1 w5.drew := ⟨m5.os, m5.tape, m5.output, m5.size, m5.block⟩
      have k6 : w5.drew.ownsRow B 96 33 (.slice av (C.length + 1) capv) (C.length + 1) (C.flatMap wre ++ wre (k, zs)) := k5
      clear r5 s5 n5 t5 m5 k5
      generalize w5.drew = w6 at r6 s6 n6 t6 m6 k6 ⊢
      have Hm6 := Lib.hid m6; clear m6
      have c2 := cells_at r6 2
      go_wp2_with (with_reducible refine stop_load 94 ?_)
      refine unpark ?_
      refine wpList_load_at rfl _ _ rfl w1.heap.size 0 rfl _ _ _ t6 32 (sct zs) (by rw [sct_len, hz.1]) (by rw [List.drop_zero]; exact List.take_of_length_le (by simp [sct_len, hz.1])) _ Tryz.underlying94 rfl Tryz.sizeSec ?_
      go_wp2_with (with_reducible refine stop_mapUpdate 65 ?_)
      refine unpark ?_
      refine wpList_mapUpdate_int rfl _ _ _ _ rfl .i64 gm _ n6 k (.agg (sct zs).toArray) rfl rfl rfl _ _ Tryz.underlying65 Tryz.underlying3 ?_
      intro w7 n7 hg7 hs7
      clear hs7 c2
      have bnd := Hfr.out
      have oth7 : ∀ x, x < w6.heap.size → x ≠ gm → w7.heap[x]? = w6.heap[x]? := fun x hx hne => hg7.block x hx (fun e => hne (by injection e))
      have r7 := (oth7 b (Array.getElem?_eq_some_iff.1 r6).1 (Ne.symm bnd.2.1)).trans r6
      have s7 := (oth7 gs (Array.getElem?_eq_some_iff.1 s6).1 (Ne.symm bnd.2.2.1)).trans s6
      have m7 : Mod (foot b gs gm cv) w1 w7 := Hm6.out.trans (Mod.of_grown hg7 (F := foot b gs gm cv) fun x e => by cases e; exact .inr (.inr (.inl rfl))) (fun _ h => h) (fun _ _ h => h)
      have Hm7 := Lib.hid m7; clear m7
      clear hg7
      go_wp2
      go_ret
      refine ⟨_, rfl, ⟨r7, s7, ?_, ?_, h.sec, ?_, h.bb, h.bs, h.bm, h.pos, h.len⟩, Hm7.out, Ho4.out⟩
      · refine ⟨by have := k6.1; simpa using this, ?_⟩
        rcases k6.2 with hn | ⟨g, cap, cur, e, hb, hg, rest⟩
        · omega
        · refine .inr ⟨g, cap, cur, by rw [e]; simp, hb, (oth7 g (Array.getElem?_eq_some_iff.1 hg).1 fun e2 => ?_).trans hg, by simpa using rest⟩
          subst e2
          obtain ⟨es, cl, h3, _⟩ := n6
          rw [h3] at hg
          cases hg
      · have e : (fun k' => if k' = k then some (Value.agg (sct zs).toArray) else (lastOf C k').map fun z => .agg (sct z).toArray) = fun k' => (lastOf (C ++ [(k, zs)]) k').map fun z => .agg (sct z).toArray := by
          funext k'
          rw [lastOf_snoc]
          split <;> rfl
        rw [← e]
        exact n7
      · intro p hp
        rcases List.mem_append.1 hp with hp | hp
        · exact h.wrs p hp
        · obtain rfl : p = (k, zs) := by simpa using hp
          exact ⟨hz, hin⟩
    · have he : writeErr S k n = 10 := by unfold writeErr; rw [if_pos hin, if_neg hn]
      have hw : written S C k zs = C := by unfold written; rw [if_neg (fun hh => hn (by rw [← hlz]; exact hh.2.2))]
      rw [he, hw]
      have hnb : ((n : Int) != 32) = true := by simp; omega
      clear he hw hlz
      go_enter Tryz.func19, Tryz.ntmps19
      go_wp2_with fail
      refine hth.mono ?_
      rintro e w1 ⟨rfl, rfl⟩
      go_wp2
      go_ret
      exact ⟨cv, rfl, h, Mod.refl _ _, fun g hg => .inl hg⟩
  · rw [decide_eq_false hin] at hth
    have he : writeErr S k n = 11 := by unfold writeErr; rw [if_neg hin]
    have hw : written S C k zs = C := by unfold written; rw [if_neg (fun hh => hin ⟨hh.1, hh.2.1⟩)]
    rw [he, hw]
    clear he hw hlz
    go_enter Tryz.func19, Tryz.ntmps19
    go_wp2_with fail
    refine hth.mono ?_
    rintro e w1 ⟨rfl, rfl⟩
    go_wp2
    go_ret
    exact ⟨cv, rfl, h, Mod.refl _ _, fun g hg => .inl hg⟩
def settled (S : List (List Int)) (C : List (Int × List Int)) : List (List Int) := C.foldl (fun S p => S.set p.1.toNat p.2) S
theorem settled_len (S : List (List Int)) (C : List (Int × List Int)) : (settled S C).length = S.length := by
  unfold settled
  induction C generalizing S with
  | nil => rfl
  | cons p C ih => rw [List.foldl_cons, ih, List.length_set]
theorem settled_snoc (S : List (List Int)) (C : List (Int × List Int)) (p : Int × List Int) : settled S (C ++ [p]) = (settled S C).set p.1.toNat p.2 := by
  unfold settled; rw [List.foldl_append]; rfl
theorem settled_sec {S : List (List Int)} {C : List (Int × List Int)} (hS : ∀ s ∈ S, Sector s) (hC : ∀ p ∈ C, Sector p.2) : ∀ s ∈ settled S C, Sector s := by
  unfold settled
  induction C generalizing S with
  | nil => exact hS
  | cons p C ih =>
    rw [List.foldl_cons]
    refine ih (fun s hs => ?_) fun q hq => hC q (.tail _ hq)
    rcases List.mem_or_eq_of_mem_set hs with h | rfl
    · exact hS s h
    · exact hC p (.head _)
theorem row_at {C : List (Int × List Int)} (hC : ∀ p ∈ C, Sector p.2) {cur : Array Value} (ht : cur.toList.take (C.length * 33) = C.flatMap wre) {j : Nat} (hj : j < C.length) :
    (cur.toList.drop (j * 33)).take 33 = wre C[j] := by
  have h1 := flatMap_at wre 33 C (fun p hp => wr_len (hC p hp)) j hj
  rw [← ht, List.drop_take, List.take_take, Nat.min_eq_left (by have : (j + 1) * 33 ≤ C.length * 33 := Nat.mul_le_mul_right 33 hj; omega)] at h1
  exact h1
set_option maxHeartbeats 2000000 in
theorem settle_some {w : World} {B b gs gm g cap : Nat} {S : List (List Int)} {C : List (Int × List Int)} (h : DiskAt w B b gs gm (.slice (some ⟨g, 0, none⟩) C.length cap) S C) (m : Nat) (hm : m ≤ C.length) :
    Calls Tryz.prog 48 #[.pointer (some ⟨b, 0, none⟩), .int .i64 m] w fun e w' =>
      e = .returned (.tuple #[]) ∧ DiskAt w' B b gs gm (.slice none 0 0) (settled S (C.take m)) [] ∧ Mod (fun k => k = b ∨ k = gs ∨ k = gm) w w' := by
  obtain ⟨hcl, hcc⟩ := h.cache
  obtain ⟨hgB, cur, hgc, hnc, hmc, hsz, htk⟩ : B ≤ g ∧ ∃ cur, w.heap[g]? = some (.cells cur 96 (0, 0)) ∧ C.length ≤ cap ∧ cap ≤ maxLen ∧ cur.size = cap * 33 ∧ cur.toList.take (C.length * 33) = C.flatMap wre := by
    rcases hcc with ⟨hn, _⟩ | ⟨g', cap', cur, e, hb, hg, h1, h2, h3, h4⟩
    · cases hn
    · cases e
      exact ⟨hb, cur, hg, h1, h2, h3, h4⟩
  have hap := foot_apart h
  have hlt := h.lt
  have c1 := cells_at h.root 1
  have hmc' : cap ≤ 9223372036854775807 := by simpa [maxLen] using hmc
  clear hcc hcl
  go_enter Tryz.func48, Tryz.ntmps48
  go_wp2_with fail
  have c0 := cells_at h.root 0
  have hS32 : ∀ j, ∀ s ∈ settled S (C.take j), Sector s := fun j => settled_sec h.sec fun p hp => (h.wrs p (List.mem_of_mem_take hp)).1
  go_loopw [13] (fun i wre' => ∃ j : Nat, j ≤ m ∧ i = .int .i64 j ∧ wre'.heap[gs]? = some (.cells (flat (settled S (C.take j))).toArray 94 (0, 0)) ∧ Mod (fun k => k = gs) w wre') (fun i _ => m - (intOf i).toNat)
  case atStart => exact ⟨0, by omega, rfl, by simpa [settled] using h.safe, Mod.refl _ _⟩
  case round =>
    obtain ⟨j, hj, rfl, hsafe, hmod⟩ := hrel
    by_cases hlt' : j < m
    · have hgc' := (hmod.block g (hlt g (.inr (.inr (.inr rfl)))).2 (hap.2.2.2 g rfl).2.1).trans hgc
      have hr' := (hmod.block b (hlt b (.inl rfl)).2 (fun e => hap.1 e.symm)).trans h.root
      obtain ⟨p, hp⟩ : ∃ p, C[j]? = some p := ⟨_, List.getElem?_eq_getElem (by omega)⟩
      have hp' : C[j] = p := by have := List.getElem?_eq_getElem (l := C) (i := j) (by omega); rw [hp] at this; exact (Option.some.inj this).symm
      have hrow := row_at (fun p hp => (h.wrs p hp).1) htk (j := j) (by omega)
      rw [hp'] at hrow
      obtain ⟨hz, hp0, hp1⟩ := h.wrs p (List.mem_of_getElem? hp)
      have htake : C.take (j + 1) = C.take j ++ [p] := by rw [List.take_succ_eq_append_getElem (show j < C.length by omega), hp']
      have hset : settled S (C.take (j + 1)) = (settled S (C.take j)).set p.1.toNat p.2 := by rw [htake, settled_snoc]
      obtain ⟨at_, z⟩ := p
      simp only at hz hp0 hp1 hset
      have hSl := settled_len S (C.take j)
      have hfl : (flat (settled S (C.take j))).length = S.length * 32 := by rw [← hSl]; exact flatMap_len sct 32 _ fun s hs => by rw [sct_len]; exact (hS32 j s hs).1
      have hspl : splice (flat (settled S (C.take j))) (at_.toNat * 32) (sct z) = flat (settled S (C.take (j + 1))) := by
        rw [hset]
        exact flatMap_splice sct 32 _ (fun s hs => by rw [sct_len]; exact (hS32 j s hs).1) at_.toNat (by omega) z (by rw [sct_len, hz.1])
      have Hset := Lib.hid hset; clear hset
      have Hspl := Lib.hid hspl; clear hspl
      have HSl := Lib.hid hSl; clear hSl
      obtain ⟨L, hL⟩ : ∃ L, L = flat (settled S (C.take j)) := ⟨_, rfl⟩
      rw [← hL] at hsafe hfl Hspl
      clear hL htake hp hp'
      have i1 : (0 : Int) ≤ (j : Int) := by omega
      have i2 : (j : Int) < (m : Int) := by omega
      have Hhap := Lib.hid hap; clear hap
      clear c0 c1
      go_wp2_with (with_reducible refine stop_load 96 ?_)
      refine unpark ?_
      refine wpList_load_at rfl _ _ rfl g (j * 33) rfl _ _ _ hgc' 33 (wre (at_, z)) (wr_len hz) hrow _ Tryz.underlying96 rfl Tryz.sizeWr ?_
      go_wp2_with (with_reducible refine stop_store 96 ?_)
      refine unpark ?_
      refine wpList_store_at rfl _ _ _ rfl _ 0 rfl _ rfl _ rfl _ _ (heap_alloc_new _ _) 33 (wr_len hz) (by decide) (wr_one _) Tryz.sizeWr ?_
      intro w2 hw2 hg2 hs2
      clear hs2
      rw [splice_all _ _ (by rw [wr_len hz]; rfl)] at hw2
      have hal : Below wr.heap.size wr w2 := ((Below.refl _ _).alloc (Nat.le_refl _) _).grown hg2 (by simp) (fun k hk => by cases hk; exact Nat.le_refl _)
      have r2 := (hal.block b (Array.getElem?_eq_some_iff.1 hr').1).trans hr'
      have s2 := (hal.block gs (Array.getElem?_eq_some_iff.1 hsafe).1).trans hsafe
      have m2 : Mod (fun k => k = gs) w w2 := hmod.trans (Mod.of_below hal : Mod (fun k => k = gs) wr w2) (fun _ h => h) (fun _ _ h => h)
      clear hg2 hal hr' hsafe hmod hgc'
      have Hm2 := Lib.hid m2; clear m2
      go_wp2_with fail
      refine wp_region_free [0, 1, 2, 3, 4, 5, 6, 7, 8, 9] (by kernel_rfl) (by kernel_rfl) rfl (by kernel_rfl) (fun _ _ _ h => nomatch h.2.1) (fun _ _ h => nomatch h.1) ?_
      simp only [List.map_cons, List.map_nil, List.getD_cons_zero, List.getD_cons_succ]
      have r3 : w2.drew.heap[b]? = _ := r2
      have s3 : w2.drew.heap[gs]? = _ := s2
      have hw3 : w2.drew.heap[wr.heap.size]? = _ := hw2
      have m3 : Mod (fun k => k = gs) w w2.drew := ⟨Hm2.out.os, Hm2.out.tape, Hm2.out.output, Hm2.out.size, Hm2.out.block⟩
      clear r2 s2 hw2 Hm2
      generalize w2.drew = w3 at r3 s3 hw3 m3 ⊢
      have Hm3 := Lib.hid m3; clear m3
      have c0 := cells_at r3 0
      have ca : w3.cell? ⟨wr.heap.size, 0, none⟩ = some (.int .i64 at_) := cells_at hw3 0
      go_wp2_with (with_reducible refine stop_load 94 ?_)
      refine unpark ?_
      refine wpList_load_at rfl _ _ rfl wr.heap.size 1 rfl _ _ _ hw3 32 (sct z) (by rw [sct_len, hz.1]) (by show (sct z).take 32 = sct z; exact List.take_of_length_le (by rw [sct_len, hz.1]; exact Nat.le_refl _)) _ Tryz.underlying94 rfl Tryz.sizeSec ?_
      go_wp2_with (with_reducible refine stop_store 94 ?_)
      refine unpark ?_
      refine wpList_store_at rfl _ _ _ rfl gs (at_.toNat * 32) rfl _ rfl _ rfl _ _ s3 32 (by rw [sct_len]; exact hz.1) (by simp; omega) (sct_one _) Tryz.sizeSec ?_
      intro w4 hw4 hg4 hs4
      clear hs4 c0 ca
      simp only at hw4
      rw [Hspl.out] at hw4
      have m4 : Mod (fun k => k = gs) w w4 := Hm3.out.trans (Mod.of_grown hg4 (F := fun k => k = gs) fun x e => by cases e; rfl) (fun _ h => h) (fun _ _ h => h)
      have Hm4 := Lib.hid m4; clear m4
      clear hg4 r3 s3 hw3 Hm3
      go_wp2_with fail
      go_roundw
      case rel => exact ⟨j + 1, by omega, by go_num, hw4, Hm4.out⟩
      case measure => simp [intOf]; omega
    · obtain rfl : j = m := by omega
      have hr' := (hmod.block b (hlt b (.inl rfl)).2 (fun e => hap.1 e.symm)).trans h.root
      have n' := h.now.keep (w' := wr) (hmod.block gm (hlt gm (.inr (.inr (.inl rfl)))).2 hap.2.2.1)
      have Hhap := Lib.hid hap; clear hap
      have Hmod := Lib.hid hmod; clear hmod
      have c1 := cells_at hr' 1
      have c2 := cells_at hr' 2
      have f1 := frozen_of_row wr b 1 _ _ hr'
      clear c0
      go_wp2_with (with_reducible refine stop_call ?_)
      have bnd := Hhap.out
      obtain ⟨w5, hw5⟩ : ∃ w5, w5 = wr.setCell ⟨b, 1, none⟩ (.slice none 0 0) := ⟨_, rfl⟩
      have oth5 : ∀ x, x ≠ b → w5.heap[x]? = wr.heap[x]? := fun x hx => by rw [hw5]; exact heap_setCell_other wr _ x _ hx
      have r5 : w5.heap[b]? = some (.cells #[.slice (some ⟨gs, 0, none⟩) S.length S.length, .slice none 0 0, .map (some gm)] 68 (0, 0)) := by
        rw [hw5]
        exact heap_setCell_same wr b 1 _ _ _ hr'
      have s5 := (oth5 gs bnd.1).trans hsafe
      have n5 := n'.keep (w' := w5) (oth5 gm bnd.2.1)
      have m5 : Mod (fun k => k = b ∨ k = gs ∨ k = gm) w w5 := Hmod.out.trans (⟨by rw [hw5]; rfl, by rw [hw5]; rfl, by rw [hw5]; rfl, by rw [hw5]; simp, fun x _ hx => oth5 x hx⟩ : Mod (fun k => k = b) wr w5) (fun _ h => .inr (.inl h)) (fun _ _ h => .inl h)
      rw [← hw5]
      clear hw5 hr' n' c1 c2 f1 hsafe Hmod oth5
      refine unpark ?_
      refine wpList_clear_int rfl _ _ rfl .i64 gm _ n5 rfl _ _ Tryz.underlying65 ?_
      intro w6 n6 hg6 hs6
      clear hs6
      have oth6 : ∀ x, x < w5.heap.size → x ≠ gm → w6.heap[x]? = w5.heap[x]? := fun x hx hne => hg6.block x hx (fun e => hne (by injection e))
      have r6 := (oth6 b (Array.getElem?_eq_some_iff.1 r5).1 (Ne.symm bnd.2.1)).trans r5
      have s6 := (oth6 gs (Array.getElem?_eq_some_iff.1 s5).1 (Ne.symm bnd.2.2.1)).trans s5
      have m6 : Mod (fun k => k = b ∨ k = gs ∨ k = gm) w w6 := m5.trans (Mod.of_grown hg6 (F := fun k => k = b ∨ k = gs ∨ k = gm) fun x e => by cases e; exact .inr (.inr rfl)) (fun _ h => h) (fun _ _ h => h)
      have Hm6 := Lib.hid m6; clear m6 m5 hg6 oth6 bnd
      go_wp2
      go_end0
      have hlenS : (settled S (C.take j)).length = S.length := settled_len S _
      exact ⟨rfl, ⟨by rw [hlenS]; exact r6, s6, ⟨rfl, .inl ⟨rfl, rfl⟩⟩, n6, hS32 j, (fun _ h => by cases h), h.bb, h.bs, h.bm, by rw [hlenS]; exact h.pos, by rw [hlenS]; exact h.len⟩, Hm6.out⟩
set_option maxHeartbeats 1000000 in
theorem settle_none {w : World} {B b gs gm : Nat} {S : List (List Int)} (h : DiskAt w B b gs gm (.slice none 0 0) S []) :
    Calls Tryz.prog 48 #[.pointer (some ⟨b, 0, none⟩), .int .i64 0] w fun e w' =>
      e = .returned (.tuple #[]) ∧ DiskAt w' B b gs gm (.slice none 0 0) S [] ∧ Mod (fun k => k = b ∨ k = gs ∨ k = gm) w w' := by
  have hap := foot_apart h
  have hr := h.root
  have hs := h.safe
  have hn := h.now
  have c1 := cells_at hr 1
  have c2 := cells_at hr 2
  have f1 := frozen_of_row w b 1 _ _ hr
  have Hap := Lib.hid hap; clear hap
  go_enter Tryz.func48, Tryz.ntmps48
  go_wp2_with fail
  go_loopw [13] (fun i wr' => i = .int .i64 0 ∧ wr' = w) (fun _ _ => 0)
  case atStart => exact ⟨rfl, rfl⟩
  case round =>
    obtain ⟨rfl, rfl⟩ := hrel
    go_wp2_with (with_reducible refine stop_call ?_)
    have bnd := Hap.out
    obtain ⟨w5, hw5⟩ : ∃ w5, w5 = wr.setCell ⟨b, 1, none⟩ (.slice none 0 0) := ⟨_, rfl⟩
    have oth5 : ∀ x, x ≠ b → w5.heap[x]? = wr.heap[x]? := fun x hx => by rw [hw5]; exact heap_setCell_other wr _ x _ hx
    have r5 : w5.heap[b]? = some (.cells #[.slice (some ⟨gs, 0, none⟩) S.length S.length, .slice none 0 0, .map (some gm)] 68 (0, 0)) := by
      rw [hw5]
      exact heap_setCell_same wr b 1 _ _ _ hr
    have s5 := (oth5 gs bnd.1).trans hs
    have n5 := hn.keep (w' := w5) (oth5 gm bnd.2.1)
    have m5 : Mod (fun k => k = b ∨ k = gs ∨ k = gm) wr w5 := (⟨by rw [hw5]; rfl, by rw [hw5]; rfl, by rw [hw5]; rfl, by rw [hw5]; simp, fun x _ hx => oth5 x fun e => hx (.inl e)⟩ : Mod (fun k => k = b ∨ k = gs ∨ k = gm) wr w5)
    rw [← hw5]
    clear hw5 hr hn hs c1 c2 f1 oth5
    refine unpark ?_
    refine wpList_clear_int rfl _ _ rfl .i64 gm _ n5 rfl _ _ Tryz.underlying65 ?_
    intro w6 n6 hg6 hs6
    clear hs6
    have oth6 : ∀ x, x < w5.heap.size → x ≠ gm → w6.heap[x]? = w5.heap[x]? := fun x hx hne => hg6.block x hx (fun e => hne (by injection e))
    have r6 := (oth6 b (Array.getElem?_eq_some_iff.1 r5).1 (Ne.symm bnd.2.1)).trans r5
    have s6 := (oth6 gs (Array.getElem?_eq_some_iff.1 s5).1 (Ne.symm bnd.2.2.1)).trans s5
    have m6 : Mod (fun k => k = b ∨ k = gs ∨ k = gm) wr w6 := m5.trans (Mod.of_grown hg6 (F := fun k => k = b ∨ k = gs ∨ k = gm) fun x e => by cases e; exact .inr (.inr rfl)) (fun _ h => h) (fun _ _ h => h)
    have Hm6 := Lib.hid m6; clear m6 m5 hg6 oth6 bnd
    go_wp2
    go_end0
    exact ⟨rfl, ⟨r6, s6, ⟨rfl, .inl ⟨rfl, rfl⟩⟩, n6, h.sec, (fun _ h => by cases h), h.bb, h.bs, h.bm, h.pos, h.len⟩, Hm6.out⟩
theorem settle_calls {w : World} {B b gs gm : Nat} {cv : Value} {S : List (List Int)} {C : List (Int × List Int)} (h : DiskAt w B b gs gm cv S C) (m : Nat) (hm : m ≤ C.length) :
    Calls Tryz.prog 48 #[.pointer (some ⟨b, 0, none⟩), .int .i64 m] w fun e w' =>
      e = .returned (.tuple #[]) ∧ DiskAt w' B b gs gm (.slice none 0 0) (settled S (C.take m)) [] ∧ Mod (fun k => k = b ∨ k = gs ∨ k = gm) w w' := by
  rcases h.cache.2 with ⟨rfl, h0⟩ | ⟨g, cap, cur, rfl, _⟩
  · obtain rfl : C = [] := List.eq_nil_of_length_eq_zero h0
    obtain rfl : m = 0 := by simpa using hm
    exact settle_none h
  · exact settle_some h m hm
theorem Flush_calls {w : World} {B b gs gm : Nat} {cv : Value} {S : List (List Int)} {C : List (Int × List Int)} (h : DiskAt w B b gs gm cv S C) :
    Calls Tryz.prog 44 #[.pointer (some ⟨b, 0, none⟩)] w fun e w' =>
      e = .returned (.tuple #[]) ∧ DiskAt w' B b gs gm (.slice none 0 0) (settled S C) [] ∧ Mod (fun k => k = b ∨ k = gs ∨ k = gm) w w' := by
  have c1 := cells_at h.root 1
  obtain ⟨a, c, rfl⟩ : ∃ a c, cv = .slice a C.length c := by
    rcases h.cache.2 with ⟨rfl, h0⟩ | ⟨g, cap, cur, rfl, _⟩
    · rw [h0]; exact ⟨_, _, rfl⟩
    · exact ⟨_, _, rfl⟩
  have hs := settle_calls h C.length (Nat.le_refl _)
  rw [List.take_length] at hs
  go_enter Tryz.func44, Tryz.ntmps44
  go_wp2_with fail
  refine hs.mono ?_
  rintro e w1 ⟨rfl, h1, m1⟩
  have Hm1 := Lib.hid m1; clear m1
  go_wp2
  go_end0
  exact ⟨rfl, h1, Hm1.out⟩
def clampTo (k : Int) (n : Nat) : Nat := (min (max k 0) (n : Int)).toNat
def torn (S : List (List Int)) (p : Int × List Int) (t : Nat) : List (List Int) := S.set p.1.toNat (p.2.take t ++ (S.getD p.1.toNat []).drop t)
def crashed (S : List (List Int)) (C : List (Int × List Int)) (keep tear : Int) : List (List Int) :=
  match C[clampTo keep C.length]? with
  | none => settled S (C.take (clampTo keep C.length))
  | some p => torn (settled S (C.take (clampTo keep C.length))) p (clampTo tear 31)
theorem clamp_run (k : Int) (n : Nat) : (if (if (0 : Int) > k then 0 else k) > (n : Int) then (n : Int) else (if (0 : Int) > k then 0 else k)) = ((clampTo k n : Nat) : Int) := by
  unfold clampTo
  split <;> split <;> omega
set_option maxHeartbeats 2000000 in
theorem Crash_some {w : World} {B b gs gm g cap : Nat} {S : List (List Int)} {C : List (Int × List Int)} (h : DiskAt w B b gs gm (.slice (some ⟨g, 0, none⟩) C.length cap) S C) (keep tear : Int) :
    Calls Tryz.prog 16 #[.pointer (some ⟨b, 0, none⟩), .int .i64 keep, .int .i64 tear] w fun e w' =>
      e = .returned (.tuple #[]) ∧ DiskAt w' B b gs gm (.slice none 0 0) (crashed S C keep tear) [] ∧ Mod (fun k => k = b ∨ k = gs ∨ k = gm) w w' := by
  obtain ⟨hcl, hcc⟩ := h.cache
  obtain ⟨hgB, cur, hgc, hnc, hmc, hsz, htk⟩ : B ≤ g ∧ ∃ cur, w.heap[g]? = some (.cells cur 96 (0, 0)) ∧ C.length ≤ cap ∧ cap ≤ maxLen ∧ cur.size = cap * 33 ∧ cur.toList.take (C.length * 33) = C.flatMap wre := by
    rcases hcc with ⟨hn, _⟩ | ⟨g', cap', cur, e, hb, hg, h1, h2, h3, h4⟩
    · cases hn
    · cases e
      exact ⟨hb, cur, hg, h1, h2, h3, h4⟩
  have hap := foot_apart h
  have hlt := h.lt
  have c1 := cells_at h.root 1
  have hmc' : cap ≤ 9223372036854775807 := by simpa [maxLen] using hmc
  clear hcc hcl
  obtain ⟨m, hm⟩ : ∃ m, m = clampTo keep C.length := ⟨_, rfl⟩
  have hmle : m ≤ C.length := by rw [hm]; unfold clampTo; omega
  have hrun := clamp_run keep C.length
  rw [← hm] at hrun
  have hmax : ∀ w, (Builtin.max_ #[3, 3] 3 #[.int .i64 keep, .int .i64 0]).run Tryz.prog w = .ok (.int .i64 (if (0 : Int) > keep then 0 else keep)) w := fun w => rfl
  obtain ⟨M, hM⟩ : ∃ M, M = (if (0 : Int) > keep then 0 else keep) := ⟨_, rfl⟩
  rw [← hM] at hrun hmax
  have hmin : ∀ w, (Builtin.min_ #[3, 3] 3 #[.int .i64 M, .int .i64 (C.length : Int)]).run Tryz.prog w = .ok (.int .i64 m) w := fun w => by rw [← hrun]; rfl
  have Hm := Lib.hid hm; clear hm
  have HM := Lib.hid hM; clear hM hrun
  obtain ⟨T, hT⟩ : ∃ T, T = clampTo tear 31 := ⟨_, rfl⟩
  have hT31 : T ≤ 31 := by rw [hT]; unfold clampTo; omega
  have hrunT := clamp_run tear 31
  rw [← hT] at hrunT
  have hmaxT : ∀ w, (Builtin.max_ #[3, 3] 3 #[.int .i64 tear, .int .i64 0]).run Tryz.prog w = .ok (.int .i64 (if (0 : Int) > tear then 0 else tear)) w := fun w => rfl
  obtain ⟨N, hN⟩ : ∃ N, N = (if (0 : Int) > tear then 0 else tear) := ⟨_, rfl⟩
  rw [← hN] at hrunT hmaxT
  have hminT : ∀ w, (Builtin.min_ #[3, 3] 3 #[.int .i64 N, .int .i64 31]).run Tryz.prog w = .ok (.int .i64 T) w := fun w => by rw [← hrunT]; rfl
  have HT := Lib.hid hT; clear hT
  clear hrunT hN
  by_cases hml : m < C.length
  · have hne : ¬ cap = m := by omega
    obtain ⟨p, hp⟩ : ∃ p, C[m]? = some p := ⟨_, List.getElem?_eq_getElem hml⟩
    have hp' : C[m] = p := by have := List.getElem?_eq_getElem (l := C) (i := m) hml; rw [hp] at this; exact (Option.some.inj this).symm
    have hrow := row_at (fun p hp => (h.wrs p hp).1) htk hml
    rw [hp'] at hrow
    obtain ⟨hz, hp0, hp1⟩ := h.wrs p (List.mem_of_getElem? hp)
    have hcr : crashed S C keep tear = torn (settled S (C.take m)) p T := by
      unfold crashed
      rw [← Hm.out, ← HT.out, hp]
    rw [hcr]
    obtain ⟨at_, z⟩ := p
    simp only at hz hp0 hp1
    obtain ⟨S1, hS1⟩ : ∃ S1, S1 = settled S (C.take m) := ⟨_, rfl⟩
    have hlen1 : S1.length = S.length := by rw [hS1]; exact settled_len S _
    have hset := settle_calls h m hmle
    rw [← hS1] at hset ⊢
    clear hS1 hcr hp hp'
    have Hlen1 := Lib.hid hlen1; clear hlen1
    have Hap := Lib.hid hap; clear hap
    go_enter Tryz.func16, Tryz.ntmps16
    go_wp2_with fail
    refine hset.mono ?_
    rintro e w1 ⟨rfl, h1, m1⟩
    have hgc1 := (m1.block g (hlt g (.inr (.inr (.inr rfl)))).2 (by have := Hap.out.2.2.2 g rfl; rintro (rfl | rfl | rfl) <;> simp at this)).trans hgc
    have Hm1 := Lib.hid m1; clear m1 hset c1
    go_wp2_with (with_reducible refine stop_load 96 ?_)
    refine unpark ?_
    refine wpList_load_at rfl _ _ rfl g (m * 33) rfl _ _ _ hgc1 33 (wre (at_, z)) (wr_len hz) hrow _ Tryz.underlying96 rfl Tryz.sizeWr ?_
    go_wp2_with (with_reducible refine stop_store 96 ?_)
    refine unpark ?_
    refine wpList_store_at rfl _ _ _ rfl _ 0 rfl _ rfl _ rfl _ _ (heap_alloc_new _ _) 33 (wr_len hz) (by decide) (wr_one _) Tryz.sizeWr ?_
    intro w2 hw2 hg2 hs2
    clear hs2
    rw [splice_all _ _ (by rw [wr_len hz]; rfl)] at hw2
    have hal : Below w1.heap.size w1 w2 := ((Below.refl _ _).alloc (Nat.le_refl _) _).grown hg2 (by simp) (fun k hk => by cases hk; exact Nat.le_refl _)
    have m2 : Mod (fun k => k = b ∨ k = gs ∨ k = gm) w w2 := Hm1.out.trans (Mod.of_below hal : Mod (fun k => k = b ∨ k = gs ∨ k = gm) w1 w2) (fun _ h => h) (fun _ _ h => h)
    have h2 := h1.keep (w' := w2) fun x hx => hal.block x (h1.lt x hx).2
    have Hm2 := Lib.hid m2; clear m2 hg2 hal hgc1 Hm1
    go_wp2_with fail
    refine wp_region_free [0, 1, 2, 3, 4, 5, 6, 7, 8, 9, 10, 11, 12, 13] (by kernel_rfl) (by kernel_rfl) rfl (by kernel_rfl) (fun _ _ _ h => nomatch h.2.1) (fun _ _ h => nomatch h.1) ?_
    simp only [List.map_cons, List.map_nil, List.getD_cons_zero, List.getD_cons_succ]
    have h3 : DiskAt w2.drew B b gs gm (.slice none 0 0) S1 [] := h2.keep fun _ _ => rfl
    have hw3 : w2.drew.heap[w1.heap.size]? = _ := hw2
    have m3 : Mod (fun k => k = b ∨ k = gs ∨ k = gm) w w2.drew := ⟨Hm2.out.os, Hm2.out.tape, Hm2.out.output, Hm2.out.size, Hm2.out.block⟩
    clear h2 hw2 Hm2
    generalize w2.drew = w3 at h3 hw3 m3 ⊢
    have Hm3 := Lib.hid m3; clear m3
    have c0 := cells_at h3.root 0
    have ca : w3.cell? ⟨w1.heap.size, 0, none⟩ = some (.int .i64 at_) := cells_at hw3 0
    have hp1' : at_ < (S1.length : Int) := by rw [Hlen1.out]; exact hp1
    have hs3 := h3.safe
    have hfl3 := h3.flat_len
    have hcz : ∀ j v, ((sct z).take T)[j]? = some v → w3.cell? ((⟨w1.heap.size, 1, none⟩ : Addr).add j) = some v := fun j v hv => by
      rw [add_none, cells_at hw3]
      rw [List.getElem?_take] at hv
      split at hv
      · simpa [wre, Nat.add_comm 1 j] using hv
      · cases hv
    have Hcz := Lib.hid hcz; clear hcz
    have hTi : (T : Int) ≤ 32 := by omega
    go_wp2_with (with_reducible refine stop_builtin .copy ?_)
    refine unpark ?_
    have hold := h3.sec_at (i := at_.toNat) (by omega)
    have hsec := h3.sec _ (List.getElem_mem (l := S1) (n := at_.toNat) (by omega))
    have hgd : S1.getD at_.toNat [] = S1[at_.toNat]'(by omega) := by rw [List.getD_eq_getElem?_getD, List.getElem?_eq_getElem (show at_.toNat < S1.length by omega)]; rfl
    have hlT : ((sct z).take T).length = T := by rw [List.length_take, sct_len, hz.1]; omega
    have hspl : splice (flat S1) (at_.toNat * 32) ((sct z).take T) = flat (torn S1 (at_, z) T) := by
      rw [splice_part hold hlT (by omega) (by omega)]
      have e : (sct z).take T ++ (sct (S1.getD at_.toNat [])).drop T = sct (z.take T ++ (S1.getD at_.toNat []).drop T) := by simp [sct]
      rw [e]
      exact flatMap_splice sct 32 S1 (fun s hs => by rw [sct_len]; exact (h3.sec s hs).1) at_.toNat (by omega) _ (by
        rw [sct_len, List.length_append, List.length_take, List.length_drop, hz.1, hgd, hsec.1]; omega)
    refine wpList_copy_own rfl _ _ _ _ rfl 5 Tryz.underlying39 (by kernel_rfl) gs (at_.toNat * 32) 32 32 ⟨w1.heap.size, 1, none⟩ T 32 rfl rfl _ _ hs3 ((sct z).take T) (by rw [hlT]; exact (Nat.min_eq_left (by omega)).symm)
      Hcz.out (by simp; omega) (fun u hu => sct_one _ u (List.mem_of_mem_take hu)) ?_
    obtain ⟨w4, hw4⟩ : ∃ w4, w4 = w3.setRow gs ((flat S1).toArray.toList.take (at_.toNat * 32) ++ ((sct z).take T ++ (flat S1).toArray.toList.drop (at_.toNat * 32 + ((sct z).take T).length))).toArray := ⟨_, rfl⟩
    rw [← hw4]
    have oth4 : ∀ x, x ≠ gs → w4.heap[x]? = w3.heap[x]? := fun x hx => by rw [hw4]; exact setRow_other w3 gs x _ hx
    have s4 : w4.heap[gs]? = some (.cells (flat (torn S1 (at_, z) T)).toArray 94 (0, 0)) := by
      rw [hw4, ← hspl]
      exact setRow_heap w3 gs _ _ _ _ hs3
    have bnd := Hap.out
    have r4 := (oth4 b (Ne.symm bnd.1)).trans h3.root
    have n4 := h3.now.keep (w' := w4) (oth4 gm bnd.2.2.1)
    have m4 : Mod (fun k => k = b ∨ k = gs ∨ k = gm) w w4 := Hm3.out.trans (⟨by rw [hw4]; rfl, by rw [hw4]; rfl, by rw [hw4]; rfl, by rw [hw4]; simp, fun x _ hx => oth4 x fun e => hx (.inr (.inl e))⟩ : Mod (fun k => k = b ∨ k = gs ∨ k = gm) w3 w4) (fun _ h => h) (fun _ _ h => h)
    have hTl : (torn S1 (at_, z) T).length = S1.length := by unfold torn; rw [List.length_set]
    have hTs : ∀ s ∈ torn S1 (at_, z) T, Sector s := by
      intro s hs
      unfold torn at hs
      rcases List.mem_or_eq_of_mem_set hs with hs | rfl
      · exact h3.sec s hs
      · refine ⟨by rw [List.length_append, List.length_take, List.length_drop, hz.1, hgd, hsec.1]; omega, fun x hx => ?_⟩
        rcases List.mem_append.1 hx with hx | hx
        · exact hz.2 x (List.mem_of_mem_take hx)
        · rw [hgd] at hx
          exact hsec.2 x (List.mem_of_mem_drop hx)
    have Hm4 := Lib.hid m4; clear m4
    have HTl := Lib.hid hTl; clear hTl
    clear hw4 oth4 hspl hold hgd hlT bnd
    go_wp2
    go_end0
    exact ⟨rfl, ⟨by rw [HTl.out]; exact r4, s4, ⟨rfl, .inl ⟨rfl, rfl⟩⟩, n4, hTs, (fun _ h => by cases h), h3.bb, h3.bs, h3.bm, by rw [HTl.out]; exact h3.pos, by rw [HTl.out]; exact h3.len⟩, Hm4.out⟩
  · obtain rfl : m = C.length := by omega
    have hcr : crashed S C keep tear = settled S C := by
      unfold crashed
      rw [← Hm.out, List.getElem?_eq_none (Nat.le_refl _), List.take_length]
    rw [hcr]
    have hset := settle_calls h C.length hmle
    rw [List.take_length] at hset
    clear hcr
    go_enter Tryz.func16, Tryz.ntmps16
    go_wp2_with fail
    all_goals
      refine hset.mono ?_
      rintro e w1 ⟨rfl, h1, m1⟩
      have Hm1 := Lib.hid m1; clear m1
      go_wp2
      go_end0
      exact ⟨rfl, h1, Hm1.out⟩
set_option maxHeartbeats 1000000 in
theorem Crash_none {w : World} {B b gs gm : Nat} {S : List (List Int)} (h : DiskAt w B b gs gm (.slice none 0 0) S []) (keep tear : Int) :
    Calls Tryz.prog 16 #[.pointer (some ⟨b, 0, none⟩), .int .i64 keep, .int .i64 tear] w fun e w' =>
      e = .returned (.tuple #[]) ∧ DiskAt w' B b gs gm (.slice none 0 0) S [] ∧ Mod (fun k => k = b ∨ k = gs ∨ k = gm) w w' := by
  have c1 := cells_at h.root 1
  have hmax : ∀ w, (Builtin.max_ #[3, 3] 3 #[.int .i64 keep, .int .i64 0]).run Tryz.prog w = .ok (.int .i64 (if (0 : Int) > keep then 0 else keep)) w := fun w => rfl
  have hrun := clamp_run keep 0
  have hc : clampTo keep 0 = 0 := by unfold clampTo; omega
  rw [hc] at hrun
  obtain ⟨M, hM⟩ : ∃ M, M = (if (0 : Int) > keep then 0 else keep) := ⟨_, rfl⟩
  rw [← hM] at hrun hmax
  have hmin : ∀ w, (Builtin.min_ #[3, 3] 3 #[.int .i64 M, .int .i64 0]).run Tryz.prog w = .ok (.int .i64 0) w := fun w => by
    have : (Builtin.min_ #[3, 3] 3 #[.int .i64 M, .int .i64 0]).run Tryz.prog w = .ok (.int .i64 (if (0 : Int) < M then 0 else M)) w := rfl
    rw [this]
    have e : (if (0 : Int) < M then 0 else M) = 0 := by simpa using hrun
    rw [e]
  clear hM hrun hc
  have hset := settle_calls h 0 (Nat.le_refl _)
  go_enter Tryz.func16, Tryz.ntmps16
  go_wp2_with fail
  refine hset.mono ?_
  rintro e w1 ⟨rfl, h1, m1⟩
  have Hm1 := Lib.hid m1; clear m1
  go_wp2
  go_end0
  exact ⟨rfl, h1, Hm1.out⟩
theorem Crash_calls {w : World} {B b gs gm : Nat} {cv : Value} {S : List (List Int)} {C : List (Int × List Int)} (h : DiskAt w B b gs gm cv S C) (keep tear : Int) :
    Calls Tryz.prog 16 #[.pointer (some ⟨b, 0, none⟩), .int .i64 keep, .int .i64 tear] w fun e w' =>
      e = .returned (.tuple #[]) ∧ DiskAt w' B b gs gm (.slice none 0 0) (crashed S C keep tear) [] ∧ Mod (fun k => k = b ∨ k = gs ∨ k = gm) w w' := by
  rcases h.cache.2 with ⟨rfl, h0⟩ | ⟨g, cap, cur, rfl, _⟩
  · obtain rfl : C = [] := List.eq_nil_of_length_eq_zero h0
    have e : crashed S [] keep tear = S := by simp [crashed, settled]
    rw [e]
    exact Crash_none h keep tear
  · exact Crash_some h keep tear

set_option maxHeartbeats 1000000 in
theorem Image_calls {w : World} {B b gs gm : Nat} {cv : Value} {S : List (List Int)} {C : List (Int × List Int)} (h : DiskAt w B b gs gm cv S C) :
    Calls Tryz.prog 26 #[.pointer (some ⟨b, 0, none⟩)] w fun e w' => ∃ v, e = .returned v ∧ Own w' w.heap.size 5 .u8 v S.flatten ∧ Below w.heap.size w w' := by
  have c0 := cells_at h.root 0
  have hp := h.len
  have hlt := h.lt
  have hflat : ∀ j, j ≤ S.length → (S.take j).flatten.length = j * 32 := by
    intro j hj
    induction j with
    | zero => simp
    | succ j ih =>
      rw [List.take_succ_eq_append_getElem (show j < S.length by omega), List.flatten_append, List.length_append, ih (by omega)]
      have := (h.sec _ (List.getElem_mem (l := S) (n := j) (by omega))).1
      simp [this]
      omega
  go_enter Tryz.func26, Tryz.ntmps26
  go_wp2_with fail
  go_loopw [3, 11] (fun v i wr' => ∃ j : Nat, j ≤ S.length ∧ i = .int .i64 j ∧ Own wr' w.heap.size 5 .u8 v (S.take j).flatten ∧ Below w.heap.size w wr') (fun _ i _ => S.length - (intOf i).toNat)
  case atStart => exact ⟨0, by omega, rfl, ⟨World.ownsRow_nil _ _ _ _, fun _ h => by simp at h⟩, Below.refl _ _⟩
  case round =>
    obtain ⟨j, hj, rfl, hown, hbel⟩ := hrel
    by_cases hlt' : j < S.length
    · have h' := h.keep (w' := wr) fun x hx => hbel.block x (hlt x hx).2
      have hs := h'.safe
      have hsa := h'.sec_at hlt'
      have hz := h.sec _ (List.getElem_mem (l := S) (n := j) hlt')
      have hge : S.getD j [] = S[j] := by rw [List.getD_eq_getElem?_getD, List.getElem?_eq_getElem hlt']; rfl
      have htake : (S.take (j + 1)).flatten = (S.take j).flatten ++ S[j] := by rw [List.take_succ_eq_append_getElem hlt', List.flatten_append]; simp only [List.flatten_cons, List.flatten_nil, List.append_nil]
      rw [hge] at hsa
      have hfj := hflat j hj
      obtain ⟨Z, hZ⟩ : ∃ Z, Z = S[j] := ⟨_, rfl⟩
      rw [← hZ] at hsa hz htake
      clear hge hZ c0
      have Htake := Lib.hid htake; clear htake
      have Hbel := Lib.hid hbel; clear hbel
      have i1 : (0 : Int) ≤ (j : Int) := by omega
      have i2 : (j : Int) < (S.length : Int) := by omega
      go_wp2_with (with_reducible refine stop_load 94 ?_)
      refine unpark ?_
      refine wpList_load_at rfl _ _ rfl gs (j * 32) rfl _ _ _ hs 32 (sct Z) (by rw [sct_len, hz.1]) (by simpa using hsa) _ Tryz.underlying94 rfl Tryz.sizeSec ?_
      go_wp2_with (with_reducible refine stop_store 94 ?_)
      refine unpark ?_
      refine wpList_store_at rfl _ _ _ rfl _ 0 rfl _ rfl _ rfl _ _ (heap_alloc_new _ _) 32 (by rw [sct_len]; exact hz.1) (by decide) (sct_one _) Tryz.sizeSec ?_
      intro w2 hw2 hg2 hs2
      clear hs2
      rw [splice_all _ _ (by rw [sct_len, hz.1]; rfl)] at hw2
      have hal : Below wr.heap.size wr w2 := ((Below.refl _ _).alloc (Nat.le_refl _) _).grown hg2 (by simp) (fun k hk => by cases hk; exact Nat.le_refl _)
      have own2 := hown.below hal
      have bel2 := Hbel.out.trans (hal.mono Hbel.out.size)
      have hi2 := ints_of_sct hz hw2
      have Hbel2 := Lib.hid bel2; clear bel2
      clear hg2 hal hown Hbel hs hw2
      go_wp2_with (with_reducible refine stop_builtin .append ?_)
      refine unpark ?_
      refine wpList_append_ints _ rfl _ _ 39 rfl .u8 w.heap.size 5 (.int .u8 0) 1 Tryz.underlying39 Tryz.infoU8 rfl _ _ rfl own2 _ 32 32 Z rfl hi2 (by rw [hfj]; omega) (by decide) Hbel2.out.size ?_
      intro v' w3 hown3 hg3 hne3
      have bel3 := Hbel2.out.grown hg3 Hbel2.out.size (fun k hk => (own2.block k hk).1)
      rw [← Htake.out] at hown3
      have Hbel3 := Lib.hid bel3; clear bel3
      have Hown3 := Lib.hid hown3; clear hown3
      clear hg3 hne3 own2 hi2
      go_wp2_with fail
      go_roundw
      case rel => exact ⟨j + 1, by omega, by go_num, Hown3.out, Hbel3.out⟩
      case measure => simp [intOf]; omega
    · obtain rfl : j = S.length := by omega
      rw [List.take_length] at hown
      have Hown := Lib.hid hown; clear hown
      have Hbel := Lib.hid hbel; clear hbel
      go_wp2
      go_ret
      exact ⟨_, rfl, Hown.out, Hbel.out⟩
def fresh (n : Nat) : List (List Int) := List.replicate n zsec
theorem fresh_sec (n : Nat) : ∀ s ∈ fresh n, Sector s := by
  intro s hs
  obtain ⟨_, rfl⟩ := List.mem_replicate.1 hs
  exact ⟨rfl, by decide⟩
theorem Tryz.infoSec : (Tryz.prog.info? 94).map (fun i => (i.zero, i.size, i.bytes)) = some (some (.agg (sct zsec).toArray), 32, 32) := by kernel_rfl
theorem made_flat (n : Nat) : madeCells (sct zsec).toArray (n * 32) = (flat (fresh n)).toArray := by
  have h0 : ∀ i, (sct zsec).toArray[i % (sct zsec).toArray.size]! = .int .u8 0 := by
    intro i
    have hsz : (sct zsec).toArray.size = 32 := by rw [List.size_toArray, sct_len]; rfl
    rw [hsz]
    have hlt : i % 32 < 32 := Nat.mod_lt _ (by decide)
    have hr : (sct zsec) = List.replicate 32 (Value.int .u8 0) := rfl
    have hm : (sct zsec).toArray[i % 32]! ∈ sct zsec := by
      rw [getElem!_pos _ _ (by rw [hsz]; exact hlt), List.getElem_toArray]
      exact List.getElem_mem _
    rw [hr] at hm ⊢
    exact (List.mem_replicate.1 hm).2
  apply Array.ext
  · simp [madeCells, flat, fresh, sct_len, flatMap_len sct 32 (List.replicate n zsec) (fun s hs => by rw [sct_len]; exact (fresh_sec n s hs).1)]
  · intro i h1 h2
    have e1 : (madeCells (sct zsec).toArray (n * 32))[i] = .int .u8 0 := by
      simp only [madeCells, Array.getElem_map, Array.getElem_range]
      exact h0 i
    rw [e1]
    have : ∀ u ∈ flat (fresh n), u = Value.int .u8 0 := by
      intro u hu
      obtain ⟨s, hs, hu⟩ := List.mem_flatMap.1 hu
      obtain ⟨_, rfl⟩ := List.mem_replicate.1 hs
      have hr : (sct zsec) = List.replicate 32 (Value.int .u8 0) := rfl
      rw [hr] at hu
      exact (List.mem_replicate.1 hu).2
    exact (this _ (by rw [List.getElem_toArray]; exact List.getElem_mem _)).symm
set_option maxHeartbeats 1000000 in
theorem New_calls {w : World} {n : Nat} (h1 : 1 ≤ n) (h2 : n ≤ 512) :
    Calls Tryz.prog 6 #[.int .i64 n] w fun e w' => ∃ b gs gm, e = .returned (.tuple #[.pointer (some ⟨b, 0, none⟩), .int .i64 0]) ∧ DiskAt w' w.heap.size b gs gm (.slice none 0 0) (fresh n) [] ∧ Below w.heap.size w w' := by
  obtain ⟨i, hi, hz0, hz1, hz2⟩ := info_parts Tryz.infoSec
  have hmk : ∀ w : World, (Instr.makeSlice 64 (.int .i64 (n : Int)) (.int .i64 (n : Int))).run Tryz.prog w = .ok (.slice (some ⟨w.heap.size, 0, none⟩) n n) (w.alloc (.cells (flat (fresh n)).toArray 94)) := fun w => by
    have := run_makeSlice (P := Tryz.prog) w 64 94 i _ Tryz.underlying64 hi hz0 .i64 .i64 (n : Int) (n : Int) (by omega) (Int.le_refl _) (by rw [hz1]; simp; omega) (by rw [hz2]; omega) (by omega)
    simp only [Int.toNat_natCast, hz1] at this
    rw [this]
    have e : (Value.agg (sct zsec).toArray).cells = (sct zsec).toArray := rfl
    rw [e, made_flat]
  have hd : decide ((n : Int) < 1) = false := decide_eq_false (by omega)
  have hd2 : decide (512 < (n : Int)) = false := decide_eq_false (by omega)
  have hfl : (fresh n).length = n := by simp [fresh]
  have hmm : ∀ w : World, (Instr.makeMap 65 none).run Tryz.prog w = .ok (.map (some w.heap.size)) (w.alloc (.map #[] 0)) := fun w => rfl
  go_enter Tryz.func6, Tryz.ntmps6
  go_wp2_with (with_reducible refine stop_build 68 ?_)
  refine unpark ?_
  refine wpList_build2 rfl _ _ _ _ _ rfl _ _ rfl rfl (.agg #[.slice (some ⟨w.heap.size, 0, none⟩) n n, .slice none 0 0, .map (some (w.heap.size + 1))]) (by kernel_rfl) ?_
  go_wp2
  go_ret2
  have e1 : (w.alloc (.cells (flat (fresh n)).toArray 94)).heap.size = w.heap.size + 1 := by simp
  have e2 : ((w.alloc (.cells (flat (fresh n)).toArray 94)).alloc (.map #[] 0)).heap.size = w.heap.size + 1 + 1 := by simp
  obtain ⟨w1, hw1⟩ : ∃ w1, w1 = w.alloc (.cells (flat (fresh n)).toArray 94) := ⟨_, rfl⟩
  rw [← hw1] at e1 e2 ⊢
  obtain ⟨w2, hw2⟩ : ∃ w2, w2 = w1.alloc (.map #[] 0) := ⟨_, rfl⟩
  rw [← hw2] at e2 ⊢
  have b1 : Below w.heap.size w w1 := by rw [hw1]; exact (Below.refl _ _).alloc (Nat.le_refl _) _
  have b2 : Below w.heap.size w w2 := by rw [hw2]; exact b1.alloc b1.size _
  have s1 : w1.heap[w.heap.size]? = some (.cells (flat (fresh n)).toArray 94 (0, 0)) := by rw [hw1]; exact heap_alloc_new w _
  have s2 : w2.heap[w.heap.size]? = some (.cells (flat (fresh n)).toArray 94 (0, 0)) := by
    rw [hw2, heap_alloc_old w1 _ (by omega)]; exact s1
  have n2 : MapI w2 .i64 (w.heap.size + 1) (fun _ => none) := by rw [hw2, ← e1]; exact MapI.made w1 .i64
  refine ⟨w.heap.size + 1 + 1, w.heap.size, w.heap.size + 1, rfl, ⟨?_, ?_, ⟨rfl, .inl ⟨rfl, rfl⟩⟩, ?_, fresh_sec n, (fun _ h => by cases h), by omega, Nat.le_refl _, by omega, by omega, by omega⟩, b2.alloc b2.size _⟩
  · rw [hfl, ← e2]; exact heap_alloc_new w2 _
  · rw [heap_alloc_old w2 _ (by omega)]; exact s2
  · exact n2.keep (heap_alloc_old w2 _ (by omega))
structure Dev (w0 w : World) (b : Nat) (F : Nat → Prop) (s : State) : Prop where
  dev : ∃ gs gm cv, DiskAt w w0.heap.size b gs gm cv s.1 s.2 ∧ ∀ k, foot b gs gm cv k → F k
  low : ∀ k, F k → w0.heap.size ≤ k ∧ k < w.heap.size
  bel : Below w0.heap.size w0 w
theorem DiskAt.mono {w : World} {B B' b gs gm : Nat} {cv : Value} {S : List (List Int)} {C : List (Int × List Int)} (h : DiskAt w B b gs gm cv S C) (hB : B' ≤ B) : DiskAt w B' b gs gm cv S C :=
  { h with
    cache := by
      refine ⟨h.cache.1, ?_⟩
      rcases h.cache.2 with hn | ⟨g, cap, cur, e, hb, rest⟩
      · exact .inl hn
      · exact .inr ⟨g, cap, cur, e, by omega, rest⟩
    bb := Nat.le_trans hB h.bb
    bs := Nat.le_trans hB h.bs
    bm := Nat.le_trans hB h.bm }
section
variable {w0 w w' : World} {b : Nat} {F : Nat → Prop} {s : State}
theorem Dev.size (h : Dev w0 w b F s) : w0.heap.size ≤ w.heap.size := h.bel.size
theorem Dev.step (h : Dev w0 w b F s) (hb : Below w.heap.size w w') : Dev w0 w' b F s where
  dev := by
    obtain ⟨gs, gm, cv, hd, hf⟩ := h.dev
    exact ⟨gs, gm, cv, hd.keep fun k hk => hb.block k (hd.lt k hk).2, hf⟩
  low := fun k hk => ⟨(h.low k hk).1, Nat.lt_of_lt_of_le (h.low k hk).2 hb.size⟩
  bel := h.bel.trans (hb.mono h.bel.size)
/-- What another device does. -/
theorem Dev.aside {G : Nat → Prop} (h : Dev w0 w b F s) (hm : Mod G w w') (ha : ∀ k, F k → ¬ G k) (hG : ∀ k, G k → w0.heap.size ≤ k) : Dev w0 w' b F s where
  dev := by
    obtain ⟨gs, gm, cv, hd, hf⟩ := h.dev
    exact ⟨gs, gm, cv, hd.keep fun k hk => hm.block k (hd.lt k hk).2 (ha k (hf k hk)), hf⟩
  low := fun k hk => ⟨(h.low k hk).1, Nat.lt_of_lt_of_le (h.low k hk).2 hm.size⟩
  bel := hm.below h.bel h.bel.size hG
theorem Dev.wide (h : Dev w0 w b F s) {G : Nat → Prop} (hG : ∀ k, F k → G k) (hl : ∀ k, G k → w0.heap.size ≤ k ∧ k < w.heap.size) : Dev w0 w b G s where
  dev := by
    obtain ⟨gs, gm, cv, hd, hf⟩ := h.dev
    exact ⟨gs, gm, cv, hd, fun k hk => hG k (hf k hk)⟩
  low := hl
  bel := h.bel
theorem Dev.len (h : Dev w0 w b F s) : 0 < s.1.length ∧ s.1.length ≤ 512 := by
  obtain ⟨gs, gm, cv, hd, hf⟩ := h.dev
  exact ⟨hd.pos, hd.len⟩
theorem Dev.sector (h : Dev w0 w b F s) {k : Int} (hk : 0 ≤ k ∧ k < (s.1.length : Int)) : Sector (readOf s.1 s.2 k) := by
  obtain ⟨gs, gm, cv, hd, hf⟩ := h.dev
  exact readOf_sector hd hk
theorem Dev.sec (h : Dev w0 w b F s) : ∀ z ∈ s.1, Sector z := by
  obtain ⟨gs, gm, cv, hd, hf⟩ := h.dev
  exact hd.sec
theorem Dev.wrs (h : Dev w0 w b F s) : ∀ p ∈ s.2, Sector p.2 ∧ 0 ≤ p.1 ∧ p.1 < s.1.length := by
  obtain ⟨gs, gm, cv, hd, hf⟩ := h.dev
  exact hd.wrs
theorem New_dev {n : Nat} (hw : Below w0.heap.size w0 w) (h1 : 1 ≤ n) (h2 : n ≤ 512) :
    Calls Tryz.prog 6 #[.int .i64 n] w fun e w' => ∃ b F, e = .returned (.tuple #[.pointer (some ⟨b, 0, none⟩), .int .i64 0]) ∧ Dev w0 w' b F (fresh n, []) ∧ (∀ k, F k → w.heap.size ≤ k) ∧ Below w.heap.size w w' := by
  refine (New_calls h1 h2).mono ?_
  rintro e w' ⟨b, gs, gm, rfl, hd, hb⟩
  refine ⟨b, foot b gs gm (.slice none 0 0), rfl, ⟨⟨gs, gm, _, hd.mono hw.size, fun _ h => h⟩, fun k hk => ⟨Nat.le_trans hw.size (hd.lt k hk).1, (hd.lt k hk).2⟩, hw.trans (hb.mono hw.size)⟩, fun k hk => (hd.lt k hk).1, hb⟩
theorem Loose_dev (h : Dev w0 w b F s) :
    Calls Tryz.prog 28 #[.pointer (some ⟨b, 0, none⟩)] w fun e w' => e = .returned (.int .i64 (s.2.length : Int)) ∧ w = w' := by
  obtain ⟨gs, gm, cv, hd, hf⟩ := h.dev
  exact (Loose_calls hd).mono fun e w' h => ⟨h.1, h.2.symm⟩
theorem Sectors_dev (h : Dev w0 w b F s) :
    Calls Tryz.prog 32 #[.pointer (some ⟨b, 0, none⟩)] w fun e w' => e = .returned (.int .i64 (s.1.length : Int)) ∧ w = w' := by
  obtain ⟨gs, gm, cv, hd, hf⟩ := h.dev
  exact (Sectors_calls hd).mono fun e w' h => ⟨h.1, h.2.symm⟩
def readErr (s : State) (k : Int) : Int := if 0 ≤ k ∧ k < (s.1.length : Int) then 0 else 11
theorem Read_dev (h : Dev w0 w b F s) (k : Int) :
    Calls Tryz.prog 65 #[.pointer (some ⟨b, 0, none⟩), .int .i64 k] w fun e w' =>
      ∃ v, e = .returned (.tuple #[v, .int .i64 (readErr s k)]) ∧ Own w' w.heap.size 5 .u8 v (readOf s.1 s.2 k) ∧ Below w.heap.size w w' ∧ Dev w0 w' b F s := by
  obtain ⟨gs, gm, cv, hd, hf⟩ := h.dev
  exact (Read_calls hd k).mono fun e w' ⟨v, h1, h2, h3⟩ => ⟨v, h1, h2, h3, h.step h3⟩
theorem Image_dev (h : Dev w0 w b F s) :
    Calls Tryz.prog 26 #[.pointer (some ⟨b, 0, none⟩)] w fun e w' => ∃ v, e = .returned v ∧ Own w' w.heap.size 5 .u8 v s.1.flatten ∧ Below w.heap.size w w' ∧ Dev w0 w' b F s := by
  obtain ⟨gs, gm, cv, hd, hf⟩ := h.dev
  exact (Image_calls hd).mono fun e w' ⟨v, h1, h2, h3⟩ => ⟨v, h1, h2, h3, h.step h3⟩
theorem Write_dev (h : Dev w0 w b F s) (k : Int) {a : Option Addr} {n c : Nat} {zs : List Int} (hx : Ints w .u8 a n c zs) (hC : s.2.length ≤ 1000000) :
    Calls Tryz.prog 19 #[.pointer (some ⟨b, 0, none⟩), .int .i64 k, .slice a n c] w fun e w' =>
      e = .returned (.int .i64 (writeErr s.1 k n)) ∧ Dev w0 w' b (grownF F w w') (s.1, written s.1 s.2 k zs) ∧ Mod F w w' := by
  obtain ⟨gs, gm, cv, hd, hf⟩ := h.dev
  refine (Write_calls hd k hx hC).mono ?_
  rintro e w' ⟨cv', rfl, hd', hm, ho⟩
  have hm' : Mod F w w' := hm.mono fun x hx => hf x hx
  refine ⟨rfl, ⟨⟨gs, gm, cv', hd', ?_⟩, ?_, hm'.below h.bel h.bel.size fun x hx => (h.low x hx).1⟩, hm'⟩
  · rintro k (rfl | rfl | rfl | hk)
    · exact .inl (hf _ (.inl rfl))
    · exact .inl (hf _ (.inr (.inl rfl)))
    · exact .inl (hf _ (.inr (.inr (.inl rfl))))
    · rcases ho k hk with h1 | h1
      · exact .inl (hf _ (.inr (.inr (.inr h1))))
      · exact .inr ⟨h1, (hd'.lt k (.inr (.inr (.inr hk)))).2⟩
  · rintro k (hk | hk)
    · exact ⟨(h.low k hk).1, Nat.lt_of_lt_of_le (h.low k hk).2 hm'.size⟩
    · exact ⟨Nat.le_trans h.bel.size hk.1, hk.2⟩
theorem Dev.flat3 {gs gm : Nat} {cv : Value} {S' : List (List Int)} (h : Dev w0 w b F s) (hf : ∀ k, foot b gs gm cv k → F k) (hd' : DiskAt w' w0.heap.size b gs gm (.slice none 0 0) S' []) (hm : Mod (fun k => k = b ∨ k = gs ∨ k = gm) w w') :
    Dev w0 w' b F (S', []) ∧ Mod F w w' := by
  have hm' : Mod F w w' := hm.mono fun x hx => hf x (hx.elim .inl fun h => h.elim (fun h => .inr (.inl h)) fun h => .inr (.inr (.inl h)))
  refine ⟨⟨⟨gs, gm, _, hd', ?_⟩, fun k hk => ⟨(h.low k hk).1, Nat.lt_of_lt_of_le (h.low k hk).2 hm'.size⟩, hm'.below h.bel h.bel.size fun x hx => (h.low x hx).1⟩, hm'⟩
  rintro k (rfl | rfl | rfl | hk)
  · exact hf _ (.inl rfl)
  · exact hf _ (.inr (.inl rfl))
  · exact hf _ (.inr (.inr (.inl rfl)))
  · cases hk
theorem Flush_dev (h : Dev w0 w b F s) :
    Calls Tryz.prog 44 #[.pointer (some ⟨b, 0, none⟩)] w fun e w' =>
      e = .returned (.tuple #[]) ∧ Dev w0 w' b F (settled s.1 s.2, []) ∧ Mod F w w' := by
  obtain ⟨gs, gm, cv, hd, hf⟩ := h.dev
  exact (Flush_calls hd).mono fun e w' ⟨h1, h2, h3⟩ => ⟨h1, h.flat3 hf h2 h3⟩
theorem Crash_dev (h : Dev w0 w b F s) (keep tear : Int) :
    Calls Tryz.prog 16 #[.pointer (some ⟨b, 0, none⟩), .int .i64 keep, .int .i64 tear] w fun e w' =>
      e = .returned (.tuple #[]) ∧ Dev w0 w' b F (crashed s.1 s.2 keep tear, []) ∧ Mod F w w' := by
  obtain ⟨gs, gm, cv, hd, hf⟩ := h.dev
  exact (Crash_calls hd keep tear).mono fun e w' ⟨h1, h2, h3⟩ => ⟨h1, h.flat3 hf h2 h3⟩
end
theorem lastOf_cons (p : Int × List Int) (C : List (Int × List Int)) (k : Int) : lastOf (p :: C) k = (lastOf C k).or (if p.1 = k then some p.2 else none) := by
  unfold lastOf
  rw [List.reverse_cons, List.find?_append]
  cases hf : C.reverse.find? fun q => q.1 == k with
  | some q => simp
  | none =>
    by_cases h : p.1 = k
    · simp [h]
    · simp [h]
theorem getD_set (S : List (List Int)) (i k : Nat) (z : List Int) (hk : k < S.length) : (S.set i z).getD k [] = if i = k then z else S.getD k [] := by
  rw [List.getD_eq_getElem?_getD, List.getElem?_set]
  split
  · rename_i h; subst h; simp [hk]
  · rw [List.getD_eq_getElem?_getD]
theorem settled_at {C : List (Int × List Int)} : ∀ {S : List (List Int)} (k : Nat), k < S.length → (∀ p ∈ C, 0 ≤ p.1) → (settled S C).getD k [] = (lastOf C (k : Int)).getD (S.getD k []) := by
  induction C with
  | nil => intro S k _ _; rfl
  | cons p C ih =>
    intro S k hk hC
    have h0 := hC p (.head _)
    have e : settled S (p :: C) = settled (S.set p.1.toNat p.2) C := rfl
    rw [e, ih k (by simpa using hk) (fun q hq => hC q (.tail _ hq)), lastOf_cons, getD_set S _ k _ hk]
    cases lastOf C (k : Int) with
    | some z => rfl
    | none =>
      by_cases h : p.1 = (k : Int)
      · have : p.1.toNat = k := by omega
        simp [h]
      · have : p.1.toNat ≠ k := by omega
        simp [h, this]
theorem readOf_in {S : List (List Int)} {C : List (Int × List Int)} {k : Nat} (hk : k < S.length) : readOf S C (k : Int) = (lastOf C (k : Int)).getD (S.getD k []) := by
  unfold readOf
  rw [if_pos (by omega)]
  simp
theorem readOf_settled {S : List (List Int)} {C : List (Int × List Int)} {k : Nat} (hk : k < S.length) (hC : ∀ p ∈ C, 0 ≤ p.1) : (settled S C).getD k [] = readOf S C (k : Int) := by
  rw [readOf_in hk, settled_at k hk hC]
theorem readOf_flat {S : List (List Int)} {k : Nat} (hk : k < S.length) : readOf S [] (k : Int) = S.getD k [] := by
  rw [readOf_in hk]; rfl
theorem readOf_flushed {S : List (List Int)} {C : List (Int × List Int)} {k : Nat} (hk : k < S.length) (hC : ∀ p ∈ C, 0 ≤ p.1) : readOf (settled S C) [] (k : Int) = readOf S C (k : Int) := by
  rw [readOf_flat (by rw [settled_len]; exact hk), readOf_settled hk hC]
theorem crashed_len (S : List (List Int)) (C : List (Int × List Int)) (kp te : Int) : (crashed S C kp te).length = S.length := by
  simp only [crashed]
  split
  · exact settled_len _ _
  · unfold torn; rw [List.length_set]; exact settled_len _ _
end Go.Proofs.YtgpedejeifmfdaaGreat
