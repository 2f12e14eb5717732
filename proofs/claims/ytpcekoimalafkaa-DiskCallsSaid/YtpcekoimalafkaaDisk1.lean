/- The device: what it is in memory, and what its functions do. -/
import Derived.Test.YtpcekoimalafkaaCells
import Derived.Test.YtpcekoimalafkaaFree
import Derived.Test.YtpcekoimalafkaaUse
namespace Go.Proofs.Ytpcekoimalafkaa
open Go.RowKit

/-! ### plain -/
def sct (z : List Int) : List Value := z.map (Value.int .u8)
def Sector (z : List Int) : Prop := z.length = 32 ∧ ∀ x ∈ z, (Lit.int .u8 x).wf = true
def flat (S : List (List Int)) : List Value := S.flatMap sct
def wre (p : Int × List Int) : List Value := .int .i64 p.1 :: sct p.2
def lastOf (C : List (Int × List Int)) (k : Int) : Option (List Int) := (C.reverse.find? fun p => p.1 == k).map (·.2)

theorem lastOf_snoc (C : List (Int × List Int)) (a : Int) (z : List Int) (k : Int) : lastOf (C ++ [(a, z)]) k = if k = a then some z else lastOf C k := by
  unfold lastOf
  rw [List.reverse_append, List.reverse_singleton, List.singleton_append, List.find?_cons]
  by_cases h : k = a
  · subst h; simp
  · have : ((a, z).1 == k) = false := by simp; omega
    rw [this, if_neg h]
theorem sct_len (z : List Int) : (sct z).length = z.length := by simp [sct]
theorem sct_one (z : List Int) : ∀ u ∈ sct z, u.oneCell' = true := by
  intro u hu
  obtain ⟨x, _, rfl⟩ := List.mem_map.1 hu
  rfl
theorem wr_len {p : Int × List Int} (h : Sector p.2) : (wre p).length = 33 := by simp [wre, sct_len, h.1]
theorem wr_one (p : Int × List Int) : ∀ u ∈ wre p, u.oneCell' = true := by
  intro u hu
  rcases List.mem_cons.1 hu with rfl | hu
  · rfl
  · exact sct_one _ u hu
/-- rows of one length, one behind the other -/
theorem flatMap_len {α : Type} (f : α → List Value) (n : Nat) : ∀ (l : List α), (∀ x ∈ l, (f x).length = n) → (l.flatMap f).length = l.length * n
  | [], _ => by simp
  | x :: l, h => by
    rw [List.flatMap_cons, List.length_append, h x (.head _), flatMap_len f n l (fun y hy => h y (.tail _ hy)), List.length_cons, Nat.succ_mul, Nat.add_comm]
theorem flatMap_at {α : Type} (f : α → List Value) (n : Nat) : ∀ (l : List α), (∀ x ∈ l, (f x).length = n) → ∀ i (hi : i < l.length), ((l.flatMap f).drop (i * n)).take n = f l[i]
  | x :: l, h, 0, _ => by
    rw [List.flatMap_cons, Nat.zero_mul, List.drop_zero, List.take_append_of_le_length (by rw [h x (.head _)]; exact Nat.le_refl _), List.take_of_length_le (by rw [h x (.head _)]; exact Nat.le_refl _)]
    rfl
  | x :: l, h, i + 1, hi => by
    have hx := h x (.head _)
    rw [List.flatMap_cons, Nat.succ_mul, Nat.add_comm, List.drop_append, hx, show n + i * n - n = i * n by omega, List.drop_of_length_le (by omega), List.nil_append,
      flatMap_at f n l (fun y hy => h y (.tail _ hy)) i (by simpa using hi)]
    rfl
theorem flatMap_splice {α : Type} (f : α → List Value) (n : Nat) : ∀ (l : List α), (∀ x ∈ l, (f x).length = n) → ∀ i (_ : i < l.length) (y : α), (f y).length = n → splice (l.flatMap f) (i * n) (f y) = (l.set i y).flatMap f
  | x :: l, h, 0, _, y, hy => by
    have hx := h x (.head _)
    simp only [splice, List.flatMap_cons, Nat.zero_mul, List.take_zero, List.nil_append, Nat.zero_add, List.set_cons_zero, hy]
    rw [List.drop_append, hx, Nat.sub_self, List.drop_zero, List.drop_of_length_le (by omega), List.nil_append]
  | x :: l, h, i + 1, hi, y, hy => by
    have hx := h x (.head _)
    have ih := flatMap_splice f n l (fun y hy => h y (.tail _ hy)) i (by simpa using hi) y hy
    simp only [splice, List.flatMap_cons, List.set_cons_succ, hy] at ih ⊢
    rw [← ih, Nat.succ_mul, List.take_append, List.drop_append, hx, show i * n + n - n = i * n by omega, show i * n + n + n - n = i * n + n by omega,
      List.take_of_length_le (by omega), List.drop_of_length_le (by omega), List.nil_append, List.append_assoc]

/-! ### worlds -/
structure Mod (F : Nat → Prop) (w w' : World) : Prop where
  os : w'.os = w.os
  tape : w'.tape = w.tape
  output : w'.output = w.output
  size : w.heap.size ≤ w'.heap.size
  block : ∀ k, k < w.heap.size → ¬ F k → w'.heap[k]? = w.heap[k]?
theorem Mod.refl (F : Nat → Prop) (w : World) : Mod F w w := ⟨rfl, rfl, rfl, Nat.le_refl _, fun _ _ _ => rfl⟩
theorem Mod.trans {F G H : Nat → Prop} {a b c : World} (h : Mod F a b) (k : Mod G b c) (hF : ∀ x, F x → H x) (hG : ∀ x, x < a.heap.size → G x → H x) : Mod H a c :=
  ⟨k.os.trans h.os, k.tape.trans h.tape, k.output.trans h.output, Nat.le_trans h.size k.size,
   fun i hi hn => (k.block i (Nat.lt_of_lt_of_le hi h.size) (fun hg => hn (hG i hi hg))).trans (h.block i hi (fun hf => hn (hF i hf)))⟩
theorem Mod.mono {F H : Nat → Prop} {a b : World} (h : Mod F a b) (hF : ∀ x, F x → H x) : Mod H a b :=
  ⟨h.os, h.tape, h.output, h.size, fun i hi hn => h.block i hi fun hf => hn (hF i hf)⟩
theorem Mod.of_grown {w w' : World} {row : Option Nat} {F : Nat → Prop} (h : w.grownBy w' row) (hF : ∀ k, row = some k → F k) : Mod F w w' :=
  ⟨h.os, h.tape, h.output, h.size, fun i hi hn => h.block i hi fun e => hn (hF i e.symm)⟩
theorem Mod.of_below {w w' : World} {F : Nat → Prop} (h : Below w.heap.size w w') : Mod F w w' :=
  ⟨h.os, h.tape, h.output, h.size, fun i hi _ => h.block i hi⟩
theorem Mod.below {F : Nat → Prop} {B : Nat} {w0 w w' : World} (h : Mod F w w') (hb : Below B w0 w) (hB : B ≤ w.heap.size) (hF : ∀ k, F k → B ≤ k) : Below B w0 w' :=
  hb.trans ⟨h.os, h.tape, h.output, h.size, fun i hi => h.block i (by omega) fun hf => by have := hF i hf; omega⟩
theorem Mod.ints {F : Nat → Prop} {w w' : World} (h : Mod F w w') {k : IntKind} {a : Option Addr} {n c : Nat} {zs : List Int} (hx : Ints w k a n c zs) (hn : ∀ b o, a = some ⟨b, o, none⟩ → ¬ F b) : Ints w' k a n c zs :=
  hx.keepOn fun b o e hlt => h.block b hlt (hn b o e)
theorem Mod.own {F : Nat → Prop} {w w' : World} (h : Mod F w w') {B : Nat} {E : TypeId} {k : IntKind} {v : Value} {zs : List Int} (hx : Own w B E k v zs) (hn : ∀ g, v.ownBlock = some g → ¬ F g) : Own w' B E k v zs :=
  hx.keep fun g e hlt => h.block g hlt (hn g e)

/-! ### the device in memory -/
structure DiskAt (w : World) (B b gs gm : Nat) (cv : Value) (S : List (List Int)) (C : List (Int × List Int)) : Prop where
  root : w.heap[b]? = some (.cells #[.slice (some ⟨gs, 0, none⟩) S.length S.length, cv, .map (some gm)] 58 (0, 0))
  safe : w.heap[gs]? = some (.cells (flat S).toArray 61 (0, 0))
  cache : w.ownsRow B 63 33 cv C.length (C.flatMap wre)
  now : MapI w .i64 gm (fun k => (lastOf C k).map fun z => .agg (sct z).toArray)
  sec : ∀ s ∈ S, Sector s
  wrs : ∀ p ∈ C, Sector p.2 ∧ 0 ≤ p.1 ∧ p.1 < S.length
  bb : B ≤ b
  bs : B ≤ gs
  bm : B ≤ gm
  pos : 0 < S.length
  len : S.length ≤ 512
def foot (b gs gm : Nat) (cv : Value) (k : Nat) : Prop := k = b ∨ k = gs ∨ k = gm ∨ cv.ownBlock = some k
theorem DiskAt.lt {w : World} {B b gs gm : Nat} {cv : Value} {S : List (List Int)} {C : List (Int × List Int)} (h : DiskAt w B b gs gm cv S C) : ∀ k, foot b gs gm cv k → B ≤ k ∧ k < w.heap.size := by
  rintro k (rfl | rfl | rfl | hk)
  · exact ⟨h.bb, (Array.getElem?_eq_some_iff.1 h.root).1⟩
  · exact ⟨h.bs, (Array.getElem?_eq_some_iff.1 h.safe).1⟩
  · exact ⟨h.bm, h.now.lt⟩
  · exact h.cache.lt k hk
theorem DiskAt.keep {w w' : World} {B b gs gm : Nat} {cv : Value} {S : List (List Int)} {C : List (Int × List Int)} (h : DiskAt w B b gs gm cv S C) (hk : ∀ k, foot b gs gm cv k → w'.heap[k]? = w.heap[k]?) : DiskAt w' B b gs gm cv S C where
  root := (hk b (.inl rfl)).trans h.root
  safe := (hk gs (.inr (.inl rfl))).trans h.safe
  cache := by
    refine ⟨h.cache.1, ?_⟩
    rcases h.cache.2 with hn | ⟨g, cap, cur, e, hb, hg, rest⟩
    · exact .inl hn
    · exact .inr ⟨g, cap, cur, e, hb, (hk g (.inr (.inr (.inr (by rw [e]; rfl))))).trans hg, rest⟩
  now := h.now.keep (hk gm (.inr (.inr (.inl rfl))))
  sec := h.sec
  wrs := h.wrs
  bb := h.bb
  bs := h.bs
  bm := h.bm
  pos := h.pos
  len := h.len
theorem DiskAt.flat_len {w : World} {B b gs gm : Nat} {cv : Value} {S : List (List Int)} {C : List (Int × List Int)} (h : DiskAt w B b gs gm cv S C) : (flat S).length = S.length * 32 :=
  flatMap_len sct 32 S fun s hs => by rw [sct_len]; exact (h.sec s hs).1
theorem DiskAt.sec_at {w : World} {B b gs gm : Nat} {cv : Value} {S : List (List Int)} {C : List (Int × List Int)} (h : DiskAt w B b gs gm cv S C) {i : Nat} (hi : i < S.length) : ((flat S).drop (i * 32)).take 32 = sct (S.getD i []) := by
  rw [List.getD_eq_getElem?_getD, List.getElem?_eq_getElem hi]
  exact flatMap_at sct 32 S (fun s hs => by rw [sct_len]; exact (h.sec s hs).1) i hi

theorem cells_at {w : World} {b : Nat} {cs : Array Value} {t : TypeId} {fr : Nat × Nat} (h : w.heap[b]? = some (.cells cs t fr)) (i : Nat) : w.cell? ⟨b, i, none⟩ = cs[i]? := cell_of_row w b i cs t fr h

section
variable {w : World} {B b gs gm : Nat} {cv : Value} {S : List (List Int)} {C : List (Int × List Int)}

theorem there_calls (h : DiskAt w B b gs gm cv S C) (k : Int) :
    Calls Try.prog 29 #[.pointer (some ⟨b, 0, none⟩), .int .i64 k] w fun e w' => e = .returned (.bool (decide (0 ≤ k ∧ k < (S.length : Int)))) ∧ w' = w := by
  have c0 := cells_at h.root 0
  have hp := h.len
  go_enter Try.func29, Try.ntmps29
  by_cases h0 : 0 ≤ k
  · have hd : decide (0 ≤ k) = true := decide_eq_true h0
    go_wp2
    go_ret
    simp [h0]
  · have hd : decide (0 ≤ k) = false := decide_eq_false h0
    go_wp2
    go_ret
    simp

theorem Loose_calls (h : DiskAt w B b gs gm cv S C) :
    Calls Try.prog 23 #[.pointer (some ⟨b, 0, none⟩)] w fun e w' => e = .returned (.int .i64 (C.length : Int)) ∧ w' = w := by
  have c1 := cells_at h.root 1
  obtain ⟨a, c, rfl⟩ : ∃ a c, cv = .slice a C.length c := by
    rcases h.cache.2 with ⟨rfl, h0⟩ | ⟨g, cap, cur, rfl, _⟩
    · rw [h0]; exact ⟨_, _, rfl⟩
    · exact ⟨_, _, rfl⟩
  go_enter Try.func23, Try.ntmps23
  go_wp2
  go_ret
  exact ⟨rfl, rfl⟩

theorem Sectors_calls (h : DiskAt w B b gs gm cv S C) :
    Calls Try.prog 24 #[.pointer (some ⟨b, 0, none⟩)] w fun e w' => e = .returned (.int .i64 (S.length : Int)) ∧ w' = w := by
  have c0 := cells_at h.root 0
  go_enter Try.func24, Try.ntmps24
  go_wp2
  go_ret
  exact ⟨rfl, rfl⟩

def zsec : List Int := List.replicate 32 0
theorem Try.zeroSec (w : World) : (zeroValue 61).run Try.prog w = .ok (.agg (sct zsec).toArray) w := by kernel_rfl
theorem Try.sizeSec : (Try.prog.info? 61).map (·.size) = some 32 := by kernel_rfl
theorem Try.sizeWr : (Try.prog.info? 63).map (·.size) = some 33 := by kernel_rfl

def readOf (S : List (List Int)) (C : List (Int × List Int)) (k : Int) : List Int := if 0 ≤ k ∧ k < (S.length : Int) then (lastOf C k).getD (S.getD k.toNat []) else []

theorem readOf_sector (h : DiskAt w B b gs gm cv S C) {k : Int} (hk : 0 ≤ k ∧ k < (S.length : Int)) : Sector (readOf S C k) := by
  unfold readOf
  rw [if_pos hk]
  cases hl : lastOf C k with
  | some z =>
    unfold lastOf at hl
    rw [Option.map_eq_some_iff] at hl
    obtain ⟨p, hp, rfl⟩ := hl
    exact (h.wrs p (by simpa using List.mem_of_find?_eq_some hp)).1
  | none =>
    rw [Option.getD_none, List.getD_eq_getElem?_getD, List.getElem?_eq_getElem (show k.toNat < S.length by omega)]
    exact h.sec _ (List.getElem_mem _)

theorem ints_of_sct {w : World} {g : Nat} {t : TypeId} {z : List Int} (hz : Sector z) (hg : w.heap[g]? = some (.cells (sct z).toArray t (0, 0))) : Ints w .u8 (some ⟨g, 0, none⟩) 32 32 z := by
  refine Ints.of hz.1 (Nat.le_refl _) (by omega) hz.2 fun j hj => ?_
  rw [Nat.zero_add, cells_at hg j]
  have := hz.1
  simp [sct, List.getD_eq_getElem?_getD, show j < z.length by omega]

set_option maxHeartbeats 1000000 in
theorem Read_calls (h : DiskAt w B b gs gm cv S C) (k : Int) :
    Calls Try.prog 21 #[.pointer (some ⟨b, 0, none⟩), .int .i64 k] w fun e w' =>
      ∃ v, e = .returned (.tuple #[v, .int .i64 (if 0 ≤ k ∧ k < (S.length : Int) then 0 else 11)]) ∧ Own w' w.heap.size 5 .u8 v (readOf S C k) ∧ Below w.heap.size w w' := by
  have c0 := cells_at h.root 0
  have c2 := cells_at h.root 2
  have hp := h.len
  by_cases hin : 0 ≤ k ∧ k < (S.length : Int)
  · have hlk := h.now.lookup (P := Try.prog) Try.underlying55 Try.underlying3 (Try.zeroSec w) k
    have hS := readOf_sector h hin
    have hgs := h.safe
    have hsa := h.sec_at (i := k.toNat) (by omega)
    have hfl := h.flat_len
    have hro : readOf S C k = (lastOf C k).getD (S.getD k.toNat []) := by unfold readOf; rw [if_pos hin]
    rw [if_pos hin]
    obtain ⟨Z, hZ⟩ : ∃ Z, Z = readOf S C k := ⟨_, rfl⟩
    rw [← hZ] at hS hro ⊢
    clear hZ
    have hth := there_calls h k
    rw [decide_eq_true hin] at hth
    go_enter Try.func21, Try.ntmps21
    cases hl : lastOf C k with
    | some z =>
      rw [hl] at hlk hro
      simp only [Option.map_some, Option.getD_some, Option.isSome_some] at hlk hro
      subst hro
      go_wp2_with fail
      refine hth.mono ?_
      rintro e w1 ⟨rfl, rfl⟩
      go_wp2_with (with_reducible refine stop_store 61 ?_)
      refine unpark ?_
      refine wpList_store_at rfl _ _ _ rfl _ 0 rfl _ rfl _ rfl _ _ (heap_alloc_new _ _) 32 (by rw [sct_len]; exact hS.1) (by decide) (sct_one _) Try.sizeSec ?_
      intro w2 hw2 hg2 hs2
      clear hs2
      rw [splice_all _ _ (by rw [sct_len, hS.1]; rfl)] at hw2
      have hi2 := (ints_of_sct hS hw2).alloc (.cells #[] 5)
      have hb2 : Below w1.heap.size w1 w2 := ((Below.refl _ _).alloc (Nat.le_refl _) _).grown hg2 (by simp) (fun k hk => by cases hk; exact Nat.le_refl _)
      clear hg2 hw2
      have h0 : Own (w2.alloc (.cells #[] 5)) w1.heap.size 5 .u8 (.slice (some ⟨w2.heap.size, 0, none⟩) 0 0) [] :=
        ⟨World.ownsRow_made w2 #[] 0 hb2.size (by unfold maxLen; omega) rfl, fun _ h => by cases h⟩
      have hb0 := hb2.alloc hb2.size (.cells #[] 5)
      have Hb0 := Lib.hid hb0; clear hb0 hb2
      go_wp2_with (at_builtin; refine park ?_)
      refine unpark ?_
      refine wpList_append_ints _ rfl _ _ 32 rfl .u8 w1.heap.size 5 (.int .u8 0) 1 Try.underlying32 Try.infoU8 rfl _ [] rfl h0 _ 32 32 Z rfl hi2 (by simp) (by decide) (by have := Hb0.out.size; simpa using this) ?_
      intro v w' hown hg hne
      go_wp2
      go_ret2
      exact ⟨v, rfl, by simpa using hown, Hb0.out.grown hg Hb0.out.size (fun k hk => (h0.block k hk).1)⟩
    | none =>
      rw [hl] at hlk hro
      simp only [Option.map_none, Option.getD_none, Option.isSome_none] at hlk hro
      rw [← hro] at hsa
      clear hro
      have i1 := hin.1
      have i2 := hin.2
      go_wp2_with fail
      refine hth.mono ?_
      rintro e w1 ⟨rfl, rfl⟩
      go_wp2_with (with_reducible refine stop_store 61 ?_)
      refine unpark ?_
      refine wpList_store_at rfl _ _ _ rfl _ 0 rfl _ rfl _ rfl _ _ (heap_alloc_new _ _) 32 (by rw [sct_len]; rfl) (by decide) (sct_one _) Try.sizeSec ?_
      intro w2 hw2 hg2 hs2
      clear hs2
      rw [splice_all _ _ (by rw [sct_len]; rfl)] at hw2
      have hb2 : Below w1.heap.size w1 w2 := ((Below.refl _ _).alloc (Nat.le_refl _) _).grown hg2 (by simp) (fun k hk => by cases hk; exact Nat.le_refl _)
      have h2 := h.keep (w' := w2) fun k hk => hb2.block k (h.lt k hk).2
      have c0 := cells_at h2.root 0
      have hgs2 := h2.safe
      go_wp2_with (with_reducible refine stop_load 61 ?_)
      refine unpark ?_
      refine wpList_load_at rfl _ _ rfl gs (k.toNat * 32) rfl _ _ _ hgs2 32 (sct Z) (by rw [sct_len, hS.1]) (by simpa using hsa) _ Try.underlying61 rfl Try.sizeSec ?_
      go_wp2_with (with_reducible refine stop_store 61 ?_)
      refine unpark ?_
      refine wpList_store_at rfl _ _ _ rfl _ 0 rfl _ rfl _ rfl _ _ hw2 32 (by rw [sct_len]; exact hS.1) (by simp [sct_len, zsec]) (sct_one _) Try.sizeSec ?_
      intro w3 hw3 hg3 hs3
      clear hs3
      rw [splice_all _ _ (by rw [sct_len, sct_len, hS.1]; rfl)] at hw3
      have hlt0 : w1.heap.size < w2.heap.size := (Array.getElem?_eq_some_iff.1 hw2).1
      have hi2 := (ints_of_sct hS hw3).alloc (.cells #[] 5)
      have hb3 : Below w1.heap.size w1 w3 := hb2.grown hg3 hb2.size (fun k hk => by cases hk; exact Nat.le_refl _)
      clear hg3 hw3 hw2 hb2 h2 hgs2 c0 hlt0
      have h0 : Own (w3.alloc (.cells #[] 5)) w1.heap.size 5 .u8 (.slice (some ⟨w3.heap.size, 0, none⟩) 0 0) [] :=
        ⟨World.ownsRow_made w3 #[] 0 hb3.size (by unfold maxLen; omega) rfl, fun _ h => by cases h⟩
      have hb0 := hb3.alloc hb3.size (.cells #[] 5)
      have Hb0 := Lib.hid hb0; clear hb0 hb3
      go_wp2_with (at_builtin; refine park ?_)
      refine unpark ?_
      refine wpList_append_ints _ rfl _ _ 32 rfl .u8 w1.heap.size 5 (.int .u8 0) 1 Try.underlying32 Try.infoU8 rfl _ [] rfl h0 _ 32 32 Z rfl hi2 (by simp) (by decide) (by have := Hb0.out.size; simpa using this) ?_
      intro v w' hown hg hne
      go_wp2
      go_ret2
      exact ⟨v, rfl, by simpa using hown, Hb0.out.grown hg Hb0.out.size (fun k hk => (h0.block k hk).1)⟩
  · have hth := there_calls h k
    rw [decide_eq_false hin] at hth
    have hro : readOf S C k = [] := by unfold readOf; rw [if_neg hin]
    rw [if_neg hin, hro]
    go_enter Try.func21, Try.ntmps21
    go_wp2_with fail
    refine hth.mono ?_
    rintro e w1 ⟨rfl, rfl⟩
    go_wp2
    go_ret2
    exact ⟨_, rfl, ⟨World.ownsRow_nil _ _ _ _, fun _ h => by cases h⟩, Below.refl _ _⟩
end
end Go.Proofs.Ytpcekoimalafkaa
