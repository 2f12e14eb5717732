/- Merged by merge.py out of: WalP, Wal1, QuietT, Wal2, Wal3, WalQ, WalR, WalH. -/
import Derived.Test.YtgpedejeifmfdaaGreatSumW3
import Derived.Test.YtgpedejeifmfdaaGreatPkP
import Derived.Test.YtgpedejeifmfdaaGreatRecJ
import Derived.Test.YtgpedejeifmfdaaGreatDk
import Derived.Test.YtgpedejeifmfdaaGreatHeld
import Derived.Test.YtgpedejeifmfdaaGreatPhase
import Derived.StillTail
import Derived.Lib.QuietBelow
/- The log, plain: sectors as bytes. -/
namespace Go.Proofs.YtgpedejeifmfdaaGreat
open Go.RowKit

/-- A log's sector. -/
structure Sc where
  num : Nat
  first : Nat
  beg : Bool
  data : List Int
deriving DecidableEq
def noSc : Sc := ⟨0, 0, false, []⟩
/-- How many bytes of records the ninth byte tells. -/
def fillOf (b : List Int) : Nat := (b.getD 8 0).toNat % 128
def begOf (b : List Int) : Bool := decide (128 ≤ b.getD 8 0)
def tailOk (b : List Int) : Bool := opened (b.take 28) && decide (fromZ (b.take 4) = fromZ (b.drop 28))
def bodyOk (b : List Int) : Bool := decide (fillOf b ≤ 16) && ((b.take 25).drop (9 + fillOf b)).all (· == 0)
/-- What 32 bytes are. -/
def parseZ (b : List Int) : Sc × Bool :=
  if tailOk b = true then if bodyOk b = true then (⟨fromZ (b.take 4), fromZ ((b.drop 4).take 4), begOf b, (b.drop 9).take (fillOf b)⟩, true) else (noSc, false) else (noSc, false)
end Go.Proofs.YtgpedejeifmfdaaGreat
/- The log: number, parse. -/
namespace Go.Proofs.YtgpedejeifmfdaaGreat
open Go.RowKit

theorem number_calls {w : World} {a : Option Addr} {len cap : Nat} {zs : List Int} (hx : Ints w .u8 a len cap zs) (h8 : len ≤ 4) :
    Calls Tryz.prog 87 #[.slice a len cap] w fun e w' => e = .returned (.int .i64 (fromZ zs : Nat)) ∧ Below w.heap.size w w' := by
  have hf := From_calls hx (by omega)
  have hlt : fromZ zs < 4294967296 := by
    have h1 := fromZ_lt zs fun b hb => wf_u8 (hx.fit b hb)
    have h2 : 256 ^ zs.length ≤ 256 ^ 4 := Nat.pow_le_pow_right (by omega) (by rw [hx.len]; exact h8)
    omega
  generalize fromZ zs = Z at *
  have Hf := Lib.hid hf; clear hf
  clear hx
  go_enter Tryz.func87, Tryz.ntmps87
  go_wp2_with fail
  refine Hf.out.mono ?_
  rintro e w1 ⟨rfl, hb⟩
  have Hb := Lib.hid hb; clear hb
  go_wp2
  go_ret
  exact ⟨rfl, Hb.out⟩

abbrev zeroV : Value := .func (.func 89) #[] #[]
theorem Zero_calls {w : World} (x : Int) : Calls Tryz.prog 89 #[.int .u8 x] w fun e w' => e = .returned (.bool (x != 0)) ∧ w' = w := by
  go_enter Tryz.func89, Tryz.ntmps89
  go_wp2
  go_ret
  exact ⟨rfl, rfl⟩
/-- Is the first byte that isn't nought there, 0 or more; else -1. -/
def idxZ (zs : List Int) : Int := match zs.findIdx? (· != 0) with | some i => (i : Int) | none => -1
theorem idxZ_at {zs : List Int} {j : Nat} (hj : j < zs.length) (h : ∀ z ∈ zs.take j, z = 0) (h0 : zs[j] ≠ 0) : idxZ zs = (j : Int) := by
  unfold idxZ
  have : zs.findIdx? (· != 0) = some j := by
    rw [List.findIdx?_eq_some_iff_getElem]
    refine ⟨hj, by simpa using h0, fun i hi => ?_⟩
    have := h zs[i] (List.mem_take_iff_getElem.2 ⟨i, by omega, rfl⟩)
    simp [this]
  rw [this]
theorem idxZ_none {zs : List Int} (h : ∀ z ∈ zs, z = 0) : idxZ zs = -1 := by
  unfold idxZ
  have : zs.findIdx? (· != 0) = none := by
    rw [List.findIdx?_eq_none_iff]
    intro z hz; simp [h z hz]
  rw [this]
theorem idxZ_all (zs : List Int) : decide (0 ≤ idxZ zs) = !zs.all (· == 0) := by
  unfold idxZ
  cases h : zs.findIdx? (· != 0) with
  | none =>
    rw [List.findIdx?_eq_none_iff] at h
    have : zs.all (· == 0) = true := by
      rw [List.all_eq_true]; intro z hz; simpa using h z hz
    rw [this]; rfl
  | some i =>
    have : zs.all (· == 0) = false := by
      rw [List.findIdx?_eq_some_iff_getElem] at h
      obtain ⟨hi, h1, -⟩ := h
      rw [List.all_eq_false]
      exact ⟨zs[i], List.getElem_mem _, by simpa using h1⟩
    rw [this]; simp
set_option maxHeartbeats 2000000 in
theorem IndexZ_calls {w : World} {a : Option Addr} {n c : Nat} {zs : List Int} (hx : Ints w .u8 a n c zs) (hn : n ≤ 1000000) :
    Calls Tryz.prog 110 #[.slice a n c, zeroV] w fun e w' => e = .returned (.int .i64 (idxZ zs)) ∧ Below w.heap.size w w' := by
  have hl := hx.len
  obtain ⟨I, hI⟩ : ∃ I, I = idxZ zs := ⟨_, rfl⟩
  rw [← hI]
  have HI := Lib.hid hI; clear hI
  have Hl := Lib.hid hl; clear hl
  have Hx := Lib.hid hx; clear hx
  go_enter Tryz.func110, Tryz.ntmps110
  go_wp2_with fail
  go_loopw [8] (fun i wr => ∃ j : Nat, j ≤ n ∧ i = .int .i64 j ∧ Below w.heap.size w wr ∧ ∀ z ∈ zs.take j, z = 0) (fun i _ => n - (intOf i).toNat)
  case atStart => exact ⟨0, by omega, rfl, Below.refl _ _, by simp⟩
  case round =>
    obtain ⟨j, hj, rfl, hb, hr⟩ := hrel
    have Hb := Lib.hid hb; clear hb
    have Hr := Lib.hid hr; clear hr
    by_cases hlt : j < n
    · have hrj := Hx.out.keep Hb.out
      obtain ⟨gx, ox, rfl, hcell⟩ := hrj.cell (by omega)
      have hjl : j < zs.length := by rw [Hl.out]; exact hlt
      have hc := hcell j hlt
      rw [List.getD_eq_getElem?_getD, List.getElem?_eq_getElem hjl, Option.getD_some] at hc
      have hat : zs[j] ≠ 0 → I = (j : Int) := fun e => by rw [HI.out]; exact idxZ_at hjl Hr.out e
      have hsn : zs[j] = 0 → ∀ z ∈ zs.take (j + 1), z = 0 := fun e m hm => by
        rw [List.take_add_one, List.getElem?_eq_getElem hjl] at hm
        rcases List.mem_append.1 hm with hm | hm
        · exact Hr.out m hm
        · simp at hm; rw [hm]; exact e
      generalize zs[j] = Z at hc hat hsn
      have Hsn := Lib.hid hsn; clear hsn hrj hcell
      have i1 : (0 : Int) ≤ (j : Int) := by omega
      have i2 : (j : Int) < (n : Int) := by omega
      have hcl := fun w : World => Zero_calls (w := w) Z
      by_cases hz : Z = 0
      · have e0 : (Z != 0) = false := by simp [hz]
        rw [e0] at hcl
        clear hat e0
        have Hsn2 := Lib.hid (Hsn.out hz); clear Hsn hz
        have Hcl := Lib.hid hcl; clear hcl
        go_wp2_with fail
        refine (Hcl.out _).mono ?_
        rintro e w2 ⟨rfl, hw⟩
        obtain rfl := hw.symm
        go_wp2_with fail
        go_roundw
        case rel => exact ⟨j + 1, by omega, by go_num, Hb.out, Hsn2.out⟩
        case measure => simp [intOf]; omega
      · have e0 : (Z != 0) = true := by simp [hz]
        rw [e0] at hcl
        have e := hat hz
        clear hat HI hz e0 Hsn
        subst e
        have Hcl := Lib.hid hcl; clear hcl
        go_wp2_with fail
        refine (Hcl.out _).mono ?_
        rintro e w2 ⟨rfl, hw⟩
        obtain rfl := hw.symm
        go_wp2
        go_ret
        exact ⟨rfl, Hb.out⟩
    · obtain rfl : j = n := by omega
      have e : I = -1 := by rw [HI.out]; exact idxZ_none fun z hz => Hr.out z (by rw [List.take_of_length_le (by rw [Hl.out]; exact Nat.le_refl _)]; exact hz)
      subst e
      go_wp2
      go_ret
      exact ⟨rfl, Hb.out⟩
theorem ContainsZ_calls {w : World} {a : Option Addr} {n c : Nat} {zs : List Int} (hx : Ints w .u8 a n c zs) (hn : n ≤ 1000000) :
    Calls Tryz.prog 88 #[.slice a n c, zeroV] w fun e w' => e = .returned (.bool (!zs.all (· == 0))) ∧ Below w.heap.size w w' := by
  have hi := IndexZ_calls hx hn
  have he := idxZ_all zs
  generalize (!zs.all (· == 0)) = R at he ⊢
  generalize idxZ zs = I at hi he
  have Hi := Lib.hid hi; clear hi
  go_enter Tryz.func88, Tryz.ntmps88
  go_wp2_with fail
  refine Hi.out.mono ?_
  rintro e w1 ⟨rfl, hb⟩
  have Hb := Lib.hid hb; clear hb
  go_wp2
  go_ret
  exact ⟨by rw [← he]; rfl, Hb.out⟩
end Go.Proofs.YtgpedejeifmfdaaGreat
/- A drawn region whose first operations only read (calls of contracts that end in Below included), and whose last ones are a chain: one walk. Of no program. -/
namespace Go.Proofs.YtgpedejeifmfdaaGreat
open Go.RowKit Go.Sort

section
variable {P : Program} {ops : Array Oper} {md : Region.Mode} {C : World → Prop}
/-- So many operations of the head, whatever order is picked; then L. -/
def headQ (P : Program) (md : Region.Mode) (ops : Array Oper) (C : World → Prop) (n : Nat) (L : Array Bool → Act → Prop) : Nat → Array Bool → Act → Prop
  | 0, listed, a => L listed a
  | f + 1, listed, a => Region.ready md ops listed ≠ [] ∧ ∀ i ∈ Region.ready md ops listed, i < n ∧ qOp P ops C i (headQ P md ops C n L f (listed.setIfInBounds i true)) a
theorem any_of_headQ {n g : Nat} {L : Array Bool → Act → Prop} {Q' : Exit → Act → World → Prop} (hL : ∀ listed a w, C w → L listed a → wpAny P md ops Q' g listed a w) :
    ∀ (f : Nat) (listed : Array Bool) (a : Act) (w : World), C w → headQ P md ops C n L f listed a → wpAny P md ops Q' (f + g) listed a w
  | 0, listed, a, w, hw, h => by rw [Nat.zero_add]; exact hL _ _ _ hw h
  | f + 1, listed, a, w, hw, h => by
    rw [show f + 1 + g = (f + g) + 1 by omega]
    exact ⟨fun h0 => absurd h0 h.1, fun i hi => wpOp_of_qOp hw (fun a' w' hw' h' => any_of_headQ hL f _ a' w' hw' h') (h.2 i hi).2⟩
theorem headQ_first {n i : Nat} {oi : Oper} {v : Value} {L : Array Bool → Act → Prop} (hi : ops[i]? = some oi) (hsel : ∀ (j : Nat) (o : Oper) cs b, ops[j]? = some o → o.op ≠ .select cs b)
    (hs : Region.sinkB md ops n = true) (hc : Region.chainB md ops n = true) (hn : n < ops.size) (hin : i < n)
    (hdone : ∀ listed a, L listed a → ∀ j ∈ Region.ready md ops listed, n ≤ j) :
    ∀ (f : Nat) (listed : Array Bool) (a : Act), HeadInv md ops n listed →
      (∀ j oj, ops[j]? = some oj → j ≠ i → listed.getD j true = false → (∀ e ∈ oj.after, Region.binds md e = true → e.on ≠ i) → oi.apart ops oj = true) →
      i ∈ Region.ready md ops listed → YieldsIn P ops C oi v a →
      headQ P md ops C n L f (listed.setIfInBounds i true) (a.put oi.dst v) → headQ P md ops C n L (f + 1) listed a := by
  intro f
  induction f with
  | zero =>
    intro listed a inv _ hr hy H
    have hun := (mem_ready.1 hr).1
    refine ⟨fun h => (by rw [h] at hr; cases hr), fun j hj => ?_⟩
    have hjn : j < n := (Nat.lt_or_ge j n).elim id fun h => absurd hj (tail_waits hs hc hn inv _ i rfl hin hun j h)
    refine ⟨hjn, ?_⟩
    by_cases hji : j = i
    · subst hji; exact hy.qOp hi H
    · have := hdone _ _ H j (ready_mono hj hji)
      omega
  | succ f ih =>
    intro listed a inv hfree hr hy H
    have hun := (mem_ready.1 hr).1
    refine ⟨fun h => (by rw [h] at hr; cases hr), fun j hj => ?_⟩
    have hjn : j < n := (Nat.lt_or_ge j n).elim id fun h => absurd hj (tail_waits hs hc hn inv _ i rfl hin hun j h)
    refine ⟨hjn, ?_⟩
    by_cases hji : j = i
    · subst hji; exact hy.qOp hi H
    · have h1 := (H.2 j (ready_mono hj hji)).2
      obtain ⟨hjun, oj, hoj, hall⟩ := mem_ready.1 hj
      have hnot : ∀ e ∈ oj.after, Region.binds md e = true → e.on ≠ i := fun e he hb heq => by
        have h1 := hall e he hb
        rw [heq, getD_both hun] at h1
        cases h1
      have h2 := qOp_put hoj (hfree j oj hoj hji hjun hnot) (fun cs b => hsel i oi cs b hi) (fun cs b => hsel j oj cs b hoj) hy h1
      have hfree' : ∀ k ok, ops[k]? = some ok → k ≠ i → (listed.setIfInBounds j true).getD k true = false →
          (∀ e ∈ ok.after, Region.binds md e = true → e.on ≠ i) → oi.apart ops ok = true := fun k ok hk hki hun hno => by
        refine hfree k ok hk hki ?_ hno
        by_cases hjk : j = k
        · subst hjk; exact hjun
        · rw [getD_set_ne true hjk] at hun; exact hun
      refine qOp_mono (fun a' h3 => ih (listed.setIfInBounds j true) a' (inv.set hj hjn) hfree' (ready_mono hr (Ne.symm hji)) h3.1 ?_) h2
      rw [Array.setIfInBounds_comm _ _ hji]
      exact h3.2
theorem headQ_lex {n g : Nat} {Lq : Act → Prop} (hsel : Region.noSelect ops = true) (hs : Region.sinkB md ops n = true) (hc : Region.chainB md ops n = true) (hn : n < ops.size) :
    ∀ (l : List Oper) (k : Nat) (listed : Array Bool) (a : Act), (∀ j, j < l.length → l[j]? = ops[k + j]?) → k + l.length = n → HeadInv md ops n listed →
    Region.lexHead md ops g l.length k listed = true → wpQuiet P ops C Lq l a →
    headQ P md ops C n (fun listed' a' => Region.seqB md ops g n listed' = true ∧ Lq a') l.length listed a
  | [], k, listed, a, _, hk, _, hB, h => by
    obtain rfl : k = n := by simpa using hk
    exact ⟨by simpa [Region.lexHead] using hB, h⟩
  | o :: l, k, listed, a, hl, hk, inv, hB, h => by
    have h0 : ops[k]? = some o := by simpa using (hl 0 (by simp)).symm
    simp only [List.length_cons, Region.lexHead, Bool.and_eq_true] at hB
    obtain ⟨⟨hr, hf⟩, hB'⟩ := hB
    have hkn : k < n := by simp only [List.length_cons] at hk; omega
    have hr' : k ∈ Region.ready md ops listed := by simpa using hr
    have hst : qOp P ops C k (wpQuiet P ops C Lq l) a := by unfold qOp; simp only [h0]; exact h
    obtain ⟨v, hy, hK⟩ := yieldsIn_of_qOp h0 hst
    exact headQ_first h0 (Region.noSelect_spec hsel) hs hc hn hkn (fun listed' a' hL => seqB_ready hL.1) l.length listed a inv (Region.free_spec h0 hf) hr' hy
      (headQ_lex hsel hs hc hn l (k + 1) _ _ (fun j hj => by have := hl (j + 1) (by simp; omega); simpa [Nat.add_assoc, Nat.add_comm 1 j] using this) (by simp only [List.length_cons] at hk; omega) (inv.set hr' hkn) hB' hK)
/-- The first n operations are walked as quiet ones, the rest in every world of the class. -/
theorem wp_region_quiet_tail {id : Nat} {Q : Exit → Act → World → Prop} {a : Act} {w : World} {l : List Oper} (n : Nat) (hm : P.follows .mixedOrders = true) (hB : Region.lexTailB .any l.toArray n = true)
    (h : wpQuiet P l.toArray (fun w' => ∃ p : Regrown, w' = grow (redrawn w p.d) p.os) (fun a' => ∀ w', (∃ p : Regrown, w' = grow (redrawn w p.d) p.os) → wpList P l.toArray Q (l.drop n) a' w') (l.take n) a) : (Code.region id l.toArray true).wp P Q a w := by
  simp only [Region.lexTailB, Bool.and_eq_true, decide_eq_true_eq] at hB
  obtain ⟨⟨⟨⟨hsel, hn⟩, hs⟩, hc⟩, hlex⟩ := hB
  have htl : (l.take n).length = n := by simp at hn ⊢; omega
  have hdl : (l.drop n).length = l.toArray.size - n := by simp
  have inv0 : HeadInv .any l.toArray n (Array.replicate l.toArray.size false) :=
    ⟨by simp, fun j oj _ hl => (by rw [getD_replicate_false] at hl; cases hl), fun t _ ht => getD_in (by simpa using ht) (getD_replicate_false _ _)⟩
  have H := headQ_lex (md := .any) (g := l.toArray.size - n) hsel hs hc hn (l.take n) 0 _ a (fun j hj => by
    have hj' : j < n := by rw [htl] at hj; exact hj
    simp [hj']) (by simpa using htl) inv0 (by rw [htl]; exact hlex) h
  refine wp_region_any hm ?_
  have := any_of_headQ (Q' := Q) (g := l.toArray.size - n) (fun listed a' w' hw' hL => by
    have := wpAny_of_seq (md := .any) (Q' := Q) (l.drop n) n listed a' w' (fun j => by simp [List.getElem?_drop]) (by rw [hdl]; exact hL.1) (hL.2 w' hw')
    rwa [hdl] at this) _ _ _ { w with drawn := w.drawn + 1 } ⟨⟨w.drawn + 1, #[]⟩, by rw [Go.Sort.grow_empty]; rfl⟩ H
  rw [htl, show n + (l.toArray.size - n) = l.toArray.size by simp at hn ⊢; omega] at this
  simpa using this
end
end Go.Proofs.YtgpedejeifmfdaaGreat
/- The log: parse (printed by genWal2.py). -/
namespace Go.Proofs.YtgpedejeifmfdaaGreat
open Go.RowKit Go.Sort
theorem Tryz.sizeLogSec : (Tryz.prog.info? 72).map (·.size) = some 4 := by kernel_rfl
theorem andNot128 : ∀ n, n < 256 → bits .andNot .u8 ((n : Nat) : Int) 128 = ((n % 128 : Nat) : Int) := by decide +kernel
theorem and128 : ∀ n, n < 256 → bits .and .u8 ((n : Nat) : Int) 128 = if 128 ≤ n then 128 else 0 := by decide +kernel
theorem fill_bits {X : Int} {F : Nat} (h : 0 ≤ X ∧ X ≤ 255) (hF : X.toNat % 128 = F) : bits .andNot .u8 X 128 = (F : Int) := by
  have := andNot128 X.toNat (by omega)
  rwa [Int.toNat_of_nonneg h.1, hF] at this
theorem beg_bits {X : Int} (h : 0 ≤ X ∧ X ≤ 255) : (bits .and .u8 X 128 != 0) = decide (128 ≤ X) := by
  have := and128 X.toNat (by omega)
  rw [Int.toNat_of_nonneg h.1] at this
  rw [this]
  by_cases hx : 128 ≤ X
  · rw [if_pos (by omega), decide_eq_true hx]; rfl
  · rw [if_neg (by omega), decide_eq_false hx]; rfl
theorem heap_old3 {w w2 w3 : World} {o : Obj} (h : Below (w.alloc o).heap.size (w.alloc o) w2) (h3 : Below w2.heap.size w2 w3) : w3.heap[w.heap.size]? = some o := by
  have hs : w.heap.size < (w.alloc o).heap.size := by simp
  rw [h3.block _ (Nat.lt_of_lt_of_le hs h.size), h.block _ hs]
  exact heap_alloc_new w o
theorem below_old3 {w w2 w3 : World} {o : Obj} (h : Below (w.alloc o).heap.size (w.alloc o) w2) (h3 : Below w2.heap.size w2 w3) : Below w.heap.size w w3 :=
  (((Below.refl _ _).alloc (Nat.le_refl _) o).trans (h.mono (by simp))).trans (h3.mono (Nat.le_trans (by simp) h.size))
theorem own_len {w : World} {B n : Nat} {E : TypeId} {v : Value} {zs : List Int} (h : Own w B E .u8 v zs) (hn : zs.length = n) : ∃ a c, v = .slice a n c ∧ Ints w .u8 a n c zs ∧ ∀ g o, a = some ⟨g, o, none⟩ → B ≤ g := by
  obtain ⟨a, c, rfl, hi, _⟩ := h.ints
  rw [hn] at hi ⊢
  exact ⟨a, c, rfl, hi, fun g o e => (h.block g (by rw [e]; rfl)).1⟩
def scV (S : Sc) (a : Option Addr) (c : Nat) : Value := .agg #[.int .i64 (S.num : Nat), .int .i64 (S.first : Nat), .bool S.beg, .slice a S.data.length c]

set_option maxHeartbeats 4000000 in
set_option maxRecDepth 100000 in
theorem parse_shut {w : World} {a : Option Addr} {c : Nat} {b : List Int} (hx : Ints w .u8 a 32 c b) (h1 : opened (b.take 28) = false) :
    Calls Tryz.prog 66 #[.slice a 32 c] w fun e w' => e = .returned (.tuple #[.agg #[.int .i64 0, .int .i64 0, .bool false, .slice none 0 0], .bool false]) ∧ Below w.heap.size w w' := by
  have hl := hx.len
  have hle := hx.le
  have hmx := hx.max
  have ht := hx.take 28 (by omega)
  have ha := Below.alloc (Below.refl w.heap.size w) (Nat.le_refl _) (.cells #[.int .i64 0, .int .i64 0, .bool false, .slice none 0 0] 72)

  have hz : Ints (w.alloc (.cells #[.int .i64 0, .int .i64 0, .bool false, .slice none 0 0] 72)) .u8 a 28 c (b.take 28) := ht.alloc _
  have hop := Open_calls hz (by omega)
  have Hop := Lib.hid hop; clear hop hz
  have H1 := Lib.hid h1; clear h1
  have Hx := Lib.hid hx; clear hx ht
  have Ha := Lib.hid ha; clear ha
  go_enter Tryz.func66, Tryz.ntmps66
  go_wp2_with fail
  refine Hop.out.mono ?_
  rintro e w2 ⟨hb2, ⟨-, rfl⟩ | ⟨h, -⟩⟩
  case inr => rw [H1.out] at h; cases h
  have Hb2 := Lib.hid hb2; clear hb2
  go_wp2_with fail
  refine wp_region_quiet_below (by kernel_rfl) (by kernel_rfl) ?_
  repeat (any_goals (first | go_big_quiet_step (fail) | quiet_step (fail)))
  refine wpQuiet_nil ?_
  intro w3 hw3
  have hb3 : Below w2.heap.size w2 w3 := by obtain ⟨q, rfl⟩ := hw3; exact below_regrown _ _ _
  clear hw3
  have hc3 := heap_old3 Hb2.out hb3
  have hbel := below_old3 Hb2.out hb3
  clear hb3
  go_wp2_with (with_reducible refine stop_store 72 ?_)
  refine unpark ?_
  refine wpList_store_at rfl _ _ _ rfl _ 0 rfl _ rfl _ rfl _ _ hc3 4 rfl (by decide) (by simp [Value.oneCell']) Tryz.sizeLogSec ?_
  intro w4 hw4 hg4 hs4
  clear hs4 hc3
  have hb4 : Below w.heap.size w w4 := hbel.grown hg4 hbel.size (fun k hk => by cases hk; exact Nat.le_refl _)
  clear hg4 hbel
  rw [splice_all _ _ (by rfl)] at hw4
  have q0 := cells_at hw4 0
  have q1 := cells_at hw4 1
  have q2 := cells_at hw4 2
  have q3 := cells_at hw4 3
  have HB4 := Lib.hid hb4; clear hb4 hw4
  go_wp2
  refine bodyPost_ret (v := .tuple #[.agg #[.int .i64 0, .int .i64 0, .bool false, .slice none 0 0], .bool false]) (by simp [results, Tryz.results66, go_sem, q0, q1, q2, q3]) rfl ?_
  exact ⟨rfl, HB4.out⟩

set_option maxHeartbeats 4000000 in
set_option maxRecDepth 100000 in
theorem parse_differ {w : World} {a : Option Addr} {c : Nat} {b : List Int} (hx : Ints w .u8 a 32 c b) (h1 : opened (b.take 28) = true) (h2 : fromZ (b.take 4) ≠ fromZ (b.drop 28)) :
    Calls Tryz.prog 66 #[.slice a 32 c] w fun e w' => e = .returned (.tuple #[.agg #[.int .i64 0, .int .i64 0, .bool false, .slice none 0 0], .bool false]) ∧ Below w.heap.size w w' := by
  have hl := hx.len
  have hle := hx.le
  have hmx := hx.max
  have ht := hx.take 28 (by omega)
  have ha := Below.alloc (Below.refl w.heap.size w) (Nat.le_refl _) (.cells #[.int .i64 0, .int .i64 0, .bool false, .slice none 0 0] 72)

  have hz : Ints (w.alloc (.cells #[.int .i64 0, .int .i64 0, .bool false, .slice none 0 0] 72)) .u8 a 28 c (b.take 28) := ht.alloc _
  have hop := Open_calls hz (by omega)
  have Hop := Lib.hid hop; clear hop hz
  have H1 := Lib.hid h1; clear h1
  have e25 : (b.take 28).take ((b.take 28).length - 3) = b.take 25 := by rw [List.length_take, hl, List.take_take]; rfl
  have hx' := hx.alloc (.cells #[.int .i64 0, .int .i64 0, .bool false, .slice none 0 0] 72)
  have Hx' := Lib.hid hx'; clear hx'
  obtain ⟨N1, hN1⟩ : ∃ N, N = fromZ (b.take 4) := ⟨_, rfl⟩
  obtain ⟨N2, hN2⟩ : ∃ N, N = fromZ (b.drop 28) := ⟨_, rfl⟩
  rw [← hN1, ← hN2] at h2
  have HN1 := Lib.hid hN1; clear hN1
  have HN2 := Lib.hid hN2; clear hN2
  have E25 := Lib.hid e25; clear e25
  have hd : ((N1 : Int) != (N2 : Int)) = true := by simp; omega
  have Hx := Lib.hid hx; clear hx ht
  have Ha := Lib.hid ha; clear ha
  go_enter Tryz.func66, Tryz.ntmps66
  go_wp2_with fail
  refine Hop.out.mono ?_
  rintro e w2 ⟨hb2, ⟨h, -⟩ | ⟨-, v, rfl, hv⟩⟩
  case inl => rw [H1.out] at h; cases h
  rw [E25.out] at hv
  have Hb2 := Lib.hid hb2; clear hb2
  obtain ⟨a', c', rfl, hi, hv0⟩ := own_len hv (n := 25) (by rw [List.length_take, hl]; rfl)
  obtain ⟨g', o', rfl, hcell⟩ := hi.cell (by omega)
  have hgg := hv0 g' o' rfl
  rw [World.size_alloc] at hgg
  clear hv0
  have hic := hi.le
  have him := hi.max
  have hx2 := Hx'.out.keep Hb2.out
  obtain ⟨g, o, rfl, -⟩ := hx2.cell (by omega)
  have hn1 : ∀ d os, Calls Tryz.prog 87 #[.slice (some ⟨g', o', none⟩) 4 c'] (grow (redrawn w2 d) os) fun e w' => e = .returned (.int .i64 (N1 : Nat)) ∧ Below (grow (redrawn w2 d) os).heap.size (grow (redrawn w2 d) os) w' := fun d os => by
    have := number_calls ((hi.take 4 (by omega)).keep (below_regrown w2 d os)) (by omega)
    rwa [List.take_take, show min 4 25 = 4 from rfl, ← HN1.out] at this
  have hn2 : ∀ d os, Calls Tryz.prog 87 #[.slice (some ⟨g, o + 28, none⟩) 4 (c - 28)] (grow (redrawn w2 d) os) fun e w' => e = .returned (.int .i64 (N2 : Nat)) ∧ Below (grow (redrawn w2 d) os).heap.size (grow (redrawn w2 d) os) w' := fun d os => by
    have := number_calls ((hx2.dropAt 28 (by omega)).keep (below_regrown w2 d os)) (by omega)
    rwa [← HN2.out] at this
  have Hn1 := Lib.hid hn1; clear hn1
  have Hn2 := Lib.hid hn2; clear hn2
  have hne : ¬ (c = 28) := by omega
  clear hx2 hv
  have Hi := Lib.hid hi; clear hi
  have Hcell := Lib.hid hcell; clear hcell
  go_wp2_with fail
  refine wp_region_quiet_below (by kernel_rfl) (by kernel_rfl) ?_
  repeat (any_goals (first | go_big_quiet_step ((first | (go_at_call 87; with_reducible exact Calls.regrown_of (Hn1.out _ _)) | (go_at_call 87; exact Calls.regrown_of (Hn2.out _ _)))) | quiet_step ((first | (go_at_call 87; with_reducible exact Calls.regrown_of (Hn1.out _ _)) | (go_at_call 87; exact Calls.regrown_of (Hn2.out _ _))))))
  refine wpQuiet_nil ?_
  intro w3 hw3
  have hb3 : Below w2.heap.size w2 w3 := by obtain ⟨q, rfl⟩ := hw3; exact below_regrown _ _ _
  clear hw3 Hn1 Hn2
  have hc3 := heap_old3 Hb2.out hb3
  have hbel := below_old3 Hb2.out hb3
  clear hb3
  go_wp2_with (with_reducible refine stop_store 72 ?_)
  refine unpark ?_
  refine wpList_store_at rfl _ _ _ rfl _ 0 rfl _ rfl _ rfl _ _ hc3 4 rfl (by decide) (by simp [Value.oneCell']) Tryz.sizeLogSec ?_
  intro w4 hw4 hg4 hs4
  clear hs4 hc3
  have hb4 : Below w.heap.size w w4 := hbel.grown hg4 hbel.size (fun k hk => by cases hk; exact Nat.le_refl _)
  clear hg4 hbel
  rw [splice_all _ _ (by rfl)] at hw4
  have q0 := cells_at hw4 0
  have q1 := cells_at hw4 1
  have q2 := cells_at hw4 2
  have q3 := cells_at hw4 3
  have HB4 := Lib.hid hb4; clear hb4 hw4
  go_wp2
  refine bodyPost_ret (v := .tuple #[.agg #[.int .i64 0, .int .i64 0, .bool false, .slice none 0 0], .bool false]) (by simp [results, Tryz.results66, go_sem, q0, q1, q2, q3]) rfl ?_
  exact ⟨rfl, HB4.out⟩

set_option maxHeartbeats 4000000 in
set_option maxRecDepth 100000 in
theorem parse_long {w : World} {a : Option Addr} {c : Nat} {b : List Int} (hx : Ints w .u8 a 32 c b) (h1 : opened (b.take 28) = true) (h2 : fromZ (b.take 4) = fromZ (b.drop 28)) (h3 : 16 < fillOf b) :
    Calls Tryz.prog 66 #[.slice a 32 c] w fun e w' => e = .returned (.tuple #[.agg #[.int .i64 0, .int .i64 0, .bool false, .slice none 0 0], .bool false]) ∧ Below w.heap.size w w' := by
  have hl := hx.len
  have hle := hx.le
  have hmx := hx.max
  have ht := hx.take 28 (by omega)
  have ha := Below.alloc (Below.refl w.heap.size w) (Nat.le_refl _) (.cells #[.int .i64 0, .int .i64 0, .bool false, .slice none 0 0] 72)

  have hz : Ints (w.alloc (.cells #[.int .i64 0, .int .i64 0, .bool false, .slice none 0 0] 72)) .u8 a 28 c (b.take 28) := ht.alloc _
  have hop := Open_calls hz (by omega)
  have Hop := Lib.hid hop; clear hop hz
  have H1 := Lib.hid h1; clear h1
  have e25 : (b.take 28).take ((b.take 28).length - 3) = b.take 25 := by rw [List.length_take, hl, List.take_take]; rfl
  have hx' := hx.alloc (.cells #[.int .i64 0, .int .i64 0, .bool false, .slice none 0 0] 72)
  have Hx' := Lib.hid hx'; clear hx'
  obtain ⟨N1, hN1⟩ : ∃ N, N = fromZ (b.take 4) := ⟨_, rfl⟩
  obtain ⟨N2, hN2⟩ : ∃ N, N = fromZ (b.drop 28) := ⟨_, rfl⟩
  rw [← hN1, ← hN2] at h2
  have HN1 := Lib.hid hN1; clear hN1
  have HN2 := Lib.hid hN2; clear hN2
  have E25 := Lib.hid e25; clear e25
  have hd : ((N1 : Int) != (N2 : Int)) = false := by simp [h2]
  have H2 := Lib.hid h2; clear h2
  obtain ⟨X8, hX8⟩ : ∃ X, X = b.getD 8 0 := ⟨_, rfl⟩
  have h8 : 0 ≤ X8 ∧ X8 ≤ 255 := by rw [hX8]; exact hx.u8 8
  have h8a := h8.1
  have h8b := h8.2
  clear h8
  obtain ⟨F, hF⟩ : ∃ F, F = fillOf b := ⟨_, rfl⟩
  have hFX : X8.toNat % 128 = F := by rw [hF, hX8]; rfl
  rw [← hF] at h3
  have HF := Lib.hid hF; clear hF
  have Hx := Lib.hid hx; clear hx ht
  have Ha := Lib.hid ha; clear ha
  go_enter Tryz.func66, Tryz.ntmps66
  go_wp2_with fail
  refine Hop.out.mono ?_
  rintro e w2 ⟨hb2, ⟨h, -⟩ | ⟨-, v, rfl, hv⟩⟩
  case inl => rw [H1.out] at h; cases h
  rw [E25.out] at hv
  have Hb2 := Lib.hid hb2; clear hb2
  obtain ⟨a', c', rfl, hi, hv0⟩ := own_len hv (n := 25) (by rw [List.length_take, hl]; rfl)
  obtain ⟨g', o', rfl, hcell⟩ := hi.cell (by omega)
  have hgg := hv0 g' o' rfl
  rw [World.size_alloc] at hgg
  clear hv0
  have hic := hi.le
  have him := hi.max
  have hx2 := Hx'.out.keep Hb2.out
  obtain ⟨g, o, rfl, -⟩ := hx2.cell (by omega)
  have hn1 : ∀ d os, Calls Tryz.prog 87 #[.slice (some ⟨g', o', none⟩) 4 c'] (grow (redrawn w2 d) os) fun e w' => e = .returned (.int .i64 (N1 : Nat)) ∧ Below (grow (redrawn w2 d) os).heap.size (grow (redrawn w2 d) os) w' := fun d os => by
    have := number_calls ((hi.take 4 (by omega)).keep (below_regrown w2 d os)) (by omega)
    rwa [List.take_take, show min 4 25 = 4 from rfl, ← HN1.out] at this
  have hn2 : ∀ d os, Calls Tryz.prog 87 #[.slice (some ⟨g, o + 28, none⟩) 4 (c - 28)] (grow (redrawn w2 d) os) fun e w' => e = .returned (.int .i64 (N2 : Nat)) ∧ Below (grow (redrawn w2 d) os).heap.size (grow (redrawn w2 d) os) w' := fun d os => by
    have := number_calls ((hx2.dropAt 28 (by omega)).keep (below_regrown w2 d os)) (by omega)
    rwa [← HN2.out] at this
  have Hn1 := Lib.hid hn1; clear hn1
  have Hn2 := Lib.hid hn2; clear hn2
  have hne : ¬ (c = 28) := by omega
  clear hx2 hv
  have Hi := Lib.hid hi; clear hi
  have Hcell := Lib.hid hcell; clear hcell
  go_wp2_with fail
  refine wp_region_quiet_below (by kernel_rfl) (by kernel_rfl) ?_
  repeat (any_goals (first | go_big_quiet_step ((first | (go_at_call 87; with_reducible exact Calls.regrown_of (Hn1.out _ _)) | (go_at_call 87; exact Calls.regrown_of (Hn2.out _ _)))) | quiet_step ((first | (go_at_call 87; with_reducible exact Calls.regrown_of (Hn1.out _ _)) | (go_at_call 87; exact Calls.regrown_of (Hn2.out _ _))))))
  refine wpQuiet_nil ?_
  intro w3 hw3
  have hb3 : Below w2.heap.size w2 w3 := by obtain ⟨q, rfl⟩ := hw3; exact below_regrown _ _ _
  clear hw3 Hn1 Hn2
  have x8 : w3.cell? ⟨g', o' + 8, none⟩ = some (.int .u8 X8) := by
    have := Hcell.out 8 (by omega)
    rw [hb3.cell (block_lt_of_cell this), this, hX8]
    congr 2
    rw [List.getD_eq_getElem?_getD, List.getD_eq_getElem?_getD, List.getElem?_take, if_pos (by omega)]
  have hand := fill_bits ⟨h8a, h8b⟩ hFX
  have hF7 : F < 128 := by omega
  have HX8 := Lib.hid hX8; clear hX8
  have HFX := Lib.hid hFX; clear hFX
  have hc3 := heap_old3 Hb2.out hb3
  have hbel := below_old3 Hb2.out hb3
  clear hb3
  go_wp2_with (with_reducible refine stop_store 72 ?_)
  refine unpark ?_
  refine wpList_store_at rfl _ _ _ rfl _ 0 rfl _ rfl _ rfl _ _ hc3 4 rfl (by decide) (by simp [Value.oneCell']) Tryz.sizeLogSec ?_
  intro w4 hw4 hg4 hs4
  clear hs4 hc3
  have hb4 : Below w.heap.size w w4 := hbel.grown hg4 hbel.size (fun k hk => by cases hk; exact Nat.le_refl _)
  clear hg4 hbel
  rw [splice_all _ _ (by rfl)] at hw4
  have q0 := cells_at hw4 0
  have q1 := cells_at hw4 1
  have q2 := cells_at hw4 2
  have q3 := cells_at hw4 3
  have HB4 := Lib.hid hb4; clear hb4 hw4
  go_wp2
  refine bodyPost_ret (v := .tuple #[.agg #[.int .i64 0, .int .i64 0, .bool false, .slice none 0 0], .bool false]) (by simp [results, Tryz.results66, go_sem, q0, q1, q2, q3]) rfl ?_
  exact ⟨rfl, HB4.out⟩

set_option maxHeartbeats 4000000 in
set_option maxRecDepth 100000 in
theorem parse_dirty {w : World} {a : Option Addr} {c : Nat} {b : List Int} (hx : Ints w .u8 a 32 c b) (h1 : opened (b.take 28) = true) (h2 : fromZ (b.take 4) = fromZ (b.drop 28)) (h3 : fillOf b ≤ 16) {R : Bool} (hR : (!((b.take 25).drop (9 + fillOf b)).all (· == 0)) = R) (h4 : R = true) :
    Calls Tryz.prog 66 #[.slice a 32 c] w fun e w' => e = .returned (.tuple #[.agg #[.int .i64 0, .int .i64 0, .bool false, .slice none 0 0], .bool false]) ∧ Below w.heap.size w w' := by
  have hl := hx.len
  have hle := hx.le
  have hmx := hx.max
  have ht := hx.take 28 (by omega)
  have ha := Below.alloc (Below.refl w.heap.size w) (Nat.le_refl _) (.cells #[.int .i64 0, .int .i64 0, .bool false, .slice none 0 0] 72)

  have hz : Ints (w.alloc (.cells #[.int .i64 0, .int .i64 0, .bool false, .slice none 0 0] 72)) .u8 a 28 c (b.take 28) := ht.alloc _
  have hop := Open_calls hz (by omega)
  have Hop := Lib.hid hop; clear hop hz
  have H1 := Lib.hid h1; clear h1
  have e25 : (b.take 28).take ((b.take 28).length - 3) = b.take 25 := by rw [List.length_take, hl, List.take_take]; rfl
  have hx' := hx.alloc (.cells #[.int .i64 0, .int .i64 0, .bool false, .slice none 0 0] 72)
  have Hx' := Lib.hid hx'; clear hx'
  obtain ⟨N1, hN1⟩ : ∃ N, N = fromZ (b.take 4) := ⟨_, rfl⟩
  obtain ⟨N2, hN2⟩ : ∃ N, N = fromZ (b.drop 28) := ⟨_, rfl⟩
  rw [← hN1, ← hN2] at h2
  have HN1 := Lib.hid hN1; clear hN1
  have HN2 := Lib.hid hN2; clear hN2
  have E25 := Lib.hid e25; clear e25
  have hd : ((N1 : Int) != (N2 : Int)) = false := by simp [h2]
  have H2 := Lib.hid h2; clear h2
  obtain ⟨X8, hX8⟩ : ∃ X, X = b.getD 8 0 := ⟨_, rfl⟩
  have h8 : 0 ≤ X8 ∧ X8 ≤ 255 := by rw [hX8]; exact hx.u8 8
  have h8a := h8.1
  have h8b := h8.2
  clear h8
  obtain ⟨F, hF⟩ : ∃ F, F = fillOf b := ⟨_, rfl⟩
  have hFX : X8.toNat % 128 = F := by rw [hF, hX8]; rfl
  rw [← hF] at h3
  have HF := Lib.hid hF; clear hF
  rw [← HF.out] at hR
  have Hx := Lib.hid hx; clear hx ht
  have Ha := Lib.hid ha; clear ha
  go_enter Tryz.func66, Tryz.ntmps66
  go_wp2_with fail
  refine Hop.out.mono ?_
  rintro e w2 ⟨hb2, ⟨h, -⟩ | ⟨-, v, rfl, hv⟩⟩
  case inl => rw [H1.out] at h; cases h
  rw [E25.out] at hv
  have Hb2 := Lib.hid hb2; clear hb2
  obtain ⟨a', c', rfl, hi, hv0⟩ := own_len hv (n := 25) (by rw [List.length_take, hl]; rfl)
  obtain ⟨g', o', rfl, hcell⟩ := hi.cell (by omega)
  have hgg := hv0 g' o' rfl
  rw [World.size_alloc] at hgg
  clear hv0
  have hic := hi.le
  have him := hi.max
  have hx2 := Hx'.out.keep Hb2.out
  obtain ⟨g, o, rfl, -⟩ := hx2.cell (by omega)
  have hn1 : ∀ d os, Calls Tryz.prog 87 #[.slice (some ⟨g', o', none⟩) 4 c'] (grow (redrawn w2 d) os) fun e w' => e = .returned (.int .i64 (N1 : Nat)) ∧ Below (grow (redrawn w2 d) os).heap.size (grow (redrawn w2 d) os) w' := fun d os => by
    have := number_calls ((hi.take 4 (by omega)).keep (below_regrown w2 d os)) (by omega)
    rwa [List.take_take, show min 4 25 = 4 from rfl, ← HN1.out] at this
  have hn2 : ∀ d os, Calls Tryz.prog 87 #[.slice (some ⟨g, o + 28, none⟩) 4 (c - 28)] (grow (redrawn w2 d) os) fun e w' => e = .returned (.int .i64 (N2 : Nat)) ∧ Below (grow (redrawn w2 d) os).heap.size (grow (redrawn w2 d) os) w' := fun d os => by
    have := number_calls ((hx2.dropAt 28 (by omega)).keep (below_regrown w2 d os)) (by omega)
    rwa [← HN2.out] at this
  have Hn1 := Lib.hid hn1; clear hn1
  have Hn2 := Lib.hid hn2; clear hn2
  have hne : ¬ (c = 28) := by omega
  clear hx2 hv
  have Hi := Lib.hid hi; clear hi
  have Hcell := Lib.hid hcell; clear hcell
  go_wp2_with fail
  refine wp_region_quiet_below (by kernel_rfl) (by kernel_rfl) ?_
  repeat (any_goals (first | go_big_quiet_step ((first | (go_at_call 87; with_reducible exact Calls.regrown_of (Hn1.out _ _)) | (go_at_call 87; exact Calls.regrown_of (Hn2.out _ _)))) | quiet_step ((first | (go_at_call 87; with_reducible exact Calls.regrown_of (Hn1.out _ _)) | (go_at_call 87; exact Calls.regrown_of (Hn2.out _ _))))))
  refine wpQuiet_nil ?_
  intro w3 hw3
  have hb3 : Below w2.heap.size w2 w3 := by obtain ⟨q, rfl⟩ := hw3; exact below_regrown _ _ _
  clear hw3 Hn1 Hn2
  have x8 : w3.cell? ⟨g', o' + 8, none⟩ = some (.int .u8 X8) := by
    have := Hcell.out 8 (by omega)
    rw [hb3.cell (block_lt_of_cell this), this, hX8]
    congr 2
    rw [List.getD_eq_getElem?_getD, List.getD_eq_getElem?_getD, List.getElem?_take, if_pos (by omega)]
  have hand := fill_bits ⟨h8a, h8b⟩ hFX
  have hF7 : F < 128 := by omega
  have HX8 := Lib.hid hX8; clear hX8
  have HFX := Lib.hid hFX; clear hFX
  have hF9 : 9 + F ≤ 25 := by omega
  have ht51 := (Hi.out.keep hb3).drop (9 + F) hF9
  have hcz : ∀ A, A = (if c' = 9 + F then some (⟨g', o', none⟩ : Addr) else (some (⟨g', o', none⟩ : Addr)).map (·.add (9 + F))) → Calls Tryz.prog 88 #[.slice A (25 - (9 + F)) (c' - (9 + F)), zeroV] w3 fun e w' => e = .returned (.bool R) ∧ Below w3.heap.size w3 w' := by
    rintro A rfl
    have := ContainsZ_calls ht51 (by omega)
    rwa [hR] at this
  clear ht51
  have hc1 : c' = 9 + F → Calls Tryz.prog 88 #[.slice (some ⟨g', o', none⟩) (25 - (9 + F)) (c' - (9 + F)), zeroV] w3 fun e w' => e = .returned (.bool R) ∧ Below w3.heap.size w3 w' := fun h => hcz _ (by rw [if_pos h])
  have hc2 : ¬ c' = 9 + F → Calls Tryz.prog 88 #[.slice (some ⟨g', o' + (9 + F), none⟩) (25 - (9 + F)) (c' - (9 + F)), zeroV] w3 fun e w' => e = .returned (.bool R) ∧ Below w3.heap.size w3 w' := fun h => hcz _ (by rw [if_neg h]; simp [Addr.add])
  have Hc1 := Lib.hid hc1; clear hc1
  have Hc2 := Lib.hid hc2; clear hc2 hcz hR
  have Hb3 := Lib.hid hb3; clear hb3
  subst h4
  by_cases h9 : c' = 9 + F
  · obtain rfl : c' = 25 := by omega
    obtain rfl : F = 16 := by omega
    have hcz : Calls Tryz.prog 88 #[.slice (some ⟨g', o', none⟩) 0 0, zeroV] w3 fun e w' => e = .returned (.bool true) ∧ Below w3.heap.size w3 w' := Hc1.out rfl
    have Hcz := Lib.hid hcz; clear Hc1 Hc2 hcz
    go_wp2_with fail
    refine Hcz.out.mono ?_
    rintro e w5 ⟨rfl, hb5⟩
    have x8' : w5.cell? ⟨g', o' + 8, none⟩ = some (.int .u8 X8) := by rw [hb5.cell (block_lt_of_cell x8)]; exact x8
    have hb3 := Hb3.out.trans (hb5.mono Hb3.out.size)
    clear hb5 x8 Hcz
    have hc3 := heap_old3 Hb2.out hb3
    have hbel := below_old3 Hb2.out hb3
    clear hb3
    go_wp2_with (with_reducible refine stop_store 72 ?_)
    refine unpark ?_
    refine wpList_store_at rfl _ _ _ rfl _ 0 rfl _ rfl _ rfl _ _ hc3 4 rfl (by decide) (by simp [Value.oneCell']) Tryz.sizeLogSec ?_
    intro w4 hw4 hg4 hs4
    clear hs4 hc3
    have hb4 : Below w.heap.size w w4 := hbel.grown hg4 hbel.size (fun k hk => by cases hk; exact Nat.le_refl _)
    clear hg4 hbel
    rw [splice_all _ _ (by rfl)] at hw4
    have q0 := cells_at hw4 0
    have q1 := cells_at hw4 1
    have q2 := cells_at hw4 2
    have q3 := cells_at hw4 3
    have HB4 := Lib.hid hb4; clear hb4 hw4
    go_wp2
    refine bodyPost_ret (v := .tuple #[.agg #[.int .i64 0, .int .i64 0, .bool false, .slice none 0 0], .bool false]) (by simp [results, Tryz.results66, go_sem, q0, q1, q2, q3]) rfl ?_
    exact ⟨rfl, HB4.out⟩
  · have hcz := Hc2.out h9
    have Hcz := Lib.hid hcz; clear Hc1 Hc2 hcz
    go_wp2_with fail
    refine Hcz.out.mono ?_
    rintro e w5 ⟨rfl, hb5⟩
    have x8' : w5.cell? ⟨g', o' + 8, none⟩ = some (.int .u8 X8) := by rw [hb5.cell (block_lt_of_cell x8)]; exact x8
    have hb3 := Hb3.out.trans (hb5.mono Hb3.out.size)
    clear hb5 x8 Hcz
    have hc3 := heap_old3 Hb2.out hb3
    have hbel := below_old3 Hb2.out hb3
    clear hb3
    go_wp2_with (with_reducible refine stop_store 72 ?_)
    refine unpark ?_
    refine wpList_store_at rfl _ _ _ rfl _ 0 rfl _ rfl _ rfl _ _ hc3 4 rfl (by decide) (by simp [Value.oneCell']) Tryz.sizeLogSec ?_
    intro w4 hw4 hg4 hs4
    clear hs4 hc3
    have hb4 : Below w.heap.size w w4 := hbel.grown hg4 hbel.size (fun k hk => by cases hk; exact Nat.le_refl _)
    clear hg4 hbel
    rw [splice_all _ _ (by rfl)] at hw4
    have q0 := cells_at hw4 0
    have q1 := cells_at hw4 1
    have q2 := cells_at hw4 2
    have q3 := cells_at hw4 3
    have HB4 := Lib.hid hb4; clear hb4 hw4
    go_wp2
    refine bodyPost_ret (v := .tuple #[.agg #[.int .i64 0, .int .i64 0, .bool false, .slice none 0 0], .bool false]) (by simp [results, Tryz.results66, go_sem, q0, q1, q2, q3]) rfl ?_
    exact ⟨rfl, HB4.out⟩

set_option maxHeartbeats 4000000 in
set_option maxRecDepth 100000 in
theorem parse_right {w : World} {a : Option Addr} {c : Nat} {b : List Int} (hx : Ints w .u8 a 32 c b) (h1 : opened (b.take 28) = true) (h2 : fromZ (b.take 4) = fromZ (b.drop 28)) (h3 : fillOf b ≤ 16) {R : Bool} (hR : (!((b.take 25).drop (9 + fillOf b)).all (· == 0)) = R) (h4 : R = false) :
    Calls Tryz.prog 66 #[.slice a 32 c] w fun e w' => ∃ a c, e = .returned (.tuple #[scV ⟨fromZ (b.take 4), fromZ ((b.drop 4).take 4), begOf b, (b.drop 9).take (fillOf b)⟩ a c, .bool true]) ∧ Ints w' .u8 a (fillOf b) c ((b.drop 9).take (fillOf b)) ∧ (∀ x o, a = some ⟨x, o, none⟩ → w.heap.size ≤ x) ∧ Below w.heap.size w w' := by
  have hl := hx.len
  have hle := hx.le
  have hmx := hx.max
  have ht := hx.take 28 (by omega)
  have ha := Below.alloc (Below.refl w.heap.size w) (Nat.le_refl _) (.cells #[.int .i64 0, .int .i64 0, .bool false, .slice none 0 0] 72)

  have hz : Ints (w.alloc (.cells #[.int .i64 0, .int .i64 0, .bool false, .slice none 0 0] 72)) .u8 a 28 c (b.take 28) := ht.alloc _
  have hop := Open_calls hz (by omega)
  have Hop := Lib.hid hop; clear hop hz
  have H1 := Lib.hid h1; clear h1
  have e25 : (b.take 28).take ((b.take 28).length - 3) = b.take 25 := by rw [List.length_take, hl, List.take_take]; rfl
  have hx' := hx.alloc (.cells #[.int .i64 0, .int .i64 0, .bool false, .slice none 0 0] 72)
  have Hx' := Lib.hid hx'; clear hx'
  obtain ⟨N1, hN1⟩ : ∃ N, N = fromZ (b.take 4) := ⟨_, rfl⟩
  obtain ⟨N2, hN2⟩ : ∃ N, N = fromZ (b.drop 28) := ⟨_, rfl⟩
  rw [← hN1, ← hN2] at h2
  have HN1 := Lib.hid hN1; clear hN1
  have HN2 := Lib.hid hN2; clear hN2
  have E25 := Lib.hid e25; clear e25
  have hd : ((N1 : Int) != (N2 : Int)) = false := by simp [h2]
  have H2 := Lib.hid h2; clear h2
  obtain ⟨X8, hX8⟩ : ∃ X, X = b.getD 8 0 := ⟨_, rfl⟩
  have h8 : 0 ≤ X8 ∧ X8 ≤ 255 := by rw [hX8]; exact hx.u8 8
  have h8a := h8.1
  have h8b := h8.2
  clear h8
  obtain ⟨F, hF⟩ : ∃ F, F = fillOf b := ⟨_, rfl⟩
  have hFX : X8.toNat % 128 = F := by rw [hF, hX8]; rfl
  rw [← hF] at h3
  have HF := Lib.hid hF; clear hF
  rw [← HF.out] at hR ⊢
  obtain ⟨N3, hN3⟩ : ∃ N, N = fromZ ((b.drop 4).take 4) := ⟨_, rfl⟩
  rw [← HN1.out, ← hN3]
  have HN3 := Lib.hid hN3; clear hN3
  have Hx := Lib.hid hx; clear hx ht
  have Ha := Lib.hid ha; clear ha
  go_enter Tryz.func66, Tryz.ntmps66
  go_wp2_with fail
  refine Hop.out.mono ?_
  rintro e w2 ⟨hb2, ⟨h, -⟩ | ⟨-, v, rfl, hv⟩⟩
  case inl => rw [H1.out] at h; cases h
  rw [E25.out] at hv
  have Hb2 := Lib.hid hb2; clear hb2
  obtain ⟨a', c', rfl, hi, hv0⟩ := own_len hv (n := 25) (by rw [List.length_take, hl]; rfl)
  obtain ⟨g', o', rfl, hcell⟩ := hi.cell (by omega)
  have hgg := hv0 g' o' rfl
  rw [World.size_alloc] at hgg
  clear hv0
  have hic := hi.le
  have him := hi.max
  have hx2 := Hx'.out.keep Hb2.out
  obtain ⟨g, o, rfl, -⟩ := hx2.cell (by omega)
  have hn1 : ∀ d os, Calls Tryz.prog 87 #[.slice (some ⟨g', o', none⟩) 4 c'] (grow (redrawn w2 d) os) fun e w' => e = .returned (.int .i64 (N1 : Nat)) ∧ Below (grow (redrawn w2 d) os).heap.size (grow (redrawn w2 d) os) w' := fun d os => by
    have := number_calls ((hi.take 4 (by omega)).keep (below_regrown w2 d os)) (by omega)
    rwa [List.take_take, show min 4 25 = 4 from rfl, ← HN1.out] at this
  have hn2 : ∀ d os, Calls Tryz.prog 87 #[.slice (some ⟨g, o + 28, none⟩) 4 (c - 28)] (grow (redrawn w2 d) os) fun e w' => e = .returned (.int .i64 (N2 : Nat)) ∧ Below (grow (redrawn w2 d) os).heap.size (grow (redrawn w2 d) os) w' := fun d os => by
    have := number_calls ((hx2.dropAt 28 (by omega)).keep (below_regrown w2 d os)) (by omega)
    rwa [← HN2.out] at this
  have Hn1 := Lib.hid hn1; clear hn1
  have Hn2 := Lib.hid hn2; clear hn2
  have hne : ¬ (c = 28) := by omega
  clear hx2 hv
  have Hi := Lib.hid hi; clear hi
  have Hcell := Lib.hid hcell; clear hcell
  go_wp2_with fail
  refine wp_region_quiet_below (by kernel_rfl) (by kernel_rfl) ?_
  repeat (any_goals (first | go_big_quiet_step ((first | (go_at_call 87; with_reducible exact Calls.regrown_of (Hn1.out _ _)) | (go_at_call 87; exact Calls.regrown_of (Hn2.out _ _)))) | quiet_step ((first | (go_at_call 87; with_reducible exact Calls.regrown_of (Hn1.out _ _)) | (go_at_call 87; exact Calls.regrown_of (Hn2.out _ _))))))
  refine wpQuiet_nil ?_
  intro w3 hw3
  have hb3 : Below w2.heap.size w2 w3 := by obtain ⟨q, rfl⟩ := hw3; exact below_regrown _ _ _
  clear hw3 Hn1 Hn2
  have x8 : w3.cell? ⟨g', o' + 8, none⟩ = some (.int .u8 X8) := by
    have := Hcell.out 8 (by omega)
    rw [hb3.cell (block_lt_of_cell this), this, hX8]
    congr 2
    rw [List.getD_eq_getElem?_getD, List.getD_eq_getElem?_getD, List.getElem?_take, if_pos (by omega)]
  have hand := fill_bits ⟨h8a, h8b⟩ hFX
  have hF7 : F < 128 := by omega
  have HX8 := Lib.hid hX8; clear hX8
  have HFX := Lib.hid hFX; clear hFX
  have hF9 : 9 + F ≤ 25 := by omega
  have ht51 := (Hi.out.keep hb3).drop (9 + F) hF9
  have hcz : ∀ A, A = (if c' = 9 + F then some (⟨g', o', none⟩ : Addr) else (some (⟨g', o', none⟩ : Addr)).map (·.add (9 + F))) → Calls Tryz.prog 88 #[.slice A (25 - (9 + F)) (c' - (9 + F)), zeroV] w3 fun e w' => e = .returned (.bool R) ∧ Below w3.heap.size w3 w' := by
    rintro A rfl
    have := ContainsZ_calls ht51 (by omega)
    rwa [hR] at this
  clear ht51
  have hc1 : c' = 9 + F → Calls Tryz.prog 88 #[.slice (some ⟨g', o', none⟩) (25 - (9 + F)) (c' - (9 + F)), zeroV] w3 fun e w' => e = .returned (.bool R) ∧ Below w3.heap.size w3 w' := fun h => hcz _ (by rw [if_pos h])
  have hc2 : ¬ c' = 9 + F → Calls Tryz.prog 88 #[.slice (some ⟨g', o' + (9 + F), none⟩) (25 - (9 + F)) (c' - (9 + F)), zeroV] w3 fun e w' => e = .returned (.bool R) ∧ Below w3.heap.size w3 w' := fun h => hcz _ (by rw [if_neg h]; simp [Addr.add])
  have Hc1 := Lib.hid hc1; clear hc1
  have Hc2 := Lib.hid hc2; clear hc2 hcz hR
  have Hb3 := Lib.hid hb3; clear hb3
  subst h4
  by_cases h9 : c' = 9 + F
  · obtain rfl : c' = 25 := by omega
    obtain rfl : F = 16 := by omega
    have hcz : Calls Tryz.prog 88 #[.slice (some ⟨g', o', none⟩) 0 0, zeroV] w3 fun e w' => e = .returned (.bool false) ∧ Below w3.heap.size w3 w' := Hc1.out rfl
    have Hcz := Lib.hid hcz; clear Hc1 Hc2 hcz
    go_wp2_with fail
    refine Hcz.out.mono ?_
    rintro e w5 ⟨rfl, hb5⟩
    have x8' : w5.cell? ⟨g', o' + 8, none⟩ = some (.int .u8 X8) := by rw [hb5.cell (block_lt_of_cell x8)]; exact x8
    have hb3 := Hb3.out.trans (hb5.mono Hb3.out.size)
    clear hb5 x8 Hcz
    have b8 := beg_bits (X := X8) ⟨h8a, h8b⟩
    have hi5 := Hi.out.keep hb3
    have hn1 : ∀ d os, Calls Tryz.prog 87 #[.slice (some ⟨g', o', none⟩) 4 25] (grow (redrawn w5 d) os) fun e w' => e = .returned (.int .i64 (N1 : Nat)) ∧ Below (grow (redrawn w5 d) os).heap.size (grow (redrawn w5 d) os) w' := fun d os => by
      have := number_calls ((hi5.take 4 (by omega)).keep (below_regrown w5 d os)) (by omega)
      rwa [List.take_take, show min 4 25 = 4 from rfl, ← HN1.out] at this
    have hn3 : ∀ d os, Calls Tryz.prog 87 #[.slice (some ⟨g', o' + 4, none⟩) 4 (25 - 4)] (grow (redrawn w5 d) os) fun e w' => e = .returned (.int .i64 (N3 : Nat)) ∧ Below (grow (redrawn w5 d) os).heap.size (grow (redrawn w5 d) os) w' := fun d os => by
      have := number_calls (((hi5.dropAt 4 (by omega)).take 4 (by omega)).keep (below_regrown w5 d os)) (by omega)
      rwa [List.drop_take, List.take_take, show min 4 (25 - 4) = 4 from rfl, ← HN3.out] at this
    have Hn1 := Lib.hid hn1; clear hn1
    have Hn3 := Lib.hid hn3; clear hn3
    have hdat := (hi5.dropAt 9 (by omega)).take 16 (by omega)
    rw [List.drop_take, List.take_take, show min 16 (25 - 9) = 16 by omega] at hdat
    have Hdat := Lib.hid hdat; clear hdat hi5
    have Hb3' := Lib.hid hb3; clear hb3
    have hne9 : ¬ 25 = 9 := by omega
    have hne4 : ¬ 25 = 4 := by omega
    have z8 := cell_regrown x8'
    go_wp2_with fail
    refine wp_region_quiet_tail 15 (by kernel_rfl) (by kernel_rfl) ?_
    simp only [List.take_succ_cons, List.take_zero, List.drop_succ_cons, List.drop_zero]
    repeat (any_goals (first | go_big_quiet_step ((first | (go_at_call 87; with_reducible exact Calls.regrown_of (Hn1.out _ _)) | (go_at_call 87; exact Calls.regrown_of (Hn3.out _ _)))) | quiet_step ((first | (go_at_call 87; with_reducible exact Calls.regrown_of (Hn1.out _ _)) | (go_at_call 87; exact Calls.regrown_of (Hn3.out _ _))))))
    refine wpQuiet_nil ?_
    intro w6 hw6
    have hb6 : Below w5.heap.size w5 w6 := by obtain ⟨q, rfl⟩ := hw6; exact below_regrown _ _ _
    clear hw6 z8 Hn1 Hn3 x8'
    have hb3 := Hb3'.out.trans (hb6.mono Hb3'.out.size)
    have hdat := Hdat.out.keep hb6
    clear Hdat
    have hc3 := heap_old3 Hb2.out hb3
    have hbel := below_old3 Hb2.out hb3
    clear hb3
    go_wp2_with (with_reducible refine stop_store 72 ?_)
    refine unpark ?_
    refine wpList_store_at rfl _ _ _ rfl _ 0 rfl _ rfl _ rfl _ _ hc3 4 rfl (by decide) (by simp [Value.oneCell']) Tryz.sizeLogSec ?_
    intro w4 hw4 hg4 hs4
    clear hs4 hc3
    have hb4 : Below w.heap.size w w4 := hbel.grown hg4 hbel.size (fun k hk => by cases hk; exact Nat.le_refl _)
    have hdat4 := hdat.keepOn (w' := w4) fun x o e hlt => hg4.block x hlt (by intro e2; cases e; injection e2 with e2; omega)
    have Hdat := Lib.hid hdat4; clear hdat4 hdat
    clear hg4 hbel
    rw [splice_all _ _ (by rfl)] at hw4
    have q0 := cells_at hw4 0
    have q1 := cells_at hw4 1
    have q2 := cells_at hw4 2
    have q3 := cells_at hw4 3
    have HB4 := Lib.hid hb4; clear hb4 hw4
    go_wp2
    refine bodyPost_ret (v := .tuple #[.agg #[.int .i64 N1, .int .i64 N3, .bool (decide (128 ≤ X8)), .slice (some ⟨g', o' + 9, none⟩) 16 16], .bool true]) (by simp [results, Tryz.results66, go_sem, q0, q1, q2, q3]) rfl ?_
    refine ⟨_, _, ?_, Hdat.out, (fun x o e => by cases e; omega), HB4.out⟩
    have hlen := Hdat.out.len
    have hx8 := HX8.out
    simp only [scV, begOf]
    rw [hlen, ← hx8]
    
  · have hcz := Hc2.out h9
    have Hcz := Lib.hid hcz; clear Hc1 Hc2 hcz
    go_wp2_with fail
    refine Hcz.out.mono ?_
    rintro e w5 ⟨rfl, hb5⟩
    have x8' : w5.cell? ⟨g', o' + 8, none⟩ = some (.int .u8 X8) := by rw [hb5.cell (block_lt_of_cell x8)]; exact x8
    have hb3 := Hb3.out.trans (hb5.mono Hb3.out.size)
    clear hb5 x8 Hcz
    have b8 := beg_bits (X := X8) ⟨h8a, h8b⟩
    have hi5 := Hi.out.keep hb3
    have hn1 : ∀ d os, Calls Tryz.prog 87 #[.slice (some ⟨g', o', none⟩) 4 c'] (grow (redrawn w5 d) os) fun e w' => e = .returned (.int .i64 (N1 : Nat)) ∧ Below (grow (redrawn w5 d) os).heap.size (grow (redrawn w5 d) os) w' := fun d os => by
      have := number_calls ((hi5.take 4 (by omega)).keep (below_regrown w5 d os)) (by omega)
      rwa [List.take_take, show min 4 25 = 4 from rfl, ← HN1.out] at this
    have hn3 : ∀ d os, Calls Tryz.prog 87 #[.slice (some ⟨g', o' + 4, none⟩) 4 (c' - 4)] (grow (redrawn w5 d) os) fun e w' => e = .returned (.int .i64 (N3 : Nat)) ∧ Below (grow (redrawn w5 d) os).heap.size (grow (redrawn w5 d) os) w' := fun d os => by
      have := number_calls (((hi5.dropAt 4 (by omega)).take 4 (by omega)).keep (below_regrown w5 d os)) (by omega)
      rwa [List.drop_take, List.take_take, show min 4 (25 - 4) = 4 from rfl, ← HN3.out] at this
    have Hn1 := Lib.hid hn1; clear hn1
    have Hn3 := Lib.hid hn3; clear hn3
    have hdat := (hi5.dropAt 9 (by omega)).take F (by omega)
    rw [List.drop_take, List.take_take, show min F (25 - 9) = F by omega] at hdat
    have Hdat := Lib.hid hdat; clear hdat hi5
    have Hb3' := Lib.hid hb3; clear hb3
    have hne9 : ¬ c' = 9 := by omega
    have hne4 : ¬ c' = 4 := by omega
    have z8 := cell_regrown x8'
    go_wp2_with fail
    refine wp_region_quiet_tail 15 (by kernel_rfl) (by kernel_rfl) ?_
    simp only [List.take_succ_cons, List.take_zero, List.drop_succ_cons, List.drop_zero]
    repeat (any_goals (first | go_big_quiet_step ((first | (go_at_call 87; with_reducible exact Calls.regrown_of (Hn1.out _ _)) | (go_at_call 87; exact Calls.regrown_of (Hn3.out _ _)))) | quiet_step ((first | (go_at_call 87; with_reducible exact Calls.regrown_of (Hn1.out _ _)) | (go_at_call 87; exact Calls.regrown_of (Hn3.out _ _))))))
    refine wpQuiet_nil ?_
    intro w6 hw6
    have hb6 : Below w5.heap.size w5 w6 := by obtain ⟨q, rfl⟩ := hw6; exact below_regrown _ _ _
    clear hw6 z8 Hn1 Hn3 x8'
    have hb3 := Hb3'.out.trans (hb6.mono Hb3'.out.size)
    have hdat := Hdat.out.keep hb6
    clear Hdat
    have hc3 := heap_old3 Hb2.out hb3
    have hbel := below_old3 Hb2.out hb3
    clear hb3
    go_wp2_with (with_reducible refine stop_store 72 ?_)
    refine unpark ?_
    refine wpList_store_at rfl _ _ _ rfl _ 0 rfl _ rfl _ rfl _ _ hc3 4 rfl (by decide) (by simp [Value.oneCell']) Tryz.sizeLogSec ?_
    intro w4 hw4 hg4 hs4
    clear hs4 hc3
    have hb4 : Below w.heap.size w w4 := hbel.grown hg4 hbel.size (fun k hk => by cases hk; exact Nat.le_refl _)
    have hdat4 := hdat.keepOn (w' := w4) fun x o e hlt => hg4.block x hlt (by intro e2; cases e; injection e2 with e2; omega)
    have Hdat := Lib.hid hdat4; clear hdat4 hdat
    clear hg4 hbel
    rw [splice_all _ _ (by rfl)] at hw4
    have q0 := cells_at hw4 0
    have q1 := cells_at hw4 1
    have q2 := cells_at hw4 2
    have q3 := cells_at hw4 3
    have HB4 := Lib.hid hb4; clear hb4 hw4
    go_wp2
    refine bodyPost_ret (v := .tuple #[.agg #[.int .i64 N1, .int .i64 N3, .bool (decide (128 ≤ X8)), .slice (some ⟨g', o' + 9, none⟩) F (c' - 9)], .bool true]) (by simp [results, Tryz.results66, go_sem, q0, q1, q2, q3]) rfl ?_
    refine ⟨_, _, ?_, Hdat.out, (fun x o e => by cases e; omega), HB4.out⟩
    have hlen := Hdat.out.len
    have hx8 := HX8.out
    simp only [scV, begOf]
    rw [hlen, ← hx8]

theorem parse_calls {w : World} {a : Option Addr} {c : Nat} {b : List Int} (hx : Ints w .u8 a 32 c b) :
    Calls Tryz.prog 66 #[.slice a 32 c] w fun e w' => ∃ a c, e = .returned (.tuple #[scV (parseZ b).1 a c, .bool (parseZ b).2]) ∧ Ints w' .u8 a (parseZ b).1.data.length c (parseZ b).1.data ∧ (∀ x o, a = some ⟨x, o, none⟩ → w.heap.size ≤ x) ∧ Below w.heap.size w w' := by
  have hno : parseZ b = (noSc, false) → (Calls Tryz.prog 66 #[.slice a 32 c] w fun e w' => e = .returned (.tuple #[.agg #[.int .i64 0, .int .i64 0, .bool false, .slice none 0 0], .bool false]) ∧ Below w.heap.size w w') → Calls Tryz.prog 66 #[.slice a 32 c] w fun e w' => ∃ a c, e = .returned (.tuple #[scV (parseZ b).1 a c, .bool (parseZ b).2]) ∧ Ints w' .u8 a (parseZ b).1.data.length c (parseZ b).1.data ∧ (∀ x o, a = some ⟨x, o, none⟩ → w.heap.size ≤ x) ∧ Below w.heap.size w w' := fun he h => by
    rw [he]
    exact h.mono fun e w' ⟨h1, h2⟩ => ⟨none, 0, h1, Ints.nil0 _ _, (fun _ _ e => by cases e), h2⟩
  by_cases h1 : opened (b.take 28) = true
  · by_cases h2 : fromZ (b.take 4) = fromZ (b.drop 28)
    · have ht : tailOk b = true := by unfold tailOk; rw [h1, decide_eq_true h2]; rfl
      by_cases h3 : fillOf b ≤ 16
      · cases h4 : ((b.take 25).drop (9 + fillOf b)).all (· == 0) with
        | true =>
          have hb : bodyOk b = true := by unfold bodyOk; rw [h4, decide_eq_true h3]; rfl
          have he : parseZ b = (⟨fromZ (b.take 4), fromZ ((b.drop 4).take 4), begOf b, (b.drop 9).take (fillOf b)⟩, true) := by unfold parseZ; rw [if_pos ht, if_pos hb]
          rw [he]
          refine (parse_right hx h1 h2 h3 (R := false) (by rw [h4]; rfl) rfl).mono ?_
          rintro e w' ⟨a, c, h5, h6, h8, h7⟩
          have hl : ((b.drop 9).take (fillOf b)).length = fillOf b := h6.len
          refine ⟨a, c, h5, ?_, h8, h7⟩
          show Ints w' .u8 a ((b.drop 9).take (fillOf b)).length c _
          rw [hl]
          exact h6
        | false =>
          have hb : bodyOk b = false := by unfold bodyOk; rw [h4, Bool.and_false]
          exact hno (by unfold parseZ; rw [if_pos ht, if_neg (by rw [hb]; decide)]) (parse_dirty hx h1 h2 h3 (R := true) (by rw [h4]; rfl) rfl)
      · have hb : bodyOk b = false := by unfold bodyOk; rw [decide_eq_false h3, Bool.false_and]
        exact hno (by unfold parseZ; rw [if_pos ht, if_neg (by rw [hb]; decide)]) (parse_long hx h1 h2 (by omega))
    · have ht : tailOk b = false := by unfold tailOk; rw [decide_eq_false h2, Bool.and_false]
      exact hno (by unfold parseZ; rw [if_neg (by rw [ht]; decide)]) (parse_differ hx h1 h2)
  · have h1' : opened (b.take 28) = false := by simpa using h1
    have ht : tailOk b = false := by unfold tailOk; rw [h1', Bool.false_and]
    exact hno (by unfold parseZ; rw [if_neg (by rw [ht]; decide)]) (parse_shut hx h1')

end Go.Proofs.YtgpedejeifmfdaaGreat
/- The log in memory: place, Free, Next, First. -/
namespace Go.Proofs.YtgpedejeifmfdaaGreat
open Go.RowKit Go.Sort

/-- What a log knows. -/
structure Lg where
  next : Nat
  first : Nat
  sure : Nat
def Lg.cells (l : Lg) (db : Nat) : Array Value := #[.pointer (some ⟨db, 0, none⟩), .int .i64 l.next, .int .i64 l.first, .int .i64 l.sure]
def LogAt (w : World) (lb db : Nat) (l : Lg) : Prop := w.heap[lb]? = some (.cells (l.cells db) 70 (0, 0))
section
variable {w0 w : World} {b lb : Nat} {F : Nat → Prop} {s : State} {l : Lg}
theorem place_calls (h : Dev w0 w b F s) (hl : LogAt w lb b l) {n : Nat} (h1 : 1 ≤ n) (h2 : n ≤ 4294967296) :
    Calls Tryz.prog 54 #[.pointer (some ⟨lb, 0, none⟩), .int .i64 (n : Int)] w fun e w' => e = .returned (.int .i64 (((n - 1) % s.1.length : Nat) : Int)) ∧ w' = w := by
  have c0 := cells_at hl 0
  have hs := Sectors_dev h
  obtain ⟨hp, hp2⟩ := h.len
  have hm : ((n : Int) - 1).tmod (s.1.length : Int) = (((n - 1) % s.1.length : Nat) : Int) := by
    rw [Int.tmod_eq_emod_of_nonneg (by omega)]
    rw [show (n : Int) - 1 = ((n - 1 : Nat) : Int) by omega]
    rfl
  have hne : ¬ ((s.1.length : Int) = 0) := by omega
  simp only [Lg.cells] at c0
  generalize s.1.length = N at *
  generalize hR : (((n - 1) % N : Nat) : Int) = R at *
  have Hs := Lib.hid hs; clear hs
  have HR := Lib.hid hR; clear hR
  clear hl h
  go_enter Tryz.func54, Tryz.ntmps54
  go_wp2_with fail
  refine Hs.out.mono ?_
  rintro e w1 ⟨rfl, hw⟩
  obtain rfl := hw
  go_wp2
  go_ret
  exact ⟨rfl, rfl⟩
theorem Next_calls (hl : LogAt w lb b l) :
    Calls Tryz.prog 23 #[.pointer (some ⟨lb, 0, none⟩)] w fun e w' => e = .returned (.int .i64 (l.next : Nat)) ∧ w' = w := by
  have c1 := cells_at hl 1
  simp only [Lg.cells] at c1
  go_enter Tryz.func23, Tryz.ntmps23
  go_wp2
  go_ret
  exact ⟨rfl, rfl⟩
theorem First_calls (hl : LogAt w lb b l) :
    Calls Tryz.prog 24 #[.pointer (some ⟨lb, 0, none⟩)] w fun e w' => e = .returned (.int .i64 (l.first : Nat)) ∧ w' = w := by
  have c2 := cells_at hl 2
  simp only [Lg.cells] at c2
  go_enter Tryz.func24, Tryz.ntmps24
  go_wp2
  go_ret
  exact ⟨rfl, rfl⟩
theorem Free_calls (h : Dev w0 w b F s) (hl : LogAt w lb b l) (h1 : l.next ≤ 4294967297) (h2 : l.sure ≤ 4294967297) :
    Calls Tryz.prog 21 #[.pointer (some ⟨lb, 0, none⟩)] w fun e w' => e = .returned (.int .i64 ((s.1.length : Int) - (l.next : Int) + (l.sure : Int))) ∧ Below w.heap.size w w' := by
  have c0 := cell_regrown (cells_at hl 0)
  have c1 := cell_regrown (cells_at hl 1)
  have c3 := cell_regrown (cells_at hl 3)
  simp only [Lg.cells] at c0 c1 c3
  have hs : ∀ d os, Calls Tryz.prog 32 #[.pointer (some ⟨b, 0, none⟩)] (grow (redrawn w d) os) fun e w' => e = .returned (.int .i64 (s.1.length : Int)) ∧ Below (grow (redrawn w d) os).heap.size (grow (redrawn w d) os) w' := fun d os =>
    (Sectors_dev (h.step (below_regrown w d os))).mono fun e w' ⟨h1, h2⟩ => ⟨h1, by subst h2; exact Below.refl _ _⟩
  obtain ⟨hp, hp2⟩ := h.len
  generalize s.1.length = N at *
  have Hs := Lib.hid hs; clear hs hl h
  go_enter Tryz.func21, Tryz.ntmps21
  go_wp2_with fail
  refine wp_region_quiet_below (by kernel_rfl) (by kernel_rfl) ?_
  repeat (any_goals (first | go_big_quiet_step ((go_at_call 32; exact Calls.regrown_of (Hs.out _ _))) | quiet_step ((go_at_call 32; exact Calls.regrown_of (Hs.out _ _)))))
  refine wpQuiet_nil ?_
  intro w3 hw3
  have hb3 : Below w.heap.size w w3 := by obtain ⟨q, rfl⟩ := hw3; exact below_regrown _ _ _
  have Hb3 := Lib.hid hb3; clear hb3 hw3 c0 c1 c3
  go_wp2
  go_ret
  exact ⟨rfl, Hb3.out⟩
end
theorem need_calls {w : World} {a : Option Addr} {n c : Nat} (hn : n ≤ 10000000) :
    Calls Tryz.prog 52 #[.slice a n c] w fun e w' => e = .returned (.int .i64 (((n + 15) / 16 : Nat) : Int)) ∧ w' = w := by
  have hq : (((n + 15) / 16 : Nat) : Int) = ((n : Int) + 16 - 1) / 16 := by omega
  rw [hq]
  clear hq
  go_enter Tryz.func52, Tryz.ntmps52
  go_wp2
  go_ret
  exact ⟨rfl, rfl⟩
end Go.Proofs.YtgpedejeifmfdaaGreat
/- The log, plain: a sector's bytes, there and back; what is torn. -/
namespace Go.Proofs.YtgpedejeifmfdaaGreat
open Go.RowKit

def fillZ (S : Sc) : Nat := (if S.beg = true then 128 else 0) + S.data.length
/-- A sector's bytes ahead of its seal. -/
def preZ (S : Sc) : List Int := bytesZ 4 S.num ++ (bytesZ 4 S.first ++ ((fillZ S : Int) :: (S.data ++ List.replicate (16 - S.data.length) 0)))
/-- A sector's bytes. -/
def secZ (S : Sc) : List Int := sealed (preZ S) ++ bytesZ 4 S.num
structure Sc.ok (S : Sc) : Prop where
  num : S.num < 4294967296
  first : S.first < 4294967296
  len : S.data.length ≤ 16
  fit : ∀ z ∈ S.data, 0 ≤ z ∧ z ≤ 255
theorem preZ_len {S : Sc} (h : S.ok) : (preZ S).length = 25 := by
  have := h.len
  simp [preZ, bytes_len]
  omega
theorem sealedZ_len {S : Sc} (h : S.ok) : (sealed (preZ S)).length = 28 := by rw [sealed_len, preZ_len h]
theorem secZ_len {S : Sc} (h : S.ok) : (secZ S).length = 32 := by
  unfold secZ
  rw [List.length_append, sealedZ_len h, bytes_len]
theorem from4 {n : Nat} (h : n < 4294967296) : fromZ (bytesZ 4 n) = n := by rw [from_bytes, val_dig 4 n (by simpa using h)]
theorem sec_take4 {S : Sc} : (secZ S).take 4 = bytesZ 4 S.num := by
  have e : secZ S = bytesZ 4 S.num ++ (bytesZ 4 S.first ++ ((fillZ S : Int) :: (S.data ++ List.replicate (16 - S.data.length) 0)) ++ three (crc 11994318 (preZ S)) ++ bytesZ 4 S.num) := by
    unfold secZ sealed
    conv => lhs; unfold preZ
    simp only [List.append_assoc]
    rfl
  rw [e, List.take_append_of_le_length (by simp [bytes_len]), List.take_of_length_le (by simp [bytes_len])]
theorem sec_drop28 {S : Sc} (h : S.ok) : (secZ S).drop 28 = bytesZ 4 S.num := by
  unfold secZ
  rw [List.drop_append_of_le_length (by simp [sealedZ_len h]), List.drop_of_length_le (by simp [sealedZ_len h]), List.nil_append]
theorem sec_take28 {S : Sc} (h : S.ok) : (secZ S).take 28 = sealed (preZ S) := by
  unfold secZ
  rw [List.take_append_of_le_length (by simp [sealedZ_len h]), List.take_of_length_le (by simp [sealedZ_len h])]
theorem opened_of (x : List Int) : opened (sealed x) = true := by
  have e : (sealed x).length - 3 = x.length := by rw [sealed_len]; omega
  unfold opened
  rw [e, decide_eq_true (by rw [sealed_len]; omega)]
  unfold sealed
  simp
theorem parse_sec {S : Sc} (h : S.ok) : parseZ (secZ S) = (S, true) := by
  have hl := h.len
  have e4 := sec_take4 (S := S)
  have e28 := sec_take28 h
  have ed := sec_drop28 h
  have ht : tailOk (secZ S) = true := by
    unfold tailOk
    rw [e28, opened_of, e4, ed, decide_eq_true rfl]; rfl
  have e25 : (secZ S).take 25 = preZ S := by
    have : (secZ S).take 25 = ((secZ S).take 28).take 25 := by rw [List.take_take]; rfl
    rw [this, e28]
    unfold sealed
    rw [List.take_append_of_le_length (by simp [preZ_len h]), List.take_of_length_le (by simp [preZ_len h])]
  have d4 : (secZ S).drop 4 = bytesZ 4 S.first ++ ((fillZ S : Int) :: (S.data ++ List.replicate (16 - S.data.length) 0)) ++ three (crc 11994318 (preZ S)) ++ bytesZ 4 S.num := by
    have e : secZ S = bytesZ 4 S.num ++ (bytesZ 4 S.first ++ ((fillZ S : Int) :: (S.data ++ List.replicate (16 - S.data.length) 0)) ++ three (crc 11994318 (preZ S)) ++ bytesZ 4 S.num) := by
      unfold secZ sealed
      conv => lhs; unfold preZ
      simp only [List.append_assoc]
      rfl
    conv => lhs; rw [e]
    rw [List.drop_append_of_le_length (by simp [bytes_len]), List.drop_of_length_le (by simp [bytes_len]), List.nil_append]
  have d8 : (secZ S).drop 8 = (fillZ S : Int) :: (S.data ++ (List.replicate (16 - S.data.length) 0 ++ (three (crc 11994318 (preZ S)) ++ bytesZ 4 S.num))) := by
    have : (secZ S).drop 8 = ((secZ S).drop 4).drop 4 := by rw [List.drop_drop]
    rw [this, d4, List.append_assoc, List.append_assoc, List.drop_append_of_le_length (by simp [bytes_len]), List.drop_of_length_le (by simp [bytes_len]), List.nil_append, List.cons_append, List.append_assoc]
  have g8 : (secZ S).getD 8 0 = (fillZ S : Int) := by
    have : (secZ S).getD 8 0 = ((secZ S).drop 8).getD 0 0 := by simp [List.getD_eq_getElem?_getD, List.getElem?_drop]
    rw [this, d8]; rfl
  have hf : fillOf (secZ S) = S.data.length := by
    unfold fillOf
    rw [g8, Int.toNat_natCast]
    unfold fillZ; split <;> omega
  have hbg : begOf (secZ S) = S.beg := by
    unfold begOf
    rw [g8]
    unfold fillZ
    cases S.beg
    · simp; omega
    · simp; omega
  have d9 : (secZ S).drop 9 = S.data ++ (List.replicate (16 - S.data.length) 0 ++ (three (crc 11994318 (preZ S)) ++ bytesZ 4 S.num)) := by
    have : (secZ S).drop 9 = ((secZ S).drop 8).drop 1 := by rw [List.drop_drop]
    rw [this, d8]; rfl
  have hb : bodyOk (secZ S) = true := by
    unfold bodyOk
    rw [hf, decide_eq_true hl, Bool.true_and, e25, List.all_eq_true]
    intro z hz
    have : (preZ S).drop (9 + S.data.length) = List.replicate (16 - S.data.length) 0 := by
      have e9 : preZ S = (bytesZ 4 S.num ++ bytesZ 4 S.first ++ [(fillZ S : Int)] ++ S.data) ++ List.replicate (16 - S.data.length) 0 := by unfold preZ; simp
      have l9 : (bytesZ 4 S.num ++ bytesZ 4 S.first ++ [(fillZ S : Int)] ++ S.data).length = 9 + S.data.length := by simp [bytes_len]; omega
      rw [e9, List.drop_append_of_le_length (by rw [l9]; exact Nat.le_refl _), List.drop_of_length_le (by rw [l9]; exact Nat.le_refl _), List.nil_append]
    rw [this] at hz
    obtain ⟨-, rfl⟩ := List.mem_replicate.1 hz
    rfl
  unfold parseZ
  rw [if_pos ht, if_pos hb, e4, hf, hbg, from4 h.num, d9, d4]
  have f1 : ((bytesZ 4 S.first ++ ((fillZ S : Int) :: (S.data ++ List.replicate (16 - S.data.length) 0)) ++ three (crc 11994318 (preZ S)) ++ bytesZ 4 S.num).take 4) = bytesZ 4 S.first := by
    rw [List.append_assoc, List.append_assoc, List.take_append_of_le_length (by simp [bytes_len]), List.take_of_length_le (by simp [bytes_len])]
  rw [f1, from4 h.first, List.take_append_of_le_length (Nat.le_refl _), List.take_of_length_le (Nat.le_refl _)]
theorem parse_none {b : List Int} (h : tailOk b = false) : parseZ b = (noSc, false) := by
  unfold parseZ
  rw [if_neg (by rw [h]; decide)]
theorem nought_shut : opened (List.replicate 28 0) = false := by decide +kernel
end Go.Proofs.YtgpedejeifmfdaaGreat
/- The log, plain: rows, what they tell, chunks. -/
namespace Go.Proofs.YtgpedejeifmfdaaGreat
open Go.RowKit

/-- The rows of sectors, behind one that is begun. -/
def rowsF : List Int → List Sc → List (List Int)
  | cur, [] => [cur]
  | cur, S :: T => if S.beg = true then cur :: rowsF S.data T else rowsF (cur ++ S.data) T
def rowsZ (T : List Sc) : List (List Int) := rowsF [] T
def tellRow (r : List Int) : Option (List Rc) := if r.length - (allR r).2 ≤ 23 then some (allR r).1 else none
def tellRows : List (List Int) → Option (List Rc)
  | [] => some []
  | r :: R => match tellRow r, tellRows R with
    | some a, some b => some (a ++ b)
    | _, _ => none
/-- What sectors tell. -/
def tellZ (T : List Sc) : Option (List Rc) := tellRows (rowsZ T)
theorem rowsF_cons (cur : List Int) (S : Sc) (T : List Sc) : rowsF cur (S :: T) = if S.beg = true then cur :: rowsF S.data T else rowsF (cur ++ S.data) T := rfl
theorem rowsF_ne : ∀ (cur : List Int) (T : List Sc), ∃ a A, rowsF cur T = a :: A
  | cur, [] => ⟨_, _, rfl⟩
  | cur, S :: T => by
    unfold rowsF
    split
    · exact ⟨_, _, rfl⟩
    · exact rowsF_ne _ _
theorem tellRows_append : ∀ {A B : List (List Int)} {a b : List Rc}, tellRows A = some a → tellRows B = some b → tellRows (A ++ B) = some (a ++ b)
  | [], B, a, b, ha, hb => by cases ha; simpa using hb
  | r :: A, B, a, b, ha, hb => by
    rw [List.cons_append]
    unfold tellRows at ha ⊢
    cases h1 : tellRow r with
    | none => rw [h1] at ha; cases ha
    | some x =>
      cases h2 : tellRows A with
      | none => rw [h1, h2] at ha; cases ha
      | some y =>
        rw [h1, h2] at ha
        cases ha
        rw [tellRows_append h2 hb]
        simp
theorem allR_nil : allR [] = ([], 0) := all_none (by decide +kernel)
def needZ (b : List Int) : Nat := (b.length + 15) / 16
def chunkAt (n first : Nat) (b : List Int) (k : Nat) : Sc := ⟨n + k, first, decide (k = 0), (b.drop (16 * k)).take 16⟩
/-- The sectors of bytes, from a number on. -/
def chunks (n first : Nat) (b : List Int) : List Sc := (List.range (needZ b)).map (chunkAt n first b)
theorem chunks_len (n first : Nat) (b : List Int) : (chunks n first b).length = needZ b := by simp [chunks]
end Go.Proofs.YtgpedejeifmfdaaGreat
/- The log, plain: what a disk tells; histories. -/
namespace Go.Proofs.YtgpedejeifmfdaaGreat
open Go.RowKit

def placeOf (s : State) (n : Nat) : Nat := (n - 1) % s.1.length
/-- The sector at a place, and whether it is one that belongs there. -/
def readS (s : State) (k : Nat) : Sc × Bool :=
  ((parseZ (readOf s.1 s.2 (k : Int))).1, (parseZ (readOf s.1 s.2 (k : Int))).2 && (decide (1 ≤ (parseZ (readOf s.1 s.2 (k : Int))).1.num) && decide (placeOf s (parseZ (readOf s.1 s.2 (k : Int))).1.num = k)))
/-- The greatest of the first ones. -/
def lastF (s : State) : Nat → Sc
  | 0 => noSc
  | k + 1 => if ((readS s k).2 && decide ((lastF s k).num < (readS s k).1.num)) = true then (readS s k).1 else lastF s k
def lastS (s : State) : Sc := lastF s s.1.length
/-- The sectors from a number on. -/
def secsS (s : State) (n : Nat) : Nat → Option (List Sc)
  | 0 => some []
  | k + 1 => if ((readS s (placeOf s n)).2 && decide ((readS s (placeOf s n)).1.num = n)) = true then (secsS s (n + 1) k).map ((readS s (placeOf s n)).1 :: ·) else none
/-- What a disk tells: a log, and its records. -/
def openS (s : State) : Option ((Nat × Nat × Nat) × List Rc) :=
  if (lastS s).num = 0 then some ((1, 1, 1), []) else
  if 1 ≤ (lastS s).first ∧ (lastS s).first ≤ (lastS s).num ∧ (lastS s).num - (lastS s).first < s.1.length then
    match secsS s (lastS s).first ((lastS s).num - (lastS s).first + 1) with
    | none => none
    | some T => match tellZ T with
      | none => none
      | some rs => some (((lastS s).num + 1, (lastS s).first, (lastS s).first), rs)
  else none

def Good (T : List Sc) : Prop := ∀ i (h : i < T.length), T[i].num = i + 1 ∧ T[i].ok
theorem Good.snoc {T : List Sc} {S : Sc} (h : Good T) (hn : S.num = T.length + 1) (hok : S.ok) : Good (T ++ [S]) := fun i hi => by
  rw [List.getElem_append]
  split
  · exact h i (by assumption)
  · rw [List.length_append, List.length_singleton] at hi
    obtain rfl : i = T.length := by omega
    simp only [Nat.sub_self, List.getElem_cons_zero]
    exact ⟨hn, hok⟩
theorem Good.take {T : List Sc} (h : Good T) (m : Nat) : Good (T.take m) := fun i hi => by
  rw [List.length_take] at hi
  rw [List.getElem_take]
  exact h i (by omega)
/-- A disk has all sectors of a history that were not overwritten, and none above. -/
structure Seen (s : State) (T : List Sc) : Prop where
  old : ∀ i (h : i < T.length), T.length ≤ i + s.1.length → readS s (i % s.1.length) = (T[i], true)
  no : ∀ k, k < s.1.length → (readS s k).2 = true → (readS s k).1.num ≤ T.length
theorem readS_of {s : State} {k n : Nat} {S : Sc} (h : readOf s.1 s.2 (k : Int) = secZ S) (hok : S.ok) (hn : S.num = n + 1) (hk : n % s.1.length = k) : readS s k = (S, true) := by
  unfold readS placeOf
  rw [h, parse_sec hok, hn]
  simp [hk]
theorem readS_none {s : State} {k : Nat} (h : tailOk (readOf s.1 s.2 (k : Int)) = false) : readS s k = (noSc, false) := by
  unfold readS
  rw [parse_none h]; rfl
theorem readS_congr {s s' : State} {k : Nat} (h : readOf s'.1 s'.2 (k : Int) = readOf s.1 s.2 (k : Int)) (hl : s'.1.length = s.1.length) : readS s' k = readS s k := by
  unfold readS placeOf
  rw [h, hl]
theorem lastF_num {s : State} {T : List Sc} (h : Seen s T) : ∀ j, j ≤ s.1.length → (lastF s j).num ≤ T.length
  | 0, _ => Nat.zero_le _
  | j + 1, hj => by
    unfold lastF
    split
    · rename_i hc
      rw [Bool.and_eq_true] at hc
      exact h.no j (by omega) hc.1
    · exact lastF_num h j (by omega)
theorem last_none {s : State} (h : Seen s []) : (lastS s).num = 0 := by
  have := lastF_num h s.1.length (Nat.le_refl _)
  unfold lastS
  simpa using this
theorem open_none {s : State} (h : Seen s []) : openS s = some ((1, 1, 1), []) := by
  unfold openS
  rw [if_pos (last_none h)]
/-- A disk behind one sector more. -/
def laid (s : State) (S : Sc) : State := (s.1, written s.1 s.2 ((placeOf s S.num : Nat) : Int) (secZ S))
theorem laid_cache {s : State} {S : Sc} (hN : 0 < s.1.length) (hok : S.ok) : (laid s S).2 = s.2 ++ [(((placeOf s S.num : Nat) : Int), secZ S)] := by
  unfold laid written
  have := Nat.mod_lt (S.num - 1) hN
  rw [if_pos ⟨by omega, by unfold placeOf; omega, secZ_len hok⟩]
theorem laid_read {s : State} {S : Sc} (hN : 0 < s.1.length) (hok : S.ok) {k : Nat} (hk : k < s.1.length) : readOf (laid s S).1 (laid s S).2 (k : Int) = if k = placeOf s S.num then secZ S else readOf s.1 s.2 (k : Int) := by
  rw [laid_cache hN hok]
  show readOf s.1 _ _ = _
  rw [readOf_in hk, readOf_in hk, lastOf_snoc]
  by_cases e : k = placeOf s S.num
  · rw [if_pos (by omega), if_pos e]; rfl
  · rw [if_neg (by omega), if_neg e]
theorem Seen.laid {s : State} {T : List Sc} {S : Sc} (h : Seen s T) (hN : 0 < s.1.length) (hok : S.ok) (hn : S.num = T.length + 1) : Seen (laid s S) (T ++ [S]) where
  old := fun i hi hle => by
    rw [List.length_append, List.length_singleton] at hi hle
    have hlen : (Go.Proofs.YtgpedejeifmfdaaGreat.laid s S).1.length = s.1.length := rfl
    rw [hlen] at hle ⊢
    have hk := Nat.mod_lt i hN
    have hr := laid_read hN hok hk (S := S)
    by_cases hi2 : i < T.length
    · have hne : i % s.1.length ≠ placeOf s S.num := by
        unfold placeOf
        rw [hn]
        intro e
        have e2 : T.length + 1 - 1 = i + (T.length - i) := by omega
        rw [e2] at e
        have := Nat.div_add_mod i s.1.length
        have h4 : (i + (T.length - i)) % s.1.length = (i % s.1.length + (T.length - i)) % s.1.length := by rw [Nat.mod_add_mod]
        rw [h4] at e
        by_cases hc : i % s.1.length + (T.length - i) < s.1.length
        · rw [Nat.mod_eq_of_lt hc] at e; omega
        · have h5 : (i % s.1.length + (T.length - i)) % s.1.length = i % s.1.length + (T.length - i) - s.1.length := by
            rw [Nat.mod_eq_sub_mod (by omega), Nat.mod_eq_of_lt (by omega)]
          omega
      rw [if_neg hne] at hr
      rw [readS_congr hr hlen, List.getElem_append_left hi2]
      exact h.old i hi2 (by omega)
    · obtain rfl : i = T.length := by omega
      rw [if_pos (by unfold placeOf; rw [hn]; rfl)] at hr
      rw [readS_of hr hok hn rfl]
      simp
  no := fun k hk ht => by
    have hk' : k < s.1.length := hk
    have hr := laid_read hN hok hk' (S := S)
    rw [List.length_append, List.length_singleton]
    by_cases e : k = placeOf s S.num
    · rw [if_pos e] at hr
      have : readS (Go.Proofs.YtgpedejeifmfdaaGreat.laid s S) k = (S, true) := readS_of hr hok (n := T.length) hn (by rw [e]; unfold placeOf; rw [hn]; rfl)
      rw [this, hn]
      exact Nat.le_refl _
    · rw [if_neg e] at hr
      have hc := readS_congr (s := s) (s' := Go.Proofs.YtgpedejeifmfdaaGreat.laid s S) hr rfl
      rw [hc] at ht ⊢
      have := h.no k hk' ht
      omega
theorem Seen.flush {s : State} {T : List Sc} (h : Seen s T) (hN : 0 < s.1.length) (hC : ∀ p ∈ s.2, 0 ≤ p.1) : Seen (settled s.1 s.2, []) T where
  old := fun i hi hle => by
    have hl : (settled s.1 s.2).length = s.1.length := settled_len _ _
    simp only [hl] at hle ⊢
    have hk := Nat.mod_lt i hN
    rw [readS_congr (s := s) (readOf_flushed hk hC) hl]
    exact h.old i hi hle
  no := fun k hk ht => by
    have hl : (settled s.1 s.2).length = s.1.length := settled_len _ _
    simp only [hl] at hk
    rw [readS_congr (s := s) (readOf_flushed hk hC) hl] at ht ⊢
    exact h.no k hk ht
theorem readS_fresh {N k : Nat} (hk : k < N) : readS (fresh N, []) k = (noSc, false) := by
  refine readS_none ?_
  show tailOk (readOf (fresh N) [] (k : Int)) = false
  have hk' : k < (fresh N).length := by simpa [fresh] using hk
  rw [readOf_flat hk']
  have : (fresh N).getD k [] = zsec := by simp [fresh, List.getD_eq_getElem?_getD, hk]
  rw [this]
  unfold tailOk
  have : (zsec).take 28 = List.replicate 28 0 := rfl
  rw [this, nought_shut]; rfl
theorem seen_fresh (N : Nat) : Seen (fresh N, []) [] where
  old := fun i hi => absurd hi (Nat.not_lt_zero _)
  no := fun k hk ht => by
    have : k < N := by simpa [fresh] using hk
    rw [readS_fresh this] at ht
    cases ht

/-- A history that has not gone round: the first ones last, the others are in the cache. -/
structure Hist (s : State) (T : List Sc) (m N : Nat) : Prop where
  le : m ≤ T.length
  fits : T.length ≤ N
  safe : s.1 = (T.take m).map secZ ++ List.replicate (N - m) zsec
  cache : s.2 = (T.drop m).map fun S => (((S.num - 1 : Nat) : Int), secZ S)
  good : Good T
theorem Hist.len {s : State} {T : List Sc} {m N : Nat} (h : Hist s T m N) : s.1.length = N := by
  have := h.le
  have := h.fits
  rw [h.safe]; simp; omega
theorem Hist.laid {s : State} {T : List Sc} {m N : Nat} {S : Sc} (h : Hist s T m N) (hlt : T.length < N) (hok : S.ok) (hn : S.num = T.length + 1) : Hist (laid s S) (T ++ [S]) m N where
  le := by have := h.le; simp; omega
  fits := by simp; omega
  safe := by rw [List.take_append_of_le_length h.le]; exact h.safe
  cache := by
    have hl := h.len
    rw [laid_cache (by omega) hok, h.cache, List.drop_append_of_le_length h.le, List.map_append]
    congr 1
    simp only [List.map_cons, List.map_nil]
    unfold placeOf
    rw [hl, Nat.mod_eq_of_lt (by omega)]
  good := h.good.snoc hn hok
theorem settled_hist {T : List Sc} {N m : Nat} (hg : Good T) (hm : m ≤ T.length) (hN : T.length ≤ N) : ∀ j, m + j ≤ T.length →
    settled ((T.take m).map secZ ++ List.replicate (N - m) zsec) (((T.drop m).take j).map fun S => (((S.num - 1 : Nat) : Int), secZ S)) = (T.take (m + j)).map secZ ++ List.replicate (N - (m + j)) zsec
  | 0, _ => by rw [List.take_zero, List.map_nil]; rfl
  | j + 1, hj => by
    have hlt : j < (T.drop m).length := by rw [List.length_drop]; omega
    have ih := settled_hist hg hm hN j (by omega)
    rw [List.take_succ_eq_append_getElem hlt, List.map_append, List.map_cons, List.map_nil, settled_snoc, ih]
    have e1 : (T.drop m)[j] = T[m + j] := by rw [List.getElem_drop]
    have hn := (hg (m + j) (by omega)).1
    rw [e1]
    simp only [hn, Nat.add_sub_cancel, Int.toNat_natCast]
    have e2 : T.take (m + (j + 1)) = T.take (m + j) ++ [T[m + j]] := by
      rw [← Nat.add_assoc, List.take_succ_eq_append_getElem (by omega)]
    have e3 : List.replicate (N - (m + j)) zsec = zsec :: List.replicate (N - (m + (j + 1))) zsec := by
      rw [show N - (m + j) = (N - (m + (j + 1))) + 1 by omega, List.replicate_succ]
    have hl : ((T.take (m + j)).map secZ).length = m + j := by rw [List.length_map, List.length_take]; omega
    rw [e2, e3, List.map_append, List.set_append_right _ _ (by rw [hl]; exact Nat.le_refl _), hl, Nat.sub_self]
    simp
theorem Hist.flush {s : State} {T : List Sc} {m N : Nat} (h : Hist s T m N) : Hist (settled s.1 s.2, []) T T.length N where
  le := Nat.le_refl _
  fits := h.fits
  safe := by
    have := settled_hist h.good h.le h.fits (T.length - m) (by have := h.le; omega)
    rw [h.safe, h.cache]
    have e0 : (T.drop m).take (T.length - m) = T.drop m := List.take_of_length_le (by rw [List.length_drop]; exact Nat.le_refl _)
    rw [e0] at this
    rw [this]
    have e : m + (T.length - m) = T.length := by have := h.le; omega
    rw [e]
  cache := by simp
  good := h.good
theorem nought_tail : tailOk zsec = false := by
  unfold tailOk
  have : (zsec).take 28 = List.replicate 28 0 := rfl
  rw [this, nought_shut]; rfl
/-- The first sectors, and noughts: all that is told of them. -/
theorem seen_first {T : List Sc} {N : Nat} (hg : Good T) (hN : T.length ≤ N) (y : List Int) (hy : tailOk y = false) : Seen (((T.map secZ ++ List.replicate (N - T.length) zsec).set T.length y), []) T := by
  have hl : ((T.map secZ ++ List.replicate (N - T.length) zsec).set T.length y).length = N := by simp; omega
  refine ⟨fun i hi hle => ?_, fun k hk ht => ?_⟩
  · simp only [hl] at hle ⊢
    rw [Nat.mod_eq_of_lt (by omega)]
    obtain ⟨hn, hok⟩ := hg i hi
    refine readS_of (n := i) ?_ hok hn (by simp only [hl]; exact Nat.mod_eq_of_lt (by omega))
    rw [readOf_flat (by simp only [hl]; omega), List.getD_eq_getElem?_getD, List.getElem?_set_ne (by omega), List.getElem?_append_left (by simpa using hi)]
    simp [hi]
  · simp only [hl] at hk
    by_cases hkT : k < T.length
    · obtain ⟨hn, hok⟩ := hg k hkT
      have hr : readOf ((T.map secZ ++ List.replicate (N - T.length) zsec).set T.length y) [] (k : Int) = secZ T[k] := by
        rw [readOf_flat (by rw [hl]; exact hk), List.getD_eq_getElem?_getD, List.getElem?_set_ne (by omega), List.getElem?_append_left (by simpa using hkT)]
        simp [hkT]
      rw [readS_of (n := k) hr hok hn (by simp only [hl]; exact Nat.mod_eq_of_lt (by omega)), hn]
      exact hkT
    · exfalso
      have hno : tailOk (readOf ((T.map secZ ++ List.replicate (N - T.length) zsec).set T.length y) [] (k : Int)) = false := by
        rw [readOf_flat (by rw [hl]; exact hk), List.getD_eq_getElem?_getD]
        by_cases e : T.length = k
        · subst e
          rw [List.getElem?_set_self (by simp; omega)]
          exact hy
        · rw [List.getElem?_set_ne e, List.getElem?_append_right (by simp; omega)]
          have : (List.replicate (N - T.length) zsec)[k - (T.map secZ).length]? = some zsec := by
            rw [List.getElem?_replicate, if_pos (by rw [List.length_map]; omega)]
          rw [this, Option.getD_some]
          exact nought_tail
      rw [readS_none (s := ((T.map secZ ++ List.replicate (N - T.length) zsec).set T.length y, [])) hno] at ht
      cases ht
theorem seen_plain {T : List Sc} {N : Nat} (hg : Good T) (hN : T.length ≤ N) : Seen ((T.map secZ ++ List.replicate (N - T.length) zsec), []) T := by
  by_cases e : T.length < N
  · have := seen_first hg hN zsec nought_tail
    have e2 : (T.map secZ ++ List.replicate (N - T.length) zsec).set T.length zsec = T.map secZ ++ List.replicate (N - T.length) zsec := by
      rw [List.set_append_right _ _ (by simp)]
      congr 1
      obtain ⟨d, hd⟩ : ∃ d, N - T.length = d + 1 := ⟨N - T.length - 1, by omega⟩
      rw [hd, List.replicate_succ]
      simp
    rwa [e2] at this
  · have := seen_first hg hN zsec nought_tail
    rwa [List.set_eq_of_length_le (by simp; omega)] at this
theorem Hist.seen {s : State} {T : List Sc} {m N : Nat} (h : Hist s T m N) : Seen (settled s.1 s.2, []) T := by
  have := seen_plain h.good h.fits
  have e := h.flush.safe
  simp only at e
  rw [e, List.take_of_length_le (Nat.le_refl _)]
  exact this
end Go.Proofs.YtgpedejeifmfdaaGreat
