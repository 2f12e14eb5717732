/- Merged by merge.py out of: Plan, Wal4, Wal5, Wal6, Wal7. -/
import Derived.Test.YtgpedejeifmfdaaGreatMids
import Derived.Test.YtgpedejeifmfdaaGreatWalMA
/- A drawn region by a plan: loads and moves first (under what S holds), operations that yield under S, operations that are alone ready, partings in two; then pieces. Of no program. -/
namespace Go.Proofs.YtgpedejeifmfdaaGreat
open Go.RowKit

/-- How a drawn region is walked. -/
inductive Plan where
  | segs (σ : List (List Nat))
  | pre (π : List Nat) (p : Plan)
  | yld (i : Nat) (p : Plan)
  | one (i : Nat) (p : Plan)
  | two (i : Nat) (p : Plan) (j : Nat) (q : Plan)
def planLen : Plan → Nat
  | .segs σ => σ.flatten.length
  | .pre π p => π.length + planLen p
  | .yld _ p => planLen p + 1
  | .one _ p => planLen p + 1
  | .two _ p _ _ => planLen p + 1
def planB (P : Program) (ops : Array Oper) : Plan → Array Bool → Bool
  | .segs σ, L => heldSegs P ops (fun _ => true) σ L
  | .pre π p, L => heldPre P ops (fun _ => true) π L && planB P ops p (listAll π L)
  | .yld i p, L => (ops[i]?).isSome && (Region.ready .any ops L).contains i && Region.free .any ops L i && planB P ops p (L.setIfInBounds i true)
  | .one i p, L => (ops[i]?).isSome && !(Region.ready .any ops L).isEmpty && ((Region.ready .any ops L).all fun k => k == i) && planB P ops p (L.setIfInBounds i true)
  | .two i p j q, L => (ops[i]?).isSome && (ops[j]?).isSome && !(Region.ready .any ops L).isEmpty && ((Region.ready .any ops L).all fun k => k == i || k == j) && planB P ops p (L.setIfInBounds i true) && planB P ops q (L.setIfInBounds j true) && planLen q == planLen p
section
variable {P : Program} {l : List Oper} {Q : Exit → Act → World → Prop} {S : World → Prop}
def planW (P : Program) (l : List Oper) (Q : Exit → Act → World → Prop) (S : World → Prop) : Plan → Act → World → Prop
  | .segs σ, a, w => wpSegs P l.toArray Q S (σ.map fun π => π.map fun i => l.getD i default) a w
  | .pre π p, a, w => preFits l.toArray π a.tmps.size = true ∧ ∃ A, (∀ w', S w' → wpList P l.toArray (PreQ A w') (π.map fun i => l.getD i default) a w') ∧ planW P l Q S p A w
  | .yld i p, a, w => ∃ v, YieldsIf P l.toArray S (l.getD i default) v a ∧ planW P l Q S p (a.put (l.getD i default).dst v) w
  | .one i p, a, w => wpList P l.toArray (SegQ fun a' w' => S w' ∧ planW P l Q S p a' w') [l.getD i default] a w
  | .two i p j q, a, w => wpList P l.toArray (SegQ fun a' w' => S w' ∧ planW P l Q S p a' w') [l.getD i default] a w ∧ wpList P l.toArray (SegQ fun a' w' => S w' ∧ planW P l Q S q a' w') [l.getD j default] a w
theorem one_any {need : Nat → Bool} {i : Nat} {o : Oper} {n : Nat} {L : Array Bool} {a : Act} {w : World} {K : Act → World → Prop} (ho : l.toArray[i]? = some o)
    (h : wpList P l.toArray (SegQ fun a' w' => S w' ∧ K a' w') [l.getD i default] a w) (hk : ∀ a' w', S w' → K a' w' → wpAnyN P l.toArray Q S need n (L.setIfInBounds i true) a' w') :
    wpOp P l.toArray Q i (fun a' w' => (need i = true → S w → S w') ∧ wpAnyN P l.toArray Q S need n (L.setIfInBounds i true) a' w') a w := by
  have hg : l.getD i default = o := by
    have : l.toArray.getD i default = o := by rw [Array.getD_eq_getD_getElem?, ho]; rfl
    rw [← this]; simp [List.getD_eq_getElem?_getD, Array.getD_eq_getD_getElem?]
  rw [hg] at h
  simp only [wpList] at h
  have fin : ∀ a' w', S w' ∧ K a' w' → (need i = true → S w → S w') ∧ wpAnyN P l.toArray Q S need n (L.setIfInBounds i true) a' w' := fun a' w' hh => ⟨fun _ _ => hh.1, hk a' w' hh.1 hh.2⟩
  unfold wpOp
  simp only [ho]
  split
  · rename_i hw
    rw [if_pos hw] at h
    rcases h with h | ⟨_, hl⟩
    · exact .inl (wp_of_seg (fun a' w' hh => fin a' w' hh) h)
    · exact absurd hl segQ_out
  · rename_i hw
    rw [if_neg hw] at h
    exact fin _ _ h
theorem plan_any (hs : Region.noSelect l.toArray = true) (hP : ∀ c a w, ¬ Q (.panic c) a w) (hO : ¬ LetsOut Q) :
    ∀ (p : Plan) (L : Array Bool) (a : Act) (w : World), Closed l.toArray L → planB P l.toArray p L = true → S w → planW P l Q S p a w → wpAnyN P l.toArray Q S (fun _ => true) (planLen p) L a w := by
  have e : ∀ ns : List Nat, (ns.map fun i => l.getD i default) = ns.map fun i => l.toArray.getD i default := fun ns => by
    apply List.map_congr_left; intro i _; simp [List.getD_eq_getElem?_getD, Array.getD_eq_getD_getElem?]
  intro p
  induction p with
  | segs σ =>
    intro L a w hcl hB _ h
    refine segs_any hs hP hO σ L a w hcl hB ?_
    have : (σ.map fun π => π.map fun i => l.toArray.getD i default) = σ.map fun π => π.map fun i => l.getD i default := List.map_congr_left fun π _ => (e π).symm
    rw [this]
    exact h
  | pre π p ih =>
    intro L a w hcl hB h0 h
    obtain ⟨hf, A, h1, h2⟩ := h
    simp only [planB, Bool.and_eq_true] at hB
    refine pre_any (P := P) (ops := l.toArray) (Q := Q) (S := S) (need := fun _ => true) hs hP h0 (fuel := planLen p) π L a hcl hB.1
      (fun i hi d hd => by
        have := List.all_eq_true.1 hf i hi
        rw [hd] at this
        simpa using this)
      (fun w' hS => by rw [← e]; exact h1 w' hS)
      (fun hc' => ih _ A w hc' hB.2 h0 h2)
  | yld i p ih =>
    intro L a w hcl hB h0 h
    obtain ⟨v, hy, h⟩ := h
    simp only [planB, Bool.and_eq_true] at hB
    obtain ⟨⟨⟨hsome, hr⟩, hf⟩, h2⟩ := hB
    obtain ⟨o, ho⟩ := Option.isSome_iff_exists.1 hsome
    have hg : l.getD i default = o := by
      have : l.toArray.getD i default = o := by rw [Array.getD_eq_getD_getElem?, ho]; rfl
      rw [← this]; simp [List.getD_eq_getElem?_getD, Array.getD_eq_getD_getElem?]
    rw [hg] at hy h
    have hin : i ∈ Region.ready .any l.toArray L := by simpa using hr
    exact wpAnyN_take (T := S) ho (Region.noSelect_spec hs) hP _ _ _ _ hcl (fun j oj _ _ _ => .inr fun _ _ hh hS => hh rfl hS) (Region.free_spec ho hf) hin hy h0 (ih _ _ _ (hcl.set hin) h2 h0 h)
  | one i p ih =>
    intro L a w hcl hB h0 h
    simp only [planB, Bool.and_eq_true, Bool.not_eq_true', List.all_eq_true, beq_iff_eq] at hB
    obtain ⟨⟨⟨hsome, hne⟩, hall⟩, h2⟩ := hB
    obtain ⟨o, ho⟩ := Option.isSome_iff_exists.1 hsome
    refine ⟨fun h0 => (by rw [h0] at hne; cases hne), fun j hj => ?_⟩
    obtain rfl := hall j hj
    exact one_any (need := fun _ => true) ho h fun a' w' hS hk => ih _ _ _ (hcl.set hj) h2 hS hk
  | two i p j q ih1 ih2 =>
    intro L a w hcl hB h0 h
    simp only [planB, Bool.and_eq_true, Bool.not_eq_true', List.all_eq_true, Bool.or_eq_true, beq_iff_eq] at hB
    obtain ⟨⟨⟨⟨⟨⟨hs1, hs2⟩, hne⟩, hall⟩, h2⟩, h3⟩, hlen⟩ := hB
    obtain ⟨o1, ho1⟩ := Option.isSome_iff_exists.1 hs1
    obtain ⟨o2, ho2⟩ := Option.isSome_iff_exists.1 hs2
    refine ⟨fun h0 => (by rw [h0] at hne; cases hne), fun k hk => ?_⟩
    rcases hall k hk with rfl | rfl
    · exact one_any (need := fun _ => true) ho1 h.1 fun a' w' hS hk' => ih1 _ _ _ (hcl.set hk) h2 hS hk'
    · exact one_any (need := fun _ => true) ho2 h.2 fun a' w' hS hk' => by
        have := ih2 _ _ _ (hcl.set hk) h3 hS hk'
        rwa [hlen] at this
theorem wp_region_plan {id : Nat} {a : Act} {w : World} (S : World → Prop) (p : Plan) (hm : P.follows .mixedOrders = true)
    (hs : Region.noSelect l.toArray = true) (hn : planLen p = l.length)
    (hB : planB P l.toArray p (Array.replicate l.length false) = true)
    (hP : ∀ c a w, ¬ Q (.panic c) a w) (hO : ∀ a w, ¬ Q .outgrown a w) (h0 : S w.drew)
    (h : planW P l Q S p a w.drew) : (Code.region id l.toArray true).wp P Q a w := by
  refine wp_region_any hm ?_
  have hcl : Closed l.toArray (Array.replicate l.length false) := by
    intro k o _ hl
    simp [Array.getD_eq_getD_getElem?, Array.getElem?_replicate] at hl
    split at hl <;> simp at hl
  have key := plan_any (P := P) (l := l) (Q := Q) (S := S) hs hP (fun ⟨a, w, h⟩ => hO a w h) p _ a w.drew hcl hB h0 h
  rw [hn] at key
  have := wpAny_of_need _ _ _ _ key
  simpa using this
/-- A value that is had under S. -/
theorem yld_at {i : Nat} {p : Plan} {a : Act} {w : World} (v : Value) (hw : Region.wanted (l.getD i default) (yielded l.toArray a.tmps) = true) (hv : ∀ w2, S w2 → (execOp a.eval (l.getD i default)).run P w2 = .ok (.value v) w2) (h : planW P l Q S p (a.put (l.getD i default).dst v) w) :
    planW P l Q S (.yld i p) a w := ⟨v, .inl ⟨hw, hv⟩, h⟩
theorem yld_skip {i : Nat} {p : Plan} {a : Act} {w : World} (hw : Region.wanted (l.getD i default) (yielded l.toArray a.tmps) = false) (h : planW P l Q S p (a.put (l.getD i default).dst undef) w) :
    planW P l Q S (.yld i p) a w := ⟨undef, .inr ⟨hw, rfl⟩, h⟩
theorem plan_one {i : Nat} {p : Plan} {a : Act} {w : World} (h : wpList P l.toArray (SegQ fun a' w' => S w' ∧ planW P l Q S p a' w') [l.getD i default] a w) : planW P l Q S (.one i p) a w := h
theorem plan_segs {σ : List (List Nat)} {a : Act} {w : World} (h : wpSegs P l.toArray Q S (σ.map fun π => π.map fun i => l.getD i default) a w) : planW P l Q S (.segs σ) a w := h
theorem plan_pre {π : List Nat} {p : Plan} {a : Act} {w : World} (hf : preFits l.toArray π a.tmps.size = true) (h : ∃ A, (∀ w', S w' → wpList P l.toArray (PreQ A w') (π.map fun i => l.getD i default) a w') ∧ planW P l Q S p A w) : planW P l Q S (.pre π p) a w := ⟨hf, h⟩
end
end Go.Proofs.YtgpedejeifmfdaaGreat
/- The log in memory: read. -/
namespace Go.Proofs.YtgpedejeifmfdaaGreat
open Go.RowKit Go.Sort

theorem parse_bound {b : List Int} (h : ∀ z ∈ b, 0 ≤ z ∧ z ≤ 255) : (parseZ b).1.num < 4294967296 ∧ (parseZ b).1.first < 4294967296 ∧ (parseZ b).1.data.length ≤ 16 := by
  have h4 : ∀ l : List Int, (∀ z ∈ l, 0 ≤ z ∧ z ≤ 255) → l.length ≤ 4 → fromZ l < 4294967296 := fun l hl h4 => by
    have h1 := fromZ_lt l hl
    have h2 : 256 ^ l.length ≤ 256 ^ 4 := Nat.pow_le_pow_right (by omega) h4
    omega
  unfold parseZ
  split
  · rename_i ht
    split
    · rename_i hb
      unfold bodyOk at hb
      rw [Bool.and_eq_true, decide_eq_true_eq] at hb
      refine ⟨h4 _ (fun z hz => h z (List.mem_of_mem_take hz)) (by simp; omega), h4 _ (fun z hz => h z (List.mem_of_mem_drop (List.mem_of_mem_take hz))) (by simp; omega), ?_⟩
      simp only [List.length_take]
      omega
    · exact ⟨by decide, by decide, by decide⟩
  · exact ⟨by decide, by decide, by decide⟩
theorem LogAt.step {w w' : World} {lb db : Nat} {l : Lg} (h : LogAt w lb db l) (hb : Below w.heap.size w w') : LogAt w' lb db l := by
  unfold LogAt at h ⊢
  rw [hb.block lb (Array.getElem?_eq_some_iff.1 h).1]
  exact h
section
variable {w0 w : World} {b lb : Nat} {F : Nat → Prop} {s : State} {l : Lg}
set_option maxHeartbeats 2000000 in
set_option maxRecDepth 100000 in
theorem read_calls (h : Dev w0 w b F s) (hl : LogAt w lb b l) {k : Nat} (hk : k < s.1.length) :
    Calls Tryz.prog 53 #[.pointer (some ⟨lb, 0, none⟩), .int .i64 (k : Int)] w fun e w' => ∃ a c, e = .returned (.tuple #[scV (readS s k).1 a c, .bool (readS s k).2]) ∧ Ints w' .u8 a (readS s k).1.data.length c (readS s k).1.data ∧ (∀ x o, a = some ⟨x, o, none⟩ → w.heap.size < x) ∧ Below w.heap.size w w' := by
  have hse := h.sector (k := (k : Int)) ⟨by omega, by omega⟩
  have hpb := parse_bound (b := readOf s.1 s.2 (k : Int)) fun z hz => wf_u8 (hse.2 z hz)
  have hre : readErr s (k : Int) = 0 := by unfold readErr; rw [if_pos ⟨by omega, by omega⟩]
  unfold readS
  obtain ⟨Z, hZ⟩ : ∃ Z, Z = readOf s.1 s.2 (k : Int) := ⟨_, rfl⟩
  rw [← hZ] at hse hpb ⊢
  have hpa := fun (w : World) (a : Option Addr) (c : Nat) (h : Ints w .u8 a 32 c Z) => parse_calls h
  obtain ⟨PZ, hPZ⟩ : ∃ PZ, PZ = parseZ Z := ⟨_, rfl⟩
  rw [← hPZ] at hpa hpb ⊢
  obtain ⟨⟨num, first, beg, data⟩, ok⟩ := PZ
  simp only [scV] at hpa hpb ⊢
  clear hPZ
  obtain ⟨hp1, hp2, hp3⟩ := hpb
  have Hpa := Lib.hid hpa; clear hpa
  obtain ⟨G, hG⟩ : ∃ G, G = (ok && (decide (1 ≤ num) && decide (placeOf s num = k))) := ⟨_, rfl⟩
  rw [← hG]
  have HG := Lib.hid hG; clear hG
  have ha := Below.alloc (Below.refl w.heap.size w) (Nat.le_refl _) (.cells #[.int .i64 0, .int .i64 0, .bool false, .slice none 0 0] 72)
  have h1 := h.step ha
  have l1 := hl.step ha
  have c0 := cells_at l1 0
  simp only [Lg.cells] at c0
  have hrd := Read_dev h1 (k : Int)
  rw [hre] at hrd
  rw [← hZ] at hrd
  have Hrd := Lib.hid hrd; clear hrd
  have H1 := Lib.hid h1; clear h1
  have L1 := Lib.hid l1; clear l1
  have Ha := Lib.hid ha; clear ha
  clear hZ h hl
  go_enter Tryz.func53, Tryz.ntmps53
  go_wp2_with fail
  refine Hrd.out.mono ?_
  rintro e w2 ⟨v, rfl, hv, hb2, h2⟩
  clear Hrd H1
  obtain ⟨a2, c2, rfl, hi, hv0⟩ := own_len hv hse.1
  have hpa := Hpa.out _ _ _ hi
  clear hi hv hv0 c0 Hpa
  have Hpa := Lib.hid hpa; clear hpa
  have Hb2 := Lib.hid hb2; clear hb2
  have H2 := Lib.hid h2; clear h2
  go_wp2_with fail
  refine Hpa.out.mono ?_
  rintro e w3 ⟨a3, c3, rfl, hd3, hn3, hb3⟩
  clear Hpa
  have hne3 : ∀ x o, a3 = some ⟨x, o, none⟩ → w.heap.size < x := fun x o e => by have := hn3 x o e; have := Hb2.out.size; rw [World.size_alloc] at this; omega
  have Hne3 := Lib.hid hne3; clear hne3 hn3
  have Hd3 := Lib.hid hd3; clear hd3
  obtain ⟨w4, hw4⟩ : ∃ w4, w4 = w3.alloc (.cells #[.int .i64 (num : Nat), .int .i64 (first : Nat), .bool beg, .slice a3 data.length c3] 72) := ⟨_, rfl⟩
  have hb34 : Below w3.heap.size w3 w4 := by rw [hw4]; exact (Below.refl _ _).alloc (Nat.le_refl _) _
  have hb4 := hb3.trans (hb34.mono hb3.size)
  have h4 := (H2.out.step hb4)
  have l4 := (L1.out.step Hb2.out).step hb4
  have x4 : w4.heap[w3.heap.size]? = some (.cells #[.int .i64 (num : Nat), .int .i64 (first : Nat), .bool beg, .slice a3 data.length c3] 72) := by rw [hw4]; exact heap_alloc_new w3 _
  have X4 := Lib.hid x4; clear x4
  have hlt : w.heap.size < w3.heap.size := by have h1 := Hb2.out.size; have h2 := hb3.size; rw [World.size_alloc] at h1; omega
  have Hlt := Lib.hid hlt; clear hlt
  have Hb34 := Lib.hid hb34; clear hb34
  have Hb4 := Lib.hid hb4; clear hb4 hb3
  have hpl : 1 ≤ num → ∀ w5, Below w4.heap.size w4 w5 → Calls Tryz.prog 54 #[.pointer (some ⟨lb, 0, none⟩), .int .i64 (num : Nat)] w5 fun e w' => e = .returned (.int .i64 ((placeOf s num : Nat) : Int)) ∧ w' = w5 := fun h1 w5 hb =>
    place_calls (h4.step hb) (l4.step hb) h1 (by omega)
  clear h4 l4
  obtain ⟨pl, hpl'⟩ : ∃ pl, pl = placeOf s num := ⟨_, rfl⟩
  rw [← hpl'] at hpl
  have hG := HG.out
  rw [← hpl'] at hG
  clear HG hpl'
  cases ok with
  | false =>
    have hGe : G = false := by rw [hG]; rfl
    subst hGe
    clear hpl hG
    go_wp2_with fail
    rw [← hw4]
    clear hw4
    have sd := below_drew w4
    refine wp_region_plan (fun w' => w'.heap[w3.heap.size]? = some (.cells #[.int .i64 (num : Nat), .int .i64 (first : Nat), .bool beg, .slice a3 data.length c3] 72)) (.pre [0, 1, 2, 3, 4] (.yld 5 (.pre [6, 7, 8, 9, 10, 12] (.one 11 (.yld 13 (.pre [14] (.segs [[15], [16]]))))))) (by kernel_rfl) (by kernel_rfl) rfl (by kernel_rfl) (fun _ _ _ h => by obtain ⟨_, _, _, h, _⟩ := h; cases h) (fun _ _ h => by obtain ⟨_, _, h, _⟩ := h; cases h) ((sd.block _ (Array.getElem?_eq_some_iff.1 X4.out).1).trans X4.out) ?_
    have x5 := (sd.block _ (Array.getElem?_eq_some_iff.1 X4.out).1).trans X4.out
    generalize w4.drew = w5 at sd x5 ⊢
    have X5 := Lib.hid x5; clear x5
    refine plan_pre (by kernel_rfl) ?_
    apply Exists.intro
    apply And.intro
    · intro w' s
      have z0 := cells_at s 0
      have z1 := cells_at s 1
      have z2 := cells_at s 2
      have z3 := cells_at s 3
      clear s
      simp only [List.map_cons, List.map_nil, List.getD_cons_zero, List.getD_cons_succ]
      go_wp2_with fail
      exact pre_end
    refine yld_skip rfl ?_
    refine plan_pre (by kernel_rfl) ?_
    apply Exists.intro
    apply And.intro
    · intro w' s
      have z0 := cells_at s 0
      have z1 := cells_at s 1
      have z2 := cells_at s 2
      have z3 := cells_at s 3
      clear s
      simp only [List.map_cons, List.map_nil, List.getD_cons_zero, List.getD_cons_succ]
      go_wp2_with fail
      exact pre_end
    refine plan_one ?_
    go_wp2_with fail
    refine ⟨X5.out, ?_⟩
    refine yld_skip rfl ?_
    refine plan_pre (by kernel_rfl) ?_
    apply Exists.intro
    apply And.intro
    · intro w' s
      have z0 := cells_at s 0
      have z1 := cells_at s 1
      have z2 := cells_at s 2
      have z3 := cells_at s 3
      clear s
      simp only [List.map_cons, List.map_nil, List.getD_cons_zero, List.getD_cons_succ]
      go_wp2_with fail
      exact pre_end
    refine plan_segs (segs_more ?_)
    simp only [List.map_cons, List.map_nil, List.getD_cons_zero, List.getD_cons_succ]
    clear X4
    have hb5 := Hb4.out.trans (sd.mono Hb4.out.size)
    have hbw := (Hb2.out.trans (hb5.mono Hb2.out.size))
    have hc4 : w5.heap[w.heap.size]? = some (.cells #[.int .i64 0, .int .i64 0, .bool false, .slice none 0 0] 72) := by rw [hbw.block _ (by simp)]; exact heap_alloc_new w _
    have hbel : Below w.heap.size w w5 := Ha.out.trans (hbw.mono Ha.out.size)
    have hdat := Hd3.out.keep (Hb34.out.trans (sd.mono Hb34.out.size))
    clear hbw hb5 sd
    have Hc4 := Lib.hid hc4; clear hc4
    have Hbel := Lib.hid hbel; clear hbel
    have Hdat5 := Lib.hid hdat; clear hdat
    go_wp2_with (with_reducible refine stop_store 72 ?_)
    refine unpark ?_
    refine wpList_store_at rfl _ _ _ rfl _ 0 rfl _ rfl _ rfl _ _ Hc4.out 4 rfl (by decide) (by simp [Value.oneCell']) Tryz.sizeLogSec ?_
    intro w7 hw7 hg7 hs7
    have h7 := (hg7.block _ (Array.getElem?_eq_some_iff.1 X5.out).1 (by intro e2; injection e2 with e2; have := Hlt.out; omega)).trans X5.out
    have H7 := Lib.hid h7; clear h7
    clear hs7 Hc4
    have hb7 : Below w.heap.size w w7 := Hbel.out.grown hg7 Hbel.out.size (fun k hk => by cases hk; exact Nat.le_refl _)
    have hdat7 := Hdat5.out.keepOn (w' := w7) fun x o e hlt => hg7.block x hlt (by intro e2; injection e2 with e2; have := Hne3.out x o e; omega)
    have Hdat := Lib.hid hdat7; clear hdat7 Hdat5
    clear hg7 Hbel
    rw [splice_all _ _ (by rfl)] at hw7
    have q0 := cells_at hw7 0
    have q1 := cells_at hw7 1
    have q2 := cells_at hw7 2
    have q3 := cells_at hw7 3
    have HB7 := Lib.hid hb7; clear hb7
    clear hw7
    go_wp2_with fail
    refine ⟨H7.out, ?_⟩
    refine segs_last ?_
    go_wp2
    refine bodyPost_ret (v := .tuple #[.agg #[.int .i64 (num : Nat), .int .i64 (first : Nat), .bool beg, .slice a3 data.length c3], .bool false]) (by simp [results, Tryz.results53, go_sem, q0, q1, q2, q3]) rfl ?_
    exact ⟨a3, c3, rfl, Hdat.out, Hne3.out, HB7.out⟩
  | true =>
  by_cases h1 : 1 ≤ num
  · have hpl := hpl h1
    have Hpl := Lib.hid hpl; clear hpl
    have hge : decide ((num : Int) ≥ 1) = true := decide_eq_true (by omega)
    have hge2 : decide (1 ≤ num) = true := decide_eq_true h1
    have hGe : G = ((pl : Int) == (k : Int)) := by rw [hG, decide_eq_true h1, Bool.eq_iff_iff]; simp; omega
    subst hGe
    clear hG
    go_wp2_with fail
    rw [← hw4]
    clear hw4
    have sd := below_drew w4
    refine wp_region_plan (fun w' => w'.heap[w3.heap.size]? = some (.cells #[.int .i64 (num : Nat), .int .i64 (first : Nat), .bool beg, .slice a3 data.length c3] 72)) (.pre [0, 1, 2, 3, 4] (.yld 5 (.pre [6, 7, 8, 9, 10, 12] (.one 11 (.yld 13 (.pre [14] (.segs [[15], [16]]))))))) (by kernel_rfl) (by kernel_rfl) rfl (by kernel_rfl) (fun _ _ _ h => by obtain ⟨_, _, _, h, _⟩ := h; cases h) (fun _ _ h => by obtain ⟨_, _, h, _⟩ := h; cases h) ((sd.block _ (Array.getElem?_eq_some_iff.1 X4.out).1).trans X4.out) ?_
    have x5 := (sd.block _ (Array.getElem?_eq_some_iff.1 X4.out).1).trans X4.out
    generalize w4.drew = w5 at sd x5 ⊢
    have X5 := Lib.hid x5; clear x5
    refine plan_pre (by kernel_rfl) ?_
    apply Exists.intro
    apply And.intro
    · intro w' s
      have z0 := cells_at s 0
      have z1 := cells_at s 1
      have z2 := cells_at s 2
      have z3 := cells_at s 3
      clear s
      simp only [List.map_cons, List.map_nil, List.getD_cons_zero, List.getD_cons_succ]
      go_wp2_with fail
      exact pre_end
    refine yld_at (.bool true) rfl (fun w2 _ => (congrArg (fun z => Result.ok (Next.value (.bool z)) w2) hge)) ?_
    refine plan_pre (by kernel_rfl) ?_
    apply Exists.intro
    apply And.intro
    · intro w' s
      have z0 := cells_at s 0
      have z1 := cells_at s 1
      have z2 := cells_at s 2
      have z3 := cells_at s 3
      clear s
      simp only [List.map_cons, List.map_nil, List.getD_cons_zero, List.getD_cons_succ]
      go_wp2_with fail
      exact pre_end
    refine plan_one ?_
    go_wp2_with fail
    refine (Hpl.out _ sd).mono ?_
    rintro e w6 ⟨rfl, hw6⟩
    obtain rfl := hw6.symm
    go_wp2_with fail
    refine ⟨X5.out, ?_⟩
    refine yld_at (.bool ((pl : Int) == (k : Int))) rfl (fun w2 _ => rfl) ?_
    refine plan_pre (by kernel_rfl) ?_
    apply Exists.intro
    apply And.intro
    · intro w' s
      have z0 := cells_at s 0
      have z1 := cells_at s 1
      have z2 := cells_at s 2
      have z3 := cells_at s 3
      clear s
      simp only [List.map_cons, List.map_nil, List.getD_cons_zero, List.getD_cons_succ]
      go_wp2_with fail
      exact pre_end
    refine plan_segs (segs_more ?_)
    simp only [List.map_cons, List.map_nil, List.getD_cons_zero, List.getD_cons_succ]
    clear X4
    have hb5 := Hb4.out.trans (sd.mono Hb4.out.size)
    have hbw := (Hb2.out.trans (hb5.mono Hb2.out.size))
    have hc4 : w5.heap[w.heap.size]? = some (.cells #[.int .i64 0, .int .i64 0, .bool false, .slice none 0 0] 72) := by rw [hbw.block _ (by simp)]; exact heap_alloc_new w _
    have hbel : Below w.heap.size w w5 := Ha.out.trans (hbw.mono Ha.out.size)
    have hdat := Hd3.out.keep (Hb34.out.trans (sd.mono Hb34.out.size))
    clear hbw hb5 sd
    have Hc4 := Lib.hid hc4; clear hc4
    have Hbel := Lib.hid hbel; clear hbel
    have Hdat5 := Lib.hid hdat; clear hdat
    go_wp2_with (with_reducible refine stop_store 72 ?_)
    refine unpark ?_
    refine wpList_store_at rfl _ _ _ rfl _ 0 rfl _ rfl _ rfl _ _ Hc4.out 4 rfl (by decide) (by simp [Value.oneCell']) Tryz.sizeLogSec ?_
    intro w7 hw7 hg7 hs7
    have h7 := (hg7.block _ (Array.getElem?_eq_some_iff.1 X5.out).1 (by intro e2; injection e2 with e2; have := Hlt.out; omega)).trans X5.out
    have H7 := Lib.hid h7; clear h7
    clear hs7 Hc4
    have hb7 : Below w.heap.size w w7 := Hbel.out.grown hg7 Hbel.out.size (fun k hk => by cases hk; exact Nat.le_refl _)
    have hdat7 := Hdat5.out.keepOn (w' := w7) fun x o e hlt => hg7.block x hlt (by intro e2; injection e2 with e2; have := Hne3.out x o e; omega)
    have Hdat := Lib.hid hdat7; clear hdat7 Hdat5
    clear hg7 Hbel
    rw [splice_all _ _ (by rfl)] at hw7
    have q0 := cells_at hw7 0
    have q1 := cells_at hw7 1
    have q2 := cells_at hw7 2
    have q3 := cells_at hw7 3
    have HB7 := Lib.hid hb7; clear hb7
    clear hw7
    go_wp2_with fail
    refine ⟨H7.out, ?_⟩
    refine segs_last ?_
    go_wp2
    refine bodyPost_ret (v := .tuple #[.agg #[.int .i64 (num : Nat), .int .i64 (first : Nat), .bool beg, .slice a3 data.length c3], .bool ((pl : Int) == (k : Int))]) (by simp [results, Tryz.results53, go_sem, q0, q1, q2, q3]) rfl ?_
    exact ⟨a3, c3, rfl, Hdat.out, Hne3.out, HB7.out⟩
  · have hge : decide ((num : Int) ≥ 1) = false := decide_eq_false (by omega)
    have hge2 : decide (1 ≤ num) = false := decide_eq_false h1
    have hGe : G = false := by rw [hG, decide_eq_false h1]; rfl
    subst hGe
    clear hpl hG
    go_wp2_with fail
    rw [← hw4]
    clear hw4
    have sd := below_drew w4
    refine wp_region_plan (fun w' => w'.heap[w3.heap.size]? = some (.cells #[.int .i64 (num : Nat), .int .i64 (first : Nat), .bool beg, .slice a3 data.length c3] 72)) (.pre [0, 1, 2, 3, 4] (.yld 5 (.pre [6, 7, 8, 9, 10, 12] (.one 11 (.yld 13 (.pre [14] (.segs [[15], [16]]))))))) (by kernel_rfl) (by kernel_rfl) rfl (by kernel_rfl) (fun _ _ _ h => by obtain ⟨_, _, _, h, _⟩ := h; cases h) (fun _ _ h => by obtain ⟨_, _, h, _⟩ := h; cases h) ((sd.block _ (Array.getElem?_eq_some_iff.1 X4.out).1).trans X4.out) ?_
    have x5 := (sd.block _ (Array.getElem?_eq_some_iff.1 X4.out).1).trans X4.out
    generalize w4.drew = w5 at sd x5 ⊢
    have X5 := Lib.hid x5; clear x5
    refine plan_pre (by kernel_rfl) ?_
    apply Exists.intro
    apply And.intro
    · intro w' s
      have z0 := cells_at s 0
      have z1 := cells_at s 1
      have z2 := cells_at s 2
      have z3 := cells_at s 3
      clear s
      simp only [List.map_cons, List.map_nil, List.getD_cons_zero, List.getD_cons_succ]
      go_wp2_with fail
      exact pre_end
    refine yld_at (.bool false) rfl (fun w2 _ => (congrArg (fun z => Result.ok (Next.value (.bool z)) w2) hge)) ?_
    refine plan_pre (by kernel_rfl) ?_
    apply Exists.intro
    apply And.intro
    · intro w' s
      have z0 := cells_at s 0
      have z1 := cells_at s 1
      have z2 := cells_at s 2
      have z3 := cells_at s 3
      clear s
      simp only [List.map_cons, List.map_nil, List.getD_cons_zero, List.getD_cons_succ]
      go_wp2_with fail
      exact pre_end
    refine plan_one ?_
    go_wp2_with fail
    refine ⟨X5.out, ?_⟩
    refine yld_skip rfl ?_
    refine plan_pre (by kernel_rfl) ?_
    apply Exists.intro
    apply And.intro
    · intro w' s
      have z0 := cells_at s 0
      have z1 := cells_at s 1
      have z2 := cells_at s 2
      have z3 := cells_at s 3
      clear s
      simp only [List.map_cons, List.map_nil, List.getD_cons_zero, List.getD_cons_succ]
      go_wp2_with fail
      exact pre_end
    refine plan_segs (segs_more ?_)
    simp only [List.map_cons, List.map_nil, List.getD_cons_zero, List.getD_cons_succ]
    clear X4
    have hb5 := Hb4.out.trans (sd.mono Hb4.out.size)
    have hbw := (Hb2.out.trans (hb5.mono Hb2.out.size))
    have hc4 : w5.heap[w.heap.size]? = some (.cells #[.int .i64 0, .int .i64 0, .bool false, .slice none 0 0] 72) := by rw [hbw.block _ (by simp)]; exact heap_alloc_new w _
    have hbel : Below w.heap.size w w5 := Ha.out.trans (hbw.mono Ha.out.size)
    have hdat := Hd3.out.keep (Hb34.out.trans (sd.mono Hb34.out.size))
    clear hbw hb5 sd
    have Hc4 := Lib.hid hc4; clear hc4
    have Hbel := Lib.hid hbel; clear hbel
    have Hdat5 := Lib.hid hdat; clear hdat
    go_wp2_with (with_reducible refine stop_store 72 ?_)
    refine unpark ?_
    refine wpList_store_at rfl _ _ _ rfl _ 0 rfl _ rfl _ rfl _ _ Hc4.out 4 rfl (by decide) (by simp [Value.oneCell']) Tryz.sizeLogSec ?_
    intro w7 hw7 hg7 hs7
    have h7 := (hg7.block _ (Array.getElem?_eq_some_iff.1 X5.out).1 (by intro e2; injection e2 with e2; have := Hlt.out; omega)).trans X5.out
    have H7 := Lib.hid h7; clear h7
    clear hs7 Hc4
    have hb7 : Below w.heap.size w w7 := Hbel.out.grown hg7 Hbel.out.size (fun k hk => by cases hk; exact Nat.le_refl _)
    have hdat7 := Hdat5.out.keepOn (w' := w7) fun x o e hlt => hg7.block x hlt (by intro e2; injection e2 with e2; have := Hne3.out x o e; omega)
    have Hdat := Lib.hid hdat7; clear hdat7 Hdat5
    clear hg7 Hbel
    rw [splice_all _ _ (by rfl)] at hw7
    have q0 := cells_at hw7 0
    have q1 := cells_at hw7 1
    have q2 := cells_at hw7 2
    have q3 := cells_at hw7 3
    have HB7 := Lib.hid hb7; clear hb7
    clear hw7
    go_wp2_with fail
    refine ⟨H7.out, ?_⟩
    refine segs_last ?_
    go_wp2
    refine bodyPost_ret (v := .tuple #[.agg #[.int .i64 (num : Nat), .int .i64 (first : Nat), .bool beg, .slice a3 data.length c3], .bool false]) (by simp [results, Tryz.results53, go_sem, q0, q1, q2, q3]) rfl ?_
    exact ⟨a3, c3, rfl, Hdat.out, Hne3.out, HB7.out⟩
end
end Go.Proofs.YtgpedejeifmfdaaGreat
/- The log in memory: last. -/
namespace Go.Proofs.YtgpedejeifmfdaaGreat
open Go.RowKit Go.Sort

def Sc.cells (S : Sc) (a : Option Addr) (c : Nat) : Array Value := #[.int .i64 (S.num : Nat), .int .i64 (S.first : Nat), .bool S.beg, .slice a S.data.length c]
theorem lastF_succ (s : State) (k : Nat) : lastF s (k + 1) = if ((readS s k).2 && decide ((lastF s k).num < (readS s k).1.num)) = true then (readS s k).1 else lastF s k := rfl
theorem readS_bound {w0 w : World} {b : Nat} {F : Nat → Prop} {s : State} (h : Dev w0 w b F s) {k : Nat} (hk : k < s.1.length) : (readS s k).1.num < 4294967296 ∧ (readS s k).1.first < 4294967296 ∧ (readS s k).1.data.length ≤ 16 := by
  have hse := h.sector (k := (k : Int)) ⟨by omega, by omega⟩
  exact parse_bound (b := readOf s.1 s.2 (k : Int)) fun z hz => wf_u8 (hse.2 z hz)
theorem lastF_bound {w0 w : World} {b : Nat} {F : Nat → Prop} {s : State} (h : Dev w0 w b F s) : ∀ k, k ≤ s.1.length → (lastF s k).num < 4294967296 ∧ (lastF s k).first < 4294967296 ∧ (lastF s k).data.length ≤ 16
  | 0, _ => ⟨(by decide : (0 : Nat) < 4294967296), (by decide : (0 : Nat) < 4294967296), (by decide : (0 : Nat) ≤ 16)⟩
  | k + 1, hk => by
    rw [lastF_succ]
    split
    · exact readS_bound h (by omega)
    · exact lastF_bound h k (by omega)
section
variable {w0 w : World} {b lb : Nat} {F : Nat → Prop} {s : State} {l : Lg}
set_option maxHeartbeats 4000000 in
set_option maxRecDepth 100000 in
theorem last_calls (h : Dev w0 w b F s) (hl : LogAt w lb b l) :
    Calls Tryz.prog 31 #[.pointer (some ⟨lb, 0, none⟩)] w fun e w' => ∃ a c, e = .returned (.tuple #[scV (lastS s) a c, .bool (decide (0 < (lastS s).num))]) ∧ Ints w' .u8 a (lastS s).data.length c (lastS s).data ∧ Below w.heap.size w w' := by
  obtain ⟨hp, hp2⟩ := h.len
  obtain ⟨N, hN⟩ : ∃ N, N = s.1.length := ⟨_, rfl⟩
  obtain ⟨LS, hLS⟩ : ∃ L, L = lastS s := ⟨_, rfl⟩
  rw [← hLS]
  obtain ⟨G, hG⟩ : ∃ G, G = decide (0 < LS.num) := ⟨_, rfl⟩
  rw [← hG]
  have HG := Lib.hid hG; clear hG
  have hlb := lastF_bound h s.1.length (Nat.le_refl _)
  have hLb : LS.num < 4294967296 := by rw [hLS]; exact hlb.1
  clear hlb
  rw [← hN] at hp hp2
  have hz := heap_alloc_new w (.cells #[.int .i64 0, .int .i64 0, .bool false, .slice none 0 0] 72)
  have hA := Below.alloc (Below.refl w.heap.size w) (Nat.le_refl _) (.cells #[.int .i64 0, .int .i64 0, .bool false, .slice none 0 0] 72)
  obtain ⟨wa, hwa⟩ : ∃ wa, wa = w.alloc (.cells #[.int .i64 0, .int .i64 0, .bool false, .slice none 0 0] 72) := ⟨_, rfl⟩
  have hsa : wa.heap.size = w.heap.size + 1 := by rw [hwa, World.size_alloc]
  rw [← hwa] at hz hA
  have hzb := heap_alloc_new wa (.cells #[.int .i64 0, .int .i64 0, .bool false, .slice none 0 0] 72)
  have hB := Below.alloc (Below.refl wa.heap.size wa) (Nat.le_refl _) (.cells #[.int .i64 0, .int .i64 0, .bool false, .slice none 0 0] 72)
  obtain ⟨wb, hwb⟩ : ∃ wb, wb = wa.alloc (.cells #[.int .i64 0, .int .i64 0, .bool false, .slice none 0 0] 72) := ⟨_, rfl⟩
  have hsb : wb.heap.size = w.heap.size + 2 := by rw [hwb, World.size_alloc, hsa]
  rw [← hwb] at hzb hB
  rw [hsa] at hzb
  have hza : wb.heap[w.heap.size]? = some (.cells #[.int .i64 0, .int .i64 0, .bool false, .slice none 0 0] 72) := by rw [hB.block _ (by omega)]; exact hz
  have hab : Below w.heap.size w wb := hA.trans (hB.mono hA.size)
  have c0 := cells_at (hl.step hab) 0
  simp only [Lg.cells] at c0
  rw [hwb, hwa] at c0
  have hsec := Sectors_dev (h.step hab)
  rw [← hN] at hsec
  clear hz hA hB
  have H := Lib.hid h; clear h
  have L := Lib.hid hl; clear hl
  have HN := Lib.hid hN; clear hN
  have HLS := Lib.hid hLS; clear hLS
  have Hza := Lib.hid hza; clear hza
  have Hzb := Lib.hid hzb; clear hzb
  have Hab := Lib.hid hab; clear hab
  have Hsec := Lib.hid hsec; clear hsec
  have Hsa := Lib.hid hsa; clear hsa
  have Hsb := Lib.hid hsb; clear hsb
  go_enter Tryz.func31, Tryz.ntmps31
  go_wp2_with fail
  rw [← hwa, ← hwb]
  clear hwa hwb
  obtain ⟨ob, hob⟩ : ∃ ob, ob = w.heap.size + 1 := ⟨_, rfl⟩
  rw [← hob] at Hzb ⊢
  have hobl : w.heap.size < ob := by omega
  clear hob
  refine Hsec.out.mono ?_
  rintro e w2 ⟨rfl, hw2⟩
  obtain rfl := hw2
  clear Hsec c0
  go_wp2_with fail
  go_loopw [13] (fun i wr => ∃ j : Nat, j ≤ N ∧ i = .int .i64 j ∧ (∃ a c, wr.heap[ob]? = some (.cells ((lastF s j).cells a c) 72) ∧ Ints wr .u8 a (lastF s j).data.length c (lastF s j).data ∧ ∀ x o, a = some ⟨x, o, none⟩ → ob < x) ∧ wr.heap[w.heap.size]? = some (.cells #[.int .i64 0, .int .i64 0, .bool false, .slice none 0 0] 72) ∧ Below w.heap.size w wr) (fun i _ => N - (intOf i).toNat)
  case atStart => exact ⟨0, Nat.zero_le _, rfl, ⟨none, 0, Hzb.out, Ints.nil0 _ _, fun _ _ e => by cases e⟩, Hza.out, Hab.out⟩
  case round =>
    obtain ⟨j, hj, rfl, ⟨a, c, hout, hdat, hfr⟩, hres, hb⟩ := hrel
    obtain ⟨wo, rfl⟩ : ∃ wo, wo = wr := ⟨_, rfl⟩
    have hd := H.out.step hb
    have hlg := L.out.step hb
    have Hb := Lib.hid hb; clear hb
    have Hres := Lib.hid hres; clear hres
    by_cases hlt : j < N
    · have hjk : j < s.1.length := by rw [← HN.out]; exact hlt
      have hrd := read_calls hd hlg hjk
      have hsu := lastF_succ s j
      have hbn := readS_bound hd hjk
      have hbl := lastF_bound hd j (by omega)
      obtain ⟨R, hR⟩ : ∃ R, R = readS s j := ⟨_, rfl⟩
      obtain ⟨LF, hLF⟩ : ∃ LF, LF = lastF s j := ⟨_, rfl⟩
      rw [← hR] at hrd hsu hbn
      rw [← hLF] at hsu hout hdat hbl
      clear hR hLF
      obtain ⟨⟨num, first, beg, data⟩, ok⟩ := R
      obtain ⟨ln, lf, lg, ld⟩ := LF
      simp only [scV] at hrd hsu hbn
      simp only [Sc.cells] at hout hdat hbl
      obtain ⟨hb1, -, -⟩ := hbn
      obtain ⟨hb2, -, -⟩ := hbl
      have Hrd := Lib.hid hrd; clear hrd
      have Hsu := Lib.hid hsu; clear hsu
      have Hout := Lib.hid hout; clear hout
      have Hdat := Lib.hid hdat; clear hdat
      have Hfr := Lib.hid hfr; clear hfr
      clear hd hlg
      go_wp2_with fail
      refine Hrd.out.mono ?_
      rintro e w3 ⟨a3, c3, rfl, hd3, hn3, hb3⟩
      clear Hrd
      have x4 := heap_alloc_new w3 (.cells #[.int .i64 (num : Nat), .int .i64 (first : Nat), .bool beg, .slice a3 data.length c3] 72)
      have b34 := Below.alloc (Below.refl w3.heap.size w3) (Nat.le_refl _) (.cells #[.int .i64 (num : Nat), .int .i64 (first : Nat), .bool beg, .slice a3 data.length c3] 72)
      have hwo : ob < wo.heap.size := (Array.getElem?_eq_some_iff.1 Hout.out).1
      have b4 := hb3.trans (b34.mono hb3.size)
      have out4 := (b4.block _ hwo).trans Hout.out
      have res4 := (b4.block _ (by omega)).trans Hres.out
      have dat4 := Hdat.out.keep b4
      have dn4 := hd3.keep b34
      have hb4 := Hb.out.trans (b4.mono Hb.out.size)
      have hg3 : wo.heap.size ≤ w3.heap.size := hb3.size
      clear Hb Hres Hdat hd3 b34 b4 hb3
      have Hb4 := Lib.hid hb4; clear hb4
      have Hres4 := Lib.hid res4; clear res4
      have Hdat4 := Lib.hid dat4; clear dat4
      have Hdn4 := Lib.hid dn4; clear dn4
      have Hn3 := Lib.hid hn3; clear hn3
      have y0 := cells_at out4 0
      clear x4 Hout
      have hsz : ob < w3.heap.size := by omega
      have Hout4 := Lib.hid out4; clear out4
      cases ok with
      | false =>
        have hsu := Hsu.out
        simp only [Bool.false_and, Bool.false_eq_true, if_false] at hsu
        clear Hsu
        have Hsu := Lib.hid hsu; clear hsu
        go_wp2_with fail
        go_roundw
        case rel => exact ⟨j + 1, by omega, by go_num, ⟨a, c, by rw [Hsu.out]; exact Hout4.out, by rw [Hsu.out]; exact Hdat4.out, Hfr.out⟩, Hres4.out, Hb4.out⟩
        case measure => simp [intOf]; omega
      | true =>
        by_cases hlt2 : ln < num
        · have hgt : decide ((num : Int) > (ln : Int)) = true := decide_eq_true (by omega)
          have hgt2 : decide (ln < num) = true := decide_eq_true hlt2
          have hsu := Hsu.out
          simp only [Bool.true_and, decide_eq_true hlt2, if_true] at hsu
          clear Hsu
          have Hsu := Lib.hid hsu; clear hsu
          go_wp2_with (with_reducible refine stop_load 3 ?_)
          refine unpark ?_
          go_wp2_with (with_reducible refine stop_store 72 ?_)
          refine unpark ?_
          refine wpList_store_at rfl _ _ _ rfl _ 0 rfl _ rfl _ rfl _ _ Hout4.out 4 rfl (by simp) (by simp [Value.oneCell']) Tryz.sizeLogSec ?_
          intro w7 hw7 hg7 hs7
          have hb7 : Below w.heap.size w w7 := Hb4.out.grown hg7 Hb4.out.size (fun k hk => by cases hk; omega)
          have hres7 := (hg7.block _ (Array.getElem?_eq_some_iff.1 Hres4.out).1 (by intro e2; injection e2 with e2; omega)).trans Hres4.out
          have hdn7 := Hdn4.out.keepOn (w' := w7) fun x o e hlt => hg7.block x hlt (by intro e2; injection e2 with e2; have := Hn3.out x o e; omega)
          rw [splice_all _ _ (by rfl)] at hw7
          have hn7 : ∀ x o, a3 = some ⟨x, o, none⟩ → ob < x := fun x o e => by have := Hn3.out x o e; omega
          clear hg7 hs7 Hout4 Hres4 Hdn4 Hdat4 Hb4 y0
          have Hb7 := Lib.hid hb7; clear hb7
          have Hres7 := Lib.hid hres7; clear hres7
          have Hdn7 := Lib.hid hdn7; clear hdn7
          have Hn7 := Lib.hid hn7; clear hn7
          have Hw7 := Lib.hid hw7; clear hw7
          go_wp2_with fail
          go_roundw
          case rel => exact ⟨j + 1, by omega, by go_num, ⟨a3, c3, by rw [Hsu.out]; exact Hw7.out, by rw [Hsu.out]; exact Hdn7.out, Hn7.out⟩, Hres7.out, Hb7.out⟩
          case measure => simp [intOf]; omega
        · have hgt : decide ((num : Int) > (ln : Int)) = false := decide_eq_false (by omega)
          have hgt2 : decide (ln < num) = false := decide_eq_false hlt2
          have hsu := Hsu.out
          simp only [Bool.true_and, decide_eq_false hlt2, Bool.false_eq_true, if_false] at hsu
          clear Hsu
          have Hsu := Lib.hid hsu; clear hsu
          go_wp2_with fail
          go_roundw
          case rel => exact ⟨j + 1, by omega, by go_num, ⟨a, c, by rw [Hsu.out]; exact Hout4.out, by rw [Hsu.out]; exact Hdat4.out, Hfr.out⟩, Hres4.out, Hb4.out⟩
          case measure => simp [intOf]; omega
    · obtain rfl : j = N := by omega
      have hLe : LS = lastF s j := by rw [HLS.out]; unfold lastS; rw [← HN.out]
      rw [← hLe] at hout hdat
      clear hd hlg hLe HLS
      obtain ⟨num, first, beg, data⟩ := LS
      simp only [Sc.cells] at hout hdat hLb
      clear hLb
      have hwo : ob < wo.heap.size := (Array.getElem?_eq_some_iff.1 hout).1
      have Hout := Lib.hid hout; clear hout
      have Hdat := Lib.hid hdat; clear hdat
      have Hfr := Lib.hid hfr; clear hfr
      go_wp2_with fail
      have sd := below_drew wo
      refine wp_region_plan (fun w' => w'.heap[ob]? = some (.cells #[.int .i64 (num : Nat), .int .i64 (first : Nat), .bool beg, .slice a data.length c] 72)) (.pre [0, 1, 2] (.yld 3 (.segs [[4], [5]]))) (by kernel_rfl) (by kernel_rfl) rfl (by kernel_rfl) (fun _ _ _ h => by obtain ⟨_, _, _, h, _⟩ := h; cases h) (fun _ _ h => by obtain ⟨_, _, h, _⟩ := h; cases h) ((sd.block _ hwo).trans Hout.out) ?_
      have x5 := (sd.block _ hwo).trans Hout.out
      have r5 := (sd.block _ (by omega)).trans Hres.out
      have d5 := Hdat.out.keep sd
      have b5 := Hb.out.trans (sd.mono Hb.out.size)
      generalize wo.drew = w5 at x5 r5 d5 b5 ⊢
      clear sd Hout Hres Hdat Hb
      have X5 := Lib.hid x5; clear x5
      have R5 := Lib.hid r5; clear r5
      have D5 := Lib.hid d5; clear d5
      have B5 := Lib.hid b5; clear b5
      refine plan_pre (by kernel_rfl) ?_
      apply Exists.intro
      apply And.intro
      · intro w' s
        have z0 := cells_at s 0
        have z1 := cells_at s 1
        have z2 := cells_at s 2
        have z3 := cells_at s 3
        clear s
        simp only [List.map_cons, List.map_nil, List.getD_cons_zero, List.getD_cons_succ]
        go_wp2_with fail
        exact pre_end
      refine yld_at (.bool (decide ((num : Int) > 0))) rfl (fun w2 _ => rfl) ?_
      refine plan_segs (segs_more ?_)
      simp only [List.map_cons, List.map_nil, List.getD_cons_zero, List.getD_cons_succ]
      go_wp2_with (with_reducible refine stop_store 72 ?_)
      refine unpark ?_
      refine wpList_store_at rfl _ _ _ rfl _ 0 rfl _ rfl _ rfl _ _ R5.out 4 rfl (by decide) (by simp [Value.oneCell']) Tryz.sizeLogSec ?_
      intro w7 hw7 hg7 hs7
      have h7 := (hg7.block _ (Array.getElem?_eq_some_iff.1 X5.out).1 (by intro e2; injection e2 with e2; omega)).trans X5.out
      have hb7 : Below w.heap.size w w7 := B5.out.grown hg7 B5.out.size (fun k hk => by cases hk; exact Nat.le_refl _)
      have hdat7 := D5.out.keepOn (w' := w7) fun x o e hlt => hg7.block x hlt (by intro e2; injection e2 with e2; have := Hfr.out x o e; omega)
      rw [splice_all _ _ (by rfl)] at hw7
      have q0 := cells_at hw7 0
      have q1 := cells_at hw7 1
      have q2 := cells_at hw7 2
      have q3 := cells_at hw7 3
      clear hw7 hg7 hs7 R5 D5 B5 X5
      have H7 := Lib.hid h7; clear h7
      have HB7 := Lib.hid hb7; clear hb7
      have HD7 := Lib.hid hdat7; clear hdat7
      have hde : decide ((num : Int) > 0) = G := by rw [HG.out, Bool.eq_iff_iff]; simp
      rw [hde]
      clear hde
      go_wp2_with fail
      refine ⟨H7.out, ?_⟩
      refine segs_last ?_
      go_wp2
      refine bodyPost_ret (v := .tuple #[.agg #[.int .i64 (num : Nat), .int .i64 (first : Nat), .bool beg, .slice a data.length c], .bool G]) (by simp [results, Tryz.results31, go_sem, q0, q1, q2, q3]) rfl ?_
      exact ⟨a, c, rfl, HD7.out, HB7.out⟩
end
end Go.Proofs.YtgpedejeifmfdaaGreat
/- The log in memory: rows. -/
namespace Go.Proofs.YtgpedejeifmfdaaGreat
open Go.RowKit Go.Sort

/-! ### numbers as rows of one-celled records: append tells where the row lies -/
def nuF (k : IntKind) : Fmt Int := ⟨fun z => [.int k z], 1, fun _ => rfl, by decide, fun x u hu => by
  rw [List.mem_singleton] at hu
  subst hu
  rfl⟩
theorem nuF_row (k : IntKind) : ∀ zs : List Int, (nuF k).row zs = zs.map (Value.int k)
  | [] => rfl
  | z :: zs => by
    have := nuF_row k zs
    unfold Fmt.row at this ⊢
    rw [List.flatMap_cons, this]
    rfl
theorem recs_of_nums {w : World} {k : IntKind} {a : Option Addr} {n c : Nat} {zs : List Int} (h : Ints w k a n c zs) : Recs (nuF k) w a n c zs := by
  refine ⟨h.len, h.le, h.max, fun hn => ?_⟩
  obtain ⟨b, o, e, hc⟩ := h.cell hn
  refine ⟨b, o, e, fun j u hu => ?_⟩
  rw [nuF_row] at hu
  have hj : j < zs.length := by have := (List.getElem?_eq_some_iff.1 hu).1; simpa using this
  rw [hc j (by rw [← h.len]; exact hj)]
  rw [List.getElem?_map, List.getElem?_eq_getElem hj] at hu
  rw [List.getD_eq_getElem?_getD, List.getElem?_eq_getElem hj]
  exact hu
theorem wpList_append_nums {P : Program} {k : IntKind} {t E : TypeId} (H : Elem P (nuF k) t E) (w : World) {ops : Array Oper} {rest : List Oper} {o : Oper} {a : Act} {Q : Exit → Act → World → Prop} (hgd : Region.wanted o (yielded ops a.tmps) = true) (s x : Operand)
    (ho : o.op = .call { callee := .builtin .append, args := #[s, x], argTypes := #[t, t] })
    (B : Nat) (v : Value) (xs : List Int) (hs : a.eval s = v) (hown : Own w B E k v xs)
    (ad : Option Addr) (m c : Nat) (news : List Int) (hx : a.eval x = .slice ad m c) (hnews : Ints w k ad m c news)
    (hmax : xs.length + m ≤ 1000000) (hbase : B ≤ w.heap.size)
    (h : ∀ v' w', Own w' B E k v' (xs ++ news) → w.grownBy w' v.ownBlock → (v'.ownBlock = v.ownBlock ∨ v'.ownBlock = some w.heap.size) → wpList P ops Q rest (a.put o.dst v') w') : wpList P ops Q (o :: rest) a w := by
  refine wpList_append_recs H w hgd s x ho B v xs hs (by unfold ROwn; rw [nuF_row]; exact hown.1) ad m c news hx (recs_of_nums hnews) hmax hbase fun v' w' h1 h2 h3 => h v' w' ⟨?_, fun z hz => ?_⟩ h2 h3
  · unfold ROwn at h1
    rw [nuF_row] at h1
    exact h1
  · rcases List.mem_append.1 hz with hz | hz
    · exact hown.2 z hz
    · exact hnews.fit z hz
set_option maxRecDepth 100000 in
theorem byteElem : Elem Tryz.prog (nuF .u8) 39 5 := ⟨Tryz.underlying39, ⟨_, _, rfl, rfl, rfl, rfl, by decide⟩⟩

theorem rowsF_snoc {S : Sc} : ∀ {T : List Sc} {c : List Int} {ds : List (List Int)} {cur : List Int}, rowsF c T = ds ++ [cur] → rowsF c (T ++ [S]) = if S.beg = true then ds ++ [cur] ++ [S.data] else ds ++ [cur ++ S.data]
  | [], c, ds, cur, h => by
    have h2 : ds ++ [cur] = [] ++ [c] := h.symm
    obtain ⟨rfl, h3⟩ := List.append_inj' h2 rfl
    cases h3
    simp only [List.nil_append, rowsF_cons]
    split <;> rfl
  | R :: T, c, ds, cur, h => by
    rw [List.cons_append, rowsF_cons]
    rw [rowsF_cons] at h
    split
    · rename_i hb
      rw [if_pos hb] at h
      cases ds with
      | nil =>
        exfalso
        obtain ⟨a, A, hA⟩ := rowsF_ne R.data T
        rw [hA] at h
        simp at h
      | cons d ds =>
        rw [List.cons_append] at h
        injection h with h1 h2
        subst h1
        rw [rowsF_snoc h2]
        split <;> rfl
    · rename_i hb
      rw [if_neg hb] at h
      exact rowsF_snoc h
theorem secsS_snoc (s : State) : ∀ (k n : Nat), secsS s n (k + 1) = match secsS s n k with
    | none => none
    | some T => if ((readS s (placeOf s (n + k))).2 && decide ((readS s (placeOf s (n + k))).1.num = n + k)) = true then some (T ++ [(readS s (placeOf s (n + k))).1]) else none
  | 0, n => by
    simp only [secsS, Nat.add_zero, List.nil_append, Option.map_some]
  | k + 1, n => by
    have ih := secsS_snoc s k (n + 1)
    have e : n + 1 + k = n + (k + 1) := by omega
    rw [e] at ih
    rw [secsS]
    split
    · rename_i hc
      rw [ih]
      rw [secsS, if_pos hc]
      cases secsS s (n + 1) k with
      | none => rfl
      | some T =>
        simp only [Option.map_some]
        split <;> rfl
    · rename_i hc
      rw [secsS, if_neg hc]
theorem secsS_len (s : State) : ∀ (k n : Nat) {T : List Sc}, secsS s n k = some T → T.length = k
  | 0, n, T, h => by cases h; rfl
  | k + 1, n, T, h => by
    rw [secsS] at h
    split at h
    · cases hs : secsS s (n + 1) k with
      | none => rw [hs] at h; cases h
      | some U => rw [hs] at h; cases h; rw [List.length_cons, secsS_len s k (n + 1) hs]
    · cases h
theorem secsS_none (s : State) {k n : Nat} (h : secsS s n k = none) : ∀ d, secsS s n (k + d) = none
  | 0 => h
  | d + 1 => by
    have := secsS_snoc s (k + d) n
    rw [secsS_none s h d] at this
    exact this

/-- A slice, as a record. -/
abbrev SlC := Option Addr × Nat × Nat
def slF : Fmt SlC := ⟨fun x => [.slice x.1 x.2.1 x.2.2], 1, fun _ => rfl, by decide, fun x u hu => by
  rw [List.mem_singleton] at hu
  subst hu
  rfl⟩
set_option maxRecDepth 100000 in
theorem slElem : Elem Tryz.prog slF 51 39 := ⟨Tryz.underlying51, ⟨_, _, rfl, rfl, rfl, rfl, by decide⟩⟩
theorem slF_row : ∀ xs : List SlC, slF.row xs = xs.map fun x => Value.slice x.1 x.2.1 x.2.2
  | [] => rfl
  | x :: xs => by
    have := slF_row xs
    unfold Fmt.row at this ⊢
    rw [List.flatMap_cons, this]
    rfl
/-- Rows that are gathered: those that are done, and the last one. -/
structure Rws (w : World) (n0 : Nat) (g cap : Nat) (xs : List SlC) (x : SlC) (top : Nat) (ds : List (List Int)) (cur : List Int) : Prop where
  own : ROwn slF 39 w n0 (.slice (some ⟨g, 0, none⟩) (xs.length + 1) cap) (xs ++ [x])
  last : Own w top 5 .u8 (.slice x.1 x.2.1 x.2.2) cur
  len : xs.length = ds.length
  rd : ∀ i (h : i < xs.length) (h2 : i < ds.length), Ints w .u8 xs[i].1 xs[i].2.1 xs[i].2.2 ds[i] ∧ ∀ b o, xs[i].1 = some ⟨b, o, none⟩ → b < top ∧ b ≠ g
  gt : g < top
  n0t : n0 ≤ top
  tw : top ≤ w.heap.size
section
variable {w w' : World} {n0 g cap top : Nat} {xs : List SlC} {x : SlC} {ds : List (List Int)} {cur : List Int}
theorem Rws.step (h : Rws w n0 g cap xs x top ds cur) (hb : Below w.heap.size w w') : Rws w' n0 g cap xs x top ds cur where
  own := h.own.below hb
  last := h.last.below hb
  len := h.len
  rd := fun i h1 h2 => ⟨(h.rd i h1 h2).1.keep hb, (h.rd i h1 h2).2⟩
  gt := h.gt
  n0t := h.n0t
  tw := Nat.le_trans h.tw hb.size
theorem Rws.spine (h : Rws w n0 g cap xs x top ds cur) : ∃ cs : Array Value, w.heap[g]? = some (.cells cs 39 (0, 0)) ∧ xs.length + 1 ≤ cap ∧ cap ≤ 9223372036854775807 ∧ cs.size = cap ∧ cs.toList.take (xs.length + 1) = slF.row (xs ++ [x]) ∧ cs[xs.length]? = some (.slice x.1 x.2.1 x.2.2) := by
  have ho := h.own
  unfold ROwn at ho
  rcases ho.2 with ⟨h1, -⟩ | ⟨g', cap', cur', e, hb, hg, hn, hm, hs, ht⟩
  · cases h1
  · injection e with e1 e2 e3
    injection e1 with e1
    injection e1 with e1
    subst e1 e3
    have h1 : slF.m = 1 := rfl
    rw [h1, Nat.mul_one] at hs ht
    rw [List.length_append, List.length_singleton] at hn ht
    refine ⟨cur', hg, hn, by unfold maxLen at hm; omega, hs, ht, ?_⟩
    have h3 : (cur'.toList.take (xs.length + 1))[xs.length]? = some (.slice x.1 x.2.1 x.2.2) := by rw [ht, slF_row]; simp
    rw [List.getElem?_take, if_pos (by omega)] at h3
    simpa using h3
/-- Another row begins: append made the spine anew, or not. -/
theorem Rws.more (h : Rws w n0 g cap xs x top ds cur) {v' : Value} (hown : ROwn slF 39 w' n0 v' (xs ++ [x] ++ [(none, 0, 0)])) (hg : w.grownBy w' (some g)) (hv : v'.ownBlock = some g ∨ v'.ownBlock = some w.heap.size) :
    ∃ g' cap', v' = .slice (some ⟨g', 0, none⟩) (xs.length + 2) cap' ∧ Rws w' n0 g' cap' (xs ++ [x]) (none, 0, 0) w'.heap.size (ds ++ [cur]) [] := by
  have hsh := hown
  unfold ROwn at hsh
  rcases hsh.2 with ⟨-, h1⟩ | ⟨g', cap', cur', e, hb, hg', hn, hm, hs, ht⟩
  · simp at h1
  · have e2 : (xs ++ [x] ++ [((none, 0, 0) : SlC)]).length = xs.length + 2 := by simp
    rw [e2] at e
    refine ⟨g', cap', e, ?_⟩
    have hgg : g' = g ∨ g' = w.heap.size := by
      rw [e] at hv
      simpa [Value.ownBlock] using hv
    have hltg : g < w.heap.size := Nat.lt_of_lt_of_le h.gt h.tw
    have hlast : Ints w' .u8 x.1 x.2.1 x.2.2 cur ∧ ∀ b o, x.1 = some ⟨b, o, none⟩ → b < w.heap.size ∧ b ≠ g := by
      obtain ⟨a, c, e3, hi, hbl⟩ := h.last.ints
      injection e3 with e4 e5 e6
      rw [e4, e5, e6]
      refine ⟨hi.keepOn (w' := w') fun x' o e7 hlt => hg.block x' hlt (by intro e8; injection e8 with e8; have h5 := (hbl x' o e7).1; have := h.gt; omega), fun b o e7 => ⟨(hbl b o e7).2, by have h5 := (hbl b o e7).1; have := h.gt; omega⟩⟩
    refine ⟨by rw [e] at hown; simpa using hown, own_nil _ _ _ _, by simp [h.len], fun i h1 h2 => ?_, (Array.getElem?_eq_some_iff.1 hg').1, Nat.le_trans h.n0t (Nat.le_trans h.tw hg.size), Nat.le_refl _⟩
    by_cases hi : i < xs.length
    · have hi2 : i < ds.length := by rw [← h.len]; exact hi
      simp only [List.getElem_append_left hi, List.getElem_append_left hi2]
      obtain ⟨hr, hbl⟩ := h.rd i hi hi2
      refine ⟨hr.keepOn (w' := w') fun x' o e7 hlt => hg.block x' hlt (by intro e8; injection e8 with e8; exact (hbl x' o e7).2 e8), fun b o e7 => ?_⟩
      have h5 := hbl b o e7
      have h6 := h.tw
      have h7 := hg.size
      rcases hgg with rfl | rfl <;> omega
    · rw [List.length_append, List.length_singleton] at h1
      obtain rfl : i = xs.length := by omega
      have hdl : xs.length = ds.length := h.len
      simp only [List.getElem_append_right (Nat.le_refl _), Nat.sub_self, List.getElem_singleton]
      have e3 : (ds ++ [cur])[xs.length]'h2 = cur := by simp [hdl]
      rw [e3]
      refine ⟨hlast.1, fun b o e7 => ?_⟩
      have h5 := hlast.2 b o e7
      have h7 := hg.size
      rcases hgg with rfl | rfl <;> omega
/-- The last row has grown, and stands in the spine. -/
theorem Rws.put (h : Rws w n0 g cap xs x top ds cur) {w8 w9 : World} {v' : Value} {news : List Int} (hown : Own w8 top 5 .u8 v' news) (hg : w.grownBy w8 (Value.ownBlock (.slice x.1 x.2.1 x.2.2)))
    {cs : Array Value} (hcs : w.heap[g]? = some (.cells cs 39 (0, 0))) (hput : w9.heap[g]? = some (.cells (splice cs.toList xs.length [v']).toArray 39 (0, 0))) (hg9 : w8.grownBy w9 (some g)) :
    ∃ x', v' = .slice x'.1 x'.2.1 x'.2.2 ∧ Rws w9 n0 g cap xs x' top ds news := by
  obtain ⟨a, c, e3, hi, hbl⟩ := hown.ints
  refine ⟨(a, news.length, c), e3, ?_⟩
  have hltg : g < w.heap.size := Nat.lt_of_lt_of_le h.gt h.tw
  obtain ⟨cs', hcs', hn, hm, hs, ht, hx⟩ := h.spine
  rw [hcs] at hcs'
  cases hcs'
  have hlb := World.ownsRow.lt h.last.1
  have hsz := Nat.le_trans hg.size hg9.size
  refine ⟨?_, ?_, h.len, fun i h1 h2 => ?_, h.gt, h.n0t, Nat.le_trans h.tw hsz⟩
  · have ho := h.own
    unfold ROwn at ho ⊢
    refine ⟨by rw [slF.row_len], ?_⟩
    rcases ho.2 with ⟨h1, -⟩ | ⟨g', cap', cur', e, hb, hg', hn', hm', hs', ht'⟩
    · cases h1
    injection e with e1 e2 e6
    injection e1 with e1
    injection e1 with e1
    subst e1 e6
    refine .inr ⟨g, cap, _, by simp, hb, hput, by simpa using hn', hm', ?_, ?_⟩
    · have h1 : slF.m = 1 := rfl
      rw [h1, Nat.mul_one]
      simp [splice]
      omega
    · have h1 : slF.m = 1 := rfl
      rw [h1, Nat.mul_one]
      rw [slF_row] at ht ⊢
      rw [e3]
      simp only [splice]
      have e5 : cs.toList.take xs.length = xs.map fun x => Value.slice x.1 x.2.1 x.2.2 := by
        have := congrArg (List.take xs.length) ht
        rw [List.take_take, Nat.min_eq_left (by omega)] at this
        rw [this]
        simp
      rw [e5]
      simp
      rw [List.append_cons, List.take_append_of_le_length (by simp), List.take_of_length_le (by simp)]
  · rw [← e3]
    exact ⟨hown.1.kept hg9 (.inr (by
      intro e6
      rw [e3] at e6
      cases ha : a with
      | none => rw [ha] at e6; cases e6
      | some ad =>
        rw [ha] at e6
        have h5 := (hown.block g (by rw [e3, ha]; exact e6)).1
        have := h.gt
        omega)), hown.2⟩
  · obtain ⟨hr, hbl2⟩ := h.rd i h1 h2
    refine ⟨?_, hbl2⟩
    have hr8 := hr.keepOn (w' := w8) fun x' o e7 hlt => hg.block x' hlt (by
      intro e8
      have h5 := (hlb x' e8.symm).1
      have h6 := hbl2 x' o e7
      omega)
    exact hr8.keepOn (w' := w9) fun x' o e7 hlt => hg9.block x' hlt (by intro e8; injection e8 with e8; exact (hbl2 x' o e7).2 e8)
end
/-- Rows that are read. -/
structure RowsRd (w : World) (v : Value) (rs : List (List Int)) : Prop where
  rows : ∃ g cap, ∃ xs : List SlC, v = .slice (some ⟨g, 0, none⟩) rs.length cap ∧ rs.length ≤ cap ∧ cap ≤ 9223372036854775807 ∧ xs.length = rs.length ∧ ∀ i (h : i < xs.length) (h2 : i < rs.length), w.cell? ⟨g, i, none⟩ = some (.slice xs[i].1 xs[i].2.1 xs[i].2.2) ∧ Ints w .u8 xs[i].1 xs[i].2.1 xs[i].2.2 rs[i]
theorem Rws.read {w : World} {n0 g cap top : Nat} {xs : List SlC} {x : SlC} {ds : List (List Int)} {cur : List Int} (h : Rws w n0 g cap xs x top ds cur) : RowsRd w (.slice (some ⟨g, 0, none⟩) (xs.length + 1) cap) (ds ++ [cur]) := by
  obtain ⟨cs, hcs, hn, hm, hs, ht, hx⟩ := h.spine
  have hl := h.len
  refine ⟨g, cap, xs ++ [x], by simp [hl], by simp; omega, hm, by simp [hl], fun i h1 h2 => ⟨?_, ?_⟩⟩
  · have h3 : (cs.toList.take (xs.length + 1))[i]? = some (.slice (xs ++ [x])[i].1 (xs ++ [x])[i].2.1 (xs ++ [x])[i].2.2) := by rw [ht, slF_row, List.getElem?_map, List.getElem?_eq_getElem h1]; rfl
    rw [List.getElem?_take, if_pos (by simpa using h1)] at h3
    rw [cells_at hcs i]
    simpa using h3
  · by_cases hi : i < xs.length
    · have hi2 : i < ds.length := by rw [← hl]; exact hi
      simp only [List.getElem_append_left hi, List.getElem_append_left hi2]
      exact (h.rd i hi hi2).1
    · rw [List.length_append, List.length_singleton] at h1
      obtain rfl : i = xs.length := by omega
      simp only [List.getElem_append_right (Nat.le_refl _), Nat.sub_self, List.getElem_singleton]
      have e3 : (ds ++ [cur])[xs.length]'h2 = cur := by simp [hl]
      rw [e3]
      obtain ⟨a, c, e4, hi4, -⟩ := h.last.ints
      injection e4 with e5 e6 e7
      rw [e5, e6, e7]
      exact hi4
theorem RowsRd.keep {w w' : World} {v : Value} {rs : List (List Int)} (h : RowsRd w v rs) (hb : Below w.heap.size w w') : RowsRd w' v rs := by
  obtain ⟨g, cap, xs, e, h1, h2, h3, h4⟩ := h.rows
  exact ⟨g, cap, xs, e, h1, h2, h3, fun i hi hi2 => ⟨(hb.cell (World.block_lt_of_cell? _ _ (h4 i hi hi2).1)).trans (h4 i hi hi2).1, (h4 i hi hi2).2.keep hb⟩⟩
end Go.Proofs.YtgpedejeifmfdaaGreat
/- The log in memory: rows, walked. -/
namespace Go.Proofs.YtgpedejeifmfdaaGreat
open Go.RowKit Go.Sort

section
variable {w0 w : World} {b lb : Nat} {F : Nat → Prop} {s : State} {l : Lg}
theorem sizeBytes : (Tryz.prog.info? 39).map (·.size) = some 1 := by kernel_rfl
set_option maxHeartbeats 8000000 in
set_option maxRecDepth 100000 in
theorem rows_calls (h : Dev w0 w b F s) (hl : LogAt w lb b l) {n cnt : Nat} (h1 : 1 ≤ n) (h2 : n + cnt ≤ 4294967296) (hc0 : 1 ≤ cnt) (hcm : cnt ≤ 512) :
    Calls Tryz.prog 33 #[.pointer (some ⟨lb, 0, none⟩), .int .i64 (n : Nat), .int .i64 ((n + cnt - 1 : Nat) : Int)] w fun e w' => ∃ v, e = .returned (.tuple #[v, .bool (secsS s n cnt).isSome]) ∧ (∀ T, secsS s n cnt = some T → RowsRd w' v (rowsZ T)) ∧ Below w.heap.size w w' := by
  obtain ⟨hp, hp2⟩ := h.len
  obtain ⟨N, hN⟩ : ∃ N, N = s.1.length := ⟨_, rfl⟩
  rw [← hN] at hp hp2
  obtain ⟨RS, hRS⟩ : ∃ R, R = secsS s n cnt := ⟨_, rfl⟩
  obtain ⟨OK, hOK⟩ : ∃ R, R = (secsS s n cnt).isSome := ⟨_, rfl⟩
  rw [← hOK]
  rw [← hRS] at hOK ⊢
  have HRS := Lib.hid hRS; clear hRS
  have HOK := Lib.hid hOK; clear hOK
  have H := Lib.hid h; clear h
  have L := Lib.hid hl; clear hl
  have HN := Lib.hid hN; clear hN
  obtain ⟨to, hto⟩ : ∃ to : Nat, to = n + cnt - 1 := ⟨_, rfl⟩
  rw [← hto]
  have hto1 : to + 1 ≤ n + cnt := by omega
  have hto2 : n + cnt ≤ to + 1 := by omega
  clear hto
  go_enter Tryz.func33, Tryz.ntmps33
  go_wp2_with fail
  have xw := heap_alloc_new w (.cells #[.slice none 0 0] 39)
  have bw : Below w.heap.size w (w.alloc (.cells #[.slice none 0 0] 39)) := (Below.refl _ _).alloc (Nat.le_refl _) _
  have sw : (w.alloc (.cells #[.slice none 0 0] 39)).heap.size = w.heap.size + 1 := World.size_alloc _ _
  generalize w.alloc (.cells #[.slice none 0 0] 39) = w1 at xw bw sw ⊢
  have r1 : Rws w1 w.heap.size w.heap.size 1 [] (none, 0, 0) w1.heap.size [] [] := by
    refine ⟨⟨by rw [slF.row_len], .inr ⟨w.heap.size, 1, _, rfl, Nat.le_refl _, xw, by simp, by unfold maxLen; omega, rfl, rfl⟩⟩, own_nil _ _ _ _, rfl, fun i h => absurd h (Nat.not_lt_zero _), by omega, by omega, Nat.le_refl _⟩
  have R1 := Lib.hid r1; clear r1
  have Bw := Lib.hid bw; clear bw
  clear xw sw
  go_loopw [8, 9] (fun u i wr => ∃ k : Nat, k ≤ cnt ∧ i = .int .i64 ((n + k : Nat) : Int) ∧ ∃ (T : List Sc) (ds : List (List Int)) (cur : List Int) (xs : List SlC) (x : SlC) (g cap top : Nat),
      secsS s n k = some T ∧ rowsZ T = ds ++ [cur] ∧ (∃ LK, LK = xs.length + 1 ∧ u = .slice (some ⟨g, 0, none⟩) LK cap) ∧ Rws wr w.heap.size g cap xs x top ds cur ∧ xs.length ≤ k ∧ cur.length ≤ 16 * k ∧ Below w.heap.size w wr) (fun _ i _ => (to + 1 - intOf i).toNat)
  case atStart => exact ⟨0, Nat.zero_le _, rfl, [], [], [], [], (none, 0, 0), w.heap.size, 1, w1.heap.size, rfl, rfl, ⟨1, rfl, rfl⟩, R1.out, Nat.zero_le _, Nat.zero_le _, Bw.out⟩
  case round =>
    obtain ⟨k, hk, rfl, T, ds, cur, xs, x, g, cap, top, hsec, hrz, ⟨LK, hLK, rfl⟩, hrw, hxk, hck, hb⟩ := hrel
    have HLK := Lib.hid hLK; clear hLK
    obtain ⟨wo, rfl⟩ : ∃ wo, wo = wr := ⟨_, rfl⟩
    have hd := H.out.step hb
    have hlg := L.out.step hb
    by_cases hlt : k < cnt
    · obtain ⟨P, hP⟩ : ∃ P, P = placeOf s (n + k) := ⟨_, rfl⟩
      have hPl : P < s.1.length := by rw [hP]; exact Nat.mod_lt _ (by rw [← HN.out]; exact hp)
      have hpl := place_calls hd hlg (n := n + k) (by omega) (by omega)
      have hpl' : Calls Tryz.prog 54 #[.pointer (some ⟨lb, 0, none⟩), .int .i64 ((n + k : Nat) : Int)] wo fun e w' => e = .returned (.int .i64 (P : Int)) ∧ w' = wo := by rw [hP]; exact hpl
      clear hpl
      have hrd := read_calls hd hlg hPl
      have hsn := secsS_snoc s k n
      rw [hsec, ← hP] at hsn
      have hbn := readS_bound hd hPl
      obtain ⟨R, hR⟩ : ∃ R, R = readS s P := ⟨_, rfl⟩
      rw [← hR] at hrd hsn hbn
      clear hR hd hlg hP hPl
      obtain ⟨⟨num, first, beg, data⟩, ok⟩ := R
      simp only [scV] at hrd hsn hbn
      obtain ⟨hb1, -, hdl⟩ := hbn
      have hle : decide (((n + k : Nat) : Int) ≤ (to : Int)) = true := decide_eq_true (by omega)
      have hle2 : decide (n + k ≤ to) = true := decide_eq_true (by omega)
      have Hpl := Lib.hid hpl'; clear hpl'
      have Hrd := Lib.hid hrd; clear hrd
      have Hsn := Lib.hid hsn; clear hsn
      have Hsec := Lib.hid hsec; clear hsec
      have Hrz := Lib.hid hrz; clear hrz
      have Hrw := Lib.hid hrw; clear hrw
      have Hb := Lib.hid hb; clear hb
      obtain ⟨NK, hNK⟩ : ∃ NK : Nat, NK = n + k := ⟨_, rfl⟩
      rw [← hNK] at Hpl Hsn hle hle2 ⊢
      have HNK := Lib.hid hNK; clear hNK
      go_wp2_with fail
      refine Hpl.out.mono ?_
      rintro e w2 ⟨rfl, hw2⟩
      obtain rfl := hw2.symm
      clear Hpl
      go_wp2_with fail
      refine Hrd.out.mono ?_
      rintro e w3 ⟨a3, c3, rfl, hd3, hn3, hb3⟩
      clear Hrd
      obtain ⟨w4, hw4⟩ : ∃ w4, w4 = w3.alloc (.cells #[.int .i64 (num : Nat), .int .i64 (first : Nat), .bool beg, .slice a3 data.length c3] 72) := ⟨_, rfl⟩
      have b34 : Below w3.heap.size w3 w4 := by rw [hw4]; exact (Below.refl _ _).alloc (Nat.le_refl _) _
      have x4 : w4.heap[w3.heap.size]? = some (.cells #[.int .i64 (num : Nat), .int .i64 (first : Nat), .bool beg, .slice a3 data.length c3] 72) := by rw [hw4]; exact heap_alloc_new w3 _
      have sz4 : w3.heap.size < w4.heap.size := by rw [hw4, World.size_alloc]; omega
      have sz4' : w4.heap.size = w3.heap.size + 1 := by rw [hw4, World.size_alloc]
      have Sz4 := Lib.hid sz4'; clear sz4'
      have Hw4 := Lib.hid hw4; clear hw4
      obtain ⟨xa, xn, xc⟩ := x
      have b4 := hb3.trans (b34.mono hb3.size)
      have rw4 := Hrw.out.step b4
      have dn4 := hd3.keep b34
      have hb4 := Hb.out.trans (b4.mono Hb.out.size)
      have hg3 : wo.heap.size ≤ w3.heap.size := hb3.size
      have htw := Hrw.out.tw
      have hlow : ∀ k, (Value.slice xa xn xc).ownBlock = some k → k < wo.heap.size := fun k hk => (World.ownsRow.lt Hrw.out.last.1 k hk).2
      have Hlow := Lib.hid hlow; clear hlow
      clear Hb Hrw hd3 b34 b4 hb3
      have Hb4 := Lib.hid hb4; clear hb4
      have Hrw4 := Lib.hid rw4; clear rw4
      have Hdn4 := Lib.hid dn4; clear dn4
      have Hn3 := Lib.hid hn3; clear hn3
      have X4 := Lib.hid x4; clear x4
      cases ok with
      | false =>
        have hsn := Hsn.out
        simp only [Bool.false_and, Bool.false_eq_true, if_false] at hsn
        clear Hsn
        have hno : RS = none := by
          rw [HRS.out]
          have := secsS_none s hsn (cnt - (k + 1))
          rwa [show k + 1 + (cnt - (k + 1)) = cnt by omega] at this
        have hO : OK = false := by rw [HOK.out, hno]; rfl
        have HO := Lib.hid hO; clear hO HOK
        have Hno := Lib.hid hno; clear hno hsn
        go_wp2
        go_ret2
        exact ⟨.slice none 0 0, by rw [HO.out]; rfl, fun T hT => (by rw [Hno.out] at hT; cases hT), by rw [← Hw4.out]; exact Hb4.out⟩
      | true =>
      by_cases hnum : num = NK
      · subst hnum
        have hsn := Hsn.out
        simp only [Bool.true_and, decide_true, if_true] at hsn
        clear Hsn
        have Hsn := Lib.hid hsn; clear hsn
        have hrs := rowsF_snoc (S := ⟨num, first, beg, data⟩) (c := []) Hrz.out
        have hne : ((num : Int) != (num : Int)) = false := by simp
        cases beg with
        | true =>
          simp only [if_true] at hrs
          have Hrs := Lib.hid hrs; clear hrs
          go_wp2_with (with_reducible refine stop_builtin .append ?_)
          refine unpark ?_
          rw [← Hw4.out]
          have b5 : Below w4.heap.size w4 (w4.alloc (.cells #[.slice none 0 0] 39)) := (Below.refl _ _).alloc (Nat.le_refl _) _
          have x5 := heap_alloc_new w4 (.cells #[.slice none 0 0] 39)
          rw [Sz4.out] at x5
          generalize w4.alloc (.cells #[.slice none 0 0] 39) = w5 at b5 x5 ⊢
          have rw5 := Hrw4.out.step b5
          have d5 := Hdn4.out.keep b5
          have xx5 := (b5.block _ sz4).trans X4.out
          have sz5 : w3.heap.size < w5.heap.size := Nat.lt_of_lt_of_le sz4 b5.size
          have bb5 := Hb4.out.trans (b5.mono Hb4.out.size)
          rw [HLK.out]
          refine wpList_append_rec1 slElem w5 rfl _ _ rfl w.heap.size (.slice (some ⟨g, 0, none⟩) (xs.length + 1) cap) (xs ++ [(xa, xn, xc)]) rfl rw5.own (w3.heap.size + 1) 1 (by decide) (by decide) (none, 0, 0) rfl x5 (fun j u hu => by simpa [slF] using hu) (by simp; omega) bb5.size ?_
          intro v6 w6 own6 g6 hv6
          have g6' : w5.grownBy w6 (some g) := g6
          obtain ⟨g', cap', rfl, rw6⟩ := rw5.more own6 g6' hv6
          have hgl : g < wo.heap.size := Nat.lt_of_lt_of_le Hrw4.out.gt (by omega)
          have d6 := d5.keepOn (w' := w6) fun x' o e7 hlt => g6'.block x' hlt (by intro e8; injection e8 with e8; have := Hn3.out x' o e7; omega)
          have xx6 := (g6'.block _ sz5 (by intro e8; injection e8 with e8; omega)).trans xx5
          have bb6 := bb5.grown g6' bb5.size (fun k hk => by cases hk; exact (World.ownsRow.lt Hrw4.out.own g rfl).1)
          have sz6 : w3.heap.size < w6.heap.size := Nat.lt_of_lt_of_le sz5 g6'.size
          have hgw : w4.heap.size ≤ w6.heap.size := Nat.le_trans b5.size g6'.size
          clear Hb4 Hrw4 Hdn4 X4 Hw4 HLK own6 g6 g6' hv6 rw5 d5 xx5 bb5 b5 x5 sz4 sz5
          obtain ⟨dt, hdt⟩ : ∃ d, d = w6.heap.size := ⟨_, rfl⟩
          rw [← hdt] at rw6
          have hdt2 : w3.heap.size < dt := by omega
          obtain ⟨LK', hLK'⟩ : ∃ L, L = xs.length + 2 := ⟨_, rfl⟩
          obtain ⟨K, hK⟩ : ∃ L, L = xs.length + 1 := ⟨_, rfl⟩
          rw [← hLK']
          have i1 : (0 : Int) ≤ (K : Int) := by omega
          have i2 : (K : Int) < (LK' : Int) := by omega
          have i3 : (LK' : Int) - 1 = (K : Int) := by omega
          have i4 : K < LK' := by omega
          have i6 : K < 1000 := by omega
          have hK2 : K = (xs ++ [((xa, xn, xc) : SlC)]).length := by simp [hK]
          have hLK2 : LK' = (xs ++ [((xa, xn, xc) : SlC)]).length + 1 := by simp [hLK']
          have HLK2 := Lib.hid hLK2; clear hLK2
          clear hdt hLK'
          have R6 := Lib.hid rw6; clear rw6
          have B6 := Lib.hid bb6; clear bb6
          have D6 := Lib.hid d6; clear d6
          have X6 := Lib.hid xx6; clear xx6
          have HK := Lib.hid hK2; clear hK2 hK
          obtain ⟨cs, hcs, hn9, hm9, hs9, -, hx9⟩ := R6.out.spine
          rw [← HK.out] at hn9 hx9
          have i5 : (K : Int) < (cap' : Int) := by omega
          have y0 : w6.cell? ⟨g', K, none⟩ = some (.slice none 0 0) := by rw [cells_at hcs K]; exact hx9
          have hKs : K < cs.size := by omega
          clear hx9 hn9 hm9 hs9
          have Hcs := Lib.hid hcs; clear hcs
          have Y0 := Lib.hid y0; clear y0
          go_wp2_with fail
          skip
          have sd := below_drew w6
          obtain ⟨S, hS⟩ : ∃ S : World → Prop, S = fun w' => w'.cell? ⟨g', K, none⟩ = some (.slice none 0 0) ∧ w'.heap[w3.heap.size]? = some (.cells #[.int .i64 (num : Nat), .int .i64 (first : Nat), .bool true, .slice a3 data.length c3] 72) := ⟨_, rfl⟩
          have s0 : S w6.drew := by rw [hS]; exact ⟨(sd.cell (World.block_lt_of_cell? _ _ Y0.out)).trans Y0.out, (sd.block _ (Array.getElem?_eq_some_iff.1 X6.out).1).trans X6.out⟩
          refine wp_region_held S [0, 1, 2, 3, 4, 5, 6, 7] [[8], [9, 10]] (by kernel_rfl) (by kernel_rfl) rfl (by kernel_rfl) (fun _ _ _ h => by obtain ⟨_, _, h, _⟩ := h; cases h) (fun _ _ h => by obtain ⟨_, h, _⟩ := h; cases h) s0 (by kernel_rfl) ?_
          have r7 := R6.out.step sd
          have b7 := B6.out.trans (sd.mono B6.out.size)
          have d7 := D6.out.keep sd
          have x7 := (sd.block _ (Array.getElem?_eq_some_iff.1 X6.out).1).trans X6.out
          have c7 := (sd.block _ (Array.getElem?_eq_some_iff.1 Hcs.out).1).trans Hcs.out
          have z7 : w6.heap.size ≤ w6.drew.heap.size := sd.size
          generalize w6.drew = w7 at r7 b7 d7 x7 c7 s0 z7 ⊢
          clear sd R6 B6 D6 X6 Hcs Y0
          have R7 := Lib.hid r7; clear r7
          have B7 := Lib.hid b7; clear b7
          have D7 := Lib.hid d7; clear d7
          have X7 := Lib.hid x7; clear x7
          have C7 := Lib.hid c7; clear c7
          have HS := Lib.hid hS; clear hS
          have S0 := Lib.hid s0; clear s0
          apply Exists.intro
          apply And.intro
          · intro w' s
            rw [HS.out] at s
            obtain ⟨yy, zz⟩ := s
            have m3 := cells_at zz 3
            clear zz
            simp only [List.map_cons, List.map_nil, List.getD_cons_zero, List.getD_cons_succ]
            go_wp2_with fail
            exact pre_end
          simp only [List.map_cons, List.map_nil, List.getD_cons_zero, List.getD_cons_succ]
          refine segs_more ?_
          go_wp2_with (with_reducible refine stop_builtin .append ?_)
          refine unpark ?_
          refine wpList_append_nums byteElem w7 rfl _ _ rfl dt (.slice none 0 0) [] rfl R7.out.last a3 data.length c3 data rfl D7.out (by first | omega | (simp; omega)) R7.out.tw ?_
          intro v8 w8 own8 g8 hv8
          have hlb := World.ownsRow.lt R7.out.last.1
          have hgt := R7.out.gt
          have s8 : S w8 := by
            rw [HS.out]
            have h9 := S0.out
            rw [HS.out] at h9
            refine ⟨(World.cell?_of_block (g8.block g' (World.block_lt_of_cell? _ _ h9.1) (by intro e8; have := (hlb _ e8.symm).1; omega))).trans h9.1, (g8.block _ (Array.getElem?_eq_some_iff.1 h9.2).1 (by intro e8; cases e8)).trans h9.2⟩
          have c8 := (g8.block g' (Array.getElem?_eq_some_iff.1 C7.out).1 (by intro e8; have := (hlb _ e8.symm).1; omega)).trans C7.out
          have b8 := B7.out.grown g8 B7.out.size (fun k hk => Nat.le_trans R7.out.n0t (hlb k hk).1)
          clear hlb
          obtain ⟨va, vc, hv9, -, -⟩ := own8.ints
          obtain ⟨M, hM⟩ : ∃ M, M = ([] ++ data).length := ⟨_, rfl⟩
          rw [← hM] at hv9
          clear hM
          subst hv9
          refine seg_end s8 (segs_last ?_)
          clear s8 S0 HS
          have Own8 := Lib.hid own8; clear own8
          have G8 := Lib.hid g8; clear g8 hv8
          have B8 := Lib.hid b8; clear b8
          have C8 := Lib.hid c8; clear c8
          go_wp2_with (with_reducible refine stop_store 39 ?_)
          refine unpark ?_
          refine wpList_store_at rfl _ _ _ rfl g' K rfl (.slice va M vc) rfl [.slice va M vc] rfl _ cs C8.out 1 rfl hKs (by simp [Value.oneCell']) sizeBytes ?_
          intro w9 hw9 g9 s9
          have hput := R7.out.put Own8.out G8.out C7.out (by rw [← HK.out]; exact hw9) g9
          obtain ⟨⟨x1, x2, x3⟩, e9, r9⟩ := hput
          have b9 := B8.out.grown g9 B8.out.size (fun k hk => by cases hk; exact (World.ownsRow.lt R7.out.own g' rfl).1)
          clear hw9 g9 s9 Own8 G8 C8 C7 B8 B7 D7 X7 R7 hgt
          have R9 := Lib.hid r9; clear r9
          have B9 := Lib.hid b9; clear b9
          clear e9
          go_wp2_with fail
          go_roundw
          case rel => exact ⟨k + 1, by omega, by rw [HNK.out]; go_num, T ++ [⟨num, first, true, data⟩], (ds ++ [cur]), [] ++ data, (xs ++ [((xa, xn, xc) : SlC)]), (x1, x2, x3), g', cap', dt, Hsn.out, by exact Hrs.out, ⟨LK', by exact HLK2.out, rfl⟩, R9.out, by simp; omega, by simp; omega, B9.out⟩
          case measure => have := of_decide_eq_true hle2; simp [intOf]; omega
        | false =>
          simp only [Bool.false_eq_true, if_false] at hrs
          have Hrs := Lib.hid hrs; clear hrs
          have i1 : (0 : Int) ≤ ((xs.length : Nat) : Int) := by omega
          obtain ⟨K, hK⟩ : ∃ L, L = xs.length := ⟨_, rfl⟩
          have hLK := HLK.out
          have i1 : (0 : Int) ≤ (K : Int) := by omega
          have i2 : (K : Int) < (LK : Int) := by omega
          have i3 : (LK : Int) - 1 = (K : Int) := by omega
          have i4 : K < LK := by omega
          have i6 : K < 1000 := by omega
          clear hLK
          have HK := Lib.hid hK; clear hK
          have R6 := Hrw4
          have B6 := Hb4
          have D6 := Hdn4
          have X6 := X4
          clear Hrw4 Hb4 Hdn4 X4
          obtain ⟨cs, hcs, hn9, hm9, hs9, -, hx9⟩ := R6.out.spine
          rw [← HK.out] at hn9 hx9
          have i5 : (K : Int) < (cap : Int) := by omega
          have y0 : w4.cell? ⟨g, K, none⟩ = some (.slice xa xn xc) := by rw [cells_at hcs K]; exact hx9
          have hKs : K < cs.size := by omega
          clear hx9 hn9 hm9 hs9
          have Hcs := Lib.hid hcs; clear hcs
          have Y0 := Lib.hid y0; clear y0
          go_wp2_with fail
          rw [← Hw4.out]
          have sd := below_drew w4
          obtain ⟨S, hS⟩ : ∃ S : World → Prop, S = fun w' => w'.cell? ⟨g, K, none⟩ = some (.slice xa xn xc) ∧ w'.heap[w3.heap.size]? = some (.cells #[.int .i64 (num : Nat), .int .i64 (first : Nat), .bool false, .slice a3 data.length c3] 72) := ⟨_, rfl⟩
          have s0 : S w4.drew := by rw [hS]; exact ⟨(sd.cell (World.block_lt_of_cell? _ _ Y0.out)).trans Y0.out, (sd.block _ (Array.getElem?_eq_some_iff.1 X6.out).1).trans X6.out⟩
          refine wp_region_held S [0, 1, 2, 3, 4, 5, 6, 7] [[8], [9, 10]] (by kernel_rfl) (by kernel_rfl) rfl (by kernel_rfl) (fun _ _ _ h => by obtain ⟨_, _, h, _⟩ := h; cases h) (fun _ _ h => by obtain ⟨_, h, _⟩ := h; cases h) s0 (by kernel_rfl) ?_
          have r7 := R6.out.step sd
          have b7 := B6.out.trans (sd.mono B6.out.size)
          have d7 := D6.out.keep sd
          have x7 := (sd.block _ (Array.getElem?_eq_some_iff.1 X6.out).1).trans X6.out
          have c7 := (sd.block _ (Array.getElem?_eq_some_iff.1 Hcs.out).1).trans Hcs.out
          have z7 : w4.heap.size ≤ w4.drew.heap.size := sd.size
          generalize w4.drew = w7 at r7 b7 d7 x7 c7 s0 z7 ⊢
          clear sd R6 B6 D6 X6 Hcs Y0
          have R7 := Lib.hid r7; clear r7
          have B7 := Lib.hid b7; clear b7
          have D7 := Lib.hid d7; clear d7
          have X7 := Lib.hid x7; clear x7
          have C7 := Lib.hid c7; clear c7
          have HS := Lib.hid hS; clear hS
          have S0 := Lib.hid s0; clear s0
          apply Exists.intro
          apply And.intro
          · intro w' s
            rw [HS.out] at s
            obtain ⟨yy, zz⟩ := s
            have m3 := cells_at zz 3
            clear zz
            simp only [List.map_cons, List.map_nil, List.getD_cons_zero, List.getD_cons_succ]
            go_wp2_with fail
            exact pre_end
          simp only [List.map_cons, List.map_nil, List.getD_cons_zero, List.getD_cons_succ]
          refine segs_more ?_
          go_wp2_with (with_reducible refine stop_builtin .append ?_)
          refine unpark ?_
          refine wpList_append_nums byteElem w7 rfl _ _ rfl top (.slice xa xn xc) cur rfl R7.out.last a3 data.length c3 data rfl D7.out (by first | omega | (simp; omega)) R7.out.tw ?_
          intro v8 w8 own8 g8 hv8
          have hlb := World.ownsRow.lt R7.out.last.1
          have hgt := R7.out.gt
          have s8 : S w8 := by
            rw [HS.out]
            have h9 := S0.out
            rw [HS.out] at h9
            refine ⟨(World.cell?_of_block (g8.block g (World.block_lt_of_cell? _ _ h9.1) (by intro e8; have := (hlb _ e8.symm).1; omega))).trans h9.1, (g8.block _ (Array.getElem?_eq_some_iff.1 h9.2).1 (by intro e8; have := (hlb _ e8.symm).2; have h1 := (World.ownsRow.lt R7.out.last.1 _ e8.symm).1; have := Hlow.out _ e8.symm; omega)).trans h9.2⟩
          have c8 := (g8.block g (Array.getElem?_eq_some_iff.1 C7.out).1 (by intro e8; have := (hlb _ e8.symm).1; omega)).trans C7.out
          have b8 := B7.out.grown g8 B7.out.size (fun k hk => Nat.le_trans R7.out.n0t (hlb k hk).1)
          clear hlb
          obtain ⟨va, vc, hv9, -, -⟩ := own8.ints
          obtain ⟨M, hM⟩ : ∃ M, M = (cur ++ data).length := ⟨_, rfl⟩
          rw [← hM] at hv9
          clear hM
          subst hv9
          refine seg_end s8 (segs_last ?_)
          clear s8 S0 HS
          have Own8 := Lib.hid own8; clear own8
          have G8 := Lib.hid g8; clear g8 hv8
          have B8 := Lib.hid b8; clear b8
          have C8 := Lib.hid c8; clear c8
          go_wp2_with (with_reducible refine stop_store 39 ?_)
          refine unpark ?_
          refine wpList_store_at rfl _ _ _ rfl g K rfl (.slice va M vc) rfl [.slice va M vc] rfl _ cs C8.out 1 rfl hKs (by simp [Value.oneCell']) sizeBytes ?_
          intro w9 hw9 g9 s9
          have hput := R7.out.put Own8.out G8.out C7.out (by rw [← HK.out]; exact hw9) g9
          obtain ⟨⟨x1, x2, x3⟩, e9, r9⟩ := hput
          have b9 := B8.out.grown g9 B8.out.size (fun k hk => by cases hk; exact (World.ownsRow.lt R7.out.own g rfl).1)
          clear hw9 g9 s9 Own8 G8 C8 C7 B8 B7 D7 X7 R7 hgt
          have R9 := Lib.hid r9; clear r9
          have B9 := Lib.hid b9; clear b9
          clear e9
          go_wp2_with fail
          go_roundw
          case rel => exact ⟨k + 1, by omega, by rw [HNK.out]; go_num, T ++ [⟨num, first, false, data⟩], ds, cur ++ data, xs, (x1, x2, x3), g, cap, top, Hsn.out, by exact Hrs.out, ⟨LK, by exact HLK.out, rfl⟩, R9.out, by omega, by simp; omega, B9.out⟩
          case measure => have := of_decide_eq_true hle2; simp [intOf]; omega
      · have hsn := Hsn.out
        have hnn : decide (num = NK) = false := decide_eq_false hnum
        rw [hnn] at hsn
        simp only [Bool.and_false, Bool.false_eq_true, if_false] at hsn
        clear Hsn
        have hno : RS = none := by
          rw [HRS.out]
          have := secsS_none s hsn (cnt - (k + 1))
          rwa [show k + 1 + (cnt - (k + 1)) = cnt by omega] at this
        have hO : OK = false := by rw [HOK.out, hno]; rfl
        have HO := Lib.hid hO; clear hO HOK
        have hne : ((num : Int) != (NK : Int)) = true := by simp; omega
        have Hno := Lib.hid hno; clear hno hsn
        go_wp2
        go_ret2
        exact ⟨.slice none 0 0, by rw [HO.out]; rfl, fun T hT => (by rw [Hno.out] at hT; cases hT), by rw [← Hw4.out]; exact Hb4.out⟩
    · obtain rfl : k = cnt := by omega
      clear hd hlg
      have hle : decide (((n + k : Nat) : Int) ≤ (to : Int)) = false := decide_eq_false (by omega)
      have hle2 : decide (n + k ≤ to) = false := decide_eq_false (by omega)
      have hyes : RS = some T := by rw [HRS.out]; exact hsec
      have hO : OK = true := by rw [HOK.out, hyes]; rfl
      have hrd := hrw.read
      rw [← hrz, ← HLK.out] at hrd
      have HO := Lib.hid hO; clear hO
      have Hyes := Lib.hid hyes; clear hyes hsec HOK hrw hrz
      have Hrd := Lib.hid hrd; clear hrd
      have Hb := Lib.hid hb; clear hb
      go_wp2
      go_ret2
      exact ⟨.slice (some ⟨g, 0, none⟩) LK cap, by rw [HO.out]; rfl, fun U hU => (by rw [Hyes.out] at hU; cases hU; exact Hrd.out), Hb.out⟩
end
end Go.Proofs.YtgpedejeifmfdaaGreat
