/- The desk: In, Over. -/
import Derived.Test.YtdccocgdgcjfcaaDesk4
namespace Go.Proofs.Ytdccocgdgcjfcaa
open Go.RowKit

def thoseAux (g : Ent → Bool) : List Ent → Nat → List Int
  | [], _ => []
  | e :: r, k => (if g e then [((k : Int) + 1)] else []) ++ thoseAux g r (k + 1)
def thoseOf (g : Ent → Bool) (es : List Ent) : List Int := thoseAux g es 0
theorem thoseAux_snoc (g : Ent → Bool) (e : Ent) : ∀ (es : List Ent) (k : Nat), thoseAux g (es ++ [e]) k = thoseAux g es k ++ (if g e then [(((k + es.length : Nat) : Int) + 1)] else [])
  | [], k => by simp [thoseAux]
  | x :: es, k => by
    simp only [List.cons_append, thoseAux, thoseAux_snoc g e es (k + 1), List.append_assoc, List.length_cons]
    rw [show k + 1 + es.length = k + (es.length + 1) by omega]
theorem thoseOf_snoc (g : Ent → Bool) (es : List Ent) (e : Ent) : thoseOf g (es ++ [e]) = thoseOf g es ++ (if g e then [((es.length : Int) + 1)] else []) := by
  unfold thoseOf; rw [thoseAux_snoc, Nat.zero_add]
theorem thoseAux_len (g : Ent → Bool) : ∀ (es : List Ent) (k : Nat), (thoseAux g es k).length ≤ es.length
  | [], _ => Nat.le_refl _
  | e :: r, k => by
    have := thoseAux_len g r (k + 1)
    simp only [thoseAux, List.length_append, List.length_cons]
    split <;> simp <;> omega
theorem thoseOf_len (g : Ent → Bool) (es : List Ent) : (thoseOf g es).length ≤ es.length := thoseAux_len g es 0
theorem Try.infoInt : (Try.prog.info? 3).map (fun i => (i.zero, i.size, i.bytes)) = some (some (.int .i64 0), 1, 8) := by kernel_rfl

section
variable {w w' : World} {B b : Nat} {mv : Value} {p : Pl} {es : List Ent}
theorem In1_calls {w : World} {x y z : Int} (hz : 0 ≤ z ∧ z ≤ 65535) {g : Nat} {part : Int} (hc : w.cell? ⟨g, 0, none⟩ = some (.int .i64 part)) : Calls Try.prog 32 #[.agg #[.int .i64 x, .int .i64 y, .int .u16 z], .pointer (some ⟨g, 0, none⟩)] w fun e w' => e = .returned (.bool (inMask z part)) ∧ Below w.heap.size w w' := by
  have hh := fun w : World => maskHas_calls (w := w) hz part
  have hg := World.block_lt_of_cell? w _ hc
  generalize inMask z part = I at hh ⊢
  have Hh := Lib.hid hh; clear hh
  go_enter Try.func32, Try.ntmps32
  go_wp2_with fail
  refine (Hh.out _).mono ?_
  rintro e w1 ⟨rfl, rfl⟩
  go_wp2
  go_ret
  exact ⟨rfl, (Below.refl _ _).alloc (Nat.le_refl _) _⟩
set_option maxHeartbeats 2000000 in
theorem those_In (h : DeskAt w B b mv p es) (g : Ent → Bool) {f : Nat} (hf : ∀ w1, Below w.heap.size w w1 → ∀ e ∈ es, Calls Try.prog 32 #[.agg e.cells.toArray, .pointer (some ⟨f, 0, none⟩)] w1 fun r w2 => r = .returned (.bool (g e)) ∧ Below w1.heap.size w1 w2) :
    Calls Try.prog 31 #[.pointer (some ⟨b, 0, none⟩), .func (.func 32) #[] #[.pointer (some ⟨f, 0, none⟩)]] w fun e w' => ∃ v, e = .returned v ∧ Own w' w.heap.size 3 .i64 v (thoseOf g es) ∧ Below w.heap.size w w' := by
  obtain ⟨va, vc, hmv, hr, hlt⟩ := h.row.recs
  subst hmv
  have c3 : w.cell? ⟨b, 3, none⟩ = some (.slice va es.length vc) := cells_at h.root 3
  have hlen := h.len
  have hrec := fun (w1 : World) (b1 : Below w.heap.size w w1) => hr.keep b1
  have Hf := Lib.hid hf; clear hf
  have Hrec := Lib.hid hrec; clear hrec
  obtain ⟨L, hL⟩ : ∃ L, L = es.length := ⟨_, rfl⟩
  rw [← hL] at c3 hlen Hrec hr
  clear h hlt
  have HL := Lib.hid hL; clear hL
  go_enter Try.func31, Try.ntmps31
  go_wp2_with fail
  go_loopw [5, 13] (fun v i wr => ∃ j : Nat, j ≤ L ∧ i = .int .i64 j ∧ Own wr w.heap.size 3 .i64 v (thoseOf g (es.take j)) ∧ Below w.heap.size w wr) (fun _ i _ => L - (intOf i).toNat)
  case atStart => exact ⟨0, by omega, rfl, ⟨⟨rfl, .inl ⟨rfl, rfl⟩⟩, fun _ h => by cases h⟩, Below.refl _ _⟩
  case round =>
    obtain ⟨j, hj, rfl, hown, hb⟩ := hrel
    by_cases hlt : j < L
    · have hjl : j < es.length := by rw [← HL.out]; exact hlt
      have hrj := Hrec.out wr hb
      obtain ⟨gx, ox, rfl⟩ := hrj.addr (by omega)
      have hc := hrj.at hjl
      have hff := fun (w1 : World) (b1 : Below w.heap.size w w1) => Hf.out w1 b1 es[j] (List.getElem_mem hjl)
      have hsn : thoseOf g (es.take (j + 1)) = thoseOf g (es.take j) ++ (if g es[j] then [((j : Int) + 1)] else []) := by
        rw [List.take_add_one, List.getElem?_eq_getElem hjl]
        simp only [Option.toList_some]
        rw [thoseOf_snoc, List.length_take, Nat.min_eq_left (by omega)]
      obtain ⟨e0, he0⟩ : ∃ e0, e0 = es[j] := ⟨_, rfl⟩
      rw [← he0] at hc hff hsn
      clear he0
      generalize g e0 = G at hff hsn
      obtain ⟨x, y, z⟩ := e0
      simp only [Ent.cells, Ent.client, Ent.begin, Ent.mask] at hff
      have x0 : wr.cell? ⟨gx, ox + j * 3, none⟩ = some (.int .i64 x) := hc 0 _ rfl
      have x1 : wr.cell? ⟨gx, ox + j * 3 + 1, none⟩ = some (.int .i64 y) := hc 1 _ rfl
      have x2 : wr.cell? ⟨gx, ox + j * 3 + 2, none⟩ = some (.int .u16 z) := hc 2 _ rfl
      have b1 := hb.alloc hb.size (.cells #[.int .i64 x, .int .i64 y, .int .u16 z] 50)
      have own1 := hown.below (w' := wr.alloc (.cells #[.int .i64 x, .int .i64 y, .int .u16 z] 50)) ((Below.refl _ _).alloc (Nat.le_refl _) _)
      have i2 : (j : Int) < (L : Int) := by omega
      have hgl : gx < wr.heap.size := World.block_lt_of_cell? wr _ x0
      have Hff := Lib.hid hff; clear hff
      have Hsn := Lib.hid hsn; clear hsn
      have Hb1 := Lib.hid b1; clear b1
      have Own1 := Lib.hid own1; clear own1
      clear hc hb hown hrj
      go_wp2_with fail
      generalize wr.alloc (.cells #[.int .i64 x, .int .i64 y, .int .u16 z] 50) = w1 at Hb1 Own1 ⊢
      refine (Hff.out _ Hb1.out).mono ?_
      rintro e w2 ⟨rfl, b2⟩
      have b3 := Hb1.out.trans (b2.mono Hb1.out.size)
      have own2 := Own1.out.below b2
      cases G with
      | false =>
        have hsn := Hsn.out
        simp only [Bool.false_eq_true, if_false, List.append_nil] at hsn
        rw [← hsn] at own2
        have Hb3 := Lib.hid b3; clear b3 b2
        have Own2 := Lib.hid own2; clear own2 hsn
        go_wp2_with fail
        go_roundw
        case rel => exact ⟨j + 1, by omega, by go_num, Own2.out, Hb3.out⟩
        case measure => simp [intOf]; omega
      | true =>
        have hsn := Hsn.out
        simp only [if_true] at hsn
        have Hb3 := Lib.hid b3; clear b3 b2
        have Own2 := Lib.hid own2; clear own2
        have Hsn2 := Lib.hid hsn; clear hsn
        go_wp2_with (with_reducible refine stop_builtin .append ?_)
        refine unpark ?_
        have i63 : (Lit.int .i64 ((j : Int) + 1)).wf = true := by simp [Lit.wf, IntKind.min, IntKind.max, IntKind.signed, IntKind.bits]; omega
        have hx3 := heap_alloc_new w2 (.cells #[.int .i64 ((j : Int) + 1)] 3)
        have b3 : Below w2.heap.size w2 (w2.alloc (.cells #[.int .i64 ((j : Int) + 1)] 3)) := (Below.refl _ _).alloc (Nat.le_refl _) _
        generalize w2.alloc (.cells #[.int .i64 ((j : Int) + 1)] 3) = w3 at hx3 b3 ⊢
        have hi3 : Ints w3 .i64 (some ⟨w2.heap.size, 0, none⟩) 1 1 [(j : Int) + 1] := Ints.of rfl (Nat.le_refl _) (by decide) (fun z hz => by rw [List.mem_singleton] at hz; rw [hz]; exact i63) (fun k hk => by
          obtain rfl : k = 0 := by omega
          exact cells_at hx3 0)
        have hlt := thoseOf_len g (es.take j)
        rw [List.length_take] at hlt
        have b03 := Hb3.out.trans (b3.mono Hb3.out.size)
        refine wpList_append_ints _ rfl _ _ 47 rfl .i64 w.heap.size 3 (.int .i64 0) 8 Try.underlying47 Try.infoInt rfl _ _ rfl (Own2.out.below b3) _ 1 1 _ rfl hi3 (by omega) (by decide) b03.size ?_
        intro v' w4 own4 g4 _
        rw [← Hsn2.out] at own4
        have b04 := b03.grown g4 b03.size (fun k hk => (Own2.out.block k hk).1)
        clear hi3 hx3 b3 Own2 Hb3 b03 g4
        have Hb4 := Lib.hid b04; clear b04
        have Own4 := Lib.hid own4; clear own4
        go_wp2_with fail
        go_roundw
        case rel => exact ⟨j + 1, by omega, by go_num, Own4.out, Hb4.out⟩
        case measure => simp [intOf]; omega
    · obtain rfl : j = L := by omega
      have e : es.take j = es := by rw [HL.out, List.take_length]
      rw [e] at hown
      go_wp2
      go_ret
      exact ⟨_, rfl, hown, hb⟩
set_option maxHeartbeats 2000000 in
theorem Over1_calls {w : World} (h : DeskAt w B b mv p es) {x y z : Int} {g1 g2 : Nat} {now : Int} (hc1 : w.cell? ⟨g1, 0, none⟩ = some (.pointer (some ⟨b, 0, none⟩))) (hc2 : w.cell? ⟨g2, 0, none⟩ = some (.int .i64 now)) : Calls Try.prog 33 #[.agg #[.int .i64 x, .int .i64 y, .int .u16 z], .pointer (some ⟨g1, 0, none⟩), .pointer (some ⟨g2, 0, none⟩)] w fun e w' => e = .returned (.bool (decide (releaseOf p y ≤ now))) ∧ Below w.heap.size w w' := by
  have hrel := fun w : World => Release_calls (w := w) p h.good y
  generalize releaseOf p y = L at hrel ⊢
  have p0 : w.cell? ⟨b, 0, none⟩ = some (.int .i64 p.parts) := cells_at h.root 0
  have p1 : w.cell? ⟨b, 1, none⟩ = some (.int .i64 p.window) := cells_at h.root 1
  have p2 : w.cell? ⟨b, 2, none⟩ = some (.int .i64 p.delay) := cells_at h.root 2
  have hbl := (h.lt b (.inl rfl)).2
  have h1 := World.block_lt_of_cell? w _ hc1
  have h2 := World.block_lt_of_cell? w _ hc2
  clear h
  obtain ⟨a, d, f⟩ := p
  simp only [Pl.cells, Pl.parts, Pl.window, Pl.delay] at hrel p0 p1 p2
  have Hrel := Lib.hid hrel; clear hrel
  have b0 : Below w.heap.size w (w.alloc (.cells #[.int .i64 x, .int .i64 y, .int .u16 z] 50)) := (Below.refl _ _).alloc (Nat.le_refl _) _
  have hx := heap_alloc_new w (.cells #[.int .i64 x, .int .i64 y, .int .u16 z] 50)
  have Hb0 := Lib.hid b0; clear b0
  have Hx := Lib.hid hx; clear hx
  go_enter Try.func33, Try.ntmps33
  go_wp2_with fail
  generalize w.alloc (.cells #[.int .i64 x, .int .i64 y, .int .u16 z] 50) = w2 at Hb0 Hx ⊢
  have q0 := cell_regrown ((Hb0.out.cell hbl).trans p0)
  have q1 := cell_regrown ((Hb0.out.cell hbl).trans p1)
  have q2 := cell_regrown ((Hb0.out.cell hbl).trans p2)
  have k1 : ∀ (n : Nat) (os : Array Obj), (Go.Sort.grow (redrawn w2 n) os).cell? ⟨w.heap.size, 1, none⟩ = some (.int .i64 y) := cell_regrown (cells_at Hx.out 1)
  have e1 := cell_regrown ((Hb0.out.cell h1).trans hc1)
  have e2 := cell_regrown ((Hb0.out.cell h2).trans hc2)
  refine wp_region_quiet_below (by kernel_rfl) (by kernel_rfl) ?_
  repeat (any_goals (first | go_big_quiet_step ((go_at_call 24; exact Calls.regrown_of (Hrel.out _))) | quiet_step ((go_at_call 24; exact Calls.regrown_of (Hrel.out _)))))
  refine wpQuiet_nil ?_
  intro w3 hw3
  have bf : Below w2.heap.size w2 w3 := by obtain ⟨q, rfl⟩ := hw3; exact below_regrown _ _ _
  clear hw3
  have bz := Hb0.out.trans (bf.mono Hb0.out.size)
  clear bf q0 q1 q2 k1 e1 e2 Hx
  have Hbz := Lib.hid bz; clear bz
  go_wp2
  go_ret
  exact ⟨rfl, Hbz.out⟩
set_option maxHeartbeats 2000000 in
theorem those_Over (h : DeskAt w B b mv p es) (g : Ent → Bool) {f f2 : Nat} (hf : ∀ w1, Below w.heap.size w w1 → ∀ e ∈ es, Calls Try.prog 33 #[.agg e.cells.toArray, .pointer (some ⟨f, 0, none⟩), .pointer (some ⟨f2, 0, none⟩)] w1 fun r w2 => r = .returned (.bool (g e)) ∧ Below w1.heap.size w1 w2) :
    Calls Try.prog 31 #[.pointer (some ⟨b, 0, none⟩), .func (.func 33) #[] #[.pointer (some ⟨f, 0, none⟩), .pointer (some ⟨f2, 0, none⟩)]] w fun e w' => ∃ v, e = .returned v ∧ Own w' w.heap.size 3 .i64 v (thoseOf g es) ∧ Below w.heap.size w w' := by
  obtain ⟨va, vc, hmv, hr, hlt⟩ := h.row.recs
  subst hmv
  have c3 : w.cell? ⟨b, 3, none⟩ = some (.slice va es.length vc) := cells_at h.root 3
  have hlen := h.len
  have hrec := fun (w1 : World) (b1 : Below w.heap.size w w1) => hr.keep b1
  have Hf := Lib.hid hf; clear hf
  have Hrec := Lib.hid hrec; clear hrec
  obtain ⟨L, hL⟩ : ∃ L, L = es.length := ⟨_, rfl⟩
  rw [← hL] at c3 hlen Hrec hr
  clear h hlt
  have HL := Lib.hid hL; clear hL
  go_enter Try.func31, Try.ntmps31
  go_wp2_with fail
  go_loopw [5, 13] (fun v i wr => ∃ j : Nat, j ≤ L ∧ i = .int .i64 j ∧ Own wr w.heap.size 3 .i64 v (thoseOf g (es.take j)) ∧ Below w.heap.size w wr) (fun _ i _ => L - (intOf i).toNat)
  case atStart => exact ⟨0, by omega, rfl, ⟨⟨rfl, .inl ⟨rfl, rfl⟩⟩, fun _ h => by cases h⟩, Below.refl _ _⟩
  case round =>
    obtain ⟨j, hj, rfl, hown, hb⟩ := hrel
    by_cases hlt : j < L
    · have hjl : j < es.length := by rw [← HL.out]; exact hlt
      have hrj := Hrec.out wr hb
      obtain ⟨gx, ox, rfl⟩ := hrj.addr (by omega)
      have hc := hrj.at hjl
      have hff := fun (w1 : World) (b1 : Below w.heap.size w w1) => Hf.out w1 b1 es[j] (List.getElem_mem hjl)
      have hsn : thoseOf g (es.take (j + 1)) = thoseOf g (es.take j) ++ (if g es[j] then [((j : Int) + 1)] else []) := by
        rw [List.take_add_one, List.getElem?_eq_getElem hjl]
        simp only [Option.toList_some]
        rw [thoseOf_snoc, List.length_take, Nat.min_eq_left (by omega)]
      obtain ⟨e0, he0⟩ : ∃ e0, e0 = es[j] := ⟨_, rfl⟩
      rw [← he0] at hc hff hsn
      clear he0
      generalize g e0 = G at hff hsn
      obtain ⟨x, y, z⟩ := e0
      simp only [Ent.cells, Ent.client, Ent.begin, Ent.mask] at hff
      have x0 : wr.cell? ⟨gx, ox + j * 3, none⟩ = some (.int .i64 x) := hc 0 _ rfl
      have x1 : wr.cell? ⟨gx, ox + j * 3 + 1, none⟩ = some (.int .i64 y) := hc 1 _ rfl
      have x2 : wr.cell? ⟨gx, ox + j * 3 + 2, none⟩ = some (.int .u16 z) := hc 2 _ rfl
      have b1 := hb.alloc hb.size (.cells #[.int .i64 x, .int .i64 y, .int .u16 z] 50)
      have own1 := hown.below (w' := wr.alloc (.cells #[.int .i64 x, .int .i64 y, .int .u16 z] 50)) ((Below.refl _ _).alloc (Nat.le_refl _) _)
      have i2 : (j : Int) < (L : Int) := by omega
      have hgl : gx < wr.heap.size := World.block_lt_of_cell? wr _ x0
      have Hff := Lib.hid hff; clear hff
      have Hsn := Lib.hid hsn; clear hsn
      have Hb1 := Lib.hid b1; clear b1
      have Own1 := Lib.hid own1; clear own1
      clear hc hb hown hrj
      go_wp2_with fail
      generalize wr.alloc (.cells #[.int .i64 x, .int .i64 y, .int .u16 z] 50) = w1 at Hb1 Own1 ⊢
      refine (Hff.out _ Hb1.out).mono ?_
      rintro e w2 ⟨rfl, b2⟩
      have b3 := Hb1.out.trans (b2.mono Hb1.out.size)
      have own2 := Own1.out.below b2
      cases G with
      | false =>
        have hsn := Hsn.out
        simp only [Bool.false_eq_true, if_false, List.append_nil] at hsn
        rw [← hsn] at own2
        have Hb3 := Lib.hid b3; clear b3 b2
        have Own2 := Lib.hid own2; clear own2 hsn
        go_wp2_with fail
        go_roundw
        case rel => exact ⟨j + 1, by omega, by go_num, Own2.out, Hb3.out⟩
        case measure => simp [intOf]; omega
      | true =>
        have hsn := Hsn.out
        simp only [if_true] at hsn
        have Hb3 := Lib.hid b3; clear b3 b2
        have Own2 := Lib.hid own2; clear own2
        have Hsn2 := Lib.hid hsn; clear hsn
        go_wp2_with (with_reducible refine stop_builtin .append ?_)
        refine unpark ?_
        have i63 : (Lit.int .i64 ((j : Int) + 1)).wf = true := by simp [Lit.wf, IntKind.min, IntKind.max, IntKind.signed, IntKind.bits]; omega
        have hx3 := heap_alloc_new w2 (.cells #[.int .i64 ((j : Int) + 1)] 3)
        have b3 : Below w2.heap.size w2 (w2.alloc (.cells #[.int .i64 ((j : Int) + 1)] 3)) := (Below.refl _ _).alloc (Nat.le_refl _) _
        generalize w2.alloc (.cells #[.int .i64 ((j : Int) + 1)] 3) = w3 at hx3 b3 ⊢
        have hi3 : Ints w3 .i64 (some ⟨w2.heap.size, 0, none⟩) 1 1 [(j : Int) + 1] := Ints.of rfl (Nat.le_refl _) (by decide) (fun z hz => by rw [List.mem_singleton] at hz; rw [hz]; exact i63) (fun k hk => by
          obtain rfl : k = 0 := by omega
          exact cells_at hx3 0)
        have hlt := thoseOf_len g (es.take j)
        rw [List.length_take] at hlt
        have b03 := Hb3.out.trans (b3.mono Hb3.out.size)
        refine wpList_append_ints _ rfl _ _ 47 rfl .i64 w.heap.size 3 (.int .i64 0) 8 Try.underlying47 Try.infoInt rfl _ _ rfl (Own2.out.below b3) _ 1 1 _ rfl hi3 (by omega) (by decide) b03.size ?_
        intro v' w4 own4 g4 _
        rw [← Hsn2.out] at own4
        have b04 := b03.grown g4 b03.size (fun k hk => (Own2.out.block k hk).1)
        clear hi3 hx3 b3 Own2 Hb3 b03 g4
        have Hb4 := Lib.hid b04; clear b04
        have Own4 := Lib.hid own4; clear own4
        go_wp2_with fail
        go_roundw
        case rel => exact ⟨j + 1, by omega, by go_num, Own4.out, Hb4.out⟩
        case measure => simp [intOf]; omega
    · obtain rfl : j = L := by omega
      have e : es.take j = es := by rw [HL.out, List.take_length]
      rw [e] at hown
      go_wp2
      go_ret
      exact ⟨_, rfl, hown, hb⟩

def inOf (es : List Ent) (part : Int) : List Int := thoseOf (fun e => inMask e.mask part) es
def overOf (p : Pl) (es : List Ent) (now : Int) : List Int := thoseOf (fun e => decide (releaseOf p e.begin ≤ now)) es
set_option maxHeartbeats 1000000 in
theorem In_calls (h : DeskAt w B b mv p es) (part : Int) : Calls Try.prog 18 #[.pointer (some ⟨b, 0, none⟩), .int .i64 part] w fun e w' => ∃ v, e = .returned v ∧ Own w' w.heap.size 3 .i64 v (inOf es part) ∧ Below w.heap.size w w' := by
  have b0 : Below w.heap.size w (w.alloc (.cells #[.int .i64 part] 3)) := (Below.refl _ _).alloc (Nat.le_refl _) _
  have hx := heap_alloc_new w (.cells #[.int .i64 part] 3)
  have h0 := h.below b0
  have Hb0 := Lib.hid b0; clear b0
  have Hx := Lib.hid hx; clear hx
  have H0 := Lib.hid h0; clear h0
  go_enter Try.func18, Try.ntmps18
  go_wp2_with fail
  generalize w.alloc (.cells #[.int .i64 part] 3) = w1 at Hb0 Hx H0 ⊢
  refine (those_In H0.out (fun e => inMask e.mask part) (f := w.heap.size) fun w2 b2 e he => ?_).mono ?_
  · obtain ⟨x, y, z⟩ := e
    exact In1_calls (H0.out.ok _ he).mask (cells_at ((b2.block _ (Array.getElem?_eq_some_iff.1 Hx.out).1).trans Hx.out) 0)
  rintro e w2 ⟨v, rfl, own, b2⟩
  have b3 := Hb0.out.trans (b2.mono Hb0.out.size)
  have own3 := own.mono Hb0.out.size
  have Hb3 := Lib.hid b3; clear b3 b2
  have Own3 := Lib.hid own3; clear own3 own
  go_wp2
  go_ret
  exact ⟨v, rfl, Own3.out, Hb3.out⟩
set_option maxHeartbeats 1000000 in
theorem Over_calls (h : DeskAt w B b mv p es) (now : Int) : Calls Try.prog 20 #[.pointer (some ⟨b, 0, none⟩), .int .i64 now] w fun e w' => ∃ v, e = .returned v ∧ Own w' w.heap.size 3 .i64 v (overOf p es now) ∧ Below w.heap.size w w' := by
  have b1 : Below w.heap.size w (w.alloc (.cells #[.pointer (some ⟨b, 0, none⟩)] 24)) := (Below.refl _ _).alloc (Nat.le_refl _) _
  have hx1 := heap_alloc_new w (.cells #[.pointer (some ⟨b, 0, none⟩)] 24)
  have hz : (w.alloc (.cells #[.pointer (some ⟨b, 0, none⟩)] 24)).heap.size = w.heap.size + 1 := by simp
  generalize hw1 : w.alloc (.cells #[.pointer (some ⟨b, 0, none⟩)] 24) = w1 at b1 hx1 hz
  have b0 : Below w.heap.size w (w1.alloc (.cells #[.int .i64 now] 3)) := b1.alloc b1.size _
  have hx := heap_alloc_new w1 (.cells #[.int .i64 now] 3)
  have hx1' : (w1.alloc (.cells #[.int .i64 now] 3)).heap[w.heap.size]? = _ := (heap_alloc_old _ _ (by omega)).trans hx1
  rw [hz] at hx
  have h0 := h.below b0
  have Hb0 := Lib.hid b0; clear b0 b1
  have Hx := Lib.hid hx; clear hx
  have Hx1 := Lib.hid hx1'; clear hx1' hx1
  have H0 := Lib.hid h0; clear h0
  subst hw1
  go_enter Try.func20, Try.ntmps20
  go_wp2_with fail
  generalize (w.alloc (.cells #[.pointer (some ⟨b, 0, none⟩)] 24)).alloc (.cells #[.int .i64 now] 3) = w1 at Hb0 Hx Hx1 H0 ⊢
  refine (those_Over H0.out (fun e => decide (releaseOf p e.begin ≤ now)) (f := w.heap.size) (f2 := w.heap.size + 1) fun w2 b2 e he => ?_).mono ?_
  · obtain ⟨x, y, z⟩ := e
    exact Over1_calls (H0.out.below b2) (cells_at ((b2.block _ (Array.getElem?_eq_some_iff.1 Hx1.out).1).trans Hx1.out) 0) (cells_at ((b2.block _ (Array.getElem?_eq_some_iff.1 Hx.out).1).trans Hx.out) 0)
  rintro e w2 ⟨v, rfl, own, b2⟩
  have b3 := Hb0.out.trans (b2.mono Hb0.out.size)
  have own3 := own.mono Hb0.out.size
  have Hb3 := Lib.hid b3; clear b3 b2
  have Own3 := Lib.hid own3; clear own3 own
  go_wp2
  go_ret
  exact ⟨v, rfl, Own3.out, Hb3.out⟩
end
end Go.Proofs.Ytdccocgdgcjfcaa
