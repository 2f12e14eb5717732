/- Timers: Due. -/
import Derived.Test.YtfldohfopileeaaSlot5
namespace Go.Proofs.Ytfldohfopileeaa
open Go.RowKit

def leT (t : Int) (x : Tm) : Bool := decide (x.1 ≤ t)
def dueT (xs : List Tm) (t : Int) : List Tm := xs.takeWhile (leT t)
def restT (xs : List Tm) (t : Int) : List Tm := xs.dropWhile (leT t)
def idsT (xs : List Tm) : List Int := xs.map fun x => x.2
def OkT (xs : List Tm) : Prop := ∀ x ∈ xs, (Lit.int .i64 x.2).wf = true
theorem due_split {xs D ys : List Tm} {t : Int} (h : xs = D ++ ys) (hD : ∀ d ∈ D, leT t d = true) (hy : ∀ y ∈ ys.head?, leT t y = false) : dueT xs t = D ∧ restT xs t = ys := by
  subst h
  unfold dueT restT
  rw [List.takeWhile_append_of_pos hD, List.dropWhile_append_of_pos hD]
  cases ys with
  | nil => simp
  | cons y ys =>
    have := hy y (by simp)
    simp [this]
def lenOfV (v : Value) : Nat := match v with | .slice _ n _ => n | _ => 0
theorem own_len {w : World} {B : Nat} {E : TypeId} {k : IntKind} {v : Value} {zs : List Int} (h : Own w B E k v zs) : lenOfV v = zs.length := by
  obtain ⟨a, c, rfl, -⟩ := h.ints
  rfl
theorem own_none (w : World) (B : Nat) (E : TypeId) (k : IntKind) : Own w B E k (.slice none 0 0) [] := ⟨⟨rfl, .inl ⟨rfl, rfl⟩⟩, fun _ h => by cases h⟩

set_option maxHeartbeats 4000000 in
theorem Due_calls {w : World} {B b : Nat} {t : Int} {v : Value} {xs : List Tm} (h : TmAt w B b v xs) (hn : xs.length ≤ 100000) (hok : OkT xs) : Calls Try.prog 26 #[.pointer (some ⟨b, 0, none⟩), .int .i64 t] w fun e w' =>
    ∃ out, e = .returned out ∧ Own w' w.heap.size 3 .i64 out (idsT (dueT xs t)) ∧ ∃ v', TmAt w' B b v' (restT xs t) ∧ Mod (fun k => k = b) w w' ∧ (v'.ownBlock = v.ownBlock) := by
  have hbl := h.lt
  have hvl := fun g hg => (h.row.lt g hg).2
  obtain ⟨DU, hDU⟩ : ∃ d, d = dueT xs t := ⟨_, rfl⟩
  obtain ⟨RE, hRE⟩ : ∃ d, d = restT xs t := ⟨_, rfl⟩
  rw [← hDU, ← hRE]
  have HDU := Lib.hid hDU; clear hDU
  have HRE := Lib.hid hRE; clear hRE
  have H := Lib.hid h; clear h
  have Hok := Lib.hid hok; clear hok
  have Hvl := Lib.hid hvl; clear hvl
  have Hn := Lib.hid hn; clear hn
  go_enter Try.func26, Try.ntmps26
  go_wp2_with fail
  go_loopw [5] (fun u wr => ∃ D ys v', xs = D ++ ys ∧ (∀ d ∈ D, leT t d = true) ∧ TmAt wr B b v' ys ∧ v'.ownBlock = v.ownBlock ∧ Own wr w.heap.size 3 .i64 u (idsT D) ∧ Mod (fun k => k = b) w wr) (fun u _ => xs.length - lenOfV u)
  case atStart => exact ⟨[], xs, v, rfl, (fun _ h => by cases h), H.out, rfl, own_none _ _ _ _, Mod.refl _ _⟩
  case round =>
    obtain ⟨D, ys, v', hxs, hD, ht, ho, hu, hm⟩ := hrel
    have hul := own_len hu
    have hrow := ht.row
    have hbb := ht.base
    have hvb := ht.ne
    have y0 := cells_at ht.cell 0
    have HD := Lib.hid hD; clear hD
    have Ho := Lib.hid ho; clear ho
    have Hm := Lib.hid hm; clear hm
    have Hul := Lib.hid hul; clear hul
    rcases hrow with ⟨rfl, rfl⟩ | ⟨g, off, c, A, R, rfl, hgB, hf⟩
    · have hds := due_split hxs HD.out (fun y hy => by cases hy)
      obtain rfl : DU = D := HDU.out.trans hds.1
      obtain rfl : RE = [] := HRE.out.trans hds.2
      obtain ⟨ua, uc, hue, -⟩ := hu.ints
      have Ht := Lib.hid ht; clear ht
      have Hu := Lib.hid hu; clear hu
      clear hds hxs
      go_wp2
      go_ret
      exact ⟨_, rfl, Hu.out, _, Ht.out, Hm.out, Ho.out⟩
    · cases ys with
      | nil =>
        have hds := due_split hxs HD.out (fun y hy => by cases hy)
        obtain rfl : DU = D := HDU.out.trans hds.1
        obtain rfl : RE = [] := HRE.out.trans hds.2
        have Ht := Lib.hid ht; clear ht
        have Hu := Lib.hid hu; clear hu
        clear hds hxs hf
        go_wp2
        go_ret
        exact ⟨_, rfl, Hu.out, _, Ht.out, Hm.out, Ho.out⟩
      | cons y ys =>
        obtain ⟨c0, c1⟩ := tm_at hf.recs (j := 0) (by simp)
        have c0' : wr.cell? ⟨g, off, none⟩ = some (.int .i64 y.1) := by simpa using c0
        have c1' : wr.cell? ⟨g, off + 1, none⟩ = some (.int .i64 y.2) := by simpa using c1
        clear c0 c1
        have hL : (y :: ys).length = ys.length + 1 := rfl
        have hle := hf.le
        rw [hL] at y0 hle
        have i2 : (0 : Int) < (ys.length : Int) + 1 := by omega
        have i3 : ((ys.length + 1 : Nat) : Int) = (ys.length : Int) + 1 := by push_cast; rfl
        by_cases hyt : y.1 ≤ t
        · have d1 : decide (y.1 ≤ t) = true := decide_eq_true hyt
          have hyD : ∀ d ∈ D ++ [y], leT t d = true := fun d hd => by
            rcases List.mem_append.1 hd with hd | hd
            · exact HD.out d hd
            · simp at hd; subst hd; exact d1
          have hxs2 : xs = (D ++ [y]) ++ ys := by rw [hxs]; simp
          have hyw : (Lit.int .i64 y.2).wf = true := Hok.out y (by rw [hxs]; simp)
          have hDl : D.length + 1 ≤ xs.length := by rw [hxs]; simp
          have hbnd : ((idsT D).length + 1) * 8 ≤ 140737488355328 := by have := Hn.out; rw [idsT, List.length_map]; omega
          have b1 := (Below.refl wr.heap.size wr).alloc (Nat.le_refl _) (.cells #[.int .i64 y.2] 3)
          have z1 := heap_alloc_new wr (.cells #[.int .i64 y.2] 3)
          have t1 := ht.below b1
          have f1 := hf.keep (b1.block g hf.lt)
          have u1 := hu.below b1
          have m1 := Hm.out.trans (Mod.of_below (F := fun k => k = b) b1) (fun _ h => h) (fun _ _ h => h)
          have i1 : Ints (wr.alloc (.cells #[.int .i64 y.2] 3)) .i64 (some ⟨wr.heap.size, 0, none⟩) 1 1 [y.2] := ⟨rfl, Nat.le_refl _, by decide, fun z hz => by simp at hz; subst hz; exact hyw, fun _ => ⟨_, _, rfl, fun j hj => by
            obtain rfl : j = 0 := by omega
            exact cells_at z1 0⟩⟩
          have hnu : ∀ k, u5.ownBlock = some k → w.heap.size ≤ k := fun k hk => (hu.block k hk).1
          have hgl : g < w.heap.size := Hvl.out g (by rw [← Ho.out]; rfl)
          have hsz1 : w.heap.size ≤ (wr.alloc (.cells #[.int .i64 y.2] 3)).heap.size := m1.size
          clear z1 b1 ht hu hxs hyw hyt hf Hm HD
          have T1 := Lib.hid t1; clear t1
          have U1 := Lib.hid u1; clear u1
          have M1 := Lib.hid m1; clear m1
          have I1 := Lib.hid i1; clear i1
          have F1 := Lib.hid f1; clear f1
          have HyD := Lib.hid hyD; clear hyD
          have Hxs2 := Lib.hid hxs2; clear hxs2
          have Hbnd := Lib.hid hbnd; clear hbnd
          have HDl := Lib.hid hDl; clear hDl
          have Hsz1 := Lib.hid hsz1; clear hsz1
          go_wp2_with (with_reducible refine stop_builtin .append ?_)
          clear y0 c0' c1'
          generalize wr.heap.size = gr at *
          generalize wr.alloc (.cells #[.int .i64 y.2] 3) = w1 at *
          refine unpark ?_
          refine wpList_append_ints _ rfl _ _ 45 rfl .i64 w.heap.size 3 (.int .i64 0) 8 Try.underlying45 (by kernel_rfl) rfl _ (idsT D) rfl U1.out _ 1 1 [y.2] rfl I1.out Hbnd.out (by decide) Hsz1.out ?_
          intro v5 w5 own5 g5 _
          have mg := Mod.of_grown (F := fun k => u5.ownBlock = some k) g5 (fun _ h => h)
          have nb : ¬ u5.ownBlock = some b := fun e => Nat.lt_irrefl _ (Nat.lt_of_lt_of_le hbl (hnu b e))
          have ng : ¬ u5.ownBlock = some g := fun e => Nat.lt_irrefl _ (Nat.lt_of_lt_of_le hgl (hnu g e))
          have t5 := T1.out.aside mg nb (fun k hk => by cases hk; exact ng)
          have f5 := F1.out.keep (mg.block g F1.out.lt ng)
          have m5 := M1.out.trans mg (H := fun k => k = b) (fun _ h => h) (fun k hk h => by have := hnu k h; omega)
          have c5 := t5.cell
          have y5 := cells_at c5 0
          have q5 := frozen_of_row w5 b 0 _ _ c5
          have hl5 := own_len own5
          have hids : idsT (D ++ [y]) = idsT D ++ [y.2] := by simp [idsT]
          rw [← hids] at own5
          have Own5 := Lib.hid own5; clear own5
          have M5 := Lib.hid m5; clear m5
          have Hl5 := Lib.hid hl5; clear hl5
          clear hids T1 U1 M1 I1 F1 mg nb g5 hnu
          by_cases hc1 : c = 1
          · subst hc1
            have hy0 : ys = [] := List.eq_nil_of_length_eq_zero (by omega)
            subst hy0
            have t6 := TmAt.put (v' := .slice (some ⟨g, off, none⟩) 0 0) (xs := []) c5 (.inr ⟨g, off, 0, _, _, rfl, hgB, f5.void⟩) hvb hbb
            have m6 := M5.out.trans (mod_setCell w5 b 0 (.slice (some ⟨g, off, none⟩) 0 0) (fun k => k = b) rfl) (fun _ h => h) (fun _ _ h => h)
            have o6 : Own (w5.setCell ⟨b, 0, none⟩ (.slice (some ⟨g, off, none⟩) 0 0)) w.heap.size 3 .i64 v5 (idsT (D ++ [y])) := Own5.out.keep fun k hk _ => heap_setCell_other w5 _ k _ (fun e => by have := (Own5.out.block k hk).1; have e' : k = b := e; omega)
            have T6 := Lib.hid t6; clear t6 t5 c5 f5
            have M6 := Lib.hid m6; clear m6
            have O6 := Lib.hid o6; clear o6
            go_wp2_with fail
            go_roundw
            case rel => exact ⟨D ++ [y], [], _, Hxs2.out, HyD.out, T6.out, Ho.out, O6.out, M6.out⟩
            case measure =>
              have h1 := Hl5.out
              have h2 := Hul.out
              have h3 := HDl.out
              simp only [idsT, List.length_append, List.length_map, List.length_singleton] at h1 h2
              simp
              omega
          · have t6 := TmAt.put (v' := .slice (some ⟨g, off + 2, none⟩) ys.length (c - 1)) (xs := ys) c5 (.inr ⟨g, off + 2, c - 1, _, _, rfl, hgB, f5.tail⟩) hvb hbb
            have m6 := M5.out.trans (mod_setCell w5 b 0 (.slice (some ⟨g, off + 2, none⟩) ys.length (c - 1)) (fun k => k = b) rfl) (fun _ h => h) (fun _ _ h => h)
            have o6 : Own (w5.setCell ⟨b, 0, none⟩ (.slice (some ⟨g, off + 2, none⟩) ys.length (c - 1))) w.heap.size 3 .i64 v5 (idsT (D ++ [y])) := Own5.out.keep fun k hk _ => heap_setCell_other w5 _ k _ (fun e => by have := (Own5.out.block k hk).1; have e' : k = b := e; omega)
            have T6 := Lib.hid t6; clear t6 t5 c5 f5
            have M6 := Lib.hid m6; clear m6
            have O6 := Lib.hid o6; clear o6
            have i4 : (1 : Int) ≤ (ys.length : Int) + 1 := by omega
            go_wp2_with fail
            go_roundw
            case rel => exact ⟨D ++ [y], ys, _, Hxs2.out, HyD.out, T6.out, Ho.out, O6.out, M6.out⟩
            case measure =>
              have h1 := Hl5.out
              have h2 := Hul.out
              have h3 := HDl.out
              simp only [idsT, List.length_append, List.length_map, List.length_singleton] at h1 h2
              simp
              omega
        · have hds := due_split hxs HD.out (fun z hz => by
            simp at hz
            subst hz
            exact decide_eq_false hyt)
          obtain rfl : DU = D := HDU.out.trans hds.1
          obtain rfl : RE = y :: ys := HRE.out.trans hds.2
          have d1 : decide (y.1 ≤ t) = false := decide_eq_false hyt
          have Ht := Lib.hid ht; clear ht
          have Hu := Lib.hid hu; clear hu
          clear hds hxs hf hyt
          go_wp2
          go_ret
          exact ⟨_, rfl, Hu.out, _, Ht.out, Hm.out, Ho.out⟩
end Go.Proofs.Ytfldohfopileeaa
