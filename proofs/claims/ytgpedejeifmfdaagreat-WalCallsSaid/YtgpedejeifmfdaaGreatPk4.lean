/- word.From. -/
import Derived.Test.YtgpedejeifmfdaaGreatWord3
import Derived.Test.YtgpedejeifmfdaaGreatPkA
namespace Go.Proofs.YtgpedejeifmfdaaGreat
open Go.RowKit Go.Shelf
attribute [local go_sem] Oper.semAt_some

attribute [local go_sem] Oper.semAt_some
/-- The places that have come, from behind. -/
def Idx (n : Nat) (pre : List (Ix n)) : Prop := ∀ t (h : t < pre.length), (pre[t]).1 = n - 1 - t
theorem idx_snoc {n : Nat} {pre : List (Ix n)} {x : Ix n} (h : Idx n (pre ++ [x])) : Idx n pre ∧ x.1 = n - 1 - pre.length := by
  refine ⟨fun t ht => ?_, ?_⟩
  · have := h t (by simp; omega)
    rwa [List.getElem_append_left ht] at this
  · have := h pre.length (by simp)
    simpa using this
/-- The number of bytes, the first one the lowest. -/
def fromZ : List Int → Nat
  | [] => 0
  | b :: bs => b.toNat + 256 * fromZ bs
theorem fromZ_lt : ∀ (l : List Int), (∀ b ∈ l, 0 ≤ b ∧ b ≤ 255) → fromZ l < 256 ^ l.length
  | [], _ => by simp [fromZ]
  | b :: bs, h => by
    have := fromZ_lt bs fun x hx => h x (.tail _ hx)
    have hb := h b (.head _)
    unfold fromZ
    rw [List.length_cons, Nat.pow_succ]
    omega
theorem bits_or_sum {u c : Nat} (k : Nat) (hk : k ≤ 64) (hc : c < 2 ^ k) : bits .or .u64 (IntKind.u64.wrap ((u : Int) * 2 ^ k)) (c : Int) = (((u * 2 ^ k) % 2 ^ 64 + c : Nat) : Int) ∧ (u * 2 ^ k) % 2 ^ 64 + c < 2 ^ 64 := by
  have hp : (2 : Nat) ^ 64 = 2 ^ (64 - k) * 2 ^ k := by rw [← Nat.pow_add]; congr 1; omega
  have hm : (u * 2 ^ k) % 2 ^ 64 = (u % 2 ^ (64 - k)) * 2 ^ k := by rw [hp, Nat.mul_mod_mul_right]
  have e1 : IntKind.u64.wrap ((u : Int) * 2 ^ k) = (((u * 2 ^ k) % 2 ^ 64 : Nat) : Int) := by
    rw [IntKind.wrap_u64]
    have hx : ((u : Int) * 2 ^ k) = ((u * 2 ^ k : Nat) : Int) := by push_cast; rfl
    rw [hx]
    generalize u * 2 ^ k = X
    omega
  have hc64 : c < 2 ^ 64 := Nat.lt_of_lt_of_le hc (Nat.pow_le_pow_right (by decide) hk)
  have hor : (u * 2 ^ k) % 2 ^ 64 ||| c = (u * 2 ^ k) % 2 ^ 64 + c := by
    rw [hm, Nat.mul_comm, ← Nat.two_pow_add_eq_or_of_lt hc]
  have hlt : (u * 2 ^ k) % 2 ^ 64 < 2 ^ 64 := Nat.mod_lt _ (by decide)
  refine ⟨by rw [e1, bits_or_u64_nat _ _ hlt hc64, hor], ?_⟩
  rw [← hor]
  exact Nat.or_lt_two_pow hlt hc64
set_option maxRecDepth 100000 in
set_option maxHeartbeats 2000000 in
theorem From_in (F : Fence) (n : Nat) (hf : F.fn 109) (hm : F.fn 115) (hg : F.fn 116) (hro : F.round = none) (hn : 3 ≤ n) {w : World} {a : Option Addr} {len cap : Nat} {zs : List Int} (hx : Ints w .u8 a len cap zs) (h8 : len ≤ 8) :
    CallsIn F n Tryz.prog 109 #[.slice a len cap] w fun e W' => e = .returned (.tuple #[.int .u64 (fromZ zs : Nat), .bool true]) ∧ Below w.heap.size w W' := by
  have h1 : 1 ≤ n := by omega
  have hI := RowB.of hx
  have hzl := hx.len
  have hz : ∀ b ∈ zs, 0 ≤ b ∧ b ≤ 255 := fun b hb => by
    obtain ⟨j, hj, rfl⟩ := List.mem_iff_getElem.1 hb
    have := hx.u8 j
    rw [List.getD_eq_getElem?_getD, List.getElem?_eq_getElem hj, Option.getD_some] at this
    exact this
  have hstep : ∀ (pre : List (Ix len)) (x : Ix len) (u : Nat), pre.length < len → (Idx len pre → u = fromZ (zs.drop (len - pre.length))) → Idx len (pre ++ [x]) → u * 2 ^ 8 % 2 ^ 64 + (zs[x.1]?.getD 0).toNat = fromZ (zs.drop (len - (pre ++ [x]).length)) := by
    intro pre x u hpl hu hi
    obtain ⟨hp, hxv⟩ := idx_snoc hi
    have hxl := x.2
    rw [hu hp, List.length_append, List.length_singleton]
    have hlt := fromZ_lt (zs.drop (len - pre.length)) fun b hb => hz b (List.mem_of_mem_drop hb)
    rw [List.length_drop, hzl] at hlt
    have hle : 256 ^ (len - (len - pre.length)) ≤ 256 ^ 7 := Nat.pow_le_pow_right (by decide) (by omega)
    have hk : len - (pre.length + 1) < zs.length := by omega
    rw [List.drop_eq_getElem_cons hk, show len - (pre.length + 1) + 1 = len - pre.length by omega]
    have hxk : x.1 = len - (pre.length + 1) := by omega
    rw [hxk, List.getElem?_eq_getElem hk, Option.getD_some]
    show _ = (zs[len - (pre.length + 1)]).toNat + 256 * fromZ (zs.drop (len - pre.length))
    generalize fromZ (zs.drop (len - pre.length)) = U at hlt
    have h7 : (256 : Nat) ^ 7 = 72057594037927936 := rfl
    omega
  have hcx : ∀ x : Ix len, ∃ c : Nat, zs[x.1]?.getD 0 = (c : Int) ∧ c < 2 ^ 8 := fun x => by
    have := hx.u8 x.1
    rw [List.getD_eq_getElem?_getD] at this
    exact ⟨(zs[x.1]?.getD 0).toNat, by omega, by omega⟩
  have d1 : decide (8 < (len : Int)) = false := decide_eq_false (by omega)
  refine callsIn_of_wp_marks Tryz.func109 rfl hf ?_ hro
  simp only [Tryz.ntmps109, List.size_toArray, List.length_cons, List.length_nil, Nat.reduceAdd, Nat.reduceSub, Array.replicate_succ, Array.replicate_zero, List.push_toArray, List.append_toArray, List.nil_append, List.cons_append]
  gi_wp2_with (gi_at_call 115; refine (backB_mk_in F (n - 1) hm hro _ _ _ _).mono ?_; rintro e w' ⟨rfl, rfl⟩)
  have bS := Boxed.new w 122 (.int .u64 0)
  have bN := Boxed.new (w.alloc (.cells #[.int .u64 0] 122)) 39 (.slice a len cap)
  rw [World.size_alloc] at bN
  have hB0 : Below w.heap.size w ((w.alloc (.cells #[.int .u64 0] 122)).alloc (.cells #[.slice a len cap] 39)) := ((Below.refl _ w).alloc (Nat.le_refl _) _).alloc (by simp) _
  refine wpIn_rangeFunc_ownG hro h1 (gf := 116) (lb := #[.pointer (some ⟨w.heap.size + 1, 0, none⟩)]) rfl hg (enters_of Tryz.func116 (by kernel_rfl) rfl)
    (backB_stops F (n - 1) hg hro (by omega) (w.heap.size + 1) w.heap.size a len cap zs (by omega) _ (by simp) (by simp; omega) bN.cell (hI.below hB0)) KpB.trans (KpB.put (by simp; omega) (by simp)) (Below.refl _ _) (fun _ => rfl)
    (fun pre W => (∃ u : Nat, u < 2 ^ 64 ∧ (Idx len pre → u = fromZ (zs.drop (len - pre.length))) ∧ W.cell? ⟨w.heap.size, 0, none⟩ = some (.int .u64 (u : Int)) ∧ W.frozen? ⟨w.heap.size, 0, none⟩ = false) ∧ Below w.heap.size w W)
    (fun _ _ _ => False)
    (OwnFrom.and (Own.from (fun s A B row hs hg hr => by obtain ⟨u, h1, h2, h3, h4⟩ := hs; exact ⟨u, h1, h2, cell_kept h3 hg hr, (frozen_kept h3 hg hr).trans h4⟩) _) (ownFrom_below (Nat.le_refl _) (by simp; omega)))
    (fun _ _ _ _ _ hs _ _ => hs)
    ⟨⟨0, by decide, fun _ => by rw [List.length_nil, Nat.sub_zero, List.drop_of_length_le (by omega)]; rfl, (bS.alloc _).cell, (bS.alloc _).frozen⟩, hB0⟩
    (fun x => { tmps := #[.slice a len cap, undef, .int .u64 0, .bool false, .pointer (some ⟨w.heap.size, 0, none⟩), undef, .int .u8 (zs[x.1]?.getD 0), .slice a len cap, .int .i64 len, .bool false, .slice a len cap,
      .func (.func 116) #[] #[.pointer (some ⟨w.heap.size + 1, 0, none⟩)], .int .i64 (x.1 : Int), .int .u8 (zs[x.1]?.getD 0), undef, undef, undef, undef, undef, undef], defers := [] }) ?assign ?body ?done ?stop
  case assign =>
    intro l x W K hK
    dsimp only [valAt]
    gi_wp2
    exact hK
  case body =>
    rintro l pre x W ⟨⟨u, hu, hui, hc, hfz⟩, hB⟩ hpl
    obtain ⟨c, hc1, hc2⟩ := hcx x
    have hs1 := hstep pre x u hpl hui
    rw [hc1] at hs1 ⊢
    rw [Int.toNat_natCast] at hs1
    obtain ⟨hb1, hb2⟩ := bits_or_sum (u := u) (c := c) 8 (by decide) hc2
    have hb1 : bits .or .u64 (IntKind.u64.wrap ((u : Int) * 256)) (c : Int) = ((u * 2 ^ 8 % 2 ^ 64 + c : Nat) : Int) := hb1
    generalize u * 2 ^ 8 % 2 ^ 64 + c = U at hb1 hb2 hs1
    have Hs1 := Lib.hid hs1; clear hs1 hu hui
    have Hb1 := Lib.hid hb1; clear hb1
    gi_wp2
    rw [Hb1.out]
    exact ⟨(KeepsOthers.setCell _ _ _).from _, ⟨(Below.refl w.heap.size W).setCell (p := ⟨w.heap.size, 0, none⟩) (Nat.le_refl _) _, by unfold World.cell?; rw [heap_setCell_other W _ _ _ (show w.heap.size + 1 ≠ w.heap.size by omega)]⟩,
      ⟨U, hb2, fun hi => Hs1.out hi, World.cell?_setCell_same' _ _ _ (by rw [hc]; rfl), by rw [World.frozen?_setCell]; exact hfz⟩, hB.setCell (p := ⟨w.heap.size, 0, none⟩) (Nat.le_refl _) _⟩
  case done =>
    rintro D ys W hD ⟨hyl, hyi⟩ ⟨⟨u, hu, hui, hc, hfz⟩, hB⟩ hK
    have hu2 := hui hyi
    rw [hyl, Nat.sub_self, List.drop_zero] at hu2
    gi_wp2
    refine ⟨by simp, .inl ⟨_, _, rfl, run_takeDeferred hK, ?_⟩⟩
    refine ⟨_, ?_, by rw [← hu2], hB.trans (belowK_b (w := w) (Nat.le_refl _) W D _ _ (by simp at hD; omega) hK rfl rfl)⟩
    simp [results, Tryz.f109, go_sem, hu2]
  case stop =>
    rintro D c pre W _ _ h _
    exact h.elim
theorem From_calls {w : World} {a : Option Addr} {len cap : Nat} {zs : List Int} (hx : Ints w .u8 a len cap zs) (h8 : len ≤ 8) :
    Calls Tryz.prog 109 #[.slice a len cap] w fun e W' => e = .returned (.tuple #[.int .u64 (fromZ zs : Nat), .bool true]) ∧ Below w.heap.size w W' :=
  (callsIn_wide (n := 3)).1 (From_in Fence.wide 3 trivial trivial trivial rfl (by decide) hx h8)
end Go.Proofs.YtgpedejeifmfdaaGreat
