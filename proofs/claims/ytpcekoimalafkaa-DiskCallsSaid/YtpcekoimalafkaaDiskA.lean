/- A device within a law: what is kept from the law's start on, and which blocks are the device's. -/
import Derived.Test.YtpcekoimalafkaaDisk9
namespace Go.Proofs.Ytpcekoimalafkaa
open Go.RowKit

theorem Own.ofInts {w : World} {B : Nat} {E : TypeId} {k : IntKind} {v : Value} {zs : List Int} (h : Own w B E k v zs) {n : Nat} (hn : zs.length = n) (h0 : 0 < n) : ∃ g c, v = .slice (some ⟨g, 0, none⟩) n c ∧ Ints w k (some ⟨g, 0, none⟩) n c zs := by
  obtain ⟨g, c, rfl, _, _, _, _, i⟩ := h.shape hn h0
  exact ⟨g, c, rfl, i⟩

theorem Own.read {w : World} {B : Nat} {E : TypeId} {k : IntKind} {v : Value} {zs : List Int} (h : Own w B E k v zs) :
    ∃ a n c, v = .slice a n c ∧ Ints w k a n c zs ∧ (∀ b o, a = some ⟨b, o, none⟩ → B ≤ b ∧ b < w.heap.size) := by
  obtain ⟨a, c, h1, h2, h3⟩ := h.ints
  exact ⟨a, _, c, h1, h2, h3⟩

structure Dev (w0 w : World) (b : Nat) (F : Nat → Prop) (s : State) : Prop where
  dev : ∃ gs gm cv, DiskAt w w0.heap.size b gs gm cv s.1 s.2 ∧ ∀ k, foot b gs gm cv k → F k
  low : ∀ k, F k → w0.heap.size ≤ k ∧ k < w.heap.size
  bel : Below w0.heap.size w0 w

def grownF (F : Nat → Prop) (w w' : World) (k : Nat) : Prop := F k ∨ w.heap.size ≤ k ∧ k < w'.heap.size

theorem DiskAt.mono {w : World} {B B' b gs gm : Nat} {cv : Value} {S : List (List Int)} {C : List (Int × List Int)} (h : DiskAt w B b gs gm cv S C) (hB : B' ≤ B) : DiskAt w B' b gs gm cv S C :=
  { h with
    cache := by
      refine ⟨h.cache.1, ?_⟩
      rcases h.cache.2 with hn | ⟨g, cap, cur, e, hb, rest⟩
      · exact .inl hn
      · exact .inr ⟨g, cap, cur, e, by omega, rest⟩
    bb := Nat.le_trans hB h.bb
    bs := Nat.le_trans hB h.bs
    bm := Nat.le_trans hB h.bm }

section
variable {w0 w w' : World} {b : Nat} {F : Nat → Prop} {s : State}
theorem Dev.size (h : Dev w0 w b F s) : w0.heap.size ≤ w.heap.size := h.bel.size
theorem Dev.step (h : Dev w0 w b F s) (hb : Below w.heap.size w w') : Dev w0 w' b F s where
  dev := by
    obtain ⟨gs, gm, cv, hd, hf⟩ := h.dev
    exact ⟨gs, gm, cv, hd.keep fun k hk => hb.block k (hd.lt k hk).2, hf⟩
  low := fun k hk => ⟨(h.low k hk).1, Nat.lt_of_lt_of_le (h.low k hk).2 hb.size⟩
  bel := h.bel.trans (hb.mono h.bel.size)
/-- What another device does. -/
theorem Dev.aside {G : Nat → Prop} (h : Dev w0 w b F s) (hm : Mod G w w') (ha : ∀ k, F k → ¬ G k) (hG : ∀ k, G k → w0.heap.size ≤ k) : Dev w0 w' b F s where
  dev := by
    obtain ⟨gs, gm, cv, hd, hf⟩ := h.dev
    exact ⟨gs, gm, cv, hd.keep fun k hk => hm.block k (hd.lt k hk).2 (ha k (hf k hk)), hf⟩
  low := fun k hk => ⟨(h.low k hk).1, Nat.lt_of_lt_of_le (h.low k hk).2 hm.size⟩
  bel := hm.below h.bel h.bel.size hG
theorem Dev.wide (h : Dev w0 w b F s) {G : Nat → Prop} (hG : ∀ k, F k → G k) (hl : ∀ k, G k → w0.heap.size ≤ k ∧ k < w.heap.size) : Dev w0 w b G s where
  dev := by
    obtain ⟨gs, gm, cv, hd, hf⟩ := h.dev
    exact ⟨gs, gm, cv, hd, fun k hk => hG k (hf k hk)⟩
  low := hl
  bel := h.bel
theorem Dev.len (h : Dev w0 w b F s) : 0 < s.1.length ∧ s.1.length ≤ 512 := by
  obtain ⟨gs, gm, cv, hd, hf⟩ := h.dev
  exact ⟨hd.pos, hd.len⟩
theorem Dev.sector (h : Dev w0 w b F s) {k : Int} (hk : 0 ≤ k ∧ k < (s.1.length : Int)) : Sector (readOf s.1 s.2 k) := by
  obtain ⟨gs, gm, cv, hd, hf⟩ := h.dev
  exact readOf_sector hd hk
theorem Dev.sec (h : Dev w0 w b F s) : ∀ z ∈ s.1, Sector z := by
  obtain ⟨gs, gm, cv, hd, hf⟩ := h.dev
  exact hd.sec
theorem Dev.wrs (h : Dev w0 w b F s) : ∀ p ∈ s.2, Sector p.2 ∧ 0 ≤ p.1 ∧ p.1 < s.1.length := by
  obtain ⟨gs, gm, cv, hd, hf⟩ := h.dev
  exact hd.wrs

theorem New_dev {n : Nat} (hw : Below w0.heap.size w0 w) (h1 : 1 ≤ n) (h2 : n ≤ 512) :
    Calls Try.prog 11 #[.int .i64 n] w fun e w' => ∃ b F, e = .returned (.tuple #[.pointer (some ⟨b, 0, none⟩), .int .i64 0]) ∧ Dev w0 w' b F (fresh n, []) ∧ (∀ k, F k → w.heap.size ≤ k) ∧ Below w.heap.size w w' := by
  refine (New_calls h1 h2).mono ?_
  rintro e w' ⟨b, gs, gm, rfl, hd, hb⟩
  refine ⟨b, foot b gs gm (.slice none 0 0), rfl, ⟨⟨gs, gm, _, hd.mono hw.size, fun _ h => h⟩, fun k hk => ⟨Nat.le_trans hw.size (hd.lt k hk).1, (hd.lt k hk).2⟩, hw.trans (hb.mono hw.size)⟩, fun k hk => (hd.lt k hk).1, hb⟩

theorem begin_dev {n : Nat} (hw : Below w0.heap.size w0 w) (h1 : 1 ≤ n) (h2 : n ≤ 512) {a : Option Addr} {m c : Nat} {xs : List CallV} (hr : CallRow w a m c xs) (hg : greatOf xs = false) :
    Calls Try.prog 27 #[.int .i64 n, .slice a m c] w fun e w' =>
      ∃ b F, e = .returned (.pointer (some ⟨b, 0, none⟩)) ∧ Dev w0 w' b F (stepsOf (fresh n, []) xs) ∧ (∀ k, F k → w.heap.size ≤ k) ∧ Below w.heap.size w w' := by
  refine (begin_calls h1 h2 hr hg).mono ?_
  rintro e w' ⟨b, gs, gm, cv, rfl, hd, hb⟩
  exact ⟨b, foot b gs gm cv, rfl, ⟨⟨gs, gm, _, hd.mono hw.size, fun _ h => h⟩, fun k hk => ⟨Nat.le_trans hw.size (hd.lt k hk).1, (hd.lt k hk).2⟩, hw.trans (hb.mono hw.size)⟩, fun k hk => (hd.lt k hk).1, hb⟩

theorem Loose_dev (h : Dev w0 w b F s) :
    Calls Try.prog 23 #[.pointer (some ⟨b, 0, none⟩)] w fun e w' => e = .returned (.int .i64 (s.2.length : Int)) ∧ w = w' := by
  obtain ⟨gs, gm, cv, hd, hf⟩ := h.dev
  exact (Loose_calls hd).mono fun e w' h => ⟨h.1, h.2.symm⟩
theorem Sectors_dev (h : Dev w0 w b F s) :
    Calls Try.prog 24 #[.pointer (some ⟨b, 0, none⟩)] w fun e w' => e = .returned (.int .i64 (s.1.length : Int)) ∧ w = w' := by
  obtain ⟨gs, gm, cv, hd, hf⟩ := h.dev
  exact (Sectors_calls hd).mono fun e w' h => ⟨h.1, h.2.symm⟩
def readErr (s : State) (k : Int) : Int := if 0 ≤ k ∧ k < (s.1.length : Int) then 0 else 11
theorem Read_dev (h : Dev w0 w b F s) (k : Int) :
    Calls Try.prog 21 #[.pointer (some ⟨b, 0, none⟩), .int .i64 k] w fun e w' =>
      ∃ v, e = .returned (.tuple #[v, .int .i64 (readErr s k)]) ∧ Own w' w.heap.size 5 .u8 v (readOf s.1 s.2 k) ∧ Below w.heap.size w w' ∧ Dev w0 w' b F s := by
  obtain ⟨gs, gm, cv, hd, hf⟩ := h.dev
  exact (Read_calls hd k).mono fun e w' ⟨v, h1, h2, h3⟩ => ⟨v, h1, h2, h3, h.step h3⟩
theorem Image_dev (h : Dev w0 w b F s) :
    Calls Try.prog 25 #[.pointer (some ⟨b, 0, none⟩)] w fun e w' => ∃ v, e = .returned v ∧ Own w' w.heap.size 5 .u8 v s.1.flatten ∧ Below w.heap.size w w' ∧ Dev w0 w' b F s := by
  obtain ⟨gs, gm, cv, hd, hf⟩ := h.dev
  exact (Image_calls hd).mono fun e w' ⟨v, h1, h2, h3⟩ => ⟨v, h1, h2, h3, h.step h3⟩
theorem Write_dev (h : Dev w0 w b F s) (k : Int) {a : Option Addr} {n c : Nat} {zs : List Int} (hx : Ints w .u8 a n c zs) (hC : s.2.length ≤ 1000000) :
    Calls Try.prog 14 #[.pointer (some ⟨b, 0, none⟩), .int .i64 k, .slice a n c] w fun e w' =>
      e = .returned (.int .i64 (writeErr s.1 k n)) ∧ Dev w0 w' b (grownF F w w') (s.1, written s.1 s.2 k zs) ∧ Mod F w w' := by
  obtain ⟨gs, gm, cv, hd, hf⟩ := h.dev
  refine (Write_calls hd k hx hC).mono ?_
  rintro e w' ⟨cv', rfl, hd', hm, ho⟩
  have hm' : Mod F w w' := hm.mono fun x hx => hf x hx
  refine ⟨rfl, ⟨⟨gs, gm, cv', hd', ?_⟩, ?_, hm'.below h.bel h.bel.size fun x hx => (h.low x hx).1⟩, hm'⟩
  · rintro k (rfl | rfl | rfl | hk)
    · exact .inl (hf _ (.inl rfl))
    · exact .inl (hf _ (.inr (.inl rfl)))
    · exact .inl (hf _ (.inr (.inr (.inl rfl))))
    · rcases ho k hk with h1 | h1
      · exact .inl (hf _ (.inr (.inr (.inr h1))))
      · exact .inr ⟨h1, (hd'.lt k (.inr (.inr (.inr hk)))).2⟩
  · rintro k (hk | hk)
    · exact ⟨(h.low k hk).1, Nat.lt_of_lt_of_le (h.low k hk).2 hm'.size⟩
    · exact ⟨Nat.le_trans h.bel.size hk.1, hk.2⟩
theorem Dev.flat3 {gs gm : Nat} {cv : Value} {S' : List (List Int)} (h : Dev w0 w b F s) (hf : ∀ k, foot b gs gm cv k → F k) (hd' : DiskAt w' w0.heap.size b gs gm (.slice none 0 0) S' []) (hm : Mod (fun k => k = b ∨ k = gs ∨ k = gm) w w') :
    Dev w0 w' b F (S', []) ∧ Mod F w w' := by
  have hm' : Mod F w w' := hm.mono fun x hx => hf x (hx.elim .inl fun h => h.elim (fun h => .inr (.inl h)) fun h => .inr (.inr (.inl h)))
  refine ⟨⟨⟨gs, gm, _, hd', ?_⟩, fun k hk => ⟨(h.low k hk).1, Nat.lt_of_lt_of_le (h.low k hk).2 hm'.size⟩, hm'.below h.bel h.bel.size fun x hx => (h.low x hx).1⟩, hm'⟩
  rintro k (rfl | rfl | rfl | hk)
  · exact hf _ (.inl rfl)
  · exact hf _ (.inr (.inl rfl))
  · exact hf _ (.inr (.inr (.inl rfl)))
  · cases hk
theorem Flush_dev (h : Dev w0 w b F s) :
    Calls Try.prog 17 #[.pointer (some ⟨b, 0, none⟩)] w fun e w' =>
      e = .returned (.tuple #[]) ∧ Dev w0 w' b F (settled s.1 s.2, []) ∧ Mod F w w' := by
  obtain ⟨gs, gm, cv, hd, hf⟩ := h.dev
  exact (Flush_calls hd).mono fun e w' ⟨h1, h2, h3⟩ => ⟨h1, h.flat3 hf h2 h3⟩
theorem Crash_dev (h : Dev w0 w b F s) (keep tear : Int) :
    Calls Try.prog 19 #[.pointer (some ⟨b, 0, none⟩), .int .i64 keep, .int .i64 tear] w fun e w' =>
      e = .returned (.tuple #[]) ∧ Dev w0 w' b F (crashed s.1 s.2 keep tear, []) ∧ Mod F w w' := by
  obtain ⟨gs, gm, cv, hd, hf⟩ := h.dev
  exact (Crash_calls hd keep tear).mono fun e w' ⟨h1, h2, h3⟩ => ⟨h1, h.flat3 hf h2 h3⟩
end
end Go.Proofs.Ytpcekoimalafkaa
