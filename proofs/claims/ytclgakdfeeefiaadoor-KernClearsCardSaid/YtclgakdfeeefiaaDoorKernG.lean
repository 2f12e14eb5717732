/- A kernel, and two rows of rows of messages beside it. -/
import Derived.Test.YtclgakdfeeefiaaDoorKernF
namespace Go.Proofs.YtclgakdfeeefiaaDoor
open Go.RowKit

abbrev Slc := Option Addr × Nat × Nat
def slcF : Fmt Slc := ⟨fun s => [.slice s.1 s.2.1 s.2.2], 1, fun _ => rfl, by decide, fun x u hu => by simp at hu; rw [hu]; rfl⟩
set_option maxRecDepth 100000 in
theorem slcElem : Elem Tryd.prog slcF 59 44 := ⟨Tryd.underlying59, ⟨_, _, rfl, rfl, rfl, rfl, by decide⟩⟩
abbrev SOwn := ROwn slcF 44
/-- Each slice reads as its list, in a block that is not barred. -/
def Keeps (w : World) (bad : Nat → Prop) (us : List Slc) (U : List (List Msg)) : Prop :=
  us.length = U.length ∧ ∀ (i : Nat) (s : Slc) (l : List Msg), us[i]? = some s → U[i]? = some l → Msgs w s.1 s.2.1 s.2.2 l ∧ ∀ b o, 0 < s.2.1 → s.1 = some ⟨b, o, none⟩ → b < w.heap.size ∧ ¬ bad b
theorem Keeps.nil (w : World) (bad : Nat → Prop) : Keeps w bad [] [] := ⟨rfl, fun i s l h => by simp at h⟩
theorem Keeps.to {w w' : World} {bad bad' : Nat → Prop} {us : List Slc} {U : List (List Msg)} (h : Keeps w bad us U) (hs : w.heap.size ≤ w'.heap.size) (hb : ∀ b, b < w.heap.size → ¬ bad b → w'.heap[b]? = w.heap[b]? ∧ ¬ bad' b) : Keeps w' bad' us U := by
  refine ⟨h.1, fun i s l h1 h2 => ?_⟩
  obtain ⟨hm, hx⟩ := h.2 i s l h1 h2
  exact ⟨hm.keepPos fun b o hn e hl => (hb b hl (hx b o hn e).2).1, fun b o hn e => ⟨Nat.lt_of_lt_of_le (hx b o hn e).1 hs, (hb b (hx b o hn e).1 (hx b o hn e).2).2⟩⟩
theorem Keeps.snoc {w : World} {bad : Nat → Prop} {us : List Slc} {U : List (List Msg)} (h : Keeps w bad us U) {s : Slc} {l : List Msg} (hm : Msgs w s.1 s.2.1 s.2.2 l) (hx : ∀ b o, 0 < s.2.1 → s.1 = some ⟨b, o, none⟩ → b < w.heap.size ∧ ¬ bad b) : Keeps w bad (us ++ [s]) (U ++ [l]) := by
  refine ⟨by rw [List.length_append, List.length_append, h.1]; rfl, fun i s' l' h1 h2 => ?_⟩
  have he := h.1
  by_cases hi : i < us.length
  · rw [List.getElem?_append_left hi] at h1
    rw [List.getElem?_append_left (by omega)] at h2
    exact h.2 i s' l' h1 h2
  · rw [List.getElem?_append_right (by omega)] at h1
    rw [List.getElem?_append_right (by omega)] at h2
    have h0 : i - us.length = 0 := by
      have := (List.getElem?_eq_some_iff.1 h1).1
      simp at this
      omega
    rw [h0] at h1
    rw [show i - U.length = 0 by omega] at h2
    simp at h1 h2
    subst h1 h2
    exact ⟨hm, hx⟩
def KnUD (w0 w : World) (kb n : Nat) (p : Pl) (st : Sta) (u d : Value) (us ds : List Slc) (U D : List (List Msg)) : Prop :=
  ∃ F, Kn w0 w kb F n p st ∧ SOwn w w0.heap.size u us ∧ SOwn w w0.heap.size d ds ∧ (∀ g, u.ownBlock = some g → ¬ F g ∧ d.ownBlock ≠ some g) ∧ (∀ g, d.ownBlock = some g → ¬ F g) ∧
    Keeps w (fun k => F k ∨ u.ownBlock = some k ∨ d.ownBlock = some k) us U ∧ Keeps w (fun k => F k ∨ u.ownBlock = some k ∨ d.ownBlock = some k) ds D
section
variable {w0 w w' : World} {kb n : Nat} {p : Pl} {st st' : Sta} {u d u' : Value} {us ds : List Slc} {U D : List (List Msg)} {f : Nat} {args : Array Value} {P : Ending → Prop}
theorem KnUD.bel (h : KnUD w0 w kb n p st u d us ds U D) : Below w0.heap.size w0 w := by
  obtain ⟨F, h1, -⟩ := h
  exact h1.bel
theorem KnUD.kl (h : KnUD w0 w kb n p st u d us ds U D) : KnL w0 w kb n p st [] := by
  obtain ⟨F, h1, -⟩ := h
  exact ⟨F, h1, fun x hx => by cases hx⟩
theorem KnUD.swap (h : KnUD w0 w kb n p st u d us ds U D) : KnUD w0 w kb n p st d u ds us D U := by
  obtain ⟨F, h1, h2, h3, h4, h5, h6, h7⟩ := h
  refine ⟨F, h1, h3, h2, fun g hg => ⟨h5 g hg, fun e => (h4 g e).2 hg⟩, fun g hg => (h4 g hg).1, h7.to (Nat.le_refl _) fun b _ hb => ⟨rfl, fun h => hb ?_⟩, h6.to (Nat.le_refl _) fun b _ hb => ⟨rfl, fun h => hb ?_⟩⟩
  · rcases h with h | h | h
    · exact .inl h
    · exact .inr (.inr h)
    · exact .inr (.inl h)
  · rcases h with h | h | h
    · exact .inl h
    · exact .inr (.inr h)
    · exact .inr (.inl h)
theorem KnUD.step (h : KnUD w0 w kb n p st u d us ds U D) (hb : Below w.heap.size w w') : KnUD w0 w' kb n p st u d us ds U D := by
  obtain ⟨F, h1, h2, h3, h4, h5, h6, h7⟩ := h
  exact ⟨F, h1.step hb, h2.below hb, h3.below hb, h4, h5, h6.to hb.size fun b hl hn => ⟨hb.block b hl, hn⟩, h7.to hb.size fun b hl hn => ⟨hb.block b hl, hn⟩⟩
theorem KnUD.call (h : KnUD w0 w kb n p st u d us ds U D) (hc : ∀ F, Kn w0 w kb F n p st → Calls Tryd.prog f args w fun e w' => P e ∧ Kn w0 w' kb (grownF F w w') n p st' ∧ Mod F w w') :
    Calls Tryd.prog f args w fun e w' => P e ∧ KnUD w0 w' kb n p st' u d us ds U D := by
  obtain ⟨F, h1, h2, h3, h4, h5, h6, h7⟩ := h
  refine (hc F h1).mono ?_
  rintro e w' ⟨hp, hk, hm⟩
  have hv : ∀ k, k < w.heap.size → ¬ F k → ¬ grownF F w w' k := by
    rintro k hl hf (hk | hk)
    · exact hf hk
    · omega
  have hkeep : ∀ b, b < w.heap.size → ¬ (F b ∨ u.ownBlock = some b ∨ d.ownBlock = some b) → w'.heap[b]? = w.heap[b]? ∧ ¬ (grownF F w w' b ∨ u.ownBlock = some b ∨ d.ownBlock = some b) := fun b hl hn =>
    ⟨hm.block b hl fun h => hn (.inl h), fun h => h.elim (fun h => hv b hl (fun h => hn (.inl h)) h) fun h => hn (.inr h)⟩
  exact ⟨hp, _, hk, h2.grown hm fun g hg => (h4 g hg).1, h3.grown hm fun g hg => h5 g hg, fun g hg => ⟨hv g (h2.lt g hg).2 (h4 g hg).1, (h4 g hg).2⟩, fun g hg => hv g (h3.lt g hg).2 (h5 g hg), h6.to hm.size hkeep, h7.to hm.size hkeep⟩
/-- The first row has one more: messages in a block that was made since. -/
theorem KnUD.push {w8 : World} (h : KnUD w0 w kb n p st u d us ds U D) (hb : Below w.heap.size w w8) {s : Slc} {l : List Msg} (hm : Msgs w8 s.1 s.2.1 s.2.2 l) (hx : ∀ b o, 0 < s.2.1 → s.1 = some ⟨b, o, none⟩ → w.heap.size ≤ b ∧ b < w8.heap.size)
    (ho : SOwn w' w0.heap.size u' (us ++ [s])) (hg : w8.grownBy w' u.ownBlock) (hw : u'.ownBlock = u.ownBlock ∨ u'.ownBlock = some w8.heap.size) : KnUD w0 w' kb n p st u' d (us ++ [s]) ds (U ++ [l]) D := by
  obtain ⟨F, h1, h2, h3, h4, h5, h6, h7⟩ := h
  have hxF : ∀ b o, 0 < s.2.1 → s.1 = some ⟨b, o, none⟩ → b < w8.heap.size ∧ ¬ (F b ∨ u.ownBlock = some b ∨ d.ownBlock = some b) := fun b o hn e => by
    obtain ⟨hl, hr⟩ := hx b o hn e
    refine ⟨hr, ?_⟩
    rintro (hf | hf | hf)
    · have := (h1.low b hf).2; omega
    · have := (h2.lt b hf).2; omega
    · have := (h3.lt b hf).2; omega
  have h1 := h1.step hb
  have h2 := h2.below hb
  have h3 := h3.below hb
  have h6 : Keeps w8 (fun k => F k ∨ u.ownBlock = some k ∨ d.ownBlock = some k) us U := h6.to hb.size fun b hl hn => ⟨hb.block b hl, hn⟩
  have h7 : Keeps w8 (fun k => F k ∨ u.ownBlock = some k ∨ d.ownBlock = some k) ds D := h7.to hb.size fun b hl hn => ⟨hb.block b hl, hn⟩
  have hmo : Mod (fun k => u.ownBlock = some k) w8 w' := Mod.of_grown hg fun _ h => h
  have hu' : ∀ b, b < w8.heap.size → u'.ownBlock = some b → u.ownBlock = some b := fun b hl e => by
    rcases hw with e' | e'
    · rw [← e', e]
    · rw [e'] at e
      have : w8.heap.size = b := by injection e
      omega
  have hkeep : ∀ b, b < w8.heap.size → ¬ (F b ∨ u.ownBlock = some b ∨ d.ownBlock = some b) → w'.heap[b]? = w8.heap[b]? ∧ ¬ (F b ∨ u'.ownBlock = some b ∨ d.ownBlock = some b) := fun b hl hn =>
    ⟨hmo.block b hl fun h => hn (.inr (.inl h)), fun h => h.elim (fun h => hn (.inl h)) fun h => h.elim (fun h => hn (.inr (.inl (hu' b hl h)))) fun h => hn (.inr (.inr h))⟩
  refine ⟨F, h1.aside hmo (fun k hk e => (h4 k e).1 hk) (fun k e => (h2.lt k e).1), ho, h3.grown hmo fun g hg e => (h4 g e).2 hg, fun g hgo => ?_, h5, (h6.snoc hm hxF).to hmo.size hkeep, h7.to hmo.size hkeep⟩
  by_cases hl : g < w8.heap.size
  · exact h4 g (hu' g hl hgo)
  · exact ⟨fun hf => hl (h1.low g hf).2, fun e => hl (h3.lt g e).2⟩
theorem KnUD.own (h : KnUD w0 w kb n p st u d us ds U D) : SOwn w w0.heap.size u us := by
  obtain ⟨F, h1, h2, -⟩ := h
  exact h2
/-- A box is told: a row in a block made since. -/
theorem KnUD.told (h : KnUD w0 w kb n p st u d us ds U D) (q : Int) (b : Bool) : Calls Tryd.prog 19 #[.pointer (some ⟨kb, 0, none⟩), .int .i64 q, .bool b] w fun e w' =>
    ∃ a N c, e = .returned (.slice a N c) ∧ Below w.heap.size w w' ∧ Msgs w' a N c (boxK n st (q, dirOf b)) ∧ ∀ g o, 0 < N → a = some ⟨g, o, none⟩ → w.heap.size ≤ g ∧ g < w'.heap.size := by
  obtain ⟨F, h1, -⟩ := h
  refine (Box_kn h1 q b).mono ?_
  rintro e w' ⟨v, rfl, hv, hb⟩
  obtain ⟨a, N, c, rfl, hms, hbl⟩ := hv.msgs
  exact ⟨a, N, c, rfl, hb, hms, fun g o _ e => hbl g o e⟩
theorem KnUD.len (h : KnUD w0 w kb n p st u d us ds U D) : ∃ a c, u = .slice a us.length c ∧ us.length = U.length := by
  obtain ⟨F, h1, h2, h3, h4, h5, h6, h7⟩ := h
  obtain ⟨a, c, e⟩ := h2.shape
  exact ⟨a, c, e, h6.1⟩
/-- What stands at a place of the first row. -/
theorem KnUD.at (h : KnUD w0 w kb n p st u d us ds U D) {i : Nat} {l : List Msg} (hi : U[i]? = some l) : ∃ b o c s, u = .slice (some ⟨b, o, none⟩) us.length c ∧ us[i]? = some s ∧ w.cell? ⟨b, o + i, none⟩ = some (.slice s.1 s.2.1 s.2.2) ∧ Msgs w s.1 s.2.1 s.2.2 l := by
  obtain ⟨F, h1, h2, h3, h4, h5, h6, h7⟩ := h
  have hl : i < us.length := by rw [h6.1]; exact (List.getElem?_eq_some_iff.1 hi).1
  obtain ⟨a, c, e, hr, -⟩ := h2.recs
  obtain ⟨b, o, rfl⟩ := hr.addr (by omega)
  refine ⟨b, o, c, us[i], e, List.getElem?_eq_getElem hl, ?_, (h6.2 i _ l (List.getElem?_eq_getElem hl) hi).1⟩
  have := hr.at hl 0 _ rfl
  rw [show slcF.m = 1 from rfl, Nat.mul_one, Nat.add_zero] at this
  exact this
/-- Two empty rows are made. -/
theorem KnL.rows {L : List (Nat × Obj)} (h : KnL w0 w kb n p st L) : KnUD w0 ((w.alloc (.cells #[] 44)).alloc (.cells #[] 44)) kb n p st (.slice (some ⟨w.heap.size, 0, none⟩) 0 0) (.slice (some ⟨w.heap.size + 1, 0, none⟩) 0 0) [] [] [] [] := by
  have hb1 : Below w.heap.size w (w.alloc (.cells #[] 44)) := (Below.refl _ _).alloc (Nat.le_refl _) _
  have hs : (w.alloc (.cells #[] 44)).heap.size = w.heap.size + 1 := World.size_alloc _ _
  have hb2 : Below (w.alloc (.cells #[] 44)).heap.size (w.alloc (.cells #[] 44)) ((w.alloc (.cells #[] 44)).alloc (.cells #[] 44)) := (Below.refl _ _).alloc (Nat.le_refl _) _
  have hbel := h.bel
  obtain ⟨F, h1, h2⟩ := h
  have o1 : SOwn (w.alloc (.cells #[] 44)) w0.heap.size (.slice (some ⟨w.heap.size, 0, none⟩) 0 0) [] := (ROwn.made (F := slcF) (E := 44) w).mono hbel.size
  have o2 : SOwn ((w.alloc (.cells #[] 44)).alloc (.cells #[] 44)) w0.heap.size (.slice (some ⟨w.heap.size + 1, 0, none⟩) 0 0) [] := by
    have := (ROwn.made (F := slcF) (E := 44) (w.alloc (.cells #[] 44))).mono (B' := w0.heap.size) (by rw [hs]; have := hbel.size; omega)
    rw [hs] at this
    exact this
  refine ⟨F, (h1.step hb1).step hb2, o1.below hb2, o2, fun g hg => ?_, fun g hg hf => ?_, Keeps.nil _ _, Keeps.nil _ _⟩
  · have e : w.heap.size = g := by injection hg
    refine ⟨fun hf => by have := (h1.low _ hf).2; omega, fun e' => ?_⟩
    have : w.heap.size + 1 = g := by injection e'
    omega
  · have e : w.heap.size + 1 = g := by injection hg
    have := (h1.low _ hf).2
    omega
/-- .. and further messages that were told. -/
def KnUK (w0 w : World) (kb n : Nat) (p : Pl) (st : Sta) (u d : Value) (us ds : List Slc) (U D : List (List Msg)) (K : List (Slc × List Msg)) : Prop :=
  ∃ F, Kn w0 w kb F n p st ∧ SOwn w w0.heap.size u us ∧ SOwn w w0.heap.size d ds ∧ (∀ g, u.ownBlock = some g → ¬ F g ∧ d.ownBlock ≠ some g) ∧ (∀ g, d.ownBlock = some g → ¬ F g) ∧
    Keeps w (fun k => F k ∨ u.ownBlock = some k ∨ d.ownBlock = some k) us U ∧ Keeps w (fun k => F k ∨ u.ownBlock = some k ∨ d.ownBlock = some k) ds D ∧
    ∀ x ∈ K, Msgs w x.1.1 x.1.2.1 x.1.2.2 x.2 ∧ ∀ b o, 0 < x.1.2.1 → x.1.1 = some ⟨b, o, none⟩ → b < w.heap.size ∧ ¬ F b
variable {K : List (Slc × List Msg)}
theorem KnUD.uk (h : KnUD w0 w kb n p st u d us ds U D) : KnUK w0 w kb n p st u d us ds U D [] := by
  obtain ⟨F, h1, h2, h3, h4, h5, h6, h7⟩ := h
  exact ⟨F, h1, h2, h3, h4, h5, h6, h7, fun x hx => by cases hx⟩
theorem KnUK.ud (h : KnUK w0 w kb n p st u d us ds U D K) : KnUD w0 w kb n p st u d us ds U D := by
  obtain ⟨F, h1, h2, h3, h4, h5, h6, h7, -⟩ := h
  exact ⟨F, h1, h2, h3, h4, h5, h6, h7⟩
theorem KnUK.msgs (h : KnUK w0 w kb n p st u d us ds U D K) {a : Option Addr} {N c : Nat} {l : List Msg} (hx : ((a, N, c), l) ∈ K) : Msgs w a N c l := by
  obtain ⟨F, h1, h2, h3, h4, h5, h6, h7, h8⟩ := h
  exact (h8 _ hx).1
theorem KnUK.step (h : KnUK w0 w kb n p st u d us ds U D K) (hb : Below w.heap.size w w') : KnUK w0 w' kb n p st u d us ds U D K := by
  obtain ⟨F, h1, h2, h3, h4, h5, h6, h7, h8⟩ := h
  exact ⟨F, h1.step hb, h2.below hb, h3.below hb, h4, h5, h6.to hb.size fun b hl hn => ⟨hb.block b hl, hn⟩, h7.to hb.size fun b hl hn => ⟨hb.block b hl, hn⟩,
    fun x hx => ⟨(h8 x hx).1.keep hb, fun b o hn e => ⟨Nat.lt_of_lt_of_le ((h8 x hx).2 b o hn e).1 hb.size, ((h8 x hx).2 b o hn e).2⟩⟩⟩
theorem KnUK.call (h : KnUK w0 w kb n p st u d us ds U D K) (hc : ∀ F, Kn w0 w kb F n p st → Calls Tryd.prog f args w fun e w' => P e ∧ Kn w0 w' kb (grownF F w w') n p st' ∧ Mod F w w') :
    Calls Tryd.prog f args w fun e w' => P e ∧ KnUK w0 w' kb n p st' u d us ds U D K := by
  obtain ⟨F, h1, h2, h3, h4, h5, h6, h7, h8⟩ := h
  refine (hc F h1).mono ?_
  rintro e w' ⟨hp, hk, hm⟩
  have hv : ∀ k, k < w.heap.size → ¬ F k → ¬ grownF F w w' k := by
    rintro k hl hf (hk | hk)
    · exact hf hk
    · omega
  have hkeep : ∀ b, b < w.heap.size → ¬ (F b ∨ u.ownBlock = some b ∨ d.ownBlock = some b) → w'.heap[b]? = w.heap[b]? ∧ ¬ (grownF F w w' b ∨ u.ownBlock = some b ∨ d.ownBlock = some b) := fun b hl hn =>
    ⟨hm.block b hl fun h => hn (.inl h), fun h => h.elim (fun h => hv b hl (fun h => hn (.inl h)) h) fun h => hn (.inr h)⟩
  exact ⟨hp, _, hk, h2.grown hm fun g hg => (h4 g hg).1, h3.grown hm fun g hg => h5 g hg, fun g hg => ⟨hv g (h2.lt g hg).2 (h4 g hg).1, (h4 g hg).2⟩, fun g hg => hv g (h3.lt g hg).2 (h5 g hg), h6.to hm.size hkeep, h7.to hm.size hkeep,
    fun x hx => ⟨(h8 x hx).1.keepPos fun b o hn e hl => hm.block b hl ((h8 x hx).2 b o hn e).2, fun b o hn e => ⟨Nat.lt_of_lt_of_le ((h8 x hx).2 b o hn e).1 hm.size, hv b ((h8 x hx).2 b o hn e).1 ((h8 x hx).2 b o hn e).2⟩⟩⟩
/-- A box is told. -/
theorem KnUK.box (h : KnUK w0 w kb n p st u d us ds U D K) (q : Int) (b : Bool) : Calls Tryd.prog 19 #[.pointer (some ⟨kb, 0, none⟩), .int .i64 q, .bool b] w fun e w' =>
    ∃ a c, e = .returned (.slice a (boxK n st (q, dirOf b)).length c) ∧ KnUK w0 w' kb n p st u d us ds U D (((a, (boxK n st (q, dirOf b)).length, c), boxK n st (q, dirOf b)) :: K) := by
  have hk := h
  obtain ⟨F, h1, -⟩ := hk
  refine (Box_kn h1 q b).mono ?_
  rintro e w' ⟨v, rfl, hv, hb⟩
  obtain ⟨a, N, c, rfl, hms, hbl⟩ := hv.msgs
  have hl := hms.len
  subst hl
  obtain ⟨F, h1, h2, h3, h4, h5, h6, h7, h8⟩ := h.step hb
  refine ⟨a, c, rfl, ?_⟩
  obtain ⟨F', h1', h2', h3', h4', h5', h6', h7', h8'⟩ := h
  refine ⟨F', h1'.step hb, h2'.below hb, h3'.below hb, h4', h5', h6'.to hb.size fun b hl hn => ⟨hb.block b hl, hn⟩, h7'.to hb.size fun b hl hn => ⟨hb.block b hl, hn⟩, fun x hx => ?_⟩
  rcases List.mem_cons.1 hx with rfl | hx
  · exact ⟨hms, fun b' o hn e => ⟨(hbl b' o e).2, fun hf => by have := (hbl b' o e).1; have := (h1'.low _ hf).2; omega⟩⟩
  · exact ⟨(h8' x hx).1.keep hb, fun b o hn e => ⟨Nat.lt_of_lt_of_le ((h8' x hx).2 b o hn e).1 hb.size, ((h8' x hx).2 b o hn e).2⟩⟩
/-- What stands at a place of the first row, of the second row. -/
theorem KnUK.at (h : KnUK w0 w kb n p st u d us ds U D K) {i : Nat} {l : List Msg} (hi : U[i]? = some l) : ∃ b o c s, u = .slice (some ⟨b, o, none⟩) us.length c ∧ us[i]? = some s ∧ w.cell? ⟨b, o + i, none⟩ = some (.slice s.1 s.2.1 s.2.2) ∧ Msgs w s.1 s.2.1 s.2.2 l := h.ud.at hi
theorem KnUK.at2 (h : KnUK w0 w kb n p st u d us ds U D K) {i : Nat} {l : List Msg} (hi : D[i]? = some l) : ∃ b o c s, d = .slice (some ⟨b, o, none⟩) ds.length c ∧ ds[i]? = some s ∧ w.cell? ⟨b, o + i, none⟩ = some (.slice s.1 s.2.1 s.2.2) ∧ Msgs w s.1 s.2.1 s.2.2 l := h.ud.swap.at hi
theorem KnUK.lens (h : KnUK w0 w kb n p st u d us ds U D K) : us.length = U.length ∧ ds.length = D.length := by
  obtain ⟨F, h1, h2, h3, h4, h5, h6, h7, h8⟩ := h
  exact ⟨h6.1, h7.1⟩
end
end Go.Proofs.YtclgakdfeeefiaaDoor
