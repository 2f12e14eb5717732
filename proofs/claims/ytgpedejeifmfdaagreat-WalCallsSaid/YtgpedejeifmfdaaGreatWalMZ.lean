/- Merged by merge.py out of: WalE, WalF, WalG, WalI, WalJ, RcO. -/
import Derived.Test.YtgpedejeifmfdaaGreatWalMD
import Derived.Test.YtgpedejeifmfdaaGreatRecJ
import Derived.Laws.IdiomArrays
/- The log within a law: fits, write, Append, Force, Checkpoint, Sectors. -/
namespace Go.Proofs.YtgpedejeifmfdaaGreat
open Go.RowKit Go.Sort

/-- A log on a device, within a law: the device's blocks are those of F, the log's own is lb. -/
structure Wl (w0 w : World) (lb b : Nat) (F : Nat → Prop) (s : State) (l : Lg) : Prop where
  dev : Dev w0 w b F s
  log : LogAt w lb b l
  off : ¬ F lb
  lo : w0.heap.size ≤ lb
  n1 : 1 ≤ l.next
  nb : l.next ≤ 4294967296
  fb : l.first < 4294967296
  sb : l.sure ≤ 4294967296
section
variable {w0 w w' : World} {lb b : Nat} {F : Nat → Prop} {s : State} {l : Lg}
theorem Wl.step (h : Wl w0 w lb b F s l) (hb : Below w.heap.size w w') : Wl w0 w' lb b F s l := ⟨h.dev.step hb, h.log.step hb, h.off, h.lo, h.n1, h.nb, h.fb, h.sb⟩
theorem Wl.lt (h : Wl w0 w lb b F s l) : lb < w.heap.size := (Array.getElem?_eq_some_iff.1 h.log).1
/-- What another thing does. -/
theorem Wl.aside {G : Nat → Prop} (h : Wl w0 w lb b F s l) (hm : Mod G w w') (ha : ∀ k, F k ∨ k = lb → ¬ G k) (hG : ∀ k, G k → w0.heap.size ≤ k) : Wl w0 w' lb b F s l :=
  ⟨h.dev.aside hm (fun k hk => ha k (.inl hk)) hG, h.log.keep (hm.block lb h.lt (ha lb (.inr rfl))), h.off, h.lo, h.n1, h.nb, h.fb, h.sb⟩
def layS (s : State) (X : List Sc) : State := (s.1, layC s.1 s.2 X)
theorem Wl.out {gs gm : Nat} {cv cv' : Value} {C' : List (Int × List Int)} {l' : Lg} (h : Wl w0 w lb b F s l) (hf : ∀ k, foot b gs gm cv k → F k) (hd' : DiskAt w' w0.heap.size b gs gm cv' s.1 C') (hl' : LogAt w' lb b l')
    (hm : Mod (fun k => foot b gs gm cv k ∨ k = lb) w w') (ho : ∀ g, cv'.ownBlock = some g → cv.ownBlock = some g ∨ w.heap.size ≤ g) (h1 : 1 ≤ l'.next) (h2 : l'.next ≤ 4294967296) (h3 : l'.first < 4294967296) (h4 : l'.sure ≤ 4294967296) :
    Wl w0 w' lb b (grownF F w w') (s.1, C') l' ∧ Mod (fun k => F k ∨ k = lb) w w' := by
  have hm' : Mod (fun k => F k ∨ k = lb) w w' := hm.mono fun x hx => hx.imp (hf x) id
  have hlt := h.lt
  refine ⟨⟨⟨⟨gs, gm, cv', hd', ?_⟩, ?_, hm'.below h.dev.bel h.dev.bel.size fun x hx => hx.elim (fun hx => (h.dev.low x hx).1) (fun hx => by rw [hx]; exact h.lo)⟩, hl', ?_, h.lo, h1, h2, h3, h4⟩, hm'⟩
  · rintro k (rfl | rfl | rfl | hk)
    · exact .inl (hf _ (.inl rfl))
    · exact .inl (hf _ (.inr (.inl rfl)))
    · exact .inl (hf _ (.inr (.inr (.inl rfl))))
    · rcases ho k hk with h1 | h1
      · exact .inl (hf _ (.inr (.inr (.inr h1))))
      · exact .inr ⟨h1, (hd'.lt k (.inr (.inr (.inr hk)))).2⟩
  · rintro k (hk | hk)
    · exact ⟨(h.dev.low k hk).1, Nat.lt_of_lt_of_le (h.dev.low k hk).2 hm'.size⟩
    · exact ⟨Nat.le_trans h.dev.bel.size hk.1, hk.2⟩
  · rintro (hk | hk)
    · exact h.off hk
    · omega
theorem write_wl (h : Wl w0 w lb b F s l) {a : Option Addr} {n c : Nat} {bs : List Int} (hi : Ints w .u8 a n c bs) (hn : n ≤ 900000) (hC : s.2.length + needZ bs ≤ 1000000) (hda : ∀ x o, a = some ⟨x, o, none⟩ → ¬ F x ∧ x ≠ lb) (h2 : l.next + needZ bs ≤ 4294967296) :
    Calls Tryz.prog 40 #[.pointer (some ⟨lb, 0, none⟩), .slice a n c] w fun e w' => e = .returned (.tuple #[]) ∧ Wl w0 w' lb b (grownF F w w') (layS s (chunks l.next l.first bs)) ⟨l.next + needZ bs, l.first, l.sure⟩ ∧ Mod (fun k => F k ∨ k = lb) w w' := by
  obtain ⟨gs, gm, cv, hd, hf⟩ := h.dev.dev
  have hK : needZ bs = (n + 15) / 16 := by unfold needZ; rw [hi.len]
  refine (write_calls hd h.log (fun hx => h.off (hf _ hx)) hi hn hK hC (fun x o e => ⟨fun hx => (hda x o e).1 (hf x hx), (hda x o e).2⟩) h.n1 h2 h.fb).mono ?_
  rintro e w' ⟨rfl, cv', hd', hl', hm, ho⟩
  exact ⟨rfl, h.out hf hd' hl' hm ho (by have := h.n1; simp only; omega) h2 h.fb h.sb⟩
theorem lay_wl (h : Wl w0 w lb b F s l) {a : Option Addr} {n c : Nat} {data : List Int} {bg : Bool} (hi : Ints w .u8 a n c data) (hn : n ≤ 16) (hC : s.2.length ≤ 1000000) (h2 : l.next < 4294967296) :
    Calls Tryz.prog 46 #[.pointer (some ⟨lb, 0, none⟩), .slice a n c, .bool bg] w fun e w' => e = .returned (.tuple #[]) ∧ Wl w0 w' lb b (grownF F w w') (layS s [⟨l.next, l.first, bg, data⟩]) ⟨l.next + 1, l.first, l.sure⟩ ∧ Mod (fun k => F k ∨ k = lb) w w' := by
  obtain ⟨gs, gm, cv, hd, hf⟩ := h.dev.dev
  refine (lay_calls hd h.log (fun hx => h.off (hf _ hx)) hC hi hn h.n1 h2 h.fb).mono ?_
  rintro e w' ⟨cv', rfl, hd', hl', hm, ho⟩
  exact ⟨rfl, h.out hf hd' hl' hm ho (by simp only; omega) (by simp only; omega) h.fb h.sb⟩
/-- The error of so many sectors more. -/
def fitE (N : Nat) (l : Lg) (list : List Rc) (more : Nat) (spare : Int) : Int :=
  if rightAll list = true then
    if spare < 0 then 11 else if (N : Int) - (l.next : Int) + (l.sure : Int) - ((needZ (encs list) + more : Nat) : Int) < spare ∨ (l.next : Int) > 4294967296 - ((needZ (encs list) + more : Nat) : Int) then 15 else 0
  else 10
set_option maxHeartbeats 4000000 in
theorem fits_calls (h : Wl w0 w lb b F s l) {a : Option Addr} {L c : Nat} {list : List Rc} (hx : Recs rcF w a L c list) (hok : ∀ r ∈ list, r.ok) (hL : L ≤ 1000) {more : Nat} (hm : more ≤ 1) {spare : Int} (hsp : -9223372036854775808 ≤ spare ∧ spare ≤ 9223372036854775807) :
    Calls Tryz.prog 39 #[.pointer (some ⟨lb, 0, none⟩), .slice a L c, .int .i64 (more : Nat), .int .i64 spare] w fun e w' => ∃ v, e = .returned (.tuple #[v, .int .i64 (fitE s.1.length l list more spare)]) ∧ (fitE s.1.length l list more spare = 0 → Own w' w.heap.size 5 .u8 v (encs list)) ∧ Below w.heap.size w w' := by
  have hlen := hx.len
  have henl := encs_len list
  rw [hlen] at henl
  obtain ⟨N, hN⟩ : ∃ N, N = s.1.length := ⟨_, rfl⟩
  rw [← hN]
  have hNp := h.dev.len
  rw [← hN] at hNp
  obtain ⟨hNp1, hNp2⟩ := hNp
  obtain ⟨E, hE⟩ : ∃ E, E = fitE N l list more spare := ⟨_, rfl⟩
  rw [← hE]
  have hjo := Join_calls hx hok (by omega)
  obtain ⟨Z, hZ⟩ : ∃ Z, Z = (if rightAll list = true then encs list else []) := ⟨_, rfl⟩
  rw [← hZ] at hjo
  obtain ⟨ZL, hZL⟩ : ∃ n, n = Z.length := ⟨_, rfl⟩
  have hZL9 : ZL ≤ 10000000 := by
    rw [hZL, hZ]; split
    · omega
    · simp
  unfold fitE at hE
  obtain ⟨R, hR⟩ : ∃ R, R = rightAll list := ⟨_, rfl⟩
  rw [← hR] at hjo hE hZ
  obtain ⟨KZ, hKZ⟩ : ∃ K : Nat, K = (ZL + 15) / 16 := ⟨_, rfl⟩
  have hKb : KZ ≤ 2000 := by
    have : ZL ≤ 24000 := by
      rw [hZL, hZ]; split
      · omega
      · simp
    omega
  have hnb : l.next ≤ 4294967297 := by have := h.nb; omega
  have hsb : l.sure ≤ 4294967297 := by have := h.sb; omega
  have hn1 := h.n1
  obtain ⟨hs1, hs2⟩ := hsp
  have HW := Lib.hid h; clear h
  have Hjo := Lib.hid hjo; clear hjo
  have HN := Lib.hid hN; clear hN
  have HZL := Lib.hid hZL.symm
  have HKZ := Lib.hid (congrArg (fun k : Nat => Value.int .i64 (k : Int)) hKZ.symm)
  have hsum : (KZ : Int) + (more : Int) = ((KZ + more : Nat) : Int) := by omega
  obtain ⟨KM, hKM⟩ : ∃ K, K = KZ + more := ⟨_, rfl⟩
  rw [← hKM] at hsum
  cases R with
  | false =>
    rw [if_neg (by decide)] at hE
    have HE := Lib.hid hE; clear hE
    clear hR hZ hKZ hZL hKM hx hlen henl
    go_enter Tryz.func39, Tryz.ntmps39
    go_wp2_with fail
    refine Hjo.out.mono ?_
    rintro e w2 ⟨v2, rfl, o2, b2⟩
    obtain ⟨a2, c2, rfl, i2, -⟩ := own_len o2 HZL.out
    have B2 := Lib.hid b2; clear b2
    have O2 := Lib.hid o2; clear o2
    clear Hjo
    go_wp2_with fail
    refine (need_calls (w := w2) (a := a2) (c := c2) hZL9).mono ?_
    rintro e w3 ⟨rfl, hw3⟩
    obtain rfl := hw3.symm
    rw [HKZ.out]
    go_wp2
    go_ret2
    exact ⟨.slice none 0 0, by rw [HE.out]; rfl, fun h => absurd h (by rw [HE.out]; decide), B2.out⟩
  | true =>
    rw [if_pos rfl] at hE
    rw [if_pos rfl] at hZ
    have HR2 := Lib.hid hZ
    have hKZ2 : needZ (encs list) + more = KM := by rw [hKM, hKZ, hZL, hZ]; rfl
    rw [hKZ2] at hE
    clear hZ hKZ hZL hKZ2 hR hx hlen henl
    by_cases hsn : spare < 0
    · have d0 : decide (spare < 0) = true := decide_eq_true hsn
      rw [if_pos hsn] at hE
      have HE := Lib.hid hE; clear hE
      clear hKM
      go_enter Tryz.func39, Tryz.ntmps39
      go_wp2_with fail
      refine Hjo.out.mono ?_
      rintro e w2 ⟨v2, rfl, o2, b2⟩
      obtain ⟨a2, c2, rfl, i2, -⟩ := own_len o2 HZL.out
      have B2 := Lib.hid b2; clear b2
      have O2 := Lib.hid o2; clear o2
      clear Hjo
      go_wp2_with fail
      refine (need_calls (w := w2) (a := a2) (c := c2) hZL9).mono ?_
      rintro e w3 ⟨rfl, hw3⟩
      obtain rfl := hw3.symm
      rw [HKZ.out]
      go_wp2
      go_ret2
      exact ⟨.slice none 0 0, by rw [HE.out]; rfl, fun h => absurd h (by rw [HE.out]; decide), B2.out⟩
    have d0 : decide (spare < 0) = false := decide_eq_false hsn
    rw [if_neg hsn] at hE
    obtain ⟨FR, hFR⟩ : ∃ F : Int, F = (N : Int) - (l.next : Int) + (l.sure : Int) := ⟨_, rfl⟩
    rw [← hFR] at hE
    have hFb : -5000000000 ≤ FR ∧ FR ≤ 5000000000 := by omega
    obtain ⟨hFb1, hFb2⟩ := hFb
    have HFR := Lib.hid hFR.symm; clear hFR
    have hKMb : KM ≤ 2001 := by omega
    clear hKM
    by_cases hf1 : FR - (KM : Int) < spare
    · have d1 : decide (FR - (KM : Int) < spare) = true := decide_eq_true hf1
      rw [if_pos (.inl hf1)] at hE
      have HE := Lib.hid hE; clear hE
      go_enter Tryz.func39, Tryz.ntmps39
      go_wp2_with fail
      refine Hjo.out.mono ?_
      rintro e w2 ⟨v2, rfl, o2, b2⟩
      obtain ⟨a2, c2, rfl, i2, -⟩ := own_len o2 HZL.out
      have B2 := Lib.hid b2; clear b2
      have O2 := Lib.hid o2; clear o2
      clear Hjo
      go_wp2_with fail
      refine (need_calls (w := w2) (a := a2) (c := c2) hZL9).mono ?_
      rintro e w3 ⟨rfl, hw3⟩
      obtain rfl := hw3.symm
      rw [HKZ.out]
      have h2 := (HW.out.dev.step B2.out)
      have l2 := (HW.out.log.step B2.out)
      have hfr := Free_calls h2 l2 hnb hsb
      rw [← HN.out, HFR.out] at hfr
      have c1 := cells_at l2 1
      simp only [Lg.cells] at c1
      have Hfr := Lib.hid hfr; clear hfr h2 l2
      go_wp2_with fail
      refine Hfr.out.mono ?_
      rintro e w4 ⟨rfl, b4⟩
      have b24 := B2.out.trans (b4.mono B2.out.size)
      have o4 := O2.out.below b4
      have c1 := (b4.cell (World.block_lt_of_cell? _ _ c1)).trans c1
      clear Hfr B2 O2 b4
      have B4 := Lib.hid b24; clear b24
      have O4 := Lib.hid o4; clear o4
      go_wp2
      go_ret2
      exact ⟨.slice none 0 0, by rw [HE.out]; rfl, fun h => absurd h (by rw [HE.out]; decide), B4.out⟩
    have d1 : decide (FR - (KM : Int) < spare) = false := decide_eq_false hf1
    by_cases hf2 : (l.next : Int) > 4294967296 - (KM : Int)
    · have d2 : decide ((l.next : Int) > 4294967296 - (KM : Int)) = true := decide_eq_true hf2
      have d2' : decide (4294967296 - (KM : Int) < (l.next : Int)) = true := decide_eq_true hf2
      rw [if_pos (.inr hf2)] at hE
      have HE := Lib.hid hE; clear hE
      go_enter Tryz.func39, Tryz.ntmps39
      go_wp2_with fail
      refine Hjo.out.mono ?_
      rintro e w2 ⟨v2, rfl, o2, b2⟩
      obtain ⟨a2, c2, rfl, i2, -⟩ := own_len o2 HZL.out
      have B2 := Lib.hid b2; clear b2
      have O2 := Lib.hid o2; clear o2
      clear Hjo
      go_wp2_with fail
      refine (need_calls (w := w2) (a := a2) (c := c2) hZL9).mono ?_
      rintro e w3 ⟨rfl, hw3⟩
      obtain rfl := hw3.symm
      rw [HKZ.out]
      have h2 := (HW.out.dev.step B2.out)
      have l2 := (HW.out.log.step B2.out)
      have hfr := Free_calls h2 l2 hnb hsb
      rw [← HN.out, HFR.out] at hfr
      have c1 := cells_at l2 1
      simp only [Lg.cells] at c1
      have Hfr := Lib.hid hfr; clear hfr h2 l2
      go_wp2_with fail
      refine Hfr.out.mono ?_
      rintro e w4 ⟨rfl, b4⟩
      have b24 := B2.out.trans (b4.mono B2.out.size)
      have o4 := O2.out.below b4
      have c1 := (b4.cell (World.block_lt_of_cell? _ _ c1)).trans c1
      clear Hfr B2 O2 b4
      have B4 := Lib.hid b24; clear b24
      have O4 := Lib.hid o4; clear o4
      go_wp2
      go_ret2
      exact ⟨.slice none 0 0, by rw [HE.out]; rfl, fun h => absurd h (by rw [HE.out]; decide), B4.out⟩
    have d2 : decide ((l.next : Int) > 4294967296 - (KM : Int)) = false := decide_eq_false hf2
    have d2' : decide (4294967296 - (KM : Int) < (l.next : Int)) = false := decide_eq_false hf2
    rw [if_neg (by rintro (h | h); exact hf1 h; exact hf2 h)] at hE
    have HE := Lib.hid hE; clear hE
    go_enter Tryz.func39, Tryz.ntmps39
    go_wp2_with fail
    refine Hjo.out.mono ?_
    rintro e w2 ⟨v2, rfl, o2, b2⟩
    obtain ⟨a2, c2, rfl, i2, -⟩ := own_len o2 HZL.out
    have B2 := Lib.hid b2; clear b2
    have O2 := Lib.hid o2; clear o2
    clear Hjo
    go_wp2_with fail
    refine (need_calls (w := w2) (a := a2) (c := c2) hZL9).mono ?_
    rintro e w3 ⟨rfl, hw3⟩
    obtain rfl := hw3.symm
    rw [HKZ.out]
    have h2 := (HW.out.dev.step B2.out)
    have l2 := (HW.out.log.step B2.out)
    have hfr := Free_calls h2 l2 hnb hsb
    rw [← HN.out, HFR.out] at hfr
    have c1 := cells_at l2 1
    simp only [Lg.cells] at c1
    have Hfr := Lib.hid hfr; clear hfr h2 l2
    go_wp2_with fail
    refine Hfr.out.mono ?_
    rintro e w4 ⟨rfl, b4⟩
    have b24 := B2.out.trans (b4.mono B2.out.size)
    have o4 := O2.out.below b4
    have c1 := (b4.cell (World.block_lt_of_cell? _ _ c1)).trans c1
    clear Hfr B2 O2 b4
    have B4 := Lib.hid b24; clear b24
    have O4 := Lib.hid o4; clear o4
    go_wp2
    go_ret2
    exact ⟨.slice a2 ZL c2, by rw [HE.out]; rfl, fun _ => by have := O4.out; rw [HR2.out] at this; exact this, B4.out⟩
end
end Go.Proofs.YtgpedejeifmfdaaGreat
/- The log within a law: Append, Force, Checkpoint, Sectors. -/
namespace Go.Proofs.YtgpedejeifmfdaaGreat
open Go.RowKit Go.Sort

section
variable {w0 w w' w2 : World} {lb b : Nat} {F : Nat → Prop} {s : State} {l l' : Lg}
theorem Wl.regrow {G : Nat → Prop} (h : Wl w0 w' lb b G s l) (hG : ∀ k, G k → grownF F w w' k) (hoff : ¬ F lb) (hlt : lb < w.heap.size) (hlow : ∀ k, F k → w0.heap.size ≤ k ∧ k < w.heap.size) (hww : w0.heap.size ≤ w.heap.size) (hsz : w.heap.size ≤ w'.heap.size) : Wl w0 w' lb b (grownF F w w') s l :=
  ⟨h.dev.wide hG (by
    rintro k (hk | hk)
    · exact ⟨(hlow k hk).1, Nat.lt_of_lt_of_le (hlow k hk).2 hsz⟩
    · exact ⟨Nat.le_trans hww hk.1, hk.2⟩), h.log, by
    rintro (hk | hk)
    · exact hoff hk
    · omega, h.lo, h.n1, h.nb, h.fb, h.sb⟩
theorem Wl.put (h : Wl w0 w lb b F s l) (hg : w.grownBy w' (some lb)) (hl : LogAt w' lb b l') (h1 : 1 ≤ l'.next) (h2 : l'.next ≤ 4294967296) (h3 : l'.first < 4294967296) (h4 : l'.sure ≤ 4294967296) : Wl w0 w' lb b F s l' ∧ Mod (fun k => F k ∨ k = lb) w w' := by
  have hm : Mod (fun k => k = lb) w w' := Mod.of_grown hg fun k e => by injection e with e; exact e.symm
  exact ⟨⟨h.dev.aside hm (fun k hk e => h.off (by rw [← e]; exact hk)) (fun k e => by rw [e]; exact h.lo), hl, h.off, h.lo, h1, h2, h3, h4⟩, hm.mono fun x hx => .inr hx⟩
/-- What Append leaves. -/
def appS (s : State) (l : Lg) (list : List Rc) (spare : Int) : State × Lg :=
  if fitE s.1.length l list 0 spare = 0 then (layS s (chunks l.next l.first (encs list)), ⟨l.next + needZ (encs list), l.first, l.sure⟩) else (s, l)
/-- What Checkpoint leaves. -/
def ckS (s : State) (l : Lg) (list : List Rc) (spare : Int) : State × Lg :=
  if fitE s.1.length l list 1 spare = 0 then (layS (layS s (chunks l.next l.first (encs list))) [⟨l.next + needZ (encs list), l.next, true, []⟩], ⟨l.next + needZ (encs list) + 1, l.next, l.sure⟩) else (s, l)
theorem fit_zero {N : Nat} {list : List Rc} {more : Nat} {spare : Int} (h : fitE N l list more spare = 0) : rightAll list = true ∧ 0 ≤ spare ∧ spare ≤ (N : Int) - (l.next : Int) + (l.sure : Int) - ((needZ (encs list) + more : Nat) : Int) ∧ l.next + needZ (encs list) + more ≤ 4294967296 := by
  unfold fitE at h
  split at h
  · rename_i hr
    split at h
    · omega
    · split at h
      · omega
      · rename_i h1 h2
        refine ⟨hr, by omega, ?_, ?_⟩
        · exact Int.not_lt.1 fun h3 => h2 (.inl h3)
        · have : ¬ ((l.next : Int) > 4294967296 - ((needZ (encs list) + more : Nat) : Int)) := fun h3 => h2 (.inr h3)
          omega
  · omega
set_option maxHeartbeats 4000000 in
theorem Append_wl (h : Wl w0 w lb b F s l) {a : Option Addr} {L c : Nat} {list : List Rc} (hx : Recs rcF w a L c list) (hok : ∀ r ∈ list, r.ok) (hL : L ≤ 1000) (hC : s.2.length ≤ 990000) {spare : Int} (hsp : -9223372036854775808 ≤ spare ∧ spare ≤ 9223372036854775807) :
    Calls Tryz.prog 10 #[.pointer (some ⟨lb, 0, none⟩), .slice a L c, .int .i64 spare] w fun e w' => e = .returned (.int .i64 (fitE s.1.length l list 0 spare)) ∧ Wl w0 w' lb b (grownF F w w') (appS s l list spare).1 (appS s l list spare).2 ∧ Mod (fun k => F k ∨ k = lb) w w' := by
  have hfc := fits_calls h hx hok hL (more := 0) (by omega) hsp
  have hz := fit_zero (l := l) (N := s.1.length) (list := list) (more := 0) (spare := spare)
  have hel := encs_len list
  rw [hx.len] at hel
  unfold appS
  generalize fitE s.1.length l list 0 spare = E at *
  have hlt := h.lt
  have hoff := h.off
  have hlow := h.dev.low
  have hww := h.dev.bel.size
  by_cases hE : E = 0
  · subst hE
    rw [if_pos rfl]
    obtain ⟨-, -, -, hz4⟩ := hz rfl
    obtain ⟨SS, hSS⟩ : ∃ S, S = layS s (chunks l.next l.first (encs list)) := ⟨_, rfl⟩
    obtain ⟨LL, hLL⟩ : ∃ L : Lg, L = ⟨l.next + needZ (encs list), l.first, l.sure⟩ := ⟨_, rfl⟩
    simp only
    rw [← hSS, ← hLL]
    have hwr := fun (w2 : World) (h2 : Wl w0 w2 lb b F s l) (a : Option Addr) (n c : Nat) (hi : Ints w2 .u8 a n c (encs list)) (hd : ∀ x o, a = some ⟨x, o, none⟩ → ¬ F x ∧ x ≠ lb) => write_wl h2 hi (by have := hi.len; omega) (by unfold needZ; omega) hd (by omega)
    rw [← hSS, ← hLL] at hwr
    clear hSS hLL hz hx hok hel
    have Hwr := Lib.hid hwr; clear hwr
    have HW := Lib.hid h; clear h
    have Hfc := Lib.hid hfc; clear hfc
    have Hoff := Lib.hid hoff; clear hoff
    have Hlow := Lib.hid hlow; clear hlow
    go_enter Tryz.func10, Tryz.ntmps10
    go_wp2_with fail
    refine Hfc.out.mono ?_
    rintro e w2 ⟨v, rfl, hv, hb⟩
    have ho := hv (by first | trivial | rfl)
    obtain ⟨va, vn, vc, rfl, hi, hbl⟩ := ho.read
    have hd : ∀ x o, va = some ⟨x, o, none⟩ → ¬ F x ∧ x ≠ lb := fun x o e => ⟨fun hf => by have := (Hlow.out x hf).2; have := (hbl x o e).1; omega, by have := (hbl x o e).1; omega⟩
    have hwr := Hwr.out w2 (HW.out.step hb) va vn vc hi hd
    have hsz := hb.size
    have HB := Lib.hid hb; clear hb
    have Hw2 := Lib.hid hwr; clear hwr hv ho hi hbl hd Hfc Hwr HW
    go_wp2_with fail
    refine Hw2.out.mono ?_
    rintro e w3 ⟨rfl, h3, m3⟩
    have hg : Wl w0 w3 lb b (grownF F w w3) SS LL := h3.regrow (fun k hk => hk.imp id fun h => ⟨by omega, h.2⟩) Hoff.out hlt Hlow.out hww (Nat.le_trans hsz m3.size)
    have hm : Mod (fun k => F k ∨ k = lb) w w3 := (Mod.of_below (F := fun k => F k ∨ k = lb) HB.out).trans m3 (fun x h => h) (fun x _ h => h)
    clear h3 m3 Hw2 HB
    have HG := Lib.hid hg; clear hg
    have HM := Lib.hid hm; clear hm
    go_wp2
    go_ret
    exact ⟨rfl, HG.out, HM.out⟩
  · rw [if_neg hE]
    simp only
    clear hz hel hx hok
    have hd0 : (E == 0) = false := by simpa using hE
    have HW := Lib.hid h; clear h
    have Hfc := Lib.hid hfc; clear hfc
    have Hoff := Lib.hid hoff; clear hoff
    have Hlow := Lib.hid hlow; clear hlow
    go_enter Tryz.func10, Tryz.ntmps10
    go_wp2_with fail
    refine Hfc.out.mono ?_
    rintro e w2 ⟨v, rfl, -, hb⟩
    have hg : Wl w0 w2 lb b (grownF F w w2) s l := (HW.out.step hb).regrow (fun k hk => .inl hk) Hoff.out hlt Hlow.out hww hb.size
    have hm : Mod (fun k => F k ∨ k = lb) w w2 := Mod.of_below hb
    clear hb Hfc HW
    have HG := Lib.hid hg; clear hg
    have HM := Lib.hid hm; clear hm
    go_wp2
    go_ret
    exact ⟨rfl, HG.out, HM.out⟩
set_option maxHeartbeats 4000000 in
theorem Force_wl (h : Wl w0 w lb b F s l) :
    Calls Tryz.prog 12 #[.pointer (some ⟨lb, 0, none⟩)] w fun e w' => e = .returned (.tuple #[]) ∧ Wl w0 w' lb b F (settled s.1 s.2, []) ⟨l.next, l.first, l.first⟩ ∧ Mod (fun k => F k ∨ k = lb) w w' := by
  have hfl := Flush_dev h.dev
  have c0 := cells_at h.log 0
  simp only [Lg.cells] at c0
  have hlt := h.lt
  have HW := Lib.hid h; clear h
  have Hfl := Lib.hid hfl; clear hfl
  go_enter Tryz.func12, Tryz.ntmps12
  go_wp2_with fail
  refine Hfl.out.mono ?_
  rintro e w2 ⟨rfl, d2, m2⟩
  have l2 : w2.heap[lb]? = some (.cells (l.cells b) 70 (0, 0)) := HW.out.log.keep (m2.block lb hlt HW.out.off)
  have h2 : Wl w0 w2 lb b F (settled s.1 s.2, []) l := ⟨d2, l2, HW.out.off, HW.out.lo, HW.out.n1, HW.out.nb, HW.out.fb, HW.out.sb⟩
  have hfb := HW.out.fb
  clear d2 Hfl HW c0
  simp only [Lg.cells] at l2
  have c2 := cells_at l2 2
  have H2 := Lib.hid h2; clear h2
  have M2 := Lib.hid m2; clear m2
  have L2 := Lib.hid l2; clear l2
  go_wp2_with (with_reducible refine stop_store 3 ?_)
  refine unpark ?_
  refine wpList_store_at rfl _ _ _ rfl lb 3 rfl (.int .i64 (l.first : Nat)) rfl [.int .i64 (l.first : Nat)] rfl _ _ L2.out 1 rfl (by simp) (by simp [Value.oneCell']) sizeInt ?_
  intro w3 l3 g3 s3
  simp only [splice] at l3
  have hl3 : LogAt w3 lb b ⟨l.next, l.first, l.first⟩ := by
    unfold LogAt
    rw [l3]
    simp [Lg.cells]
  obtain ⟨h3, m3⟩ := H2.out.put g3 hl3 H2.out.n1 H2.out.nb hfb (by simp only; omega)
  have hm : Mod (fun k => F k ∨ k = lb) w w3 := M2.out.trans m3 (fun x h => .inl h) (fun x _ h => h)
  clear l3 g3 s3 hl3 m3 H2 M2 L2 c2
  have H3 := Lib.hid h3; clear h3
  have HM := Lib.hid hm; clear hm
  go_wp2
  go_end0
  exact ⟨rfl, H3.out, HM.out⟩
set_option maxHeartbeats 4000000 in
theorem Checkpoint_wl (h : Wl w0 w lb b F s l) {a : Option Addr} {L c : Nat} {list : List Rc} (hx : Recs rcF w a L c list) (hok : ∀ r ∈ list, r.ok) (hL : L ≤ 1000) (hC : s.2.length ≤ 990000) {spare : Int} (hsp : -9223372036854775808 ≤ spare ∧ spare ≤ 9223372036854775807) :
    Calls Tryz.prog 14 #[.pointer (some ⟨lb, 0, none⟩), .slice a L c, .int .i64 spare] w fun e w' => e = .returned (.int .i64 (fitE s.1.length l list 1 spare)) ∧ Wl w0 w' lb b (grownF F w w') (ckS s l list spare).1 (ckS s l list spare).2 ∧ Mod (fun k => F k ∨ k = lb) w w' := by
  have hfc := fits_calls h hx hok hL (more := 1) (by omega) hsp
  have hz := fit_zero (l := l) (N := s.1.length) (list := list) (more := 1) (spare := spare)
  have hel := encs_len list
  rw [hx.len] at hel
  unfold ckS
  generalize fitE s.1.length l list 1 spare = E at *
  have hlt := h.lt
  have hoff := h.off
  have hlow := h.dev.low
  have hww := h.dev.bel.size
  by_cases hE : E = 0
  · subst hE
    rw [if_pos rfl]
    obtain ⟨-, -, -, hz4⟩ := hz rfl
    obtain ⟨KZ, hKZ⟩ : ∃ K, K = needZ (encs list) := ⟨_, rfl⟩
    obtain ⟨S1, hS1⟩ : ∃ S, S = layS s (chunks l.next l.first (encs list)) := ⟨_, rfl⟩
    obtain ⟨S2, hS2⟩ : ∃ S, S = layS S1 [⟨l.next + KZ, l.next, true, []⟩] := ⟨_, rfl⟩
    simp only
    rw [← hS1, ← hKZ, ← hS2]
    have hS1l : S1.2.length ≤ 1000000 := by
      have hl : ∀ (X : List Sc) (C : List (Int × List Int)), (layC s.1 C X).length ≤ C.length + X.length := by
        intro X
        induction X with
        | nil => intro C; exact Nat.le_refl _
        | cons T X ih =>
          intro C
          have h1 := ih (written s.1 C (((T.num - 1) % s.1.length : Nat) : Int) (secZ T))
          have h2 := written_len s.1 C (((T.num - 1) % s.1.length : Nat) : Int) (secZ T)
          show (layC s.1 (written s.1 C _ _) X).length ≤ _
          rw [List.length_cons]
          omega
      have := hl (chunks l.next l.first (encs list)) s.2
      rw [chunks_len] at this
      rw [hS1]
      show (layC s.1 s.2 _).length ≤ _
      unfold needZ at this
      omega
    have hn1 := h.n1
    have hwr := fun (w2 : World) (h2 : Wl w0 w2 lb b F s l) (a : Option Addr) (n c : Nat) (hi : Ints w2 .u8 a n c (encs list)) (hd : ∀ x o, a = some ⟨x, o, none⟩ → ¬ F x ∧ x ≠ lb) => write_wl h2 hi (by have := hi.len; omega) (by unfold needZ; omega) hd (by omega)
    rw [← hS1, ← hKZ] at hwr
    have hla := fun (w4 : World) (G : Nat → Prop) (h4 : Wl w0 w4 lb b G S1 ⟨l.next + KZ, l.next, l.sure⟩) => lay_wl (bg := true) h4 (Ints.nil0 w4 .u8) (by omega) hS1l (by show l.next + KZ < 4294967296; omega)
    simp only at hla
    rw [← hS2] at hla
    have hz5 : l.next + KZ + 1 ≤ 4294967296 := by omega
    clear hS1 hS2 hKZ hz hx hok hel hz4 hS1l
    have c1 := fun (w2 : World) (h2 : Wl w0 w2 lb b F s l) => cells_at h2.log 1
    simp only [Lg.cells] at c1
    have Hwr := Lib.hid hwr; clear hwr
    have Hla := Lib.hid hla; clear hla
    have C1 := Lib.hid c1; clear c1
    have HW := Lib.hid h; clear h
    have Hfc := Lib.hid hfc; clear hfc
    have Hoff := Lib.hid hoff; clear hoff
    have Hlow := Lib.hid hlow; clear hlow
    go_enter Tryz.func14, Tryz.ntmps14
    go_wp2_with fail
    refine Hfc.out.mono ?_
    rintro e w2 ⟨v, rfl, hv, hb⟩
    have ho := hv (by first | trivial | rfl)
    obtain ⟨va, vn, vc, rfl, hi, hbl⟩ := ho.read
    have hd : ∀ x o, va = some ⟨x, o, none⟩ → ¬ F x ∧ x ≠ lb := fun x o e => ⟨fun hf => by have := (Hlow.out x hf).2; have := (hbl x o e).1; omega, by have := (hbl x o e).1; omega⟩
    have h2 := HW.out.step hb
    have hwr := Hwr.out w2 h2 va vn vc hi hd
    have y1 := C1.out w2 h2
    have hsz := hb.size
    have HB := Lib.hid hb; clear hb
    have Hw2 := Lib.hid hwr; clear hwr hv ho hi hbl hd Hfc Hwr HW h2 C1
    go_wp2_with fail
    refine Hw2.out.mono ?_
    rintro e w3 ⟨rfl, h3, m3⟩
    have hm : Mod (fun k => F k ∨ k = lb) w w3 := (Mod.of_below (F := fun k => F k ∨ k = lb) HB.out).trans m3 (fun x h => h) (fun x _ h => h)
    have l3 : w3.heap[lb]? = some (.cells #[.pointer (some ⟨b, 0, none⟩), .int .i64 ((l.next + KZ : Nat) : Int), .int .i64 (l.first : Nat), .int .i64 (l.sure : Nat)] 70 (0, 0)) := h3.log
    have hsz3 := m3.size
    clear m3 Hw2 HB y1
    have H3 := Lib.hid h3; clear h3
    have HM3 := Lib.hid hm; clear hm
    have L3 := Lib.hid l3; clear l3
    go_wp2_with (with_reducible refine stop_store 3 ?_)
    refine unpark ?_
    refine wpList_store_at rfl _ _ _ rfl lb 2 rfl (.int .i64 (l.next : Nat)) rfl [.int .i64 (l.next : Nat)] rfl _ _ L3.out 1 rfl (by simp) (by simp [Value.oneCell']) sizeInt ?_
    intro w4 l4 g4 s4
    simp only [splice] at l4
    have hl4 : LogAt w4 lb b ⟨l.next + KZ, l.next, l.sure⟩ := by
      unfold LogAt
      rw [l4]
      simp [Lg.cells]
    obtain ⟨h4, m4⟩ := H3.out.put g4 hl4 (by simp only; omega) (by simp only; omega) (by simp only; omega) H3.out.sb
    have hla := Hla.out w4 _ h4
    have hm4 : Mod (fun k => F k ∨ k = lb) w w4 := HM3.out.trans m4 (fun x h => h) (fun x hx h => h.elim (fun h => h.elim .inl fun h => by omega) .inr)
    have hsz4 := m4.size
    clear l4 g4 s4 hl4 m4 h4 H3 HM3 L3 Hla
    have Hla := Lib.hid hla; clear hla
    have HM4 := Lib.hid hm4; clear hm4
    go_wp2_with fail
    refine Hla.out.mono ?_
    rintro e w5 ⟨rfl, h5, m5⟩
    have hg : Wl w0 w5 lb b (grownF F w w5) S2 ⟨l.next + KZ + 1, l.next, l.sure⟩ := h5.regrow (fun k hk => by
      have := m5.size
      rcases hk with (hk | hk) | hk
      · exact .inl hk
      · exact .inr ⟨by omega, by omega⟩
      · exact .inr ⟨by omega, hk.2⟩) Hoff.out hlt Hlow.out hww (by have := m5.size; omega)
    have hm : Mod (fun k => F k ∨ k = lb) w w5 := HM4.out.trans m5 (fun x h => h) (fun x hx h => h.elim (fun h => h.elim .inl fun h => by omega) .inr)
    clear h5 m5 Hla HM4
    have HG := Lib.hid hg; clear hg
    have HM := Lib.hid hm; clear hm
    go_wp2
    go_ret
    exact ⟨rfl, HG.out, HM.out⟩
  · rw [if_neg hE]
    simp only
    clear hz hel hx hok
    have hd0 : (E != 0) = true := by simpa using hE
    have HW := Lib.hid h; clear h
    have Hfc := Lib.hid hfc; clear hfc
    have Hoff := Lib.hid hoff; clear hoff
    have Hlow := Lib.hid hlow; clear hlow
    go_enter Tryz.func14, Tryz.ntmps14
    go_wp2_with fail
    refine Hfc.out.mono ?_
    rintro e w2 ⟨v, rfl, -, hb⟩
    have hg : Wl w0 w2 lb b (grownF F w w2) s l := (HW.out.step hb).regrow (fun k hk => .inl hk) Hoff.out hlt Hlow.out hww hb.size
    have hm : Mod (fun k => F k ∨ k = lb) w w2 := Mod.of_below hb
    clear hb Hfc HW
    have HG := Lib.hid hg; clear hg
    have HM := Lib.hid hm; clear hm
    go_wp2
    go_ret
    exact ⟨rfl, HG.out, HM.out⟩
def sectorsS (list : List Rc) : Int := if rightAll list = true then (needZ (encs list) : Int) else -1
set_option maxHeartbeats 2000000 in
theorem Sectors_log {a : Option Addr} {L c : Nat} {list : List Rc} (hx : Recs rcF w a L c list) (hok : ∀ r ∈ list, r.ok) (hL : L ≤ 1000) :
    Calls Tryz.prog 29 #[.slice a L c] w fun e w' => e = .returned (.int .i64 (sectorsS list)) ∧ Below w.heap.size w w' := by
  have hlen := hx.len
  have henl := encs_len list
  rw [hlen] at henl
  have hjo := Join_calls hx hok (by omega)
  obtain ⟨E, hE⟩ : ∃ E, E = sectorsS list := ⟨_, rfl⟩
  rw [← hE]
  unfold sectorsS at hE
  generalize hR : rightAll list = R at *
  cases R with
  | false =>
    rw [if_neg (by decide)] at hjo hE
    subst hE
    clear hx hok hR hlen henl
    have Hjo := Lib.hid hjo; clear hjo
    go_enter Tryz.func29, Tryz.ntmps29
    go_wp2_with fail
    refine Hjo.out.mono ?_
    rintro e w2 ⟨v2, rfl, -, b2⟩
    have B2 := Lib.hid b2; clear b2
    go_wp2
    go_ret
    exact ⟨rfl, B2.out⟩
  | true =>
    rw [if_pos rfl] at hjo hE
    obtain ⟨ZL, hZL⟩ : ∃ n, n = (encs list).length := ⟨_, rfl⟩
    have hne : ((needZ (encs list) : Nat) : Int) = (((ZL + 15) / 16 : Nat) : Int) := by rw [hZL]; rfl
    rw [hne] at hE
    have hZb : ZL ≤ 10000000 := by omega
    clear hne hx hok hR hlen henl
    have Hjo := Lib.hid hjo; clear hjo
    have HZL := Lib.hid hZL.symm; clear hZL
    have HE := Lib.hid hE; clear hE
    go_enter Tryz.func29, Tryz.ntmps29
    go_wp2_with fail
    refine Hjo.out.mono ?_
    rintro e w2 ⟨v2, rfl, o2, b2⟩
    obtain ⟨a2, c2, rfl, i2, -⟩ := own_len o2 HZL.out
    have B2 := Lib.hid b2; clear b2 o2 i2
    go_wp2_with fail
    refine (need_calls (w := w2) (a := a2) (c := c2) hZb).mono ?_
    rintro e w3 ⟨rfl, hw3⟩
    obtain rfl := hw3.symm
    rw [← HE.out]
    go_wp2
    go_ret
    exact ⟨rfl, B2.out⟩
end
end Go.Proofs.YtgpedejeifmfdaaGreat
/- The log within a law: Open, begin; records compared. -/
namespace Go.Proofs.YtgpedejeifmfdaaGreat
open Go.RowKit Go.Sort

theorem drewNN (w : World) (a b : Nat) : ∃ n, (w.drewN a).drewN b = w.drewN n := ⟨a + b, by simp [World.drewN, Nat.add_assoc]⟩
theorem openS_bound {w0 w : World} {b : Nat} {F : Nat → Prop} {s : State} (h : Dev w0 w b F s) {l : Nat × Nat × Nat} {rs : List Rc} (ho : openS s = some (l, rs)) : 1 ≤ l.1 ∧ l.1 ≤ 4294967296 ∧ l.2.1 < 4294967296 ∧ l.2.2 ≤ 4294967296 := by
  have hb := lastF_bound h s.1.length (Nat.le_refl _)
  have hL : (lastS s).num < 4294967296 ∧ (lastS s).first < 4294967296 := ⟨hb.1, hb.2.1⟩
  unfold openS at ho
  split at ho
  · cases ho; exact ⟨by decide, by decide, by decide, by decide⟩
  · split at ho
    · split at ho
      · cases ho
      · split at ho
        · cases ho
        · cases ho
          simp only
          omega
    · cases ho
section
variable {w0 w : World} {b : Nat} {F : Nat → Prop} {s : State}
theorem Open_wl (h : Dev w0 w b F s) {n f sr : Nat} {rs : List Rc} (ho : openS s = some ((n, f, sr), rs)) :
    Calls Tryz.prog 8 #[.pointer (some ⟨b, 0, none⟩)] w fun e w' => ∃ v, e = .returned (.tuple #[.pointer (some ⟨w.heap.size, 0, none⟩), v, .int .i64 0]) ∧ Wl w0 w' w.heap.size b F s ⟨n, f, sr⟩ ∧ RcOwn w' (w.heap.size + 1) v rs ∧ Below w.heap.size w w' := by
  have hb := openS_bound h ho
  refine (Open_calls_log h).mono ?_
  rintro e w' ⟨p, v, k, rfl, hbl, ⟨h1, -⟩ | ⟨l, rs', h1, rfl, rfl, hl, hr⟩⟩
  · rw [ho] at h1; cases h1
  · rw [ho] at h1
    cases h1
    exact ⟨v, rfl, ⟨h.step hbl, hl, fun hf => by have := (h.low _ hf).2; omega, h.bel.size, hb.1, hb.2.1, hb.2.2.1, hb.2.2.2⟩, hr, hbl⟩
set_option maxHeartbeats 4000000 in
theorem SameRecs_gen {a1 a2 : Option Addr} {n1 n2 c1 c2 : Nat} {xs ys : List Rc} {w : World} (hx : Recs rcF w a1 n1 c1 xs) (hy : Recs rcF w a2 n2 c2 ys) :
    Calls Tryz.prog 18 #[.slice a1 n1 c1, .slice a2 n2 c2] w fun e w' => e = .returned (.bool (decide (xs = ys))) ∧ ∃ n, w' = w.drewN n := by
  have hl1 := hx.len
  have hl2 := hy.len
  have hle1 := hx.le
  have hle2 := hy.le
  have hm1 := hx.max
  have hm2 := hy.max
  by_cases hn : n1 = n2
  · subst hn
    obtain ⟨D, hD⟩ : ∃ D, D = decide (xs = ys) := ⟨_, rfl⟩
    rw [← hD]
    have HD := Lib.hid hD; clear hD
    have Hx := Lib.hid hx; clear hx
    have Hy := Lib.hid hy; clear hy
    have Hl1 := Lib.hid hl1; clear hl1
    have Hl2 := Lib.hid hl2; clear hl2
    go_enter Tryz.func18, Tryz.ntmps18
    go_wp2_with fail
    go_loopw [5] (fun v wr => ∃ k : Nat, k ≤ n1 ∧ v = .int .i64 k ∧ xs.take k = ys.take k ∧ ∃ n, wr = w.drewN n) (fun v _ => n1 - (intOf v).toNat)
    case atStart => exact ⟨0, Nat.zero_le _, rfl, rfl, 0, rfl⟩
    case round =>
      obtain ⟨k, hk, rfl, htk, nd, rfl⟩ := hrel
      by_cases hlt : k < n1
      · have hx := Hx.out
        have hy := Hy.out
        obtain ⟨b1, o1, rfl⟩ := hx.addr (by omega)
        obtain ⟨b2, o2, rfl⟩ := hy.addr (by omega)
        have hkx : k < xs.length := by rw [Hl1.out]; exact hlt
        have hky : k < ys.length := by rw [Hl2.out]; exact hlt
        have hcx := hx.at hkx
        have hcy := hy.at hky
        have hst : xs[k] = ys[k] → xs.take (k + 1) = ys.take (k + 1) := fun e => by
          rw [List.take_succ_eq_append_getElem hkx, List.take_succ_eq_append_getElem hky, htk, e]
        have hno : xs[k] ≠ ys[k] → D = false := fun e => by
          rw [HD.out]
          exact decide_eq_false fun h => e (by subst h; rfl)
        obtain ⟨m, hm⟩ : ∃ m, m = xs[k] := ⟨_, rfl⟩
        obtain ⟨m', hm'⟩ : ∃ m, m = ys[k] := ⟨_, rfl⟩
        rw [← hm, ← hm'] at hst hno
        rw [← hm] at hcx
        rw [← hm'] at hcy
        have hq := fun w => rc_neq w m m'
        have hg := fun x y w => rc_guard .neq x y m m' w
        clear hm hm' hx hy htk
        have Hst := Lib.hid hst; clear hst
        have Hno := Lib.hid hno; clear hno
        have x0 := hcx 0 _ rfl
        have x1 := hcx 1 _ rfl
        have x2 := hcx 2 _ rfl
        have x3 := hcx 3 _ rfl
        have x4 := hcx 4 _ rfl
        have x5 := hcx 5 _ rfl
        have x6 := hcx 6 _ rfl
        have x7 := hcx 7 _ rfl
        have x8 := hcx 8 _ rfl
        have x9 := hcx 9 _ rfl
        have x10 := hcx 10 _ rfl
        have y0 := hcy 0 _ rfl
        have y1 := hcy 1 _ rfl
        have y2 := hcy 2 _ rfl
        have y3 := hcy 3 _ rfl
        have y4 := hcy 4 _ rfl
        have y5 := hcy 5 _ rfl
        have y6 := hcy 6 _ rfl
        have y7 := hcy 7 _ rfl
        have y8 := hcy 8 _ rfl
        have y9 := hcy 9 _ rfl
        have y10 := hcy 10 _ rfl
        clear hcx hcy
        by_cases hmm : m = m'
        · have htk := Hst.out hmm
          subst hmm
          simp only [decide_true, Bool.not_true] at hq
          clear Hst Hno
          have Htk := Lib.hid htk; clear htk
          obtain ⟨kd, t, m, k0, k1, k2, k3, ot, o, nt, n⟩ := m
          simp only [rcF, Nat.add_zero] at x0 x1 x2 x3 x4 x5 x6 x7 x8 x9 x10 y0 y1 y2 y3 y4 y5 y6 y7 y8 y9 y10
          simp only [Rc.cells] at hq hg
          have i1 : (0 : Int) ≤ (k : Int) := by omega
          have i2 : (k : Int) < (n1 : Int) := by omega
          go_wp2_with fail
          go_quiet (fail)
          go_wp2_with fail
          go_roundw
          case rel => exact ⟨k + 1, by omega, by go_num, Htk.out, _, rfl⟩
          case measure => simp [intOf]; omega
        · have hD2 := Hno.out hmm
          have hdm : decide (m = m') = false := decide_eq_false hmm
          rw [hdm] at hq
          simp only [Bool.not_false] at hq
          clear Hst Hno hmm hdm
          have HD2 := Lib.hid hD2; clear hD2 HD
          obtain ⟨kd, t, mk, k0, k1, k2, k3, ot, o, nt, n⟩ := m
          obtain ⟨kd', t', mk', k0', k1', k2', k3', ot', o', nt', n'⟩ := m'
          simp only [rcF, Nat.add_zero] at x0 x1 x2 x3 x4 x5 x6 x7 x8 x9 x10 y0 y1 y2 y3 y4 y5 y6 y7 y8 y9 y10
          simp only [Rc.cells] at hq hg
          have i1 : (0 : Int) ≤ (k : Int) := by omega
          have i2 : (k : Int) < (n1 : Int) := by omega
          go_wp2_with fail
          go_quiet (fail)
          go_wp2
          go_ret
          exact ⟨by rw [HD2.out]; rfl, drewNN _ _ _⟩
      · obtain rfl : k = n1 := by omega
        have hDe : D = true := by
          rw [HD.out]
          rw [List.take_of_length_le (by rw [Hl1.out]; exact Nat.le_refl _), List.take_of_length_le (by rw [Hl2.out]; exact Nat.le_refl _)] at htk
          exact decide_eq_true htk
        clear htk
        have HDe := Lib.hid hDe; clear hDe HD
        go_wp2_with fail
        go_ret
        exact ⟨by rw [HDe.out]; rfl, _, rfl⟩
  · have hne : decide (xs = ys) = false := decide_eq_false fun e => hn (by rw [← hl1, ← hl2, e])
    rw [hne]
    have hnn : ((n1 : Int) != (n2 : Int)) = true := by simp; omega
    clear hne hx hy hl1 hl2
    go_enter Tryz.func18, Tryz.ntmps18
    go_wp2
    go_ret
    exact ⟨rfl, 0, rfl⟩
end
end Go.Proofs.YtgpedejeifmfdaaGreat
/- The laws of the log: alive. -/
namespace Go.Proofs.YtgpedejeifmfdaaGreat
open Go.RowKit Go.Sort

def rX : Rc := ⟨4, 5, 0, 0, 0, 0, 0, false, 0, false, 0⟩
def rY : Rc := ⟨5, 6, 0, 0, 0, 0, 0, false, 0, false, 0⟩
theorem rX_ok : ∀ r ∈ [rX], r.ok := fun r hr => by
  rw [List.mem_singleton] at hr
  subst hr
  unfold Rc.ok rX; simp only; omega
theorem rY_ok : ∀ r ∈ [rY], r.ok := fun r hr => by
  rw [List.mem_singleton] at hr
  subst hr
  unfold Rc.ok rY; simp only; omega
def al0 : State := (fresh 4, [])
def al1 : State := layS al0 (chunks 1 1 (encs [rX]))
def al2 : State := (settled al1.1 al1.2, [])
def al3 : State := layS al2 (chunks 2 1 (encs [rY]))
def al4 : State := (crashed al3.1 al3.2 0 9, [])
def al5 : State := layS (layS al4 (chunks 2 1 (encs [rX]))) [⟨3, 2, true, []⟩]
def al6 : State := (settled al5.1 al5.2, [])
set_option maxRecDepth 100000 in
theorem al_fits : fitE 4 ⟨1, 1, 1⟩ [rX] 0 0 = 0 ∧ fitE 4 ⟨2, 1, 1⟩ [rY] 0 0 = 0 ∧ fitE 4 ⟨2, 1, 1⟩ [rX] 1 0 = 0 ∧ fitE 4 ⟨4, 2, 2⟩ [rX] 0 3 = 15 ∧ sectorsS [rX] = 1 ∧ needZ (encs [rX]) = 1 ∧ needZ (encs [rY]) = 1 := by decide +kernel
set_option maxRecDepth 100000 in
theorem al_open : openS al0 = some ((1, 1, 1), []) ∧ openS al4 = some ((2, 1, 1), [rX]) := by decide +kernel
set_option maxRecDepth 100000 in
theorem al_lens : al0.1.length = 4 ∧ al1.1.length = 4 ∧ al2.1.length = 4 ∧ al3.1.length = 4 ∧ al4.1.length = 4 ∧ al5.1.length = 4 ∧ al6.1.length = 4 := by decide +kernel
theorem al_app1 : appS al0 ⟨1, 1, 1⟩ [rX] 0 = (al1, ⟨2, 1, 1⟩) := by
  unfold appS
  rw [al_lens.1, if_pos al_fits.1, al_fits.2.2.2.2.2.1]; rfl
theorem al_app2 : appS al2 ⟨2, 1, 1⟩ [rY] 0 = (al3, ⟨3, 1, 1⟩) := by
  unfold appS
  rw [al_lens.2.2.1, if_pos al_fits.2.1, al_fits.2.2.2.2.2.2]; rfl
theorem al_ck : ckS al4 ⟨2, 1, 1⟩ [rX] 0 = (al5, ⟨4, 2, 1⟩) := by
  unfold ckS
  rw [al_lens.2.2.2.2.1, if_pos al_fits.2.2.1, al_fits.2.2.2.2.2.1]; rfl
section
variable {w0 w : World} {lb b : Nat} {F : Nat → Prop} {s : State} {l : Lg}
theorem Free_wl (h : Wl w0 w lb b F s l) {v : Int} (hv : (s.1.length : Int) - (l.next : Int) + (l.sure : Int) = v) :
    Calls Tryz.prog 21 #[.pointer (some ⟨lb, 0, none⟩)] w fun e w' => e = .returned (.int .i64 v) ∧ Below w.heap.size w w' := by
  rw [← hv]
  exact Free_calls h.dev h.log (by have := h.nb; omega) (by have := h.sb; omega)
theorem recs_alloc (w : World) (r : Rc) : Recs rcF (w.alloc (.cells r.cells.toArray rcE)) (some ⟨w.heap.size, 0, none⟩) 1 1 [r] :=
  ⟨rfl, Nat.le_refl _, by decide, fun _ => ⟨w.heap.size, 0, rfl, fun j u hu => by
    rw [Nat.zero_add, cells_at (heap_alloc_new w _) j]
    simpa [Fmt.row, rcF] using hu⟩⟩
theorem Recs.modK {G : Nat → Prop} {w' : World} {g n c : Nat} {xs : List Rc} (h : Recs rcF w (some ⟨g, 0, none⟩) n c xs) (hm : Mod G w w') (hg : ¬ G g) : Recs rcF w' (some ⟨g, 0, none⟩) n c xs :=
  h.keepPos fun b o _ e hlt => hm.block b hlt (by injection e with e; injection e with e1; rw [← e1]; exact hg)
set_option maxHeartbeats 16000000 in
set_option maxRecDepth 100000 in
theorem alive_wal {w : World} : Calls Tryz.prog 4 #[] w fun e w' => e = .returned (.bool true) ∧ Below w.heap.size w w' := by
  have hn := New_dev (w0 := w) (n := 4) (Below.refl w.heap.size w) (by decide) (by decide)
  have Hn := Lib.hid hn; clear hn
  obtain ⟨f1, f2, f3, f4, f5, -, -⟩ := al_fits
  obtain ⟨o1, o2⟩ := al_open
  obtain ⟨n0, n1, n2, n3, n4, n5, n6⟩ := al_lens
  have F1 := Lib.hid f1; clear f1
  have F2 := Lib.hid f2; clear f2
  have F3 := Lib.hid f3; clear f3
  have F4 := Lib.hid f4; clear f4
  have F5 := Lib.hid f5; clear f5
  have O1 := Lib.hid o1; clear o1
  have O2 := Lib.hid o2; clear o2
  have N0 := Lib.hid n0; clear n0
  have N1 := Lib.hid n1; clear n1
  have N2 := Lib.hid n2; clear n2
  have N4 := Lib.hid n4; clear n4
  have N6 := Lib.hid n6; clear n6
  clear n3 n5
  go_enter Tryz.func4, Tryz.ntmps4
  go_wp2_with fail
  refine Hn.out.mono ?_
  rintro e w1 ⟨b, F, rfl, d1, -, -⟩
  have hop := Open_wl (s := al0) d1 O1.out
  have Hop := Lib.hid hop; clear hop d1 Hn
  go_wp2_with fail
  refine Hop.out.mono ?_
  rintro e w2 ⟨v2, rfl, h2, r2, -⟩
  obtain ⟨a2, c2, rfl⟩ := r2.shape
  clear r2 Hop
  generalize w1.heap.size = lb at h2 ⊢
  have hfr := Free_wl h2 (v := 4) (by rw [N0.out]; rfl)
  have H2 := Lib.hid h2; clear h2
  have Hfr := Lib.hid hfr; clear hfr
  simp only [List.length_nil]
  go_wp2_with fail
  refine Hfr.out.mono ?_
  rintro e w3 ⟨rfl, b3⟩
  have h3 := H2.out.step b3
  clear H2 b3 Hfr
  obtain ⟨w4, hw4⟩ : ∃ w', w' = w3.alloc (.cells rX.cells.toArray rcE) := ⟨_, rfl⟩
  have rx := recs_alloc w3 rX
  have bx : Below w3.heap.size w3 (w3.alloc (.cells rX.cells.toArray rcE)) := (Below.refl _ _).alloc (Nat.le_refl _) _
  have gx : w3.heap.size < (w3.alloc (.cells rX.cells.toArray rcE)).heap.size := by rw [World.size_alloc]; omega
  rw [← hw4] at rx bx gx
  have h4 := h3.step bx
  have hgx : ¬ F w3.heap.size ∧ w3.heap.size ≠ lb := ⟨fun hf => by have := (h3.dev.low _ hf).2; omega, by have := h3.lt; omega⟩
  have ha := Append_wl h4 rx rX_ok (by decide) (show ([] : List (Int × List Int)).length ≤ 990000 by decide) (spare := 0) (by decide)
  rw [N0.out, F1.out, al_app1] at ha
  simp only at ha
  have hw4' : w4 = w3.alloc (.cells #[.int .i64 4, .int .i64 5, .int .u16 0, .int .u8 0, .int .u8 0, .int .u8 0, .int .u8 0, .bool false, .int .i64 0, .bool false, .int .i64 0] rcE) := hw4
  clear hw4 bx h3
  obtain ⟨g, hg⟩ : ∃ g, g = w3.heap.size := ⟨_, rfl⟩
  rw [← hg] at rx gx hgx ha
  have Ha := Lib.hid ha; clear ha
  have H4 := Lib.hid h4; clear h4
  have RX := Lib.hid rx; clear rx
  have HG := Lib.hid hgx; clear hgx
  have Hg := Lib.hid hg; clear hg
  go_wp2_with fail
  rw [← hw4', ← Hg.out]
  clear hw4' Hg
  refine Ha.out.mono ?_
  rintro e w5 ⟨rfl, h5, m5⟩
  have rx5 := RX.out.modK m5 (by rintro (h | h); exact HG.out.1 h; exact HG.out.2 h)
  have hg5 : ¬ grownF F w4 w5 g ∧ g ≠ lb := ⟨fun h => h.elim HG.out.1 (fun h => by omega), HG.out.2⟩
  have gx5 : g < w5.heap.size := Nat.lt_of_lt_of_le gx m5.size
  clear Ha H4 RX HG m5 gx
  generalize grownF F w4 w5 = FA at h5 hg5
  have hfr := Free_wl h5 (v := 3) (by rw [N1.out]; rfl)
  have Hfr := Lib.hid hfr; clear hfr
  have H5 := Lib.hid h5; clear h5
  have RX := Lib.hid rx5; clear rx5
  have HG := Lib.hid hg5; clear hg5
  go_wp2_with fail
  refine Hfr.out.mono ?_
  rintro e w6 ⟨rfl, b6⟩
  have h6 := H5.out.step b6
  have rx6 := RX.out.keep b6
  have gx6 : g < w6.heap.size := Nat.lt_of_lt_of_le gx5 b6.size
  have hfo := Force_wl h6
  clear Hfr H5 RX b6 gx5 h6
  have Hfo := Lib.hid hfo; clear hfo
  have RX := Lib.hid rx6; clear rx6
  go_wp2_with fail
  refine Hfo.out.mono ?_
  rintro e w7 ⟨rfl, h7, m7⟩
  have h7 : Wl w w7 lb b FA al2 ⟨2, 1, 1⟩ := h7
  have rx7 := RX.out.modK m7 (by rintro (h | h); exact HG.out.1 h; exact HG.out.2 h)
  have gx7 : g < w7.heap.size := Nat.lt_of_lt_of_le gx6 m7.size
  clear Hfo RX m7 gx6
  obtain ⟨w8, hw8⟩ : ∃ w', w' = w7.alloc (.cells rY.cells.toArray rcE) := ⟨_, rfl⟩
  have ry := recs_alloc w7 rY
  have bx : Below w7.heap.size w7 (w7.alloc (.cells rY.cells.toArray rcE)) := (Below.refl _ _).alloc (Nat.le_refl _) _
  rw [← hw8] at ry bx
  have h8 := h7.step bx
  have rx8 := rx7.keep bx
  have gx8 : g < w8.heap.size := Nat.lt_of_lt_of_le gx7 bx.size
  have ha := Append_wl h8 ry rY_ok (by decide) (show ([] : List (Int × List Int)).length ≤ 990000 by decide) (spare := 0) (by decide)
  rw [N2.out, F2.out, al_app2] at ha
  simp only at ha
  have hw8' : w8 = w7.alloc (.cells #[.int .i64 5, .int .i64 6, .int .u16 0, .int .u8 0, .int .u8 0, .int .u8 0, .int .u8 0, .bool false, .int .i64 0, .bool false, .int .i64 0] rcE) := hw8
  clear hw8 bx h7 rx7 gx7 ry
  have Ha := Lib.hid ha; clear ha
  have RX := Lib.hid rx8; clear rx8 h8
  go_wp2_with fail
  rw [← hw8']
  clear hw8'
  refine Ha.out.mono ?_
  rintro e w9 ⟨rfl, h9, m9⟩
  have rx9 := RX.out.modK m9 (by rintro (h | h); exact HG.out.1 h; exact HG.out.2 h)
  have hg9 : ¬ grownF FA w8 w9 g := fun h => h.elim HG.out.1 (fun h => by omega)
  have gx9 : g < w9.heap.size := Nat.lt_of_lt_of_le gx8 m9.size
  clear Ha RX HG m9 gx8
  generalize grownF FA w8 w9 = F9 at h9 hg9
  have hcr := Crash_dev h9.dev 0 9
  have Hcr := Lib.hid hcr; clear hcr h9
  have RX := Lib.hid rx9; clear rx9
  have HG := Lib.hid hg9; clear hg9
  go_wp2_with fail
  refine Hcr.out.mono ?_
  rintro e w10 ⟨rfl, d10, m10⟩
  have d10 : Dev w w10 b F9 al4 := d10
  have rx10 := RX.out.modK m10 HG.out
  have gx10 : g < w10.heap.size := Nat.lt_of_lt_of_le gx9 m10.size
  have hop := Open_wl d10 O2.out
  have hl10 : ∀ k, F9 k → k < w10.heap.size := fun k hk => (d10.low k hk).2
  have HL := Lib.hid hl10; clear hl10
  clear Hcr RX m10 gx9 d10
  have Hop := Lib.hid hop; clear hop
  have RX := Lib.hid rx10; clear rx10
  go_wp2_with fail
  refine Hop.out.mono ?_
  rintro e w11 ⟨v11, rfl, h11, r11, b11⟩
  have rx11 := RX.out.keep b11
  have gx11 : g < w11.heap.size := Nat.lt_of_lt_of_le gx10 b11.size
  obtain ⟨a11, c11, rfl, q11, ql11⟩ := r11.recs
  simp only [List.length_cons, List.length_nil] at q11
  have hgl : g ≠ w10.heap.size := by omega
  have hqf : ∀ b' o', a11 = some ⟨b', o', none⟩ → ¬ F9 b' ∧ b' ≠ w10.heap.size ∧ b' < w11.heap.size := fun b' o' e => ⟨fun hf => by have := HL.out _ hf; have := (ql11 b' o' e).1; omega, by have := (ql11 b' o' e).1; omega, (ql11 b' o' e).2⟩
  generalize w10.heap.size = lc at h11 hgl hqf ⊢
  have hck := Checkpoint_wl h11 rx11 rX_ok (by decide) (show ([] : List (Int × List Int)).length ≤ 990000 by decide) (spare := 0) (by decide)
  rw [N4.out, F3.out, al_ck] at hck
  simp only at hck
  clear Hop RX b11 r11 ql11 h11 HL
  have Hck := Lib.hid hck; clear hck
  have RX := Lib.hid rx11; clear rx11
  have Q := Lib.hid q11; clear q11
  have HQ := Lib.hid hqf; clear hqf
  simp only [List.length_cons, List.length_nil, Nat.zero_add]
  go_wp2_with fail
  refine Hck.out.mono ?_
  rintro e w12 ⟨rfl, h12, m12⟩
  have rx12 := RX.out.modK m12 (by rintro (h | h); exact HG.out h; exact hgl h)
  have q12 := Q.out.keepPos (w' := w12) fun b' o' _ e hlt => m12.block b' hlt (by rintro (h | h); exact (HQ.out b' o' e).1 h; exact (HQ.out b' o' e).2.1 h)
  have hg12 : ¬ grownF F9 w11 w12 g := fun h => h.elim HG.out (fun h => by omega)
  have hq12 : ∀ b' o', a11 = some ⟨b', o', none⟩ → ¬ grownF F9 w11 w12 b' ∧ b' ≠ lc := fun b' o' e => ⟨fun h => h.elim (HQ.out b' o' e).1 (fun h => by have := (HQ.out b' o' e).2.2; omega), (HQ.out b' o' e).2.1⟩
  clear Hck RX Q HQ HG m12
  generalize grownF F9 w11 w12 = FC at h12 hg12 hq12
  have hfo := Force_wl h12
  have Hfo := Lib.hid hfo; clear hfo h12
  have RX := Lib.hid rx12; clear rx12
  have Q := Lib.hid q12; clear q12
  go_wp2_with fail
  refine Hfo.out.mono ?_
  rintro e w13 ⟨rfl, h13, m13⟩
  have h13 : Wl w w13 lc b FC al6 ⟨4, 2, 2⟩ := h13
  have rx13 := RX.out.modK m13 (by rintro (h | h); exact hg12 h; exact hgl h)
  have q13 := Q.out.keepPos (w' := w13) fun b' o' _ e hlt => m13.block b' hlt (by rintro (h | h); exact (hq12 b' o' e).1 h; exact (hq12 b' o' e).2 h)
  have HGC := Lib.hid (And.intro hg12 hgl)
  clear Hfo RX Q m13 hg12 hq12
  have hsr := SameRecs_calls q13 rx13 rfl
  have Hsr := Lib.hid hsr; clear hsr q13
  have RX := Lib.hid rx13; clear rx13
  have H13 := Lib.hid h13; clear h13
  go_wp2_with fail
  refine Hsr.out.mono ?_
  rintro e w14 ⟨rfl, nd, rfl⟩
  have h14 := H13.out.step (below_drawn w13 nd)
  have rx14 := RX.out.keep (below_drawn w13 nd)
  generalize w13.drewN nd = w14 at h14 rx14 ⊢
  clear Hsr H13 RX
  have hnx := Next_calls h14.log
  have Hnx := Lib.hid hnx; clear hnx
  have hfi := First_calls h14.log
  have Hfi := Lib.hid hfi; clear hfi
  have hfr := Free_wl h14 (v := 2) (by rw [N6.out]; rfl)
  have Hfr := Lib.hid hfr; clear hfr
  have H14 := Lib.hid h14; clear h14
  have RX := Lib.hid rx14; clear rx14
  go_wp2_with fail
  refine Hnx.out.mono ?_
  rintro e w15 ⟨rfl, hw⟩
  obtain rfl := hw.symm
  clear Hnx
  have e4 : (((⟨4, 2, 2⟩ : Lg).next : Nat) : Int) = 4 := rfl
  have e2 : (((⟨4, 2, 2⟩ : Lg).first : Nat) : Int) = 2 := rfl
  simp only [e4]
  go_wp2_with fail
  refine Hfi.out.mono ?_
  rintro e w15 ⟨rfl, hw⟩
  obtain rfl := hw.symm
  clear Hfi
  simp only [e2]
  clear e4 e2
  go_wp2_with fail
  refine Hfr.out.mono ?_
  rintro e w16 ⟨rfl, b16⟩
  have h16 := H14.out.step b16
  have rx16 := RX.out.keep b16
  have gx16 : True := trivial
  have ha := Append_wl h16 rx16 rX_ok (by decide) (show ([] : List (Int × List Int)).length ≤ 990000 by decide) (spare := 3) (by decide)
  rw [N6.out, F4.out] at ha
  have hlow16 := h16.dev.low
  have hg16 : ¬ FC g ∧ g ≠ lc := HGC.out
  clear Hfr H14 RX b16 h16 gx16
  have Ha := Lib.hid ha; clear ha
  have RX := Lib.hid rx16; clear rx16 hlow16
  go_wp2_with fail
  refine Ha.out.mono ?_
  rintro e w17 ⟨rfl, h17, m17⟩
  have rx17 := RX.out.modK m17 (by rintro (h | h); exact hg16.1 h; exact hg16.2 h)
  have hbel := h17.dev.bel
  have hse := Sectors_log rx17 rX_ok (by decide)
  rw [F5.out] at hse
  clear Ha RX m17 h17 rx17
  have Hse := Lib.hid hse; clear hse
  have HB := Lib.hid hbel; clear hbel
  go_wp2_with fail
  refine Hse.out.mono ?_
  rintro e w18 ⟨rfl, b18⟩
  have hb := HB.out.trans (b18.mono HB.out.size)
  clear HB b18 Hse
  have HB := Lib.hid hb; clear hb
  go_wp2
  go_ret
  exact ⟨rfl, HB.out⟩
end
end Go.Proofs.YtgpedejeifmfdaaGreat
/- The laws of the log, plain: histories of appends. -/
namespace Go.Proofs.YtgpedejeifmfdaaGreat
open Go.RowKit

/-- Sectors with the next numbers. -/
def Nums (k : Nat) (X : List Sc) : Prop := ∀ i (h : i < X.length), X[i].ok ∧ X[i].num = k + i + 1
theorem Nums.cons {k : Nat} {S : Sc} {X : List Sc} (h : Nums k (S :: X)) : S.ok ∧ S.num = k + 1 ∧ Nums (k + 1) X := by
  have h0 := h 0 (by simp)
  refine ⟨h0.1, h0.2, fun i hi => ?_⟩
  have := h (i + 1) (by simpa using hi)
  simp only [List.getElem_cons_succ] at this
  exact ⟨this.1, by omega⟩
end Go.Proofs.YtgpedejeifmfdaaGreat
/- Records, and rows of them, as they came in. -/
namespace Go.Proofs.YtgpedejeifmfdaaGreat
open Go.RowKit Go.ChangeShapes Go.WideShapes

theorem wf_u16 {n : Int} (h : (Lit.int .u16 n).wf = true) : 0 ≤ n ∧ n ≤ 65535 := by
  have := wf_of h
  simpa [IntKind.min, IntKind.max, IntKind.signed, IntKind.bits] using this
section
variable {H : Type} {enc : TypeId × Value → H} {w : World} {base : Nat} {held : Bool} {fuel : Nat}
theorem open_val {v0 v1 : Value} {x : DataW H × List MemPlace} (h : DataW.trod enc Tryz.prog w base (fun _ => true) held fuel 61 [v0, v1] = some x) : ∃ (t : Bool) (n : Int), v0 = .bool t ∧ v1 = .int .i64 n ∧ (Lit.int .i64 n).wf = true := by
  obtain ⟨hl, hf⟩ := open_parts Tryz.underlying61 h
  obtain ⟨n0, y0, h0⟩ := hf 0 _ rfl
  obtain ⟨n1, y1, h1⟩ := hf 1 _ rfl
  obtain ⟨z0, e0, _⟩ := DataW.trod_bool Tryz.underlying4 h0
  obtain ⟨z1, e1, _, w1⟩ := DataW.trod_int Tryz.underlying3 h1
  have c1 : Tryz.prog.cellsOf 3 = 1 := by kernel_rfl
  have c2 : Tryz.prog.cellsOf 4 = 1 := by kernel_rfl
  simp [c1, c2] at e0 e1
  exact ⟨z0, z1, e0, e1, w1⟩
set_option maxRecDepth 100000 in
theorem open_rc {cs : List Value} {x : DataW H × List MemPlace} (h : DataW.trod enc Tryz.prog w base (fun _ => true) held fuel 63 cs = some x) : ∃ r : Rc, cs = r.cells ∧ r.ok := by
  obtain ⟨hl, hf⟩ := open_parts Tryz.underlying63 h
  have hl4 : cs.length = 11 := hl.trans (by kernel_rfl)
  obtain ⟨n0, y0, h0⟩ := hf 0 _ rfl
  obtain ⟨n1, y1, h1⟩ := hf 1 _ rfl
  obtain ⟨n2, y2, h2⟩ := hf 2 _ rfl
  obtain ⟨n3, y3, h3⟩ := hf 3 _ rfl
  obtain ⟨n4, y4, h4⟩ := hf 4 _ rfl
  obtain ⟨n5, y5, h5⟩ := hf 5 _ rfl
  obtain ⟨z0, e0, _, w0⟩ := DataW.trod_int Tryz.underlying3 h0
  obtain ⟨z1, e1, _, w1⟩ := DataW.trod_int Tryz.underlying3 h1
  obtain ⟨z2, e2, _, w2⟩ := DataW.trod_int Tryz.underlying57 h2
  have c1 : Tryz.prog.cellsOf 3 = 1 := by kernel_rfl
  have c2 : Tryz.prog.cellsOf 57 = 1 := by kernel_rfl
  have c3 : Tryz.prog.cellsOf 59 = 4 := by kernel_rfl
  have c4 : Tryz.prog.cellsOf 61 = 2 := by kernel_rfl
  have c5 : Tryz.prog.cellsOf 5 = 1 := by kernel_rfl
  match cs, hl4 with
  | [v0, v1, v2, v3, v4, v5, v6, v7, v8, v9, v10], _ =>
    replace e0 : ([v0, v1, v2, v3, v4, v5, v6, v7, v8, v9, v10].drop 0).take (Tryz.prog.cellsOf 3) = [.int .i64 z0] := e0
    replace e1 : ([v0, v1, v2, v3, v4, v5, v6, v7, v8, v9, v10].drop 1).take (Tryz.prog.cellsOf 3) = [.int .i64 z1] := e1
    replace e2 : ([v0, v1, v2, v3, v4, v5, v6, v7, v8, v9, v10].drop 2).take (Tryz.prog.cellsOf 57) = [.int .u16 z2] := e2
    replace h3 : DataW.trod enc Tryz.prog w base (fun _ => true) held n3 59 (([v0, v1, v2, v3, v4, v5, v6, v7, v8, v9, v10].drop 3).take (Tryz.prog.cellsOf 59)) = some y3 := h3
    replace h4 : DataW.trod enc Tryz.prog w base (fun _ => true) held n4 61 (([v0, v1, v2, v3, v4, v5, v6, v7, v8, v9, v10].drop 7).take (Tryz.prog.cellsOf 61)) = some y4 := h4
    replace h5 : DataW.trod enc Tryz.prog w base (fun _ => true) held n5 61 (([v0, v1, v2, v3, v4, v5, v6, v7, v8, v9, v10].drop 9).take (Tryz.prog.cellsOf 61)) = some y5 := h5
    rw [c1] at e0 e1
    rw [c2] at e2
    rw [c3] at h3
    rw [c4] at h4 h5
    simp at e0 e1 e2
    obtain ⟨a0, a1, a2, a3, nn, _, k0, k1, k2, k3⟩ := trod_array4 Tryz.underlying59 c5 h3
    obtain ⟨q0, f0, _, u0⟩ := DataW.trod_int Tryz.underlying5 k0
    obtain ⟨q1, f1, _, u1⟩ := DataW.trod_int Tryz.underlying5 k1
    obtain ⟨q2, f2, _, u2⟩ := DataW.trod_int Tryz.underlying5 k2
    obtain ⟨q3, f3, _, u3⟩ := DataW.trod_int Tryz.underlying5 k3
    obtain ⟨t4, m4, g7, g8, w4⟩ := open_val h4
    obtain ⟨t5, m5, g9, g10, w5⟩ := open_val h5
    simp at f0 f1 f2 f3
    subst e0 e1 e2 f0 f1 f2 f3 g7 g8 g9 g10
    exact ⟨⟨z0, z1, z2, q0, q1, q2, q3, t4, m4, t5, m5⟩, rfl, wf_i64 w0, wf_i64 w1, wf_u16 w2, wf_u8 u0, wf_u8 u1, wf_u8 u2, wf_u8 u3, wf_i64 w4, wf_i64 w5⟩
/-- A row of records. -/
structure RRow (w : World) (a : Option Addr) (n c : Nat) (xs : List Rc) : Prop where
  recs : Recs rcF w a n c xs
  ok : ∀ x ∈ xs, x.ok
theorem open_rrow {a : Option Addr} {n c : Nat} {x : DataW H × List MemPlace}
    (h : DataW.trod enc Tryz.prog w base (fun _ => true) held fuel 33 [.slice a n c] = some x) : ∃ xs, RRow w a n c xs := by
  obtain ⟨a', n', c', rs, e, hr, hx⟩ := open_rows Tryz.underlying33 (m := 11) (by kernel_rfl) (by decide) h
  cases e
  obtain ⟨xs, rfl, hok⟩ := list_map_choose (f := Rc.cells) (p := Rc.ok) rs fun r hr => by
    obtain ⟨f, y, h⟩ := hx r hr
    exact open_rc h
  exact ⟨xs, recs_of_rows (F := rcF) hr, hok⟩
end
end Go.Proofs.YtgpedejeifmfdaaGreat
