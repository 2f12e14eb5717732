/- The law WordPacks. -/
import Derived.Test.YtjbpoegpmbnglaaDoorWordR7
namespace Go.Proofs.YtjbpoegpmbnglaaDoor
open Go.RowKit

def unB (ws : List Int) (u : Nat) : Bool := rightS ws && decide (restU ws u = 0)
def unL (ws : List Int) (u : Nat) : List Int := if rightS ws = true ∧ restU ws u = 0 then outZ ws u else []
theorem Unpack_any {w : World} {a : Option Addr} {n c : Nat} {ws : List Int} (hx : Ints w .i64 a n c ws) (hn : n ≤ 1000) {u : Nat} (hu : u < 18446744073709551616) : Calls Tryd.prog 29 #[.slice a n c, .int .u64 u] w fun e w' =>
    ∃ v, e = .returned (.tuple #[v, .bool (unB ws u)]) ∧ Own w' w.heap.size 3 .i64 v (unL ws u) ∧ Below w.heap.size w w' := by
  unfold unB unL
  cases hr : rightS ws with
  | true =>
    refine (Unpack_calls hx hn hu hr).mono ?_
    rintro e w' ⟨v, rfl, h1, h2⟩
    refine ⟨v, rfl, ?_, h2⟩
    by_cases h : restU ws u = 0
    · rw [if_pos ⟨rfl, h⟩]; rwa [if_pos h] at h1
    · rw [if_neg fun q => h q.2]; rwa [if_neg h] at h1
  | false =>
    refine (Unpack_bad hx hn hr).mono ?_
    rintro e w' ⟨rfl, rfl⟩
    exact ⟨_, rfl, by rw [if_neg fun q => Bool.noConfusion q.1]; exact own_nil _ _ _ _, Below.refl _ _⟩
theorem RUnpack_any {w : World} {a : Option Addr} {n c : Nat} {ws : List Int} (hx : Ints w .i64 a n c ws) (hn : n ≤ 1000) {u : Nat} (hu : u < 18446744073709551616) : Calls Tryd.prog 30 #[.slice a n c, .int .u64 u] w fun e w' =>
    ∃ v, e = .returned (.tuple #[v, .bool (unB ws u)]) ∧ Own w' w.heap.size 3 .i64 v (unL ws u) ∧ Below w.heap.size w w' := by
  unfold unB unL
  cases hr : rightS ws with
  | true =>
    refine (RUnpack_calls hx hn hu hr).mono ?_
    rintro e w' ⟨v, rfl, h1, h2⟩
    refine ⟨v, rfl, ?_, h2⟩
    by_cases h : restU ws u = 0
    · rw [if_pos ⟨rfl, h⟩]; rwa [if_pos h] at h1
    · rw [if_neg fun q => h q.2]; rwa [if_neg h] at h1
  | false =>
    refine (RUnpack_bad hx hn hr).mono ?_
    rintro e w' ⟨rfl, rfl⟩
    exact ⟨_, rfl, by rw [if_neg fun q => Bool.noConfusion q.1]; exact own_nil _ _ _ _, Below.refl _ _⟩
def byL (k : Int) (u : Nat) : List Int := if 0 ≤ k ∧ k ≤ 8 ∧ u / 2 ^ (8 * k.toNat) = 0 then bytesZ k.toNat u else []
theorem Bytes_any {w : World} {u : Nat} {k : Int} (hu : u < 18446744073709551616) : Calls Tryd.prog 35 #[.int .u64 u, .int .i64 k] w fun e w' => ∃ v, e = .returned v ∧ Own w' w.heap.size 5 .u8 v (byL k u) ∧ Below w.heap.size w w' := by
  unfold byL
  by_cases hg : 0 ≤ k ∧ k ≤ 8 ∧ u / 2 ^ (8 * k.toNat) = 0
  · rw [if_pos hg]
    obtain ⟨h1, h2, h3⟩ := hg
    obtain ⟨K, rfl⟩ : ∃ K : Nat, k = K := ⟨k.toNat, by omega⟩
    rw [Int.toNat_natCast] at h3 ⊢
    exact Bytes_calls hu (by omega) h3
  · rw [if_neg hg]
    have hd : ¬ (0 ≤ k ∧ k ≤ 8) ∨ (0 ≤ k ∧ k ≤ 8 ∧ u / 2 ^ (8 * k.toNat) ≠ 0) := by
      by_cases h : 0 ≤ k ∧ k ≤ 8
      · exact .inr ⟨h.1, h.2, fun h3 => hg ⟨h.1, h.2, h3⟩⟩
      · exact .inl h
    refine (Bytes_bad hd).mono ?_
    rintro e w' ⟨rfl, rfl⟩
    exact ⟨_, rfl, own_nil _ _ _ _, Below.refl _ _⟩
theorem RBytes_any {w : World} {u : Nat} {k : Int} (hu : u < 18446744073709551616) : Calls Tryd.prog 36 #[.int .u64 u, .int .i64 k] w fun e w' => ∃ v, e = .returned v ∧ Own w' w.heap.size 5 .u8 v (byL k u) ∧ Below w.heap.size w w' := by
  unfold byL
  by_cases hg : 0 ≤ k ∧ k ≤ 8
  · obtain ⟨h1, h2⟩ := hg
    obtain ⟨K, rfl⟩ : ∃ K : Nat, k = K := ⟨k.toNat, by omega⟩
    refine (RBytes_calls hu (by omega : K ≤ 8)).mono ?_
    rintro e w' ⟨v, rfl, h3, h4⟩
    refine ⟨v, rfl, ?_, h4⟩
    rw [Int.toNat_natCast, Nat.pow_mul]
    by_cases h : u / 256 ^ K = 0
    · rw [if_pos ⟨h1, h2, h⟩]; rwa [if_pos h] at h3
    · rw [if_neg fun q => h q.2.2]; rwa [if_neg h] at h3
  · rw [if_neg fun q => hg ⟨q.1, q.2.1⟩]
    refine (RBytes_bad hg).mono ?_
    rintro e w' ⟨rfl, rfl⟩
    exact ⟨_, rfl, own_nil _ _ _ _, Below.refl _ _⟩
def frU (zs : List Int) : Nat := if zs.length ≤ 8 then fromZ zs else 0
theorem From_any {w : World} {a : Option Addr} {len cap : Nat} {zs : List Int} (hx : Ints w .u8 a len cap zs) :
    Calls Tryd.prog 31 #[.slice a len cap] w fun e W' => e = .returned (.tuple #[.int .u64 (frU zs : Nat), .bool (decide (zs.length ≤ 8))]) ∧ Below w.heap.size w W' := by
  have hl := hx.len
  have hle := hx.le
  have hm := hx.max
  unfold frU
  by_cases h : zs.length ≤ 8
  · rw [if_pos h, decide_eq_true h]
    exact From_calls hx (by omega)
  · rw [if_neg h, decide_eq_false h]
    refine (From_bad (a := a) (len := len) (cap := cap) (by omega) (by omega)).mono ?_
    rintro e w' ⟨rfl, rfl⟩
    exact ⟨rfl, Below.refl _ _⟩
theorem RFrom_any {w : World} {a : Option Addr} {len cap : Nat} {zs : List Int} (hx : Ints w .u8 a len cap zs) :
    Calls Tryd.prog 32 #[.slice a len cap] w fun e W' => e = .returned (.tuple #[.int .u64 (frU zs : Nat), .bool (decide (zs.length ≤ 8))]) ∧ Below w.heap.size w W' := by
  have hl := hx.len
  have hle := hx.le
  have hm := hx.max
  unfold frU
  by_cases h : zs.length ≤ 8
  · rw [if_pos h, decide_eq_true h]
    refine (RFrom_calls hx (by omega)).mono ?_
    rintro e w' ⟨rfl, rfl⟩
    exact ⟨rfl, Below.refl _ _⟩
  · rw [if_neg h, decide_eq_false h]
    refine (RFrom_bad (a := a) (len := len) (cap := cap) (by omega) (by omega)).mono ?_
    rintro e w' ⟨rfl, rfl⟩
    exact ⟨rfl, Below.refl _ _⟩
set_option maxRecDepth 100000 in
set_option maxHeartbeats 4000000 in
theorem lawWordPacks {w : World} {a b g : Option Addr} {n m l c d h : Nat} {ws vs bs : List Int} {p k : Int} (hT : TabOk w) (hx : Ints w .i64 a n c ws) (hy : Ints w .i64 b m d vs) (h1 : (Lit.int .u64 p).wf = true) (_h2 : (Lit.int .i64 k).wf = true) (hz : Ints w .u8 g l h bs) :
    Calls Tryd.prog 4 #[.slice a n c, .slice b m d, .int .u64 p, .int .i64 k, .slice g l h] w fun e w' => e = .returned (.bool true) ∧ Below w.heap.size w w' := by
  have ha := alive_calls hT
  obtain ⟨u, rfl, hu⟩ := u64_nat5 h1
  clear h1 _h2 hT
  have hl := hx.len
  have hl2 := hy.len
  have hA := Lib.hid ha; clear ha
  by_cases hbig : 100 < n ∨ 100 < m ∨ 100 < l
  · have hd : decide ((100 : Int) < (n : Int)) = true ∨ (decide ((100 : Int) < (n : Int)) = false ∧ decide ((100 : Int) < (m : Int)) = true) ∨ (decide ((100 : Int) < (n : Int)) = false ∧ decide ((100 : Int) < (m : Int)) = false ∧ decide ((100 : Int) < (l : Int)) = true) := by
      by_cases h : 100 < n
      · exact .inl (decide_eq_true (by omega))
      · by_cases h' : 100 < m
        · exact .inr (.inl ⟨decide_eq_false (by omega), decide_eq_true (by omega)⟩)
        · exact .inr (.inr ⟨decide_eq_false (by omega), decide_eq_false (by omega), decide_eq_true (by omega)⟩)
    clear hbig hx hy hz hl hl2
    rcases hd with e1 | ⟨e1, e2⟩ | ⟨e1, e2, e3⟩
    all_goals
      go_enter Tryd.func4, Tryd.ntmps4
      go_wp2_with fail
      refine hA.out.mono ?_
      rintro e w1 ⟨rfl, b1⟩
      have hB := Lib.hid b1; clear b1
      go_wp2
      go_ret
      exact ⟨rfl, hB.out⟩
  have hn : n ≤ 100 := by omega
  have hm : m ≤ 100 := by omega
  have e1 : decide ((100 : Int) < (n : Int)) = false := decide_eq_false (by omega)
  have e2 : decide ((100 : Int) < (m : Int)) = false := decide_eq_false (by omega)
  have e3 : decide ((100 : Int) < (l : Int)) = false := decide_eq_false (by omega)
  clear hbig
  have Hx := Lib.hid hx; clear hx
  have Hy := Lib.hid hy; clear hy
  have Hz := Lib.hid hz; clear hz
  have Hl := Lib.hid hl; clear hl
  have Hl2 := Lib.hid hl2; clear hl2
  have Hu := Lib.hid hu; clear hu
  go_enter Tryd.func4, Tryd.ntmps4
  go_wp2_with fail
  refine hA.out.mono ?_
  rintro e w1 ⟨rfl, b1⟩
  have Hb := Lib.hid b1; clear b1 hA
  go_wp2_with fail
  refine (CopyInts_calls (Hx.out.keep Hb.out) (by omega)).mono ?_
  rintro e w2 ⟨v, rfl, o2, b2⟩
  obtain ⟨xa, xc, rfl, i2, -⟩ := o2.ints
  rw [Hl.out] at i2 ⊢
  have Cx := Lib.hid i2; clear i2 o2
  have hb := Hb.out.trans (b2.mono Hb.out.size)
  clear Hb b2
  have Hb := Lib.hid hb; clear hb
  go_wp2_with fail
  refine (CopyInts_calls (Hy.out.keep Hb.out) (by omega)).mono ?_
  rintro e w3 ⟨v, rfl, o3, b3⟩
  obtain ⟨ya, yc, rfl, i3, -⟩ := o3.ints
  rw [Hl2.out] at i3 ⊢
  have Cy := Lib.hid i3; clear i3 o3
  have hb := Hb.out.trans (b3.mono Hb.out.size)
  have cx := Cx.out.keep b3
  clear Hb b3 Cx
  have Cx := Lib.hid cx; clear cx
  have Hb := Lib.hid hb; clear hb
  have hp := Pack_calls Cx.out Cy.out (by omega) (by omega)
  have hpr := fun w' (hb : Below w.heap.size w w') => RPack_calls (Hx.out.keep hb) (Hy.out.keep hb) (by omega) (by omega)
  generalize (packS ws vs).1 = P at hp hpr
  generalize (packS ws vs).2 = B at hp hpr
  have Hp := Lib.hid hp; clear hp
  have Hpr := Lib.hid hpr; clear hpr
  have q1 : (P == P) = true := by simp
  have q2 : (B == B) = true := by simp
  have q3 : ((P : Int) == (P : Int)) = true := by simp
  go_wp2_with fail
  refine Hp.out.mono ?_
  rintro e w4 ⟨rfl, b4⟩
  have hb := Hb.out.trans (b4.mono Hb.out.size)
  have cx := Cx.out.keep b4
  have cy := Cy.out.keep b4
  clear Hb b4 Cx Cy Hp
  have Cx := Lib.hid cx; clear cx
  have Cy := Lib.hid cy; clear cy
  have Hb := Lib.hid hb; clear hb
  go_wp2_with fail
  refine (Hpr.out _ Hb.out).mono ?_
  rintro e w5 ⟨rfl, b5⟩
  have hb := Hb.out.trans (b5.mono Hb.out.size)
  have cx := Cx.out.keep b5
  have cy := Cy.out.keep b5
  clear Hb b5 Cx Cy Hpr
  have Cx := Lib.hid cx; clear cx
  have Cy := Lib.hid cy; clear cy
  have Hb := Lib.hid hb; clear hb
  have hq := Unpack_any Cx.out (by omega) Hu.out
  have hqr := fun w' (hb : Below w.heap.size w w') => RUnpack_any (Hx.out.keep hb) (by omega) Hu.out
  generalize unB ws u = UB at hq hqr
  generalize unL ws u = UL at hq hqr
  have q4 : (UB == UB) = true := by simp
  have Hq := Lib.hid hq; clear hq
  have Hqr := Lib.hid hqr; clear hqr
  go_wp2_with fail
  refine Hq.out.mono ?_
  rintro e w6 ⟨v, rfl, o6, b6⟩
  obtain ⟨ua, uc, rfl, i6, -⟩ := o6.ints
  obtain ⟨M, hM⟩ : ∃ M, M = UL.length := ⟨_, rfl⟩
  rw [← hM] at i6 ⊢
  have HM := Lib.hid hM; clear hM
  have hb := Hb.out.trans (b6.mono Hb.out.size)
  have cx := Cx.out.keep b6
  have cy := Cy.out.keep b6
  clear Hb b6 Cx Cy Hq o6
  have Cu := Lib.hid i6; clear i6
  have Cx := Lib.hid cx; clear cx
  have Cy := Lib.hid cy; clear cy
  have Hb := Lib.hid hb; clear hb
  go_wp2_with fail
  refine (Hqr.out _ Hb.out).mono ?_
  rintro e w7 ⟨v, rfl, o7, b7⟩
  obtain ⟨ta, tc, rfl, i7, -⟩ := o7.ints
  rw [← HM.out] at i7 ⊢
  have hb := Hb.out.trans (b7.mono Hb.out.size)
  have cx := Cx.out.keep b7
  have cy := Cy.out.keep b7
  have cu := Cu.out.keep b7
  clear Hb b7 Cx Cy Cu Hqr o7
  have Ct := Lib.hid i7; clear i7
  have Cu := Lib.hid cu; clear cu
  have Cx := Lib.hid cx; clear cx
  have Cy := Lib.hid cy; clear cy
  have Hb := Lib.hid hb; clear hb
  have hf := fun w' (hb : Below w.heap.size w w') => From_any (Hz.out.keep hb)
  have hfr := fun w' (hb : Below w.heap.size w w') => RFrom_any (Hz.out.keep hb)
  generalize frU bs = FU at hf hfr
  generalize decide (bs.length ≤ 8) = FB at hf hfr
  have q5 : (FU == FU) = true := by simp
  have q6 : (FB == FB) = true := by simp
  have q7 : ((FU : Int) == (FU : Int)) = true := by simp
  have Hf := Lib.hid hf; clear hf
  have Hfr := Lib.hid hfr; clear hfr
  go_wp2_with fail
  refine (Hf.out _ Hb.out).mono ?_
  rintro e w8 ⟨rfl, b8⟩
  have hb := Hb.out.trans (b8.mono Hb.out.size)
  have cx := Cx.out.keep b8
  have cy := Cy.out.keep b8
  have cu := Cu.out.keep b8
  have ct := Ct.out.keep b8
  clear Hb b8 Cx Cy Cu Ct Hf
  have Ct := Lib.hid ct; clear ct
  have Cu := Lib.hid cu; clear cu
  have Cx := Lib.hid cx; clear cx
  have Cy := Lib.hid cy; clear cy
  have Hb := Lib.hid hb; clear hb
  go_wp2_with fail
  refine (Hfr.out _ Hb.out).mono ?_
  rintro e w9 ⟨rfl, b9⟩
  have hb := Hb.out.trans (b9.mono Hb.out.size)
  have cx := Cx.out.keep b9
  have cy := Cy.out.keep b9
  have cu := Cu.out.keep b9
  have ct := Ct.out.keep b9
  clear Hb b9 Cx Cy Cu Ct Hfr
  have hsm := SameInts_calls cu ct rfl
  clear cu ct HM
  have Hsm := Lib.hid hsm; clear hsm
  have Cx := Lib.hid cx; clear cx
  have Cy := Lib.hid cy; clear cy
  have Hb := Lib.hid hb; clear hb
  go_wp2_with fail
  refine Hsm.out.mono ?_
  rintro e wA ⟨rfl, nd, hw4⟩
  have bd := below_drawn w9 nd
  rw [← hw4] at bd
  have hb := Hb.out.trans (bd.mono Hb.out.size)
  have cx := Cx.out.keep bd
  have cy := Cy.out.keep bd
  clear hw4 Hb Hsm bd Cx Cy
  have Cx := Lib.hid cx; clear cx
  have Cy := Lib.hid cy; clear cy
  have Hb := Lib.hid hb; clear hb
  have hy1 := fun w : World => Bytes_any (w := w) (k := k) Hu.out
  have hy2 := fun w : World => RBytes_any (w := w) (k := k) Hu.out
  generalize byL k u = BL at hy1 hy2
  have Hy1 := Lib.hid hy1; clear hy1
  have Hy2 := Lib.hid hy2; clear hy2
  go_wp2_with fail
  refine (Hy1.out _).mono ?_
  rintro e wB ⟨v, rfl, oB, bB⟩
  obtain ⟨za, zc, rfl, iB, -⟩ := oB.ints
  obtain ⟨M2, hM⟩ : ∃ M, M = BL.length := ⟨_, rfl⟩
  rw [← hM] at iB ⊢
  have HM := Lib.hid hM; clear hM
  have hb := Hb.out.trans (bB.mono Hb.out.size)
  have cx := Cx.out.keep bB
  have cy := Cy.out.keep bB
  clear Hb bB Cx Cy oB Hy1
  have CB := Lib.hid iB; clear iB
  have Cx := Lib.hid cx; clear cx
  have Cy := Lib.hid cy; clear cy
  have Hb := Lib.hid hb; clear hb
  go_wp2_with fail
  refine (Hy2.out _).mono ?_
  rintro e wC ⟨v, rfl, oC, bC⟩
  obtain ⟨ra, rc, rfl, iC, -⟩ := oC.ints
  rw [← HM.out] at iC ⊢
  have hb := Hb.out.trans (bC.mono Hb.out.size)
  have cx := Cx.out.keep bC
  have cy := Cy.out.keep bC
  have hsb := SameBytes_yes (CB.out.keep bC) iC rfl
  clear Hb bC Cx Cy oC Hy2 iC CB HM
  have Hsb := Lib.hid hsb; clear hsb
  have Cx := Lib.hid cx; clear cx
  have Cy := Lib.hid cy; clear cy
  have Hb := Lib.hid hb; clear hb
  go_wp2_with fail
  refine Hsb.out.mono ?_
  rintro e wD ⟨rfl, nd2, hwD⟩
  have bd := below_drawn wC nd2
  rw [← hwD] at bd
  have hb := Hb.out.trans (bd.mono Hb.out.size)
  have cx := Cx.out.keep bd
  have cy := Cy.out.keep bd
  clear hwD Hb Hsb bd Cx Cy
  have hsx := SameInts_calls cx (Hx.out.keep hb) rfl
  have Hsx := Lib.hid hsx; clear hsx cx
  have Cy := Lib.hid cy; clear cy
  have Hb := Lib.hid hb; clear hb
  go_wp2_with fail
  refine Hsx.out.mono ?_
  rintro e wE ⟨rfl, nd3, hwE⟩
  have bd := below_drawn wD nd3
  rw [← hwE] at bd
  have hb := Hb.out.trans (bd.mono Hb.out.size)
  have cy := Cy.out.keep bd
  clear hwE Hb Hsx bd Cy
  have hsy := SameInts_calls cy (Hy.out.keep hb) rfl
  have Hsy := Lib.hid hsy; clear hsy cy
  have Hb := Lib.hid hb; clear hb
  go_wp2_with fail
  refine Hsy.out.mono ?_
  rintro e wF ⟨rfl, nd4, hwF⟩
  have bd := below_drawn wE nd4
  rw [← hwF] at bd
  have hb := Hb.out.trans (bd.mono Hb.out.size)
  clear hwF Hb Hsy bd
  have Hb := Lib.hid hb; clear hb
  go_wp2
  go_ret
  exact ⟨rfl, Hb.out⟩
end Go.Proofs.YtjbpoegpmbnglaaDoor
