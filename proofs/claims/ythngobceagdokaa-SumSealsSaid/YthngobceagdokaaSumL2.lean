/- The walks of the laws SumParts and SumSeals. -/
import Derived.Test.YthngobceagdokaaSumA
namespace Go.Proofs.Ythngobceagdokaa
open Go.RowKit Go.Sort

theorem sealed_take {xs : List Int} {n : Nat} (h : xs.length = n) : (sealed xs).take n = xs := by
  unfold sealed; rw [← h]; exact List.take_left
theorem opened_of_sealed (xs : List Int) : opened (sealed xs) = true := by
  have hl := sealed_len xs
  have e : (sealed xs).length - 3 = xs.length := by omega
  unfold opened
  rw [e, sealed_take rfl, Bool.and_eq_true, decide_eq_true_iff, decide_eq_true_iff]
  refine ⟨by omega, ?_⟩
  unfold sealed; exact List.drop_left.symm
theorem sealed_zero (xs : List Int) (h : ∀ z ∈ xs, (Lit.int .u8 z).wf = true) : crc 11994318 (sealed xs) = 0 := by
  unfold sealed
  rw [crc_append]
  exact crc_three (crc_lt (by decide) fun z hz => (wf_u8 (h z hz)).2)

theorem Open_yes {a : Option Addr} {n c : Nat} {xs ys : List Int} {m : Nat} {w : World} (hx : Ints w .u8 a n c xs) (hn : n ≤ 140737488355328) (ho : opened xs = true) (hy : xs.take (xs.length - 3) = ys) (hm : ys.length = m) :
    Calls Try.prog 10 #[.slice a n c] w fun e w' => ∃ a' c', e = .returned (.tuple #[.slice a' m c', .bool true]) ∧ Ints w' .u8 a' m c' ys ∧ Below w.heap.size w w' :=
  (Open_calls hx hn).mono fun e w' ⟨hb, h⟩ => by
    rcases h with ⟨h, _⟩ | ⟨_, v, h1, h2⟩
    · rw [ho] at h; cases h
    · rw [hy] at h2
      obtain ⟨a', c', rfl, hi, _⟩ := h2.ints
      rw [hm] at hi h1
      exact ⟨a', c', h1, hi, hb⟩
theorem Open_no {a : Option Addr} {n c : Nat} {xs : List Int} {w : World} (hx : Ints w .u8 a n c xs) (hn : n ≤ 140737488355328) (ho : opened xs = false) :
    Calls Try.prog 10 #[.slice a n c] w fun e w' => e = .returned (.tuple #[.slice none 0 0, .bool false]) ∧ Below w.heap.size w w' :=
  (Open_calls hx hn).mono fun e w' ⟨hb, h⟩ => by
    rcases h with ⟨_, h⟩ | ⟨h, _⟩
    · exact ⟨h, hb⟩
    · rw [ho] at h; cases h
theorem Seal_ints {a : Option Addr} {n c : Nat} {xs : List Int} {w : World} (hx : Ints w .u8 a n c xs) (hn : n ≤ 140737488355320) :
    Calls Try.prog 20 #[.slice a n c] w fun e w' => ∃ a' c', e = .returned (.slice a' (n + 3) c') ∧ Ints w' .u8 a' (n + 3) c' (sealed xs) ∧ Below w.heap.size w w' :=
  (Seal_calls hx hn).mono fun e w' ⟨v, h, hv, hb⟩ => by
    obtain ⟨a', c', rfl, hi, _⟩ := hv.ints
    rw [sealed_len, hx.len] at hi h
    exact ⟨a', c', h, hi, hb⟩

set_option maxHeartbeats 1600000 in
theorem lawSumParts {a0 a1 : Option Addr} {n0 c0 n1 c1 : Nat} {xs ys : List Int} {w : World} (hx : Ints w .u8 a0 n0 c0 xs) (hy : Ints w .u8 a1 n1 c1 ys) :
    Calls Try.prog 4 #[.slice a0 n0 c0, .slice a1 n1 c1] w fun e w' => e = .returned (.bool true) ∧ Below w.heap.size w w' := by
  have hlx := hx.len
  have hly := hy.len
  have hmx := hx.max
  have hpx := hx.le
  have hmy := hy.max
  have hpy := hy.le
  go_enter Try.func4, Try.ntmps4
  go_wp2_with fail
  refine alive_calls.mono ?_
  rintro e w1 ⟨rfl, hb1⟩
  by_cases hg : n0 ≤ 1000 ∧ n1 ≤ 1000
  · obtain ⟨hg1, hg2⟩ := hg
    go_wp2_with fail
    refine (CopyBytes_calls (hx.keep hb1) (by omega)).mono ?_
    rintro e w2 ⟨v, rfl, hv, hne, hb2⟩
    have hb2' : Below w.heap.size w w2 := hb1.trans (hb2.mono hb1.size)
    have hy2 := hy.keep hb2'
    have hbnd : (xs.length + n1) * 1 ≤ 140737488355328 := by omega
    have hsz : w1.heap.size ≤ w2.heap.size := hb2.size
    have hsz0 : w.heap.size ≤ w1.heap.size := hb1.size
    clear hne hb2 hb1
    go_wp2_with (at_builtin; refine wpList_append_ints _ rfl _ _ 22 rfl .u8 w1.heap.size 5 (.int .u8 0) 1 Try.underlying22 Try.infoU8 rfl v xs rfl hv a1 n1 c1 ys rfl hy2 hbnd (by decide) hsz ?_; intro v' w3 hown' hg3 hne')
    have hb3 : Below w.heap.size w w3 := hb2'.grown hg3 (by omega) (fun k hk => Nat.le_trans hsz0 (hv.block k hk).1)
    have hlen : (xs ++ ys).length = n0 + n1 := by rw [List.length_append]; omega
    obtain ⟨a2, c2, rfl, hi, _⟩ := hown'.ints
    rw [hlen] at hi ⊢
    have hx3 := hx.keep hb3
    have hy3 := hy.keep hb3
    have hwf := crc_wf xs hx.fit
    have hlt := crc_lt (s := 11994318) (by decide) fun z hz => (wf_u8 (hx.fit z hz)).2
    have hlt2 := crc_lt (s := 11994318) (by decide) fun z hz => (wf_u8 (hi.fit z hz)).2
    have hz := sealed_zero _ hi.fit
    have hcat := crc_append 11994318 xs ys
    have hmod : (((crc 11994318 xs : Nat) : Int) % 16777216).toNat = crc 11994318 xs := by omega
    have hmore : ((crc (((crc 11994318 xs : Nat) : Int) % 16777216).toNat ys : Nat) : Int) = ((crc 11994318 (xs ++ ys) : Nat) : Int) := by rw [hmod, hcat]
    have hz' : ((crc 11994318 (sealed (xs ++ ys)) : Nat) : Int) = 0 := by rw [hz]; rfl
    obtain ⟨S, hS⟩ : ∃ S, S = crc 11994318 (xs ++ ys) := ⟨_, rfl⟩
    rw [← hS] at hmore hlt2
    have hS' : ((crc 11994318 (xs ++ ys) : Nat) : Int) = (S : Int) := by rw [hS]
    have hdec : decide ((S : Int) < 16777216) = true := decide_eq_true (by omega)
    have hdec0 : decide ((0 : Int) ≤ (S : Int)) = true := decide_eq_true (by omega)
    clear hlt2
    have HM := Lib.hid hmore; clear hmore
    have HS := Lib.hid hS'; clear hS'
    have HZ := Lib.hid hz'; clear hz'
    have Hwf := Lib.hid hwf; clear hwf
    clear hS hmod hcat hz hlt hlen hown' hg3 hne' hv hy2 hb2' hlx hly
    go_wp2_with fail
    refine (Sum_lit hi HS.out).mono ?_
    rintro e w4 ⟨rfl, rfl⟩
    go_wp2_with fail
    refine (Sum_calls hx3).mono ?_
    rintro e w4 ⟨rfl, rfl⟩
    go_wp2_with fail
    refine (More_lit Hwf.out hy3 HM.out).mono ?_
    rintro e w4 ⟨rfl, rfl⟩
    go_wp2_with fail
    refine (Seal_ints hi (by omega)).mono ?_
    rintro e w4 ⟨a3, c3, rfl, hi3, hb4⟩
    go_wp2_with fail
    refine (Sum_lit hi3 HZ.out).mono ?_
    rintro e w5 ⟨rfl, rfl⟩
    go_wp2
    go_ret
    exact ⟨rfl, hb3.trans (hb4.mono hb3.size)⟩
  · have hg' : 1000 < n0 ∨ 1000 < n1 := by omega
    rcases hg' with hg' | hg'
    all_goals
      go_wp2
      all_goals go_ret
      all_goals exact ⟨rfl, hb1⟩
end Go.Proofs.Ythngobceagdokaa
