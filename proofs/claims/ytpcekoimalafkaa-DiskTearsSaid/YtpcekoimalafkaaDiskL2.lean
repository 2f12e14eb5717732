/- DiskTears: the walk of the law. -/
import Derived.Test.YtpcekoimalafkaaDiskB
import Derived.Test.YtpcekoimalafkaaDiskP
import Derived.Test.YtpcekoimalafkaaDiskO
namespace Go.Proofs.Ytpcekoimalafkaa
open Go.RowKit

theorem tears_state {S : List (List Int)} {k : Nat} (hk : k < S.length) {zs : List Int} (hz : zs.length = 32) (tear : Int) :
    readOf (crashed S (written S [] (k : Int) zs) 0 tear) [] (k : Int) = zs.take (clampTo tear 31) ++ (S.getD k []).drop (clampTo tear 31) := by
  have e1 : written S [] (k : Int) zs = [((k : Int), zs)] := by unfold written; rw [if_pos ⟨by omega, by omega, hz⟩]; rfl
  have e2 : crashed S [((k : Int), zs)] 0 tear = torn S ((k : Int), zs) (clampTo tear 31) := by
    unfold crashed
    have : clampTo 0 [((k : Int), zs)].length = 0 := by show clampTo 0 1 = 0; decide
    rw [this]
    rfl
  rw [e1, e2]
  unfold torn
  rw [readOf_flat (by simpa using hk), getD_set S _ k _ hk, if_pos (by simp)]
  simp

set_option maxHeartbeats 2000000 in
theorem lawDiskTears {w : World} {n : Int} (_hn : (Lit.int .i64 n).wf = true) {a : Option Addr} {m c : Nat} {xs : List CallV} (hr : CallRow w a m c xs)
    {p : Int} (_hp : (Lit.int .i64 p).wf = true) {da : Option Addr} {dn dc : Nat} {zs : List Int} (hd : Ints w .u8 da dn dc zs) {tear : Int} (_ht : (Lit.int .i64 tear).wf = true) :
    Calls Try.prog 6 #[.int .i64 n, .slice a m c, .int .i64 p, .slice da dn dc, .int .i64 tear] w fun e w' => e = .returned (.bool true) ∧ Below w.heap.size w w' := by
  go_enter Try.func6, Try.ntmps6
  go_wp2_with fail
  refine alive_calls.mono ?_
  rintro e w1 ⟨rfl, b1⟩
  have hr1 := hr.keep b1
  have hd1 := hd.keep b1
  have B1 := Lib.hid b1; clear b1
  go_wp2_with fail
  refine (great_calls hr1).mono ?_
  rintro e w2 ⟨rfl, rfl⟩
  cases hg : greatOf xs with
  | true =>
    go_wp2
    go_ret
    exact ⟨rfl, B1.out⟩
  | false =>
  by_cases h1 : n < 1
  · have hd : decide (n < 1) = true := decide_eq_true h1
    go_wp2
    go_ret
    exact ⟨rfl, B1.out⟩
  have e1 : decide (n < 1) = false := decide_eq_false h1
  by_cases h2 : 40 < n
  · have e2 : decide (40 < n) = true := decide_eq_true h2
    go_wp2
    go_ret
    exact ⟨rfl, B1.out⟩
  have e2 : decide (40 < n) = false := decide_eq_false h2
  by_cases h3 : p < 0
  · have e3 : decide (p < 0) = true := decide_eq_true h3
    go_wp2
    go_ret
    exact ⟨rfl, B1.out⟩
  have e3 : decide (p < 0) = false := decide_eq_false h3
  by_cases h4 : n ≤ p
  · have e4 : decide (n ≤ p) = true := decide_eq_true h4
    go_wp2
    go_ret
    exact ⟨rfl, B1.out⟩
  have e4 : decide (n ≤ p) = false := decide_eq_false h4
  by_cases h5 : dn ≠ 32
  · have e5 : ((dn : Int) != 32) = true := by simp; omega
    go_wp2
    go_ret
    exact ⟨rfl, B1.out⟩
  obtain rfl : dn = 32 := Decidable.not_not.1 h5
  clear h5
  obtain ⟨N, rfl⟩ : ∃ N : Nat, n = N := ⟨n.toNat, by omega⟩
  obtain ⟨k, rfl⟩ : ∃ k : Nat, p = k := ⟨p.toNat, by omega⟩
  have HG := Lib.hid hg; clear hg
  go_wp2_with fail
  refine (begin_dev (w0 := w) B1.out (by omega) (by omega) hr1 HG.out).mono ?_
  rintro e w3 ⟨b, F, rfl, d3, f3, b3⟩
  have x3 := hd1.keep b3
  have hxF : ∀ b o, da = some ⟨b, o, none⟩ → ¬ F b := by
    rintro b o rfl hF
    obtain ⟨b', o', e', hc⟩ := hd1.cell (by decide)
    cases e'
    have h1 := World.block_lt_of_cell? _ _ (hc 0 (by decide))
    have h2 := f3 b hF
    simp at h1
    omega
  have hlen : (stepsOf (fresh N, []) xs).1.length = N := by rw [(stepsOf_len _ _).1]; simp [fresh]
  obtain ⟨s, hs⟩ : ∃ s, s = stepsOf (fresh N, []) xs := ⟨_, rfl⟩
  rw [← hs] at d3 hlen
  clear hs hr1 e1 e2 e3 e4 f3 b3 hd1
  have Hlen := Lib.hid hlen; clear hlen
  have HxF := Lib.hid hxF; clear hxF
  go_wp2_with fail
  refine (Flush_dev d3).mono ?_
  rintro e w4 ⟨rfl, d4, m4⟩
  have x4 := m4.ints x3 HxF.out
  clear d3 m4 x3
  obtain ⟨S, hS⟩ : ∃ S, S = settled s.1 s.2 := ⟨_, rfl⟩
  rw [← hS] at d4
  have hlS : S.length = N := by rw [hS, settled_len, Hlen.out]
  clear hS Hlen
  have HlS := Lib.hid hlS; clear hlS
  have hkS : k < S.length := by rw [HlS.out]; omega
  have HkS := Lib.hid hkS; clear hkS
  go_wp2_with fail
  refine (Read_dev d4 k).mono ?_
  rintro e w5 ⟨v5, rfl, o5, b5, d5⟩
  have x5 := x4.keep b5
  have hro : readOf S [] (k : Int) = S.getD k [] := readOf_flat HkS.out
  replace o5 : Own w5 w4.heap.size 5 .u8 v5 (readOf S [] (k : Int)) := o5
  rw [hro] at o5
  have hse : Sector (S.getD k []) := by rw [← hro]; exact d4.sector (k := (k : Int)) ⟨by omega, by have := HkS.out; simp; omega⟩
  obtain ⟨O, hO⟩ : ∃ O, O = S.getD k [] := ⟨_, rfl⟩
  rw [← hO] at o5 hse hro
  have hst := tears_state HkS.out x5.len tear
  rw [← hO] at hst
  have hws : written S [] (k : Int) zs = written S [] (k : Int) zs := rfl
  obtain ⟨g5, c5, rfl, y5⟩ := o5.ofInts (n := 32) hse.1 (by decide)
  have hg5 := (o5.block g5 rfl).1
  have hgF : ∀ b o, some (⟨g5, 0, none⟩ : Addr) = some ⟨b, o, none⟩ → ¬ F b := by
    rintro b o e hF
    cases e
    have := (d4.low _ hF).2
    omega
  have HgF := Lib.hid hgF; clear hgF
  have herr : readErr (S, ([] : List (Int × List Int))) (k : Int) = 0 := by unfold readErr; rw [if_pos ⟨by omega, by have := HkS.out; simp; omega⟩]
  rw [herr]
  have hwe : writeErr S (k : Int) 32 = 0 := by unfold writeErr; rw [if_pos ⟨by omega, by have := HkS.out; omega⟩, if_pos rfl]
  clear hO hro o5 b5 x4 d4 hws herr hg5
  have Hse := Lib.hid hse; clear hse
  have Hst := Lib.hid hst; clear hst
  have Hwe := Lib.hid hwe; clear hwe
  go_wp2_with fail
  refine (Write_dev d5 k x5 (by simp)).mono ?_
  rintro e w6 ⟨rfl, d6, m6⟩
  rw [Hwe.out]
  have x6 := m6.ints x5 HxF.out
  have y6 := m6.ints y5 HgF.out
  have gF6 : ∀ b, grownF F w5 w6 b → F b ∨ w5.heap.size ≤ b := fun b h => h.imp id fun h => h.1
  have hx5 : ∀ b o, da = some ⟨b, o, none⟩ → ¬ grownF F w5 w6 b := by
    rintro b o rfl hF
    rcases gF6 b hF with h | h
    · exact HxF.out b o rfl h
    · obtain ⟨b', o', e', hc⟩ := x5.cell (by decide)
      cases e'
      have h1 := World.block_lt_of_cell? _ _ (hc 0 (by decide))
      simp at h1
      omega
  have hy5 : ∀ b o, some (⟨g5, 0, none⟩ : Addr) = some ⟨b, o, none⟩ → ¬ grownF F w5 w6 b := by
    rintro b o e hF
    rcases gF6 b hF with h | h
    · exact HgF.out b o e h
    · cases e
      obtain ⟨b', o', e', hc⟩ := y5.cell (by decide)
      cases e'
      have h1 := World.block_lt_of_cell? _ _ (hc 0 (by decide))
      simp at h1
      omega
  have Hx5 := Lib.hid hx5; clear hx5
  have Hy5 := Lib.hid hy5; clear hy5
  clear gF6 m6 x5 y5 d5
  go_wp2_with fail
  refine (Crash_dev d6 0 tear).mono ?_
  rintro e w7 ⟨rfl, d7, m7⟩
  have x7 := m7.ints x6 Hx5.out
  have y7 := m7.ints y6 Hy5.out
  clear d6 m7 x6 y6
  go_wp2_with fail
  refine (Read_dev d7 k).mono ?_
  rintro e w8 ⟨v8, rfl, o8, b8, d8⟩
  have x8 := x7.keep b8
  have y8 := y7.keep b8
  have hlc : (k : Int) < ((crashed S (written S [] (k : Int) zs) 0 tear).length : Int) := by rw [crashed_len]; have := HkS.out; omega
  have hsec8 := d7.sector (k := (k : Int)) ⟨by omega, hlc⟩
  have herr : readErr (crashed S (written S [] (k : Int) zs) 0 tear, ([] : List (Int × List Int))) (k : Int) = 0 := by
    unfold readErr
    rw [if_pos ⟨by omega, hlc⟩]
  rw [herr]
  replace o8 : Own w8 w7.heap.size 5 .u8 v8 (readOf (crashed S (written S [] (k : Int) zs) 0 tear) [] (k : Int)) := o8
  obtain ⟨g8, c8, rfl, z8⟩ := o8.ofInts (n := 32) hsec8.1 (by decide)
  rw [Hst.out] at z8
  have hb := d8.bel
  clear hlc herr o8 b8 hsec8 d7 d8 x7 y7 Hst
  have Hb := Lib.hid hb; clear hb
  obtain ⟨T, hT⟩ : ∃ T, T = clampTo tear 31 := ⟨_, rfl⟩
  have hT31 : T ≤ 31 := by rw [hT]; unfold clampTo; omega
  have hrunT := clamp_run tear 31
  rw [← hT] at hrunT z8
  have hmaxT : ∀ w, (Builtin.max_ #[3, 3] 3 #[.int .i64 tear, .int .i64 0]).run Try.prog w = .ok (.int .i64 (if (0 : Int) > tear then 0 else tear)) w := fun w => rfl
  obtain ⟨M, hM⟩ : ∃ M, M = (if (0 : Int) > tear then 0 else tear) := ⟨_, rfl⟩
  rw [← hM] at hrunT hmaxT
  have hminT : ∀ w, (Builtin.min_ #[3, 3] 3 #[.int .i64 M, .int .i64 31]).run Try.prog w = .ok (.int .i64 T) w := fun w => by rw [← hrunT]; rfl
  clear hT hrunT hM
  have hc8 := z8.le
  have hcx := x8.le
  have hcy := y8.le
  have mc8 := z8.max
  have mcx := x8.max
  have mcy := y8.max
  have n8 : ¬ c8 = T := by omega
  have nx : ¬ dc = T := by omega
  have ny : ¬ c5 = T := by omega
  go_wp2_with fail
  refine wp_region_chain [0, 1, 2, 3, 4, 5, 6, 7, 8, 9, 10, 11, 12, 13, 14, 15, 16] (by kernel_rfl) (by kernel_rfl) rfl (by kernel_rfl) (fun _ _ _ h => nomatch h.2.1) (fun _ _ h => nomatch h.1) ?_
  simp only [List.map_cons, List.map_nil, List.getD_cons_zero, List.getD_cons_succ]
  have x9 := x8.drew
  have y9 := y8.drew
  have z9 := z8.drew
  have b9 : Below w.heap.size w w8.drew := Hb.out.trans ⟨rfl, rfl, rfl, Nat.le_refl _, fun _ _ => rfl⟩
  clear x8 y8 z8 Hb
  generalize w8.drew = w9 at *
  have Hb9 := Lib.hid b9; clear b9
  obtain ⟨dx, ox, rfl, _⟩ := x9.cell (by decide)
  go_wp2_with fail
  have hlz := x9.len
  have hl1 : (zs.take T).length = T := by rw [List.length_take, hlz]; omega
  have q1 : (zs.take T ++ O.drop T).take T = zs.take T := by rw [List.take_append_of_le_length (by omega), List.take_of_length_le (by omega)]
  have q2 : (zs.take T ++ O.drop T).drop T = O.drop T := by rw [List.drop_append, hl1, List.drop_of_length_le (by omega), Nat.sub_self]; rfl
  refine (SameBytes_yes (z9.take T (by omega)) (x9.take T (by omega)) q1).mono ?_
  rintro e wa ⟨rfl, na, rfl⟩
  have y10 := (y9.drewN na).dropAt T (by omega)
  have z10 := (z9.drewN na).dropAt T (by omega)
  have ba : Below w.heap.size w (w9.drewN na) := Hb9.out.trans ⟨rfl, rfl, rfl, Nat.le_refl _, fun _ _ => rfl⟩
  clear x9 y9 z9 Hb9 hlz hl1 q1
  have Hq2 := Lib.hid q2; clear q2
  generalize w9.drewN na = w10 at *
  have Hba := Lib.hid ba; clear ba
  go_wp2_with fail
  simp only [Nat.zero_add] at z10 y10
  refine (SameBytes_yes z10 y10 Hq2.out).mono ?_
  rintro e wb ⟨rfl, nb, rfl⟩
  go_wp2
  go_ret
  exact ⟨rfl, Hba.out.trans ⟨rfl, rfl, rfl, Nat.le_refl _, fun _ _ => rfl⟩⟩
end Go.Proofs.Ytpcekoimalafkaa
