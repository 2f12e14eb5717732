/- rec.Join; SameRecs. -/
import Derived.Test.YtgpedejeifmfdaaGreatRec9
namespace Go.Proofs.YtgpedejeifmfdaaGreat
open Go.RowKit

def rightAll (l : List Rc) : Bool := l.all rightRc
theorem encs_take {l : List Rc} {j : Nat} (hj : j < l.length) : encs (l.take (j + 1)) = encs (l.take j) ++ enc l[j] := by
  rw [List.take_succ_eq_append_getElem hj, encs_append]
  congr 1
  show [l[j]].flatMap enc = _
  rw [List.flatMap_cons, List.flatMap_nil, List.append_nil]
theorem enc_len24 (r : Rc) : (enc r).length ≤ 24 := by
  have h1 := small_len r.ot r.o
  have h2 := small_len r.nt r.n
  rw [enc_len]
  unfold bodyS
  split
  · rw [bytes_len]; omega
  · split
    · simp only [List.length_append, List.length_cons, List.length_nil]; omega
    · simp
theorem encs_len : ∀ l : List Rc, (encs l).length ≤ 24 * l.length
  | [] => Nat.zero_le _
  | r :: l => by
    have := encs_len l
    have := enc_len24 r
    rw [encs_cons, List.length_append, List.length_cons]
    omega
set_option maxHeartbeats 4000000 in
theorem Join_calls {w : World} {a : Option Addr} {L c : Nat} {l : List Rc} (hx : Recs rcF w a L c l) (hok : ∀ r ∈ l, r.ok) (hL : L ≤ 100000) : Calls Tryz.prog 51 #[.slice a L c] w fun e w' =>
    ∃ v, e = .returned (.tuple #[v, .bool (rightAll l)]) ∧ Own w' w.heap.size 5 .u8 v (if rightAll l = true then encs l else []) ∧ Below w.heap.size w w' := by
  have hl := hx.len
  obtain ⟨Z, hZ⟩ : ∃ Z, Z = if rightAll l = true then encs l else [] := ⟨_, rfl⟩
  obtain ⟨R, hR⟩ : ∃ R, R = rightAll l := ⟨_, rfl⟩
  rw [← hZ, ← hR]
  have HZ := Lib.hid hZ; clear hZ
  have HR := Lib.hid hR; clear hR
  have Hx := Lib.hid hx; clear hx
  have Hl := Lib.hid hl; clear hl
  have Hok := Lib.hid hok; clear hok
  have hl0 := Hx.out.le
  have hl1 := Hx.out.max
  go_enter Tryz.func51, Tryz.ntmps51
  go_wp2_with fail
  go_loopw [4, 11] (fun u v wr => ∃ j : Nat, j ≤ L ∧ v = .int .i64 j ∧ Own wr w.heap.size 5 .u8 u (encs (l.take j)) ∧ (l.take j).all rightRc = true ∧ Below w.heap.size w wr) (fun _ v _ => L - (intOf v).toNat)
  case atStart => exact ⟨0, Nat.zero_le _, rfl, own_nil _ _ _ _, rfl, Below.refl _ _⟩
  case round =>
    obtain ⟨j, hj, rfl, hown, hall, hb⟩ := hrel
    obtain ⟨wo, rfl⟩ : ∃ wo, wo = wr := ⟨_, rfl⟩
    by_cases hlt : j < L
    · have hjl : j < l.length := by rw [Hl.out]; exact hlt
      have hx2 := Hx.out.keep hb
      obtain ⟨ga, oa, rfl⟩ := hx2.addr (by omega)
      have hcx := hx2.at hjl
      have hrok := Hok.out _ (List.getElem_mem hjl)
      have het := encs_take hjl
      have hat : (l.take (j + 1)).all rightRc = ((l.take j).all rightRc && rightRc l[j]) := by rw [List.take_succ_eq_append_getElem hjl, List.all_append]; simp
      have hall2 : rightRc l[j] = false → rightAll l = false := fun h => by
        unfold rightAll
        rw [List.all_eq_false]
        exact ⟨_, List.getElem_mem hjl, by rw [h]; decide⟩
      obtain ⟨r, hr⟩ : ∃ r, r = l[j] := ⟨_, rfl⟩
      rw [← hr] at hcx hrok het hat hall2
      clear hr
      have hen := fun w : World => Encode_calls (w := w) r hrok
      have hel := enc_len24 r
      have hsl := encs_len (l.take j)
      rw [List.length_take, show min j l.length = j by omega] at hsl
      have x0 := hcx 0 _ rfl
      have x1 := hcx 1 _ rfl
      have x2 := hcx 2 _ rfl
      have x3 := hcx 3 _ rfl
      have x4 := hcx 4 _ rfl
      have x5 := hcx 5 _ rfl
      have x6 := hcx 6 _ rfl
      have x7 := hcx 7 _ rfl
      have x8 := hcx 8 _ rfl
      have x9 := hcx 9 _ rfl
      have x10 := hcx 10 _ rfl
      simp only [rcF, Nat.add_zero] at x0 x1 x2 x3 x4 x5 x6 x7 x8 x9 x10
      clear hcx hx2
      have i1 : (0 : Int) ≤ (j : Int) := by omega
      have i2 : (j : Int) < (L : Int) := by omega
      obtain ⟨va, vc, rfl, -⟩ := hown.ints
      have Hown := Lib.hid hown; clear hown
      have Hen := Lib.hid hen; clear hen
      have Hat := Lib.hid hat; clear hat
      have Het := Lib.hid het; clear het
      have Hall := Lib.hid hall; clear hall
      have Hall2 := Lib.hid hall2; clear hall2
      have Hb := Lib.hid hb; clear hb hrok
      obtain ⟨B, hB⟩ : ∃ B, B = rightRc r := ⟨_, rfl⟩
      have hen := Hen.out
      have hat := Hat.out
      have hall2 := Hall2.out
      rw [← hB] at hen hat hall2
      have het := Het.out
      obtain ⟨E, hE⟩ : ∃ E, E = enc r := ⟨_, rfl⟩
      rw [← hE] at hen het hel
      clear hB hE Hen Hat Hall2 Het
      have Hat := Lib.hid hat; clear hat
      have Hall2 := Lib.hid hall2; clear hall2
      have Het := Lib.hid het; clear het
      obtain ⟨kd, t, m, k0, k1, k2, k3, ot, o, nt, n⟩ := r
      simp only [Rc.cells] at hen
      simp only at x0 x1 x2 x3 x4 x5 x6 x7 x8 x9 x10
      have Hen := Lib.hid hen; clear hen
      obtain ⟨w4, hw4⟩ : ∃ w4, w4 = wo.alloc (.cells #[.int .i64 kd, .int .i64 t, .int .u16 m, .int .u8 k0, .int .u8 k1, .int .u8 k2, .int .u8 k3, .bool ot, .int .i64 o, .bool nt, .int .i64 n] 63) := ⟨_, rfl⟩
      have b4 : Below wo.heap.size wo w4 := by rw [hw4]; exact (Below.refl _ _).alloc (Nat.le_refl _) _
      have z4 : w4.heap[wo.heap.size]? = some (.cells #[.int .i64 kd, .int .i64 t, .int .u16 m, .int .u8 k0, .int .u8 k1, .int .u8 k2, .int .u8 k3, .bool ot, .int .i64 o, .bool nt, .int .i64 n] 63 (0, 0)) := by rw [hw4]; exact heap_alloc_new wo _
      have own4 := Hown.out.below b4
      have b04 := Hb.out.trans (b4.mono Hb.out.size)
      clear b4
      have Own4 := Lib.hid own4; clear own4 Hown
      have B04 := Lib.hid b04; clear b04 Hb
      have Z4 := Lib.hid z4; clear z4
      cases B with
      | false =>
        have hR := HR.out
        have hZ := HZ.out
        rw [Hall2.out rfl] at hR hZ
        rw [if_neg (by decide)] at hZ
        have HR2 := Lib.hid hR; clear hR HR
        have HZ2 := Lib.hid hZ; clear hZ HZ
        go_wp2_with fail
        rw [← hw4]
        clear hw4
        refine (Hen.out _).mono ?_
        rintro e w5 ⟨v, rfl, own5, b5⟩
        have b05 := B04.out.trans (b5.mono B04.out.size)
        clear own5 b5
        have B05 := Lib.hid b05; clear b05
        go_wp2_with fail
        go_ret2
        exact ⟨_, by rw [HR2.out]; rfl, by rw [HZ2.out]; exact own_nil _ _ _ _, B05.out⟩
      | true =>
        go_wp2_with fail
        rw [← hw4]
        clear hw4 x0 x1 x2 x3 x4 x5 x6 x7 x8 x9 x10
        refine (Hen.out _).mono ?_
        rintro e w5 ⟨v, rfl, own5, b5⟩
        rw [if_pos trivial] at own5
        have b05 := B04.out.trans (b5.mono B04.out.size)
        have own45 := Own4.out.below b5
        obtain ⟨ea, ec, rfl, ei, -⟩ := own5.ints
        clear own5 b5 Own4
        have Own5 := Lib.hid own45; clear own45
        have B05 := Lib.hid b05; clear b05
        have Ei := Lib.hid ei; clear ei
        go_wp2_with (with_reducible refine stop_builtin .append ?_)
        refine unpark ?_
        refine wpList_append_ints _ rfl _ _ 39 rfl .u8 w.heap.size 5 (.int .u8 0) 1 Tryz.underlying39 Tryz.infoU8 rfl _ _ rfl Own5.out _ E.length ec _ rfl Ei.out (by omega) (by decide) B05.out.size ?_
        intro v' w6 own6 g6 _
        have b06 := B05.out.grown g6 B05.out.size (fun k hk => (Own5.out.block k hk).1)
        rw [← Het.out] at own6
        have hal : (l.take (j + 1)).all rightRc = true := by rw [Hat.out, Hall.out]; rfl
        clear Own5 B05 Ei g6 Hen Het Hall Hat Hall2
        have B06 := Lib.hid b06; clear b06
        have Own6 := Lib.hid own6; clear own6
        have Hal := Lib.hid hal; clear hal
        go_wp2_with fail
        go_roundw
        case rel => exact ⟨j + 1, by omega, by go_num, Own6.out, Hal.out, B06.out⟩
        case measure => simp [intOf]; omega
    · obtain rfl : j = L := by omega
      have e : l.take j = l := by rw [← Hl.out, List.take_length]
      rw [e] at hown hall
      have hR := HR.out
      have hZ := HZ.out
      rw [show rightAll l = true from hall] at hR hZ
      rw [if_pos rfl] at hZ
      have HR2 := Lib.hid hR; clear hR HR
      have HZ2 := Lib.hid hZ; clear hZ HZ
      have Hown := Lib.hid hown; clear hown hall e
      have Hb := Lib.hid hb; clear hb
      go_wp2_with fail
      go_ret2
      exact ⟨_, by rw [HR2.out]; rfl, by rw [HZ2.out]; exact Hown.out, Hb.out⟩
set_option maxHeartbeats 2000000 in
theorem SameRecs_calls {a1 a2 : Option Addr} {n1 n2 c1 c2 : Nat} {xs ys : List Rc} {w : World} (hx : Recs rcF w a1 n1 c1 xs) (hy : Recs rcF w a2 n2 c2 ys) (he : xs = ys) :
    Calls Tryz.prog 18 #[.slice a1 n1 c1, .slice a2 n2 c2] w fun e w' => e = .returned (.bool true) ∧ ∃ n, w' = w.drewN n := by
  subst he
  have hl1 := hx.len
  have hl2 := hy.len
  obtain rfl : n1 = n2 := by omega
  have hle1 := hx.le
  have hle2 := hy.le
  have hm1 := hx.max
  have hm2 := hy.max
  have Hx := Lib.hid hx; clear hx
  have Hy := Lib.hid hy; clear hy
  have Hl1 := Lib.hid hl1; clear hl1 hl2
  go_enter Tryz.func18, Tryz.ntmps18
  go_wp2_with fail
  go_loopw [5] (fun v wr => ∃ k : Nat, k ≤ n1 ∧ v = .int .i64 k ∧ ∃ n, wr = w.drewN n) (fun v _ => n1 - (intOf v).toNat)
  case atStart => exact ⟨0, Nat.zero_le _, rfl, 0, rfl⟩
  case round =>
    obtain ⟨k, hk, rfl, nd, rfl⟩ := hrel
    by_cases hlt : k < n1
    · have hx := Hx.out
      have hy := Hy.out
      obtain ⟨b1, o1, rfl⟩ := hx.addr (by omega)
      obtain ⟨b2, o2, rfl⟩ := hy.addr (by omega)
      have hkx : k < xs.length := by rw [Hl1.out]; exact hlt
      have hcx := hx.at hkx
      have hcy := hy.at hkx
      obtain ⟨m, hm⟩ : ∃ m, m = xs[k] := ⟨_, rfl⟩
      rw [← hm] at hcx hcy
      have hq := fun w => rc_neq w m m
      have hg := fun x y w => rc_guard .neq x y m m w
      clear hm hx hy
      have x0 := hcx 0 _ rfl
      have x1 := hcx 1 _ rfl
      have x2 := hcx 2 _ rfl
      have x3 := hcx 3 _ rfl
      have x4 := hcx 4 _ rfl
      have x5 := hcx 5 _ rfl
      have x6 := hcx 6 _ rfl
      have x7 := hcx 7 _ rfl
      have x8 := hcx 8 _ rfl
      have x9 := hcx 9 _ rfl
      have x10 := hcx 10 _ rfl
      have y0 := hcy 0 _ rfl
      have y1 := hcy 1 _ rfl
      have y2 := hcy 2 _ rfl
      have y3 := hcy 3 _ rfl
      have y4 := hcy 4 _ rfl
      have y5 := hcy 5 _ rfl
      have y6 := hcy 6 _ rfl
      have y7 := hcy 7 _ rfl
      have y8 := hcy 8 _ rfl
      have y9 := hcy 9 _ rfl
      have y10 := hcy 10 _ rfl
      obtain ⟨kd, t, m, k0, k1, k2, k3, ot, o, nt, n⟩ := m
      simp only [rcF, Nat.add_zero] at x0 x1 x2 x3 x4 x5 x6 x7 x8 x9 x10 y0 y1 y2 y3 y4 y5 y6 y7 y8 y9 y10
      simp only [Rc.cells, decide_true, Bool.not_true] at hq hg
      clear hcx hcy
      have i1 : (0 : Int) ≤ (k : Int) := by omega
      have i2 : (k : Int) < (n1 : Int) := by omega
      go_wp2_with fail
      go_quiet (fail)
      go_wp2_with fail
      go_roundw
      case rel => exact ⟨k + 1, by omega, by go_num, _, rfl⟩
      case measure => simp [intOf]; omega
    · obtain rfl : k = n1 := by omega
      go_wp2_with fail
      go_ret
      exact ⟨rfl, _, rfl⟩
end Go.Proofs.YtgpedejeifmfdaaGreat
