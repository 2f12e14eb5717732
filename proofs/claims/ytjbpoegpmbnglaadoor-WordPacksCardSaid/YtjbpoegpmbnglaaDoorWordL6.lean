/- The law WordBack. -/
import Derived.Test.YtjbpoegpmbnglaaDoorWordL5
namespace Go.Proofs.YtjbpoegpmbnglaaDoor
open Go.RowKit

theorem okV_cons {k v : Int} {ws vs : List Int} (h : okV (k :: ws) (v :: vs)) : fitB k v = true ∧ okV ws vs := by
  refine ⟨h 0 (by simp), fun j hj => ?_⟩
  have := h (j + 1) (by simpa using hj)
  simpa using this
theorem okV_mk {k v : Int} {ws vs : List Int} (h1 : fitB k v = true) (h2 : okV ws vs) : okV (k :: ws) (v :: vs) := fun j hj => by
  cases j with
  | zero => simpa using h1
  | succ j => simpa using h2 j (by simpa using hj)
theorem unpack_pack : ∀ {ws vs : List Int}, vs.length = ws.length → okV ws vs → outZ ws (packV ws vs) = vs ∧ restU ws (packV ws vs) = 0
  | [], [], _, _ => ⟨rfl, rfl⟩
  | [], _ :: _, h, _ => by simp at h
  | _ :: _, [], h, _ => by simp at h
  | k :: ws, v :: vs, h, ho => by
    obtain ⟨h1, h2⟩ := okV_cons ho
    obtain ⟨i1, i2⟩ := unpack_pack (ws := ws) (vs := vs) (by simpa using h) h2
    have hf := of_decide_eq_true h1
    have hlt : v.toNat < 2 ^ k.toNat := by
      have h3 := hf.2
      rw [show (2 : Int) ^ k.toNat = ((2 ^ k.toNat : Nat) : Int) by push_cast; rfl] at h3
      omega
    have hp := Nat.two_pow_pos k.toNat
    have e1 : (v.toNat + 2 ^ k.toNat * packV ws vs) % 2 ^ k.toNat = v.toNat := by rw [Nat.add_mul_mod_self_left, Nat.mod_eq_of_lt hlt]
    have e2 : (v.toNat + 2 ^ k.toNat * packV ws vs) / 2 ^ k.toNat = packV ws vs := by rw [Nat.add_mul_div_left _ _ hp, Nat.div_eq_of_lt hlt, Nat.zero_add]
    constructor
    · show (((v.toNat + 2 ^ k.toNat * packV ws vs) % 2 ^ k.toNat : Nat) : Int) :: outZ ws ((v.toNat + 2 ^ k.toNat * packV ws vs) / 2 ^ k.toNat) = v :: vs
      rw [e1, e2, i1]
      congr 1
      omega
    · show restU ws ((v.toNat + 2 ^ k.toNat * packV ws vs) / 2 ^ k.toNat) = 0
      rw [e2, i2]
theorem pack_unpack : ∀ {ws : List Int} {u : Nat}, okW ws → restU ws u = 0 → packV ws (outZ ws u) = u ∧ okV ws (outZ ws u)
  | [], u, _, h => ⟨Eq.symm h, fun j hj => by cases hj⟩
  | k :: ws, u, hok, h => by
    obtain ⟨i1, i2⟩ := pack_unpack (ws := ws) (u := u / 2 ^ k.toNat) (fun x hx => hok x (.tail _ hx)) h
    have hp := Nat.two_pow_pos k.toNat
    constructor
    · show ((u % 2 ^ k.toNat : Nat) : Int).toNat + 2 ^ k.toNat * packV ws (outZ ws (u / 2 ^ k.toNat)) = u
      rw [i1, Int.toNat_natCast, Nat.mod_add_div]
    · refine okV_mk (decide_eq_true ⟨by omega, ?_⟩) i2
      have := Nat.mod_lt u hp
      rw [show (2 : Int) ^ k.toNat = ((2 ^ k.toNat : Nat) : Int) by push_cast; rfl]
      omega
theorem pack_bound : ∀ {ws vs : List Int}, okW ws → vs.length = ws.length → okV ws vs → packV ws vs < 2 ^ (sumW ws).toNat
  | [], [], _, _, _ => by decide
  | [], _ :: _, _, h, _ => by simp at h
  | _ :: _, [], _, h, _ => by simp at h
  | k :: ws, v :: vs, hw, h, ho => by
    obtain ⟨h1, h2⟩ := okV_cons ho
    have hw2 : okW ws := fun x hx => hw x (.tail _ hx)
    have ih := pack_bound (ws := ws) (vs := vs) hw2 (by simpa using h) h2
    have hf := of_decide_eq_true h1
    have hk := hw k (.head _)
    have hs := sumW_bound hw2
    have hlt : v.toNat < 2 ^ k.toNat := by
      have h3 := hf.2
      rw [show (2 : Int) ^ k.toNat = ((2 ^ k.toNat : Nat) : Int) by push_cast; rfl] at h3
      omega
    show v.toNat + 2 ^ k.toNat * packV ws vs < 2 ^ (k + sumW ws).toNat
    rw [show (k + sumW ws).toNat = k.toNat + (sumW ws).toNat by omega, Nat.pow_add]
    have h5 : 2 ^ k.toNat * (packV ws vs + 1) ≤ 2 ^ k.toNat * 2 ^ (sumW ws).toNat := Nat.mul_le_mul_left _ ih
    rw [Nat.mul_add, Nat.mul_one] at h5
    omega
theorem pack_lt {ws vs : List Int} (hr : rightS ws = true) (h : vs.length = ws.length) (ho : okV ws vs) : packV ws vs < 18446744073709551616 := by
  obtain ⟨h1, h2⟩ := of_decide_eq_true hr
  have hs := sumW_bound h1
  exact Nat.lt_of_lt_of_le (pack_bound h1 h ho) (Nat.pow_le_pow_right (n := 2) (by decide) (show (sumW ws).toNat ≤ 64 by omega))
set_option maxHeartbeats 4000000 in
theorem lawWordBack {w : World} {a b : Option Addr} {n m c d : Nat} {ws vs : List Int} {p : Int} (hT : TabOk w) (hx : Ints w .i64 a n c ws) (hy : Ints w .i64 b m d vs) (h1 : (Lit.int .u64 p).wf = true) :
    Calls Tryd.prog 8 #[.slice a n c, .slice b m d, .int .u64 p] w fun e w' => e = .returned (.bool true) ∧ Below w.heap.size w w' := by
  have ha := alive_calls hT
  obtain ⟨u, rfl, hu⟩ := u64_nat5 h1
  clear h1 hT
  have hl := hx.len
  have hl2 := hy.len
  have hA := Lib.hid ha; clear ha
  have hu2 : ((u : Int) != (u : Int)) = false := by simp
  have hu3 : ((u : Int) == (u : Int)) = true := by simp
  have hF := (bytes_back (n := 8) (u := u) (Nat.div_eq_of_lt hu)).1
  have cB := fun w : World => Bytes_calls (w := w) (n := 8) hu (by decide) (Nat.div_eq_of_lt hu)
  have CB := Lib.hid cB; clear cB
  have HF := Lib.hid hF; clear hF
  have Hx := Lib.hid hx; clear hx
  have Hy := Lib.hid hy; clear hy
  have Hl := Lib.hid hl; clear hl
  have Hl2 := Lib.hid hl2; clear hl2
  have Hu := Lib.hid hu; clear hu
  by_cases hbig : 100 < n ∨ 100 < m
  · have hd : decide ((100 : Int) < (n : Int)) = true ∨ (decide ((100 : Int) < (n : Int)) = false ∧ decide ((100 : Int) < (m : Int)) = true) := by
      by_cases h : 100 < n
      · exact .inl (decide_eq_true (by omega))
      · exact .inr ⟨decide_eq_false (by omega), decide_eq_true (by omega)⟩
    clear hbig
    rcases hd with e1 | ⟨e1, e2⟩
    all_goals
      go_enter Tryd.func8, Tryd.ntmps8
      go_wp2_with fail
      refine hA.out.mono ?_
      rintro e w1 ⟨rfl, b1⟩
      have hB := Lib.hid b1; clear b1
      go_wp2
      go_ret
      exact ⟨rfl, hB.out⟩
  have hn : n ≤ 100 := by omega
  have hm : m ≤ 100 := by omega
  have e1 : decide ((100 : Int) < (n : Int)) = false := decide_eq_false (by omega)
  have e2 : decide ((100 : Int) < (m : Int)) = false := decide_eq_false (by omega)
  clear hbig
  have hpk := fun w' (hb : Below w.heap.size w w') => Pack_calls (Hx.out.keep hb) (Hy.out.keep hb) (by omega) (by omega)
  have hpd : packS ws vs = if rightS ws = true ∧ vs.length = ws.length ∧ okV ws vs then (packV ws vs, true) else (0, false) := rfl
  by_cases hg : rightS ws = true ∧ vs.length = ws.length ∧ okV ws vs
  · obtain ⟨hr, hlen, hok⟩ := hg
    rw [if_pos ⟨hr, hlen, hok⟩] at hpd
    rw [hpd] at hpk
    obtain ⟨q1, q2⟩ := unpack_pack hlen hok
    have hX : packV ws vs < 18446744073709551616 := pack_lt hr hlen hok
    have hup := fun w' (hb : Below w.heap.size w w') => Unpack_calls (Hx.out.keep hb) (by omega) hX hr
    rw [q1, q2, if_pos rfl, decide_eq_true rfl] at hup
    generalize packV ws vs = X at hpk hup
    clear hpd hlen hok q1 q2 hX hr
    have Hpk := Lib.hid hpk; clear hpk
    have Hup := Lib.hid hup; clear hup
    go_enter Tryd.func8, Tryd.ntmps8
    go_wp2_with fail
    refine hA.out.mono ?_
    rintro e w1 ⟨rfl, b1⟩
    have hB := Lib.hid b1; clear b1
    go_wp2_with fail
    refine (Hpk.out _ hB.out).mono ?_
    rintro e w2 ⟨rfl, b2⟩
    have hb := hB.out.trans (b2.mono hB.out.size)
    clear hB b2 Hpk
    have hB := Lib.hid hb; clear hb
    go_wp2_with fail
    refine (Hup.out _ hB.out).mono ?_
    rintro e w3 ⟨v, rfl, ov, b3⟩
    obtain ⟨va, vc, rfl, iv, -⟩ := ov.ints
    rw [Hl2.out] at iv ⊢
    have hb := hB.out.trans (b3.mono hB.out.size)
    have hsm := SameInts_calls iv (Hy.out.keep hb) rfl
    clear hB b3 ov iv Hup
    have hB := Lib.hid hb; clear hb
    have Hsm := Lib.hid hsm; clear hsm
    go_wp2_with fail
    refine Hsm.out.mono ?_
    rintro e w4 ⟨rfl, nd, hw4⟩
    have hb := hB.out.trans ((below_drawn w3 nd).mono hB.out.size)
    rw [← hw4] at hb
    clear hw4 hB Hsm
    have hB := Lib.hid hb; clear hb
    cases hr2 : rightS ws with
    | false =>
      have hc := fun w' (hb : Below w.heap.size w w') => Unpack_bad (Hx.out.keep hb) (by omega) (u := u) hr2
      have Hc := Lib.hid hc; clear hc
      go_wp2_with fail
      refine (Hc.out _ hB.out).mono ?_
      rintro e w7 ⟨rfl, hw7⟩
      obtain rfl := hw7.symm
      clear Hc
      go_wp2_with fail
      refine (CB.out _).mono ?_
      rintro e wY ⟨v, rfl, ov, bY⟩
      obtain ⟨ya, yc, rfl, iv, -⟩ := ov.ints
      rw [bytes_len] at iv ⊢
      have hb := hB.out.trans (bY.mono hB.out.size)
      have hfr := From_calls iv (by decide)
      rw [HF.out] at hfr
      clear hB bY ov iv
      have hB := Lib.hid hb; clear hb
      have Hfr := Lib.hid hfr; clear hfr
      go_wp2_with fail
      refine Hfr.out.mono ?_
      rintro e wZ ⟨rfl, bZ⟩
      have hb := hB.out.trans (bZ.mono hB.out.size)
      clear hB bZ Hfr
      have hB := Lib.hid hb; clear hb
      go_wp2
      go_ret
      exact ⟨rfl, hB.out⟩
    | true =>
      have hc := fun w' (hb : Below w.heap.size w w') => Unpack_calls (Hx.out.keep hb) (by omega) Hu.out hr2
      have Hc := Lib.hid hc; clear hc
      by_cases h0 : restU ws u = 0
      · obtain ⟨hpu, hku⟩ := pack_unpack (of_decide_eq_true hr2).1 h0
        have hps : packS ws (outZ ws u) = (u, true) := by
          unfold packS
          rw [if_pos ⟨hr2, out_len ws u, hku⟩, hpu]
        have h0d : decide (restU ws u = 0) = true := decide_eq_true h0
        have Hps := Lib.hid hps; clear hps hpu hku
        have Hh := Lib.hid (And.intro h0 h0d); clear h0 h0d
        go_wp2_with fail
        refine (Hc.out _ hB.out).mono ?_
        rintro e w7 ⟨v, rfl, ov, b7⟩
        rw [if_pos Hh.out.1] at ov
        rw [Hh.out.2]
        obtain ⟨va, vc, rfl, iv, -⟩ := ov.ints
        rw [out_len, Hl.out] at iv ⊢
        have hb := hB.out.trans (b7.mono hB.out.size)
        have hpk := Pack_calls (Hx.out.keep hb) iv (by omega) (by omega)
        rw [Hps.out] at hpk
        clear hB b7 ov iv Hc Hh
        have hB := Lib.hid hb; clear hb
        have Hpk := Lib.hid hpk; clear hpk
        go_wp2_with fail
        refine Hpk.out.mono ?_
        rintro e w8 ⟨rfl, b8⟩
        have hb := hB.out.trans (b8.mono hB.out.size)
        clear hB b8 Hpk
        have hB := Lib.hid hb; clear hb
        go_wp2_with fail
        refine (CB.out _).mono ?_
        rintro e wY ⟨v, rfl, ov, bY⟩
        obtain ⟨ya, yc, rfl, iv, -⟩ := ov.ints
        rw [bytes_len] at iv ⊢
        have hb := hB.out.trans (bY.mono hB.out.size)
        have hfr := From_calls iv (by decide)
        rw [HF.out] at hfr
        clear hB bY ov iv
        have hB := Lib.hid hb; clear hb
        have Hfr := Lib.hid hfr; clear hfr
        go_wp2_with fail
        refine Hfr.out.mono ?_
        rintro e wZ ⟨rfl, bZ⟩
        have hb := hB.out.trans (bZ.mono hB.out.size)
        clear hB bZ Hfr
        have hB := Lib.hid hb; clear hb
        go_wp2
        go_ret
        exact ⟨rfl, hB.out⟩
      · have h0d : decide (restU ws u = 0) = false := decide_eq_false h0
        have Hh := Lib.hid h0d; clear h0 h0d
        go_wp2_with fail
        refine (Hc.out _ hB.out).mono ?_
        rintro e w7 ⟨v, rfl, ov, b7⟩
        rw [Hh.out]
        obtain ⟨va, vc, rfl, -, -⟩ := ov.ints
        have hb := hB.out.trans (b7.mono hB.out.size)
        clear hB b7 ov Hc Hh
        have hB := Lib.hid hb; clear hb
        generalize List.length _ = n7
        go_wp2_with fail
        refine (CB.out _).mono ?_
        rintro e wY ⟨v, rfl, ov, bY⟩
        obtain ⟨ya, yc, rfl, iv, -⟩ := ov.ints
        rw [bytes_len] at iv ⊢
        have hb := hB.out.trans (bY.mono hB.out.size)
        have hfr := From_calls iv (by decide)
        rw [HF.out] at hfr
        clear hB bY ov iv
        have hB := Lib.hid hb; clear hb
        have Hfr := Lib.hid hfr; clear hfr
        go_wp2_with fail
        refine Hfr.out.mono ?_
        rintro e wZ ⟨rfl, bZ⟩
        have hb := hB.out.trans (bZ.mono hB.out.size)
        clear hB bZ Hfr
        have hB := Lib.hid hb; clear hb
        go_wp2
        go_ret
        exact ⟨rfl, hB.out⟩
  · rw [if_neg hg] at hpd
    rw [hpd] at hpk
    clear hpd hg
    have Hpk := Lib.hid hpk; clear hpk
    go_enter Tryd.func8, Tryd.ntmps8
    go_wp2_with fail
    refine hA.out.mono ?_
    rintro e w1 ⟨rfl, b1⟩
    have hB := Lib.hid b1; clear b1
    go_wp2_with fail
    refine (Hpk.out _ hB.out).mono ?_
    rintro e w2 ⟨rfl, b2⟩
    have hb := hB.out.trans (b2.mono hB.out.size)
    clear hB b2 Hpk
    have hB := Lib.hid hb; clear hb
    cases hr2 : rightS ws with
    | false =>
      have hc := fun w' (hb : Below w.heap.size w w') => Unpack_bad (Hx.out.keep hb) (by omega) (u := u) hr2
      have Hc := Lib.hid hc; clear hc
      go_wp2_with fail
      refine (Hc.out _ hB.out).mono ?_
      rintro e w7 ⟨rfl, hw7⟩
      obtain rfl := hw7.symm
      clear Hc
      go_wp2_with fail
      refine (CB.out _).mono ?_
      rintro e wY ⟨v, rfl, ov, bY⟩
      obtain ⟨ya, yc, rfl, iv, -⟩ := ov.ints
      rw [bytes_len] at iv ⊢
      have hb := hB.out.trans (bY.mono hB.out.size)
      have hfr := From_calls iv (by decide)
      rw [HF.out] at hfr
      clear hB bY ov iv
      have hB := Lib.hid hb; clear hb
      have Hfr := Lib.hid hfr; clear hfr
      go_wp2_with fail
      refine Hfr.out.mono ?_
      rintro e wZ ⟨rfl, bZ⟩
      have hb := hB.out.trans (bZ.mono hB.out.size)
      clear hB bZ Hfr
      have hB := Lib.hid hb; clear hb
      go_wp2
      go_ret
      exact ⟨rfl, hB.out⟩
    | true =>
      have hc := fun w' (hb : Below w.heap.size w w') => Unpack_calls (Hx.out.keep hb) (by omega) Hu.out hr2
      have Hc := Lib.hid hc; clear hc
      by_cases h0 : restU ws u = 0
      · obtain ⟨hpu, hku⟩ := pack_unpack (of_decide_eq_true hr2).1 h0
        have hps : packS ws (outZ ws u) = (u, true) := by
          unfold packS
          rw [if_pos ⟨hr2, out_len ws u, hku⟩, hpu]
        have h0d : decide (restU ws u = 0) = true := decide_eq_true h0
        have Hps := Lib.hid hps; clear hps hpu hku
        have Hh := Lib.hid (And.intro h0 h0d); clear h0 h0d
        go_wp2_with fail
        refine (Hc.out _ hB.out).mono ?_
        rintro e w7 ⟨v, rfl, ov, b7⟩
        rw [if_pos Hh.out.1] at ov
        rw [Hh.out.2]
        obtain ⟨va, vc, rfl, iv, -⟩ := ov.ints
        rw [out_len, Hl.out] at iv ⊢
        have hb := hB.out.trans (b7.mono hB.out.size)
        have hpk := Pack_calls (Hx.out.keep hb) iv (by omega) (by omega)
        rw [Hps.out] at hpk
        clear hB b7 ov iv Hc Hh
        have hB := Lib.hid hb; clear hb
        have Hpk := Lib.hid hpk; clear hpk
        go_wp2_with fail
        refine Hpk.out.mono ?_
        rintro e w8 ⟨rfl, b8⟩
        have hb := hB.out.trans (b8.mono hB.out.size)
        clear hB b8 Hpk
        have hB := Lib.hid hb; clear hb
        go_wp2_with fail
        refine (CB.out _).mono ?_
        rintro e wY ⟨v, rfl, ov, bY⟩
        obtain ⟨ya, yc, rfl, iv, -⟩ := ov.ints
        rw [bytes_len] at iv ⊢
        have hb := hB.out.trans (bY.mono hB.out.size)
        have hfr := From_calls iv (by decide)
        rw [HF.out] at hfr
        clear hB bY ov iv
        have hB := Lib.hid hb; clear hb
        have Hfr := Lib.hid hfr; clear hfr
        go_wp2_with fail
        refine Hfr.out.mono ?_
        rintro e wZ ⟨rfl, bZ⟩
        have hb := hB.out.trans (bZ.mono hB.out.size)
        clear hB bZ Hfr
        have hB := Lib.hid hb; clear hb
        go_wp2
        go_ret
        exact ⟨rfl, hB.out⟩
      · have h0d : decide (restU ws u = 0) = false := decide_eq_false h0
        have Hh := Lib.hid h0d; clear h0 h0d
        go_wp2_with fail
        refine (Hc.out _ hB.out).mono ?_
        rintro e w7 ⟨v, rfl, ov, b7⟩
        rw [Hh.out]
        obtain ⟨va, vc, rfl, -, -⟩ := ov.ints
        have hb := hB.out.trans (b7.mono hB.out.size)
        clear hB b7 ov Hc Hh
        have hB := Lib.hid hb; clear hb
        generalize List.length _ = n7
        go_wp2_with fail
        refine (CB.out _).mono ?_
        rintro e wY ⟨v, rfl, ov, bY⟩
        obtain ⟨ya, yc, rfl, iv, -⟩ := ov.ints
        rw [bytes_len] at iv ⊢
        have hb := hB.out.trans (bY.mono hB.out.size)
        have hfr := From_calls iv (by decide)
        rw [HF.out] at hfr
        clear hB bY ov iv
        have hB := Lib.hid hb; clear hb
        have Hfr := Lib.hid hfr; clear hfr
        go_wp2_with fail
        refine Hfr.out.mono ?_
        rintro e wZ ⟨rfl, bZ⟩
        have hb := hB.out.trans (bZ.mono hB.out.size)
        clear hB bZ Hfr
        have hB := Lib.hid hb; clear hb
        go_wp2
        go_ret
        exact ⟨rfl, hB.out⟩
end Go.Proofs.YtjbpoegpmbnglaaDoor
